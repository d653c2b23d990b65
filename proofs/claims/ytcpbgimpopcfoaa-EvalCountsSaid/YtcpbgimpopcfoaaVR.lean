/- THE SHADOW MACHINE, 16: append as an operation; all operations but calls. -/
import Derived.Test.YtcpbgimpopcfoaaVAE
set_option linter.unusedSimpArgs false
set_option linter.unusedVariables false
namespace Go.Vam
section
variable {C : Ctx} {Γ : List Ty} {g0 g : G} {w0 w : World} {st : St} {a : Act}
def bytesOf (P : Program) (e : Nat) : Nat := match P.info? e with | some i => i.bytes | none => 0
def chkApp (C : Ctx) (Γ : List Ty) (dst : Option Nat) (op : Op) (lim : Nat) (vx vy : Opd) : Bool :=
  match bcall op with
  | some (.append, [x, y], [t, t2]) => (match C.P.underlying t, C.P.underlying t2 with
    | some (.slice e), some (.slice e2) => e2 == e && zeroHas C.P e && decide (lim * bytesOf C.P e ≤ 140737488355328) && decide (lim ≤ 9223372036854775807) && opd C Γ x vx (.v t) && opd C Γ y vy (.v t2) && dstOk C Γ dst t
    | _, _ => false)
  | _ => false
theorem snd_app (hI : Inv C Γ g0 w0 g st a w) {o : Oper} {vo : VOper} {md : Md} {lim : Nat} {vx vy : Opd} {tk : Bool} (hd : o.dst = vo.dst) (hv : vo.op = .app md lim vx tk vy) (hc : chkApp C Γ vo.dst o.op lim vx vy = true)
    (hok : (sem vo.op st.get st.H).ok = true) : Step C Γ g0 w0 o vo st a w := by
  unfold chkApp at hc
  split at hc
  · rename_i x y t t2 ho
    replace ho := bcall_eq ho
    split at hc
    · rename_i e e2 hu hu2
      simp only [Bool.and_eq_true, decide_eq_true_eq] at hc
      obtain ⟨⟨⟨⟨⟨⟨h1, h2⟩, h3⟩, h4⟩, h5⟩, h6⟩, h7⟩ := hc
      have : e2 = e := by simpa using h1
      subst this
      obtain ⟨i, z, hi, hz, hzs, _⟩ := zeroHas_spec h2
      rw [show bytesOf C.P e2 = i.bytes by simp [bytesOf, hi]] at h3
      cases hb : (vx.ev st.get).base with
      | none => rw [hv] at hok; simp [sem, hb] at hok
      | some q =>
        obtain ⟨nn, xs⟩ := q
        have hs : sem vo.op st.get st.H = { ok := mdOk md (vx.ev st.get) && (tk || !(vx.ev st.get).isOwn) && vy.isD st.get && decide (xs.length + (vy.d st.get).toL.length ≤ lim), v := appV md nn xs (vy.d st.get).toL (vx.ev st.get), sd := appSd st.get vx tk, H := st.H } := by
          rw [hv]; simp only [sem, hb]; rfl
        rw [hs] at hok
        simp only [Bool.and_eq_true, decide_eq_true_eq] at hok
        obtain ⟨⟨⟨o1, o2⟩, o3⟩, o4⟩ := hok
        obtain ⟨news, s1, s2⟩ := src_of hI hi hu2 (hI.d h6 o3)
        cases hcn : notC (vx.ev st.get) (vy.d st.get).toL with
        | true =>
          obtain ⟨v, w', g', r1, r2⟩ := app_core hI (ok := mdOk md (vx.ev st.get) && (tk || !(vx.ev st.get).isOwn) && vy.isD st.get && decide (xs.length + (vy.d st.get).toL.length ≤ lim)) hd ho h7 hu hi hz hzs h5 hb rfl s1 s2 o4 h3 (by simp only [maxLen]; omega) o2 hcn o1
          refine ⟨v, w', g', .inl r1, ?_⟩
          rw [hs, appV_n hcn]
          exact r2
        | false =>
          obtain ⟨⟨xs', hev⟩, hys⟩ := notC_f hcn
          rw [hys] at s1
          have hxs : xs' = xs := by rw [hev] at hb; simp [V.base] at hb; exact hb.2
          subst hxs
          obtain ⟨v, w', g', r1, r2⟩ := app_none hI (ok := mdOk md (vx.ev st.get) && (tk || !(vx.ev st.get).isOwn) && vy.isD st.get && decide (xs'.length + (vy.d st.get).toL.length ≤ lim)) (tk := tk) hd ho h7 hu hi h5 hev s1
          refine ⟨v, w', g', .inl r1, ?_⟩
          rw [hs, hev, hys]
          exact r2
    · cases hc
  · cases hc
def chkOp (C : Ctx) (Γ : List Ty) (dst : Option Nat) (op : Op) (vop : VOp) : Bool :=
  match vop with
  | .mov vx => (match op with | .move x => chkMov C Γ dst x vx | .assign x => chkMov C Γ dst x vx | _ => false)
  | .tak y => (match op with | .move (.tmp n) => chkMov C Γ dst (.tmp n) (.t y) | .assign (.tmp n) => chkMov C Γ dst (.tmp n) (.t y) | _ => false)
  | .nilw _ => chkNilw C Γ dst op
  | .pick vc vx vy => (match op with | .pick c x y => chkPick C Γ dst c x y vc vx vy | _ => false)
  | .un f vx => chkUn C Γ dst op f vx || chkNil C Γ dst op f vx
  | .bin f vx vy => chkBin C Γ dst op f vx vy
  | .mm mx vx l => chkMm C Γ dst op mx vx l
  | .len vx => chkLen C Γ dst op vx
  | .lenS vx => chkLenS C Γ dst op vx
  | .lenM vx => chkLenM C Γ dst op vx
  | .lenC n => chkLenC C Γ dst op n
  | .fld vx k => chkFld C Γ dst op vx k
  | .ixa vx vi => chkIxa C Γ dst op vx vi
  | .ixaM vx vi => chkIxa C Γ dst op vx vi
  | .ixA n vx vi => chkIxA C Γ dst op n vx vi
  | .ixS vx vi => chkIxS C Γ dst op vx vi
  | .ixV n vx vi => chkIxV C Γ dst op n vx vi
  | .getf vx k => chkGetf C Γ dst op vx k
  | .ldF vx => chkLdF C Γ dst op vx
  | .box vx => chkBox C Γ dst op vx
  | .alA => chkAlA C Γ dst op
  | .ini n vy => chkIni C Γ dst op n vy
  | .build z parts => chkBuild C Γ dst op z parts
  | .bsl _ z parts => chkBsl C Γ dst op z parts || chkBsl0 C Γ dst op z parts
  | .ld vx => chkLdF C Γ dst op vx
  | .st vx vy => chkSt C Γ dst op vx vy
  | .ldT vx => chkLdT C Γ dst op vx
  | .stT vx n => chkStT C Γ dst op vx n
  | .boxM s vx => chkBoxM C Γ dst op s vx
  | .alM s z => chkAlM C Γ dst op s z
  | .slF vx vlo vhi => chkSlF C Γ dst op vx vlo vhi
  | .slS vx vlo vhi => chkSlS C Γ dst op vx vlo vhi
  | .slC vx vh vm => chkSlC C Γ dst op vx vh vm
  | .app _ lim vx _ vy => chkApp C Γ dst op lim vx vy
  | .ext vx k => chkExt C Γ dst op vx k
  | .clo h caps tys => chkClo C Γ dst op h caps tys
  | .bad => true
  | _ => false
theorem snd_op (hI : Inv C Γ g0 w0 g st a w) {o : Oper} {vo : VOper} (hd : o.dst = vo.dst) (hc : chkOp C Γ vo.dst o.op vo.op = true) (hok : (sem vo.op st.get st.H).ok = true) : Step C Γ g0 w0 o vo st a w := by
  cases hv : vo.op <;> rw [hv] at hc <;> simp only [chkOp] at hc
  case mov vx =>
    split at hc
    · rename_i x ho; exact snd_mov hI hd (.inl ho) hv hc
    · rename_i x ho; exact snd_mov hI hd (.inr ho) hv hc
    · cases hc
  case tak y =>
    split at hc
    · rename_i x ho; exact snd_tak' hI hd (.inl ho) hv hc
    · rename_i x ho; exact snd_tak' hI hd (.inr ho) hv hc
    · cases hc
  case nilw => exact snd_nilw hI hd hv hc
  case pick vc vx vy =>
    split at hc
    · rename_i c x y ho; exact snd_pick hI hd ho hv hc hok
    · cases hc
  case un f vx =>
    rw [Bool.or_eq_true] at hc
    rcases hc with hc | hc
    · exact snd_un hI hd hv hc hok
    · exact snd_nil hI hd hv hc hok
  case bin => exact snd_bin hI hd hv hc hok
  case mm => exact snd_mm hI hd hv hc hok
  case len => exact snd_len hI hd hv hc hok
  case lenS => exact snd_lenS hI hd hv hc hok
  case lenM => exact snd_lenM hI hd hv hc hok
  case lenC => exact snd_lenC hI hd hv hc
  case fld => exact snd_fld hI hd hv hc hok
  case ixa => exact snd_ixa hI hd hv hc hok
  case ixaM => exact snd_ixaM hI hd hv hc hok
  case ixA => exact snd_ixA hI hd hv hc hok
  case ixS => exact snd_ixS hI hd hv hc hok
  case ixV => exact snd_ixV hI hd hv hc hok
  case getf => exact snd_getf hI hd hv hc hok
  case ldF => exact snd_ldF hI hd hv hc hok
  case box => exact snd_box hI hd hv hc hok
  case alA => exact snd_alA hI hd hv hc
  case ini => exact snd_ini hI hd hv hc hok
  case build => exact snd_build hI hd hv hc hok
  case bsl =>
    rw [Bool.or_eq_true] at hc
    rcases hc with hc | hc
    · exact snd_bsl hI hd hv hc hok
    · exact snd_bsl0 hI hd hv hc
  case ld => exact snd_ld hI hd hv hc hok
  case st => exact snd_st hI hd hv hc hok
  case ldT => exact snd_ldT hI hd hv hc hok
  case stT => exact snd_stT hI hd hv hc hok
  case boxM => exact snd_boxM hI hd hv hc hok
  case alM => exact snd_alM hI hd hv hc hok
  case slF => exact snd_slF hI hd hv hc hok
  case slS => exact snd_slS hI hd hv hc hok
  case slC => exact snd_slC hI hd hv hc hok
  case app => exact snd_app hI hd hv hc hok
  case ext => exact snd_ext hI hd hv hc hok
  case clo => exact snd_clo hI hd hv hc
  case bad => rw [hv] at hok; cases hok
  all_goals cases hc
end
end Go.Vam
