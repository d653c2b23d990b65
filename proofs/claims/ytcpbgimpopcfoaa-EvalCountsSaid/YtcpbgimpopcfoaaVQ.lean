/- THE SHADOW MACHINE, 15: append, joined. -/
import Derived.Test.YtcpbgimpopcfoaaVO
set_option linter.unusedSimpArgs false
set_option linter.unusedVariables false
namespace Go.Vam
section
variable {C : Ctx} {Γ : List Ty} {g0 g : G} {w0 w : World} {st : St} {a : Act}
theorem RV.left {H : List V} {X : Own} {τ : Ty} {v : Value} : ∀ {x : V}, RV C g H w X τ x v → RV C g H w X τ x.left v
  | .o nn xs, h => by have := RV.rd (Y := X) _ h; simpa only [V.left, V.rd] using this
  | .w nn xs, h => by simp only [V.left, RV]
  | .a, h => by simp only [V.left, RV]
  | .t _, h => by simp only [V.left, RV]
  | .f _, h => h
  | .c _, h => h
  | .m _ _, h => h
  | .ms _ _, h => h
  | .fn _ _ _, h => h
  | .n, h => h
  | .u, h => h
theorem src_of (hI : Inv C Γ g0 w0 g st a w) {t2 e : Nat} {i : TypeInfo} (hi : C.P.info? e = some i) (hu : C.P.underlying t2 = some (.slice e)) {d : D} {v : Value} (h : RT C.P g.S (.v t2) d v) :
    ∃ news, Src C.P i.size t2 v d.toL.length news w ∧ Els C.P g.S e d.toL news := by
  have hce : C.P.cellsOf e = i.size := by simp [Program.cellsOf, hi]
  obtain ⟨xs, hsl, hh⟩ := RT.slice hu h
  rw [hsl.toL]
  rcases hh with ⟨rfl, _, rfl⟩ | ⟨ad, cap, _, rfl, hcap, hs⟩
  · exact ⟨[], Src.ofNil w hu 0, Els.nil⟩
  · rcases Nat.eq_zero_or_pos xs.length with h0 | h0
    · have : xs = [] := List.length_eq_zero_iff.1 h0
      subst this
      exact ⟨[], Src.ofSlice w hu ad 0 cap [] (by simp) (fun j u hj => by simp at hj) (fun u hu => by cases hu), Els.nil⟩
    · obtain ⟨news, n1, n2, n3⟩ := hs.news (fun b o v hv => hI.cells b o v hv) h0
      exact ⟨news, Src.ofSlice w hu ad _ cap news (by rw [n1, hce]) n2 (n3.one n1), n3⟩
theorem els_of_own {X : Own} {e : Nat} {xs : List D} {c : Array Value} {cap : Nat} (hcs : c.size = cap * C.P.cellsOf e) (hl : xs.length ≤ cap) (h : ∀ i (h : i < xs.length), RF C.P g.S e xs[i] ((c.toList.drop (i * C.P.cellsOf e)).take (C.P.cellsOf e))) : Els C.P g.S e xs c.toList :=
  ⟨by simp [hcs]; exact Nat.mul_le_mul_right _ hl, h⟩
def appSd (ρ : Nat → V) (vx : Opd) (tk : Bool) : Option (Nat × V) := match vx with | .t n => (bif tk then some (n, (ρ n).left) else none) | _ => none
def dstOk (C : Ctx) (Γ : List Ty) (dst : Option Nat) (t : Nat) : Bool := match dst with | some d => (match Γ[d]? with | some (.v t') => uEq C.P t t' | _ => false) | none => false
theorem dstOk_spec {dst : Option Nat} {t : Nat} (h : dstOk C Γ dst t = true) : ∃ d t', dst = some d ∧ Γ[d]? = some (.v t') ∧ uEq C.P t t' = true := by
  unfold dstOk at h
  split at h
  · rename_i d
    split at h
    · rename_i t' ht; exact ⟨d, t', rfl, ht, h⟩
    · cases h
  · cases h
def notC : V → List D → Bool
  | .c _, ys => !ys.isEmpty
  | _, _ => true
theorem appV_n {md : Md} {nn : Bool} {xs ys : List D} {b : V} (h : notC b ys = true) : appV md nn xs ys b = mkV md nn (xs ++ ys) := by
  cases b with
  | c l => simp only [notC, Bool.not_eq_true'] at h; simp only [appV, h, cond_false]
  | _ => rfl
theorem notC_f {b : V} {ys : List D} (h : notC b ys = false) : (∃ xs, b = .c xs) ∧ ys = [] := by
  unfold notC at h
  split at h
  · exact ⟨⟨_, rfl⟩, by simpa using h⟩
  · cases h
theorem app_none (hI : Inv C Γ g0 w0 g st a w) {o : Oper} {vo : VOper} {x y : Operand} {t t2 e : Nat} {tk : Bool} {xs : List D} {ok : Bool} {vx : Opd} {i : TypeInfo} {news : List Value}
    (hd : o.dst = vo.dst) (ho : o.op = .call { callee := .builtin .append, args := #[x, y], argTypes := #[t, t2] }) (hdst : dstOk C Γ vo.dst t = true) (hu : C.P.underlying t = some (.slice e)) (hi : C.P.info? e = some i)
    (hop : opd C Γ x vx (.v t) = true) (hev : vx.ev st.get = .c xs) (hs : Src C.P i.size t2 (a.eval y) 0 news w) :
    ∃ v w' g', (execOp a.eval o).run C.P w = .ok (.value v) w' ∧ Inv C Γ g0 w0 g' (applyE vo { ok, v := .c xs, sd := appSd st.get vx tk, H := st.H } st) (a.put o.dst v) w' := by
  obtain ⟨d, t', hdd, hΓ, hq⟩ := dstOk_spec hdst
  have hx := hI.ev hop
  rw [hev] at hx
  have hx' := hx
  simp only [RV] at hx
  obtain ⟨t3, ad, ht3, hv3, hr⟩ := hx
  have hn0 : news = [] := List.length_eq_zero_iff.1 (by rw [hs.newsLen, Nat.zero_mul])
  subst hn0
  have hrun := run_append_nothing (P := C.P) w t t2 o.type e i hu hi ad xs.length xs.length (Nat.le_refl _) (a.eval y) hs
  rw [← hv3] at hrun
  refine ⟨_, w, g, run_app ho hrun, ?_⟩
  rw [hd]
  refine hI.step (o := vo) (Z := fun _ => False) (Keeps.refl _ _ _ _ _) (fun _ h => h.elim) (fun k v h1 h2 τ h3 => ?_) (fun d' hd' => ⟨.v t', ?_, ?_⟩) hI.blocks hI.cells hI.frm hI.kap hI.sold hI.ext hI.base hI.rho
  · unfold appSd at h1
    split at h1
    · cases tk
      · cases h1
      · simp only [cond_true, Option.some.injEq, Prod.mk.injEq] at h1
        obtain ⟨rfl, rfl⟩ := h1
        exact RV.left (hI.slot h3)
    · cases h1
  · rw [hdd] at hd'; injection hd' with hd'; subst hd'; exact hΓ
  · exact RV.conv _ (show fits C.P (.v t) (.v t') = true from hq) hx'
theorem app_core (hI : Inv C Γ g0 w0 g st a w) {o : Oper} {vo : VOper} {x y : Operand} {t t2 e m lim : Nat} {md : Md} {nn tk : Bool} {xs ys : List D} {ok : Bool} {vx : Opd} {news : List Value} {i : TypeInfo} {z : Value}
    (hd : o.dst = vo.dst) (ho : o.op = .call { callee := .builtin .append, args := #[x, y], argTypes := #[t, t2] }) (hdst : dstOk C Γ vo.dst t = true) (hu : C.P.underlying t = some (.slice e)) (hi : C.P.info? e = some i) (hz : i.zero = some z) (hzs : z.cells.size = C.P.cellsOf e)
    (hop : opd C Γ x vx (.v t) = true) (hbase : (vx.ev st.get).base = some (nn, xs)) (hm : m = ys.length) (hs : Src C.P i.size t2 (a.eval y) m news w) (hnE : Els C.P g.S e ys news) (hlim : xs.length + m ≤ lim) (hl1 : lim * i.bytes ≤ 140737488355328) (hl2 : lim ≤ maxLen)
    (htk : (tk || !(vx.ev st.get).isOwn) = true) (hcn : notC (vx.ev st.get) ys = true) (hmd : mdOk md (vx.ev st.get) = true) :
    ∃ v w' g', (execOp a.eval o).run C.P w = .ok (.value v) w' ∧ Inv C Γ g0 w0 g' (applyE vo { ok, v := mkV md nn (xs ++ ys), sd := appSd st.get vx tk, H := st.H } st) (a.put o.dst v) w' := by
  obtain ⟨d, t', hdd, hΓ, hq⟩ := dstOk_spec hdst
  have hce : C.P.cellsOf e = i.size := by simp [Program.cellsOf, hi]
  have hx := hI.ev hop
  have hsd : ∀ k v, appSd st.get vx tk = some (k, v) → vo.dst ≠ some k → ∀ τ, Γ[k]? = some τ → RV C g st.H w (.slot k) τ v (a.tmps.getD k undef) := by
    intro k v hk _ τ hτ
    unfold appSd at hk
    split at hk
    · rename_i n
      cases tk
      · cases hk
      · simp only [cond_true, Option.some.injEq, Prod.mk.injEq] at hk
        obtain ⟨rfl, rfl⟩ := hk
        exact RV.left (hI.slot hτ)
    · cases hk
  have hfst0 : ∀ (ao : Option Addr) (cap : Nat) (w' : World), (Builtin.firstCells i.size 0 (.slice ao 0 cap)).run C.P w' = .ok ([] : List Value).toArray w' := by
    intro ao cap w'
    cases ao with
    | none => exact run_firstCells_none w' _ _ _ _
    | some b => exact run_firstCells_some w' i.size 0 b 0 cap [] (by simp) (fun j v hj => by simp at hj)
  -- nothing there yet
  have hnil : ∀ {ok : Bool}, a.eval x = .slice none 0 0 → xs = [] → nn = false → ∃ v w' g', (execOp a.eval o).run C.P w = .ok (.value v) w' ∧ Inv C Γ g0 w0 g' (applyE vo { ok, v := mkV md nn (xs ++ ys), sd := appSd st.get vx tk, H := st.H } st) (a.put o.dst v) w' := by
    intro ok hxe hxs hnn
    subst hxs; subst hnn
    rcases Nat.eq_zero_or_pos m with h0 | h0
    · have hys : ys = [] := List.length_eq_zero_iff.1 (by omega)
      subst hys
      subst h0
      have hn0 : news = [] := List.length_eq_zero_iff.1 (by rw [hs.newsLen, Nat.zero_mul])
      subst hn0
      have hrun := run_append_nothing (P := C.P) w t t2 o.type e i hu hi none 0 0 (Nat.le_refl _) (a.eval y) hs
      rw [← hxe] at hrun
      refine ⟨_, w, g, run_app ho hrun, ?_⟩
      rw [hd]
      refine hI.step (o := vo) (Z := fun _ => False) (Keeps.refl _ _ _ _ _) (fun _ h => h.elim) (fun k v h1 h2 τ h3 => hsd k v h1 h2 τ h3) (fun d' hd' => ⟨.v t', ?_, ?_⟩) hI.blocks hI.cells hI.frm hI.kap hI.sold hI.ext hI.base hI.rho
      · rw [hdd] at hd'; injection hd' with hd'; subst hd'; exact hΓ
      · refine RV.conv _ (show fits C.P (.v t) (.v t') = true from hq) ?_
        rw [hxe]
        exact mkV_nil hu md
    · exact app_grow hI (n := 0) (cap := 0) (base := none) (olds := []) hd ho hdd hΓ hq hu hi hz hzs hxe rfl hm (fun w' _ => hfst0 none 0 w') (by simp) Els.nil hs hnE (by omega) (by simpa using hlim) hl1 hl2 hsd (.inr (fun e => by
        have : ys = [] := by simpa using e
        rw [this] at hm; simp at hm; omega))
  -- the call's own
  have hown : ∀ {n : Nat} {fz ok : Bool}, vx = .t n → tk = true → (st.get n).isOwn = true → OwnS C g w (.slot n) e nn xs (a.eval x) fz → (fz = true → md ≠ .w) → ∃ v w' g', (execOp a.eval o).run C.P w = .ok (.value v) w' ∧ Inv C Γ g0 w0 g' (applyE vo { ok, v := mkV md nn (xs ++ ys), sd := appSd st.get vx tk, H := st.H } st) (a.put o.dst v) w' := by
    intro n fz ok hvx htk2 hio hO hf
    rcases hO with ⟨h1, h2, h3⟩ | ⟨r, cap, c, e', h1, h2, h3, h4, h5, h6, h7, h8, h9, h10⟩
    · exact hnil h3 h2 h1
    · have hE := els_of_own (X := .slot n) h6 h7 h9
      have hnn : nn = true ∨ xs ++ ys ≠ [] := by
        rcases h2 with h2 | h2
        · exact .inl h2
        · exact .inr (by simp [h2])
      rcases Nat.lt_or_ge cap (xs.length + m) with hg | hg
      · have hfst := hE.first
        refine app_grow hI (n := xs.length) (cap := cap) (base := some ⟨r, 0, none⟩) (olds := c.toList.take (xs.length * C.P.cellsOf e)) hd ho hdd hΓ hq hu hi hz hzs h1 rfl hm (fun w' hw' => ?_) hfst.2 hfst.1 hs hnE hg hlim hl1 hl2 hsd hnn
        refine run_firstCells_some w' i.size xs.length ⟨r, 0, none⟩ _ cap _ (by rw [hfst.2, hce]) fun j u hj => ?_
        rw [add_none, Nat.zero_add, cell_of (w := w') (c := c) (t := e') (fz := (0, 0)) (by rw [hw']; exact h5)]
        rw [List.getElem?_take] at hj
        split at hj
        · simpa using hj
        · cases hj
      · have := app_in hI (fz := fz) (lv := (st.get n).left) (ok := ok) (nn := nn) (md := md) hd ho hdd hΓ hq hu hi h1 rfl hm h3 h4 h5 h6 h8 hE h10 hf hs hnE hg (fun hne τ hτ g' w' hsub => ?_) hnn
        · have e1 : appSd st.get vx tk = some (n, (st.get n).left) := by rw [hvx, htk2]; rfl
          rw [e1]
          exact this
        · have hσ := hI.slot hτ
          cases hev : st.get n with
          | o nn' xs' =>
            rw [hev] at hσ
            simp only [RV] at hσ
            obtain ⟨t3, e3, rfl, hu3, h⟩ := hσ
            have := (h.rt hu3).mono hsub
            simp only [V.left, RV]
            exact this
          | w nn' xs' => simp only [V.left, RV]
          | _ => rw [hev] at hio; simp [V.isOwn] at hio
  cases hev : vx.ev st.get with
  | o nn' xs' =>
    rw [hev] at hx hbase hmd htk
    simp only [V.base, Option.some.injEq, Prod.mk.injEq] at hbase
    obtain ⟨rfl, rfl⟩ := hbase
    simp only [RV] at hx
    obtain ⟨t3, e3, ht3, hu3, hO⟩ := hx
    cases ht3
    rw [hu] at hu3; injection hu3 with hu3; injection hu3 with hu3; subst hu3
    have : ∃ n, vx = .t n := by cases vx <;> first | exact ⟨_, rfl⟩ | simp [Opd.ev] at hev
    obtain ⟨n, rfl⟩ := this
    exact hown rfl (by simpa [V.isOwn] using htk) (by have e : st.get n = _ := hev; rw [e]; rfl) hO (fun _ h => by subst h; simp [mdOk] at hmd)
  | w nn' xs' =>
    rw [hev] at hx hbase hmd htk
    simp only [V.base, Option.some.injEq, Prod.mk.injEq] at hbase
    obtain ⟨rfl, rfl⟩ := hbase
    simp only [RV] at hx
    obtain ⟨t3, e3, ht3, hu3, hO⟩ := hx
    cases ht3
    rw [hu] at hu3; injection hu3 with hu3; injection hu3 with hu3; subst hu3
    have : ∃ n, vx = .t n := by cases vx <;> first | exact ⟨_, rfl⟩ | simp [Opd.ev] at hev
    obtain ⟨n, rfl⟩ := this
    exact hown rfl (by simpa [V.isOwn] using htk) (by have e : st.get n = _ := hev; rw [e]; rfl) hO (fun h => by cases h)
  | c xs' =>
    rw [hev] at hx hbase hcn
    simp only [V.base, Option.some.injEq, Prod.mk.injEq] at hbase
    obtain ⟨rfl, rfl⟩ := hbase
    simp only [RV] at hx
    obtain ⟨t3, ad, ht3, hv3, hr⟩ := hx
    cases ht3
    have hys : ys ≠ [] := by intro h; subst h; simp [notC] at hcn
    have hm0 : 0 < m := by rw [hm]; exact List.length_pos_iff.2 hys
    obtain ⟨xs2, hsl, hh⟩ := hr.slice hu
    have : xs2 = xs' := by rcases hsl with h | h | h <;> simp at h; exact h.symm
    subst this
    rcases Nat.eq_zero_or_pos xs2.length with h0 | h0
    · have : xs2 = [] := List.length_eq_zero_iff.1 h0
      subst this
      exact app_grow hI (n := 0) (cap := 0) (base := ad) (olds := []) hd ho hdd hΓ hq hu hi hz hzs hv3 rfl hm (fun w' _ => hfst0 ad 0 w') (by simp) Els.nil hs hnE (by omega) (by simpa using hlim) hl1 hl2 hsd (.inl rfl)
    · rcases hh with ⟨rfl, _⟩ | ⟨ad', cap, _, hv', hcap, hsl'⟩
      · simp at h0
      · simp only [List.cons.injEq, and_true] at hv'
        rw [hv3] at hv'
        injection hv' with q1 q2 q3
        subst q1
        obtain ⟨olds, n1, n2, n3⟩ := hsl'.news (fun b o v hv => hI.cells b o v hv) h0
        refine app_grow hI (n := xs2.length) (cap := xs2.length) (base := some ad') (olds := olds) hd ho hdd hΓ hq hu hi hz hzs hv3 rfl hm (fun w' hw' => ?_) n1 n3 hs hnE (by omega) hlim hl1 hl2 hsd (.inl rfl)
        refine run_firstCells_some w' i.size xs2.length ad' _ _ olds (by rw [n1, hce]) fun j u hj => ?_
        have := n2 j u hj
        unfold World.cell? at this ⊢
        rw [hw']; exact this
  | f dd =>
    rw [hev] at hx hbase
    cases dd with
    | sz l =>
      cases l with
      | nil =>
        simp only [V.base, Option.some.injEq, Prod.mk.injEq] at hbase
        obtain ⟨rfl, rfl⟩ := hbase
        simp only [RV] at hx
        obtain ⟨l2, hsl, hh⟩ := RT.slice hu hx
        rcases hh with ⟨_, _, hv'⟩ | ⟨ad, cap, hd', hv', _⟩
        · exact hnil hv' rfl rfl
        · rcases hsl with h | h | h <;> simp at h
          subst h
          simp at hd'
      | cons => simp [V.base] at hbase
    | _ => simp [V.base] at hbase
  | _ => rw [hev] at hbase; simp [V.base] at hbase
end
end Go.Vam
