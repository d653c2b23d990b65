/- THE SHADOW MACHINE, 8: addresses of fields and elements; elements and fields of values. -/
import Derived.Test.YtcpbgimpopcfoaaVG
set_option linter.unusedSimpArgs false
set_option linter.unusedVariables false
namespace Go.Vam
section
variable {C : Ctx} {Γ : List Ty} {g0 g : G} {w0 w : World} {st : St} {a : Act}
theorem RP.at_ {P : Program} {S : Cells} {e : Nat} {d : D} {v : Value} (h : RP P S e d v) (hp : isPtrD d = true) : ∃ cs b o, v = .pointer (some ⟨b, o, none⟩) ∧ RF P S e d.deref cs ∧ cs.length = P.cellsOf e ∧ ∀ j u, cs[j]? = some u → S b (o + j) = some u := by
  rcases h with ⟨rfl, _⟩ | ⟨d', cs, b, o, rfl, h2, h3, h4, h5⟩
  · simp [isPtrD] at hp
  · exact ⟨cs, b, o, h2, h3, h4, h5⟩
theorem getElem?_part {cs : List Value} {off n j : Nat} {u : Value} (h : ((cs.drop off).take n)[j]? = some u) : cs[off + j]? = some u ∧ j < n := by
  rw [List.getElem?_take] at h
  split at h
  · rename_i hj; rw [List.getElem?_drop] at h; exact ⟨h, hj⟩
  · cases h
def fldOk (P : Program) (s k : Nat) : Option (Nat × Nat) :=
  match P.underlying s with
  | some (.struct fs) => (match fs[k]? with | some f => (if 0 < P.cellsOf f.type ∧ fldGood P s fs k f = true then some (f.type, f.offset) else none) | none => none)
  | _ => none
theorem fldOk_spec {P : Program} {s k ft off : Nat} (h : fldOk P s k = some (ft, off)) : ∃ fs f, P.underlying s = some (.struct fs) ∧ fs[k]? = some f ∧ f.type = ft ∧ f.offset = off ∧ 0 < P.cellsOf ft ∧ off + P.cellsOf ft ≤ P.cellsOf s ∧ fldGood P s fs k f = true := by
  unfold fldOk at h
  split at h
  · rename_i fs hu
    split at h
    · rename_i f hf
      split at h
      · rename_i hh
        simp only [Option.some.injEq, Prod.mk.injEq] at h
        obtain ⟨rfl, rfl⟩ := h
        have hg := hh.2
        unfold fldGood at hg
        simp only [Bool.and_eq_true, decide_eq_true_eq] at hg
        exact ⟨fs, f, hu, hf, rfl, rfl, hh.1, hg.1, hh.2⟩
      · cases h
    · cases h
  · cases h
theorem RF.field {P : Program} {S : Cells} {s k ft off : Nat} {d : D} {cs : List Value} (hf : fldOk P s k = some (ft, off)) (h : RF P S s d cs) : RF P S ft (d.at k) ((cs.drop off).take (P.cellsOf ft)) ∧ ((cs.drop off).take (P.cellsOf ft)).length = P.cellsOf ft := by
  obtain ⟨fs, f, hu, hk, rfl, rfl, h0, h1, hg⟩ := fldOk_spec hf
  obtain ⟨ds, rfl, h2, h3, h4⟩ := h.strct hu
  obtain ⟨hk', he⟩ := Array.getElem?_eq_some_iff.1 hk
  have := h4 k (by omega) hk'
  rw [he] at this
  refine ⟨?_, ?_⟩
  · have e : (D.ag ds).at k = ds[k] := by simp [D.at, D.toL, show k < ds.length by omega]
    rw [e]; exact this
  · simp only [List.length_take, List.length_drop]; omega
theorem RP.field {P : Program} {S : Cells} {s k ft off : Nat} {d : D} {v : Value} (hf : fldOk P s k = some (ft, off)) (h : RP P S s d v) (hp : isPtrD d = true) :
    ∃ b o, v = .pointer (some ⟨b, o, none⟩) ∧ RP P S ft (.p (d.deref.at k)) (.pointer (some ⟨b, o + off, none⟩)) := by
  obtain ⟨cs, b, o, h1, h2, h3, h4⟩ := h.at_ hp
  obtain ⟨h5, h6⟩ := h2.field hf
  refine ⟨b, o, h1, .inr ⟨_, _, _, _, rfl, rfl, h5, h6, fun j u hj => ?_⟩⟩
  rw [Nat.add_assoc]
  exact h4 _ _ (getElem?_part hj).1
theorem RF.elem {P : Program} {S : Cells} {t n e k : Nat} {d : D} {cs : List Value} (hu : P.underlying t = some (.array n e)) (hk : k < n) (hl : n * P.cellsOf e ≤ P.cellsOf t) (h : RF P S t d cs) : RF P S e (d.at k) ((cs.drop (k * P.cellsOf e)).take (P.cellsOf e)) ∧ ((cs.drop (k * P.cellsOf e)).take (P.cellsOf e)).length = P.cellsOf e := by
  obtain ⟨ds, rfl, h2, h3, h4⟩ := h.arr hu
  have hm : (k + 1) * P.cellsOf e ≤ n * P.cellsOf e := Nat.mul_le_mul_right _ hk
  rw [Nat.add_mul] at hm
  refine ⟨?_, ?_⟩
  · have e : (D.ag ds).at k = ds[k] := by simp [D.at, D.toL, show k < ds.length by omega]
    rw [e]; exact h4 k (by omega)
  · simp only [List.length_take, List.length_drop]; omega
theorem RP.elem {P : Program} {S : Cells} {t n e k : Nat} {d : D} {v : Value} (hu : P.underlying t = some (.array n e)) (hk : k < n) (hl : n * P.cellsOf e ≤ P.cellsOf t) (h : RP P S t d v) (hp : isPtrD d = true) :
    ∃ b o, v = .pointer (some ⟨b, o, none⟩) ∧ RP P S e (.p (d.deref.at k)) (.pointer (some ⟨b, o + k * P.cellsOf e, none⟩)) := by
  obtain ⟨cs, b, o, h1, h2, h3, h4⟩ := h.at_ hp
  obtain ⟨h5, h6⟩ := h2.elem hu hk hl
  refine ⟨b, o, h1, .inr ⟨_, _, _, _, rfl, rfl, h5, h6, fun j u hj => ?_⟩⟩
  rw [Nat.add_assoc]
  exact h4 _ _ (getElem?_part hj).1
theorem SlAt.elem {P : Program} {S : Cells} {e k : Nat} {ad : Addr} {xs : List D} (h : SlAt P S e ad xs) (hk : k < xs.length) : RP P S e (.p (xs.getD k .nil)) (.pointer (some (ad.add (k * P.cellsOf e)))) := by
  obtain ⟨h1, cs, h2, h3, h4⟩ := h
  have hs := h1 (by omega)
  have ea : ad.add (k * P.cellsOf e) = ⟨ad.block, ad.off + k * P.cellsOf e, none⟩ := by
    obtain ⟨b, o, s⟩ := ad
    simp only at hs; subst hs
    exact add_none _ _ _
  rw [ea]
  refine .inr ⟨_, cs k, _, _, rfl, rfl, ?_, h3 k hk, fun j u hj => ?_⟩
  · rw [List.getD_eq_getElem?_getD, List.getElem?_eq_getElem hk]; exact h2 k hk
  · rw [Nat.add_assoc]; exact h4 k hk j u hj
def chkFld (C : Ctx) (Γ : List Ty) (dst : Option Nat) (op : Op) (vx : Opd) (k : Nat) : Bool :=
  match op with
  | .fieldAddr s x k' => (match fldOk C.P s k with | some (ft, _) => k' == k && opd C Γ x vx (.p s) && resTy C.P Γ dst (.p ft) | none => false)
  | _ => false
theorem snd_fld (hI : Inv C Γ g0 w0 g st a w) {o : Oper} {vo : VOper} {vx : Opd} {k : Nat} (hd : o.dst = vo.dst) (hv : vo.op = .fld vx k) (hc : chkFld C Γ vo.dst o.op vx k = true)
    (hok : (sem vo.op st.get st.H).ok = true) : Step C Γ g0 w0 o vo st a w := by
  unfold chkFld at hc
  split at hc
  · rename_i s x k' ho
    split at hc
    · rename_i ft off hf
      simp only [Bool.and_eq_true] at hc
      obtain ⟨⟨h1, h2⟩, h3⟩ := hc
      have : k' = k := by simpa using h1
      subst this
      have hx := hI.rd h2
      obtain ⟨fs, f, hu, hk, rfl, rfl, h0, h1', hg⟩ := fldOk_spec hf
      cases hev : vx.rd st.get with
      | f d =>
        have hx := hx .ret
        rw [hev] at hx
        simp only [RV, RT] at hx
        have hp : isPtrD d = true := by rw [hv] at hok; simpa [sem, hev] using hok
        obtain ⟨b, o', e1, e2⟩ := RP.field hf hx hp
        exact Step.pure hI hd (by rw [hv]; simp only [sem, hev]; rfl) (run_fld ho hu hk h0 e1) h3 fun X => by simp only [RV, RT]; exact e2
      | m s' p =>
        have hx := hx .ret
        rw [hev] at hx
        simp only [RV, asP] at hx
        obtain ⟨e, off, b, r, he, h4, h5, h6, h7, h8⟩ := hx
        injection he with he; subst he
        refine Step.pure hI hd (by rw [hv]; simp only [sem, hev]; rfl) (run_fld ho hu hk h0 h7) h3 fun X => ?_
        simp only [RV, asP]
        exact ⟨_, _, b, r, rfl, h4, h5, pathB_snoc (pathT_field hu hk hg) h6, rfl, h8⟩
      | o nn xs => rw [hv] at hok; simp [sem, hev] at hok
      | w nn xs => rw [hv] at hok; simp [sem, hev] at hok
      | c xs => rw [hv] at hok; simp [sem, hev] at hok
      | ms s nn => rw [hv] at hok; simp [sem, hev] at hok
      | a => rw [hv] at hok; simp [sem, hev] at hok
      | t vs => rw [hv] at hok; simp [sem, hev] at hok
      | fn g c ts => rw [hv] at hok; simp [sem, hev] at hok
      | n => rw [hv] at hok; simp [sem, hev] at hok
      | u => rw [hv] at hok; simp [sem, hev] at hok
    · cases hc
  · cases hc
def chkIxa (C : Ctx) (Γ : List Ty) (dst : Option Nat) (op : Op) (vx vi : Opd) : Bool :=
  match op with
  | .indexAddr t x i => (match C.P.underlying t with | some (.slice e) => decide (0 < C.P.cellsOf e) && opd C Γ x vx (.v t) && opI C Γ i vi && resTy C.P Γ dst (.p e) | _ => false)
  | _ => false
theorem snd_ixa (hI : Inv C Γ g0 w0 g st a w) {o : Oper} {vo : VOper} {vx vi : Opd} (hd : o.dst = vo.dst) (hv : vo.op = .ixa vx vi) (hc : chkIxa C Γ vo.dst o.op vx vi = true)
    (hok : (sem vo.op st.get st.H).ok = true) : Step C Γ g0 w0 o vo st a w := by
  unfold chkIxa at hc
  split at hc
  · rename_i t x i ho
    split at hc
    · rename_i e hu
      simp only [Bool.and_eq_true, decide_eq_true_eq] at hc
      obtain ⟨⟨⟨h0, h2⟩, hi⟩, h3⟩ := hc
      have hx := hI.rd h2
      cases hev : vx.rd st.get with
      | f d =>
        have hx := hx .ret
        rw [hev] at hx
        simp only [RV] at hx
        have hok' : vi.isD st.get = true ∧ inb (vi.d st.get).toI d.toL.length = true := by rw [hv] at hok; simpa [sem, hev] using hok
        obtain ⟨kd, ei1, ei2⟩ := hI.int hi hok'.1
        obtain ⟨k, ek, ek', hk⟩ := inb_spec hok'.2
        obtain ⟨xs, hsl, hh⟩ := RT.slice hu hx
        rw [hsl.toL] at hk
        rcases hh with ⟨rfl, _⟩ | ⟨ad, cap, _, ev, _, hs⟩
        · simp at hk
        · refine Step.pure hI hd (by rw [hv]; simp only [sem, hev]; rfl) (run_ixa ho hu h0 ev (by rw [ei2, ek]) hk) h3 fun X => ?_
          simp only [RV, RT, D.at, hsl.toL, ek']
          exact hs.elem hk
      | c xs =>
        have hx := hx .ret
        rw [hev] at hx
        simp only [RV] at hx
        have hok' : vi.isD st.get = true ∧ inb (vi.d st.get).toI xs.length = true := by rw [hv] at hok; simpa [sem, hev] using hok
        obtain ⟨kd, ei1, ei2⟩ := hI.int hi hok'.1
        obtain ⟨k, ek, ek', hk⟩ := inb_spec hok'.2
        obtain ⟨t', ad', ht, hv', hr⟩ := hx
        cases ht
        obtain ⟨xs', hsl, hh⟩ := hr.slice hu
        have : xs' = xs := by rcases hsl with h | h | h <;> simp at h; exact h.symm
        subst this
        rcases hh with ⟨rfl, _⟩ | ⟨ad, cap, _, ev, _, hs⟩
        · simp at hk
        · simp only [List.cons.injEq, and_true] at ev
          refine Step.pure hI hd (by rw [hv]; simp only [sem, hev]; rfl) (run_ixa ho hu h0 ev (by rw [ei2, ek]) hk) h3 fun X => ?_
          simp only [RV, RT, ek']
          exact hs.elem hk
      | ms s nn => rw [hv] at hok; simp [sem, hev] at hok
      | o nn xs => rw [hv] at hok; simp [sem, hev] at hok
      | w nn xs => rw [hv] at hok; simp [sem, hev] at hok
      | m s p => rw [hv] at hok; simp [sem, hev] at hok
      | a => rw [hv] at hok; simp [sem, hev] at hok
      | t vs => rw [hv] at hok; simp [sem, hev] at hok
      | fn g c ts => rw [hv] at hok; simp [sem, hev] at hok
      | n => rw [hv] at hok; simp [sem, hev] at hok
      | u => rw [hv] at hok; simp [sem, hev] at hok
    · cases hc
  · cases hc
theorem snd_ixaM (hI : Inv C Γ g0 w0 g st a w) {o : Oper} {vo : VOper} {vx vi : Opd} (hd : o.dst = vo.dst) (hv : vo.op = .ixaM vx vi) (hc : chkIxa C Γ vo.dst o.op vx vi = true)
    (hok : (sem vo.op st.get st.H).ok = true) : Step C Γ g0 w0 o vo st a w := by
  unfold chkIxa at hc
  split at hc
  · rename_i t x i ho
    split at hc
    · rename_i e hu
      simp only [Bool.and_eq_true, decide_eq_true_eq] at hc
      obtain ⟨⟨⟨h0, h2⟩, hi⟩, h3⟩ := hc
      have hx := hI.rd h2
      cases hev : vx.rd st.get with
      | ms s nn =>
        have hx := hx .ret
        rw [hev] at hx
        simp only [RV] at hx
        obtain ⟨t', e', ht, hu', hb, hne, hh⟩ := hx
        cases ht
        rw [hu] at hu'; injection hu' with hu'; injection hu' with hu'; subst hu'
        have hRB := hI.blocks s hne
        unfold RB at hRB
        rw [hb] at hRB
        simp only at hRB
        obtain ⟨d, hd', _⟩ := hRB
        have hok' : vi.isD st.get = true ∧ inb (vi.d st.get).toI d.toL.length = true := by rw [hv] at hok; simpa [sem, hev, hd'] using hok
        obtain ⟨kd, ei1, ei2⟩ := hI.int hi hok'.1
        obtain ⟨k, ek, ek', hk⟩ := inb_spec hok'.2
        rw [hd'] at hh
        simp only [blen] at hh
        rcases hh with ⟨h5, _⟩ | ⟨r, _, hr, ev, _⟩
        · omega
        · refine Step.pure hI hd (by rw [hv]; simp only [sem, hev, hd']; rfl) (run_ixa ho hu h0 ev (by rw [ei2, ek]) hk) h3 fun X => ?_
          simp only [RV, asP]
          refine ⟨e, k * C.P.cellsOf e, _, r, rfl, hb, hr, ?_, ?_, hne⟩
          · simp only [pathB, ek', hd', blen, hk, if_true, pathT, Option.map_some, Nat.add_zero]
          · rw [add_none, Nat.zero_add]
      | _ => rw [hv] at hok; simp [sem, hev] at hok
    · cases hc
  · cases hc
def chkIxA (C : Ctx) (Γ : List Ty) (dst : Option Nat) (op : Op) (n : Nat) (vx vi : Opd) : Bool :=
  match op with
  | .indexAddr t x i => (match C.P.underlying t with | some (.array n' e) => n' == n && decide (0 < C.P.cellsOf e) && decide (n' * C.P.cellsOf e ≤ C.P.cellsOf t) && opd C Γ x vx (.p t) && opI C Γ i vi && resTy C.P Γ dst (.p e) | _ => false)
  | _ => false
theorem snd_ixA (hI : Inv C Γ g0 w0 g st a w) {o : Oper} {vo : VOper} {n : Nat} {vx vi : Opd} (hd : o.dst = vo.dst) (hv : vo.op = .ixA n vx vi) (hc : chkIxA C Γ vo.dst o.op n vx vi = true)
    (hok : (sem vo.op st.get st.H).ok = true) : Step C Γ g0 w0 o vo st a w := by
  unfold chkIxA at hc
  split at hc
  · rename_i t x i ho
    split at hc
    · rename_i n' e hu
      simp only [Bool.and_eq_true, decide_eq_true_eq] at hc
      obtain ⟨⟨⟨⟨⟨hn, h0⟩, hl⟩, h2⟩, hi⟩, h3⟩ := hc
      have : n' = n := by simpa using hn
      subst this
      have hx := hI.rd h2
      cases hev : vx.rd st.get with
      | f d =>
        have hx := hx .ret
        rw [hev] at hx
        simp only [RV, RT] at hx
        have hok' : isPtrD d = true ∧ vi.isD st.get = true ∧ inb (vi.d st.get).toI n' = true := by rw [hv] at hok; simpa [sem, hev] using hok
        obtain ⟨kd, ei1, ei2⟩ := hI.int hi hok'.2.1
        obtain ⟨k, ek, ek', hk⟩ := inb_spec hok'.2.2
        obtain ⟨b, o', e1, e2⟩ := RP.elem hu hk hl hx hok'.1
        refine Step.pure hI hd (by rw [hv]; simp only [sem, hev]; rfl) (run_ixA ho hu h0 e1 (by rw [ei2, ek]) hk) h3 fun X => ?_
        simp only [RV, RT, ek']
        exact e2
      | m s' p =>
        have hx := hx .ret
        rw [hev] at hx
        simp only [RV, asP] at hx
        have hok' : vi.isD st.get = true ∧ inb (vi.d st.get).toI n' = true := by rw [hv] at hok; simpa [sem, hev] using hok
        obtain ⟨kd, ei1, ei2⟩ := hI.int hi hok'.1
        obtain ⟨k, ek, ek', hk⟩ := inb_spec hok'.2
        obtain ⟨e', off, b, r, he, h4, h5, h6, h7, h8⟩ := hx
        injection he with he; subst he
        refine Step.pure hI hd (by rw [hv]; simp only [sem, hev]; rfl) (run_ixA ho hu h0 h7 (by rw [ei2, ek]) hk) h3 fun X => ?_
        simp only [RV, asP, ek']
        exact ⟨_, _, b, r, rfl, h4, h5, pathB_snoc (pathT_elem hu hk hl) h6, rfl, h8⟩
      | o nn xs => rw [hv] at hok; simp [sem, hev] at hok
      | w nn xs => rw [hv] at hok; simp [sem, hev] at hok
      | c xs => rw [hv] at hok; simp [sem, hev] at hok
      | ms s nn => rw [hv] at hok; simp [sem, hev] at hok
      | a => rw [hv] at hok; simp [sem, hev] at hok
      | t vs => rw [hv] at hok; simp [sem, hev] at hok
      | fn g c ts => rw [hv] at hok; simp [sem, hev] at hok
      | n => rw [hv] at hok; simp [sem, hev] at hok
      | u => rw [hv] at hok; simp [sem, hev] at hok
    · cases hc
  · cases hc
end
end Go.Vam
