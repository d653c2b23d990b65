/- THE SHADOW MACHINE, 3: operands; a slot gets a value. -/
import Derived.Test.YtcpbgimpopcfoaaVB
set_option linter.unusedSimpArgs false
namespace Go.Vam
def kEq : TypeDesc → TypeDesc → Bool
  | .bool, .bool => true
  | .int k, .int k' => k == k'
  | .float .f64, .float .f64 => true
  | .string, .string => true
  | .slice e, .slice e' => e == e'
  | .pointer e, .pointer e' => e == e'
  | .interface _, .interface _ => true
  | .func _ _ _, .func _ _ _ => true
  | _, _ => false
def uEq (P : Program) (t t' : Nat) : Bool :=
  t == t' || (match P.underlying t, P.underlying t' with
    | some d, some d' => kEq d d'
    | _, _ => false)
theorem RF.conv {P : Program} {S : Cells} {t t' : Nat} (h : uEq P t t' = true) {d : D} {cs : List Value} (hf : RF P S t d cs) : RF P S t' d cs := by
  unfold uEq at h
  rw [Bool.or_eq_true] at h
  rcases h with h | h
  · have : t = t' := by simpa using h
    rw [← this]; exact hf
  · split at h
    · rename_i a b ha hb
      cases a <;> cases b <;> simp [kEq] at h
      · obtain ⟨x, rfl, rfl⟩ := hf.bool ha; exact .b hb
      · subst h; obtain ⟨x, rfl, rfl, hr⟩ := hf.int ha; exact .i hb hr
      · rename_i k k'
        cases k <;> cases k' <;> simp [kEq] at h
        obtain ⟨n, m, rfl, rfl, he⟩ := hf.float ha; exact .f hb he
      · obtain ⟨bs, rfl, rfl, hr⟩ := hf.str ha; exact .s hb hr
      · subst h
        obtain ⟨v, rfl, hp⟩ := hf.ptr ha; exact hp.rf hb
      · subst h
        obtain ⟨xs, _, h | ⟨a, cap, hd, rfl, hl, hs, cs, h1, h2, h3⟩⟩ := hf.slice ha
        · obtain ⟨rfl, h2, rfl⟩ := h; exact .nils hb h2
        · exact .slc hb hd hl hs cs h1 h2 h3
      · cases hf <;> simp_all
        · exact .fnn hb
      · rcases hf.iface ha with ⟨rfl, rfl⟩ | ⟨u, d', v, rfl, rfl, h1, h2⟩
        · exact .ifn hb
        · exact .ifc hb h1 h2
    · cases h
theorem AggOk.conv {P : Program} {t t' : Nat} (h : uEq P t t' = true) {v : Value} (hf : AggOk P t v) : AggOk P t' v := by
  unfold uEq at h
  rw [Bool.or_eq_true] at h
  rcases h with h | h
  · have : t = t' := by simpa using h
    rw [← this]; exact hf
  · split at h
    · rename_i a b ha hb
      unfold AggOk at *
      rw [ha] at hf; rw [hb]
      cases a <;> cases b <;> simp [kEq] at h <;> first | exact hf | (rename_i k k'; cases k <;> cases k' <;> simp [kEq] at h <;> exact hf)
    · cases h
def fits (P : Program) : Ty → Ty → Bool
  | .v t, .v t' => uEq P t t'
  | .p e, .p e' => e == e'
  | .v t, .p e' => (match P.underlying t with | some (.pointer e) => e == e' | _ => false)
  | .p e, .v t' => (match P.underlying t' with | some (.pointer e') => e == e' | _ => false)
  | .tup a, .tup b => Ty.eqAll a b
  | _, _ => false
theorem Ty.eq_eq : ∀ (a b : Ty), Ty.eq a b = true → a = b
  | .v a, b, h => by cases b <;> simp_all [Ty.eq]
  | .p a, b, h => by cases b <;> simp_all [Ty.eq]
  | .tup a, b, h => by
    cases b with
    | tup b => simp only [Ty.eq] at h; rw [go a b h]
    | _ => simp [Ty.eq] at h
  | .fn, b, h => by cases b <;> simp_all [Ty.eq]
  | .any, b, h => by cases b <;> simp_all [Ty.eq]
  where
  go : ∀ (a b : List Ty), Ty.eqAll a b = true → a = b
  | [], b, h => by cases b <;> simp_all [Ty.eqAll]
  | x :: a, [], h => by simp [Ty.eqAll] at h
  | x :: a, y :: b, h => by
    simp only [Ty.eqAll, Bool.and_eq_true] at h
    rw [Ty.eq_eq x y h.1, go a b h.2]
theorem Ty.eqAll_eq (a b : List Ty) (h : Ty.eqAll a b = true) : a = b := Ty.eq_eq.go a b h
theorem asP_fits {P : Program} {σ τ : Ty} (h : fits P σ τ = true) {e : Nat} (hp : asP P σ = some e) : asP P τ = some e := by
  cases σ with
  | v t =>
    cases τ with
    | v t' =>
      simp only [fits, asP] at *
      unfold uEq at h
      rw [Bool.or_eq_true] at h
      rcases h with h | h
      · have : t = t' := by simpa using h
        rw [← this]; exact hp
      · split at h
        · rename_i a b ha hb
          rw [ha] at hp
          rw [hb]
          cases a <;> cases b <;> simp [kEq] at h hp ⊢
          rw [← h]; exact hp
        · cases h
    | p e' =>
      simp only [fits, asP] at *
      split at h
      · rename_i hu; rw [hu] at hp; simp at h hp; rw [← hp]; simp [h]
      · cases h
    | _ => simp [fits] at h
  | p e1 =>
    cases τ with
    | v t' =>
      simp only [fits, asP] at *
      split at h
      · rename_i hu; rw [hu]; simp at h hp ⊢; rw [← hp, h]
      · cases h
    | p e' => simp_all [fits, asP]
    | _ => simp [fits] at h
  | _ => simp [asP] at hp
theorem AggOk.pointer {P : Program} {t e : Nat} (hu : P.underlying t = some (.pointer e)) {v : Value} (h : AggOk P t v) : v.cells.toList = [v] := by
  unfold AggOk at h
  rw [hu] at h
  cases v <;> first | rfl | exact absurd rfl (h _)
theorem RP.cells {P : Program} {S : Cells} {e : Nat} {d : D} {v : Value} (h : RP P S e d v) : v.cells.toList = [v] ∧ ∀ cs, v ≠ .agg cs := by
  rcases h with ⟨_, rfl⟩ | ⟨_, _, _, _, _, rfl, _⟩ <;> simp [Value.cells]
theorem RT.conv {P : Program} {S : Cells} {σ τ : Ty} (h : fits P σ τ = true) {d : D} {v : Value} (hf : RT P S σ d v) : RT P S τ d v := by
  cases σ with
  | v t =>
    cases τ with
    | v t' => exact ⟨hf.1.conv h, hf.2.conv h⟩
    | p e' =>
      simp only [fits, RT] at *
      split at h
      · rename_i hu
        obtain ⟨h1, h2⟩ := hf
        rw [h2.pointer hu] at h1
        obtain ⟨v', e1, hp⟩ := h1.ptr hu
        simp at e1 h; subst e1; subst h; exact hp
      · cases h
    | _ => simp [fits] at h
  | p e1 =>
    cases τ with
    | v t' =>
      simp only [fits, RT] at *
      split at h
      · rename_i hu
        obtain ⟨h1, h2⟩ := hf.cells
        simp at h; subst h
        refine ⟨by rw [h1]; exact hf.rf hu, ?_⟩
        unfold AggOk; rw [hu]; exact h2
      · cases h
    | p e' => simp only [fits, RT] at *; simp at h; subst h; exact hf
    | _ => simp [fits] at h
  | _ => simp [RT] at hf
theorem uEq_slice {P : Program} {t t' e : Nat} (h : uEq P t t' = true) (hu : P.underlying t = some (.slice e)) : P.underlying t' = some (.slice e) := by
  unfold uEq at h
  rw [Bool.or_eq_true] at h
  rcases h with h | h
  · have : t = t' := by simpa using h
    rw [← this]; exact hu
  · rw [hu] at h
    split at h
    · rename_i a b ha hb
      injection ha with ha; subst ha
      cases b <;> simp [kEq] at h
      rw [hb, h]
    · cases h
mutual
theorem RV.conv {C : Ctx} {g : G} {H : List V} {w : World} : ∀ (x : V) {X : Own} {σ τ : Ty} (_ : fits C.P σ τ = true) {v : Value}, RV C g H w X σ x v → RV C g H w X τ x v
  | .f d, X, σ, τ, h, v, hv => by simp only [RV] at *; exact hv.conv h
  | .o nn xs, X, σ, τ, h, v, hv => by
    simp only [RV] at *
    obtain ⟨t, e, rfl, h2, h3⟩ := hv
    cases τ <;> simp only [fits] at h <;> try (simp at h; done)
    · exact ⟨_, e, rfl, uEq_slice h h2, h3⟩
    · rw [h2] at h; simp at h
  | .w nn xs, X, σ, τ, h, v, hv => by
    simp only [RV] at *
    obtain ⟨t, e, rfl, h2, h3⟩ := hv
    cases τ <;> simp only [fits] at h <;> try (simp at h; done)
    · exact ⟨_, e, rfl, uEq_slice h h2, h3⟩
    · rw [h2] at h; simp at h
  | .c xs, X, σ, τ, h, v, hv => by
    simp only [RV] at *
    obtain ⟨t, a, rfl, rfl, h3⟩ := hv
    have hs : ∃ e, C.P.underlying t = some (.slice e) := by
      generalize [Value.slice a xs.length xs.length] = l at h3
      cases h3 <;> exact ⟨_, ‹_›⟩
    obtain ⟨e, hs⟩ := hs
    cases τ <;> simp only [fits] at h <;> try (simp at h; done)
    · exact ⟨_, a, rfl, rfl, h3.conv h⟩
    · rw [hs] at h; simp at h
  | .a, X, σ, τ, h, v, hv => by
    simp only [RV] at *
    obtain ⟨e, r, c, e', h1, h2⟩ := hv
    exact ⟨e, r, c, e', asP_fits h h1, h2⟩
  | .m s p, X, σ, τ, h, v, hv => by
    simp only [RV] at *
    obtain ⟨e, off, b, r, h1, h2⟩ := hv
    exact ⟨e, off, b, r, asP_fits h h1, h2⟩
  | .ms s nn, X, σ, τ, h, v, hv => by
    simp only [RV] at *
    obtain ⟨t, e, rfl, h2, h3⟩ := hv
    cases τ <;> simp only [fits] at h <;> try (simp at h; done)
    · exact ⟨_, e, rfl, uEq_slice h h2, h3⟩
    · rw [h2] at h; simp at h
  | .t vs, X, σ, τ, h, v, hv => by
    simp only [RV] at *
    obtain ⟨ts, arr, rfl, h2⟩ := hv
    cases τ <;> simp only [fits] at h <;> try (simp at h; done)
    rw [← Ty.eqAll_eq _ _ h]
    exact ⟨ts, arr, rfl, h2⟩
  | .fn _ _ _, X, σ, τ, h, v, hv => by simp only [RV] at *; exact hv
  | .n, X, σ, τ, h, v, hv => by simp only [RV] at *; exact hv
  | .u, X, σ, τ, h, v, hv => by simp only [RV]
end
theorem OwnS.rf {C : Ctx} {g : G} {w : World} {X : Own} {t e : Nat} {nn : Bool} {xs : List D} {v : Value} (hu : C.P.underlying t = some (.slice e)) (h : OwnS C g w X e nn xs v true) : RF C.P g.S t (mkD nn xs) [v] ∧ ∀ cs, v ≠ .agg cs := by
  rcases h with ⟨rfl, rfl, rfl⟩ | ⟨r, cap, c, e', rfl, h2, h3, h4, h5, h6, h7, h8, h9, h10, h11⟩
  · exact ⟨.nils hu (.inl rfl), by simp⟩
  · refine ⟨.slc hu ?_ ⟨h7, Nat.le_trans h7 h8⟩ (fun _ => rfl) (fun i => (c.toList.drop (i * C.P.cellsOf e)).take (C.P.cellsOf e)) h9 (fun i hi => ?_) (fun i hi j u hj => ?_), by simp⟩
    · cases nn
      · exact .inr (.inl ⟨rfl, by simpa using h2⟩)
      · exact .inl rfl
    · have hm : (i + 1) * C.P.cellsOf e ≤ cap * C.P.cellsOf e := Nat.mul_le_mul_right _ (by omega)
      rw [Nat.add_mul] at hm
      simp only [List.length_take, List.length_drop, Array.length_toList]
      omega
    · have hj' : j < C.P.cellsOf e := by
        by_cases hh : j < C.P.cellsOf e
        · exact hh
        · rw [List.getElem?_take, if_neg hh] at hj; simp at hj
      have hm : (i + 1) * C.P.cellsOf e ≤ xs.length * C.P.cellsOf e := Nat.mul_le_mul_right _ (by omega)
      rw [Nat.add_mul] at hm
      rw [List.getElem?_take_of_lt hj', List.getElem?_drop] at hj
      simp only [Nat.zero_add]
      rw [h10 _ (by omega)]
      simpa using hj
mutual
theorem RV.rd {C : Ctx} {g : G} {H : List V} {w : World} : ∀ (x : V) {X Y : Own} {τ : Ty} {v : Value}, RV C g H w X τ x v → RV C g H w Y τ x.rd v
  | .f d, X, Y, τ, v, h => by simpa only [V.rd, RV] using h
  | .o nn xs, X, Y, τ, v, h => by
    simp only [V.rd, RV] at *
    obtain ⟨t, e, rfl, h2, h3⟩ := h
    obtain ⟨h4, h5⟩ := h3.rf h2
    refine ⟨?_, ?_⟩
    · have : v.cells.toList = [v] := by cases v <;> first | rfl | exact absurd rfl (h5 _)
      rw [this]; exact h4
    · unfold AggOk; rw [h2]; exact h5
  | .w nn xs, X, Y, τ, v, h => by simp only [V.rd, RV]
  | .c xs, X, Y, τ, v, h => by simpa only [V.rd, RV] using h
  | .a, X, Y, τ, v, h => by simp only [V.rd, RV]
  | .m s p, X, Y, τ, v, h => by simpa only [V.rd, RV] using h
  | .ms s nn, X, Y, τ, v, h => by simpa only [V.rd, RV] using h
  | .t vs, X, Y, τ, v, h => by
    simp only [V.rd, RV] at *
    obtain ⟨ts, arr, h1, h2, h3, h4, h5⟩ := h
    exact ⟨ts, arr, h1, h2, by rw [rdAll_len]; exact h3, by rw [rdAll_len]; exact h4, RVs.rd vs h5⟩
  | .fn h caps tys, X, Y, τ, v, hv => by
    simp only [V.rd, RV] at *
    obtain ⟨vf, arr, h1, h2, h3, h4, h5⟩ := hv
    exact ⟨vf, arr, h1, h2, by rw [rdAll_len]; exact h3, by rw [rdAll_len]; exact h4, RVs.rd caps h5⟩
  | .n, X, Y, τ, v, h => by simpa only [V.rd, RV] using h
  | .u, X, Y, τ, v, h => by simp only [V.rd, RV]
theorem RVs.rd {C : Ctx} {g : G} {H : List V} {w : World} : ∀ (xs : List V) {X Y : Own} {n : Nat} {ts : List Ty} {vs : List Value}, RVs C g H w X n ts xs vs → RVs C g H w Y n ts (V.rdAll xs) vs
  | [], X, Y, n, ts, vs, h => by simp only [V.rdAll]; cases ts <;> cases vs <;> simp_all [RVs]
  | x :: xs, X, Y, n, [], vs, h => by simp [RVs] at h
  | x :: xs, X, Y, n, τ :: ts, [], h => by simp [RVs] at h
  | x :: xs, X, Y, n, τ :: ts, v :: vs, h => by simp only [V.rdAll, RVs] at *; exact ⟨RV.rd x h.1, RVs.rd xs h.2⟩
theorem rdAll_len : ∀ (xs : List V), (V.rdAll xs).length = xs.length
  | [] => rfl
  | x :: xs => by simp only [V.rdAll, List.length_cons, rdAll_len xs]
end
end Go.Vam
