/- THE SHADOW MACHINE, 5: the operations that only compute. -/
import Derived.Test.YtcpbgimpopcfoaaVD
import Derived.Tactics
set_option linter.unusedSimpArgs false
set_option linter.unusedVariables false
namespace Go.Vam
def resTy (P : Program) (Γ : List Ty) (dst : Option Nat) (τ : Ty) : Bool :=
  match dst with
  | some d => (match Γ[d]? with | some σ => fits P τ σ | none => false)
  | none => true
section
variable {C : Ctx} {Γ : List Ty} {g0 g : G} {w0 w : World} {st : St} {a : Act}
theorem resTy_rv {H : List V} {dst : Option Nat} {τ : Ty} {x : V} {v : Value} (h : resTy C.P Γ dst τ = true) (hv : ∀ d, dst = some d → RV C g H w (.slot d) τ x v) : ∀ d, dst = some d → ∃ σ, Γ[d]? = some σ ∧ RV C g H w (.slot d) σ x v := by
  intro d hd
  subst hd
  unfold resTy at h
  simp only at h
  split at h
  · rename_i σ hσ; exact ⟨σ, hσ, RV.conv _ h (hv d rfl)⟩
  · cases h
def Step (C : Ctx) (Γ : List Ty) (g0 : G) (w0 : World) (o : Oper) (vo : VOper) (st : St) (a : Act) (w : World) : Prop :=
  ∃ v w' g', ((execOp a.eval o).run C.P w = .ok (.value v) w' ∨ ((execOp a.eval o).run C.P w = .ok .skip w' ∧ v = undef)) ∧
    Inv C Γ g0 w0 g' (applyE vo (sem vo.op st.get st.H) st) (a.put o.dst v) w'
theorem Step.pure {o : Oper} {vo : VOper} {x : V} {v : Value} {τ : Ty} {ok : Bool} (hI : Inv C Γ g0 w0 g st a w) (hd : o.dst = vo.dst) (hs : sem vo.op st.get st.H = { ok, v := x, H := st.H })
    (hr : (execOp a.eval o).run C.P w = .ok (.value v) w) (ht : resTy C.P Γ vo.dst τ = true) (hv : ∀ X, RV C g st.H w X τ x v) : Step C Γ g0 w0 o vo st a w := by
  refine ⟨v, w, g, .inl hr, ?_⟩
  rw [hs, hd]
  exact hI.pure (resTy_rv ht fun d _ => hv _)
theorem Step.pureN {o : Oper} {vo : VOper} {x : V} {v : Value} {τ : Ty} {ok : Bool} (n : Nat) (hI : Inv C Γ g0 w0 g st a w) (hd : o.dst = vo.dst) (hs : sem vo.op st.get st.H = { ok, v := x, H := st.H })
    (hr : (execOp a.eval o).run C.P w = .ok (.value v) (w.drewN n)) (ht : resTy C.P Γ vo.dst τ = true) (hv : ∀ X, RV C g st.H (w.drewN n) X τ x v) : Step C Γ g0 w0 o vo st a w := by
  refine ⟨v, w.drewN n, g, .inl hr, ?_⟩
  rw [hs, hd]
  exact (hI.drew n).pure (resTy_rv ht fun d _ => hv _)
def isK (P : Program) (t : Nat) (k : IntKind) : Bool := match P.underlying t with | some (.int k') => k' == k | _ => false
def isB (P : Program) (t : Nat) : Bool := match P.underlying t with | some .bool => true | _ => false
def isS (P : Program) (t : Nat) : Bool := match P.underlying t with | some .string => true | _ => false
def isF64 (P : Program) (t : Nat) : Bool := match P.underlying t with | some (.float .f64) => true | _ => false
theorem isK_u {P : Program} {t : Nat} {k : IntKind} (h : isK P t k = true) : P.underlying t = some (.int k) := by
  unfold isK at h; split at h
  · rename_i k' hu; have : k' = k := by simpa using h
    rw [hu, this]
  · cases h
theorem isB_u {P : Program} {t : Nat} (h : isB P t = true) : P.underlying t = some .bool := by
  unfold isB at h; split at h <;> first | assumption | cases h
theorem isS_u {P : Program} {t : Nat} (h : isS P t = true) : P.underlying t = some .string := by
  unfold isS at h; split at h <;> first | assumption | cases h
theorem isF64_u {P : Program} {t : Nat} (h : isF64 P t = true) : P.underlying t = some (.float .f64) := by
  unfold isF64 at h; split at h <;> first | assumption | cases h
theorem RT.int {P : Program} {S : Cells} {t : Nat} {k : IntKind} {d : D} {v : Value} (hu : P.underlying t = some (.int k)) (h : RT P S (.v t) d v) : d = .i d.toI ∧ v = .int k d.toI := by
  obtain ⟨h1, h2⟩ := h
  obtain ⟨n, rfl, he, _⟩ := h1.int hu
  refine ⟨rfl, ?_⟩
  unfold AggOk at h2; rw [hu] at h2
  cases v <;> simp [Value.cells] at he <;> first | (obtain ⟨rfl, rfl⟩ := he; rfl) | exact absurd rfl (h2 _)
theorem RT.bool {P : Program} {S : Cells} {t : Nat} {d : D} {v : Value} (hu : P.underlying t = some .bool) (h : RT P S (.v t) d v) : d = .b d.toB ∧ v = .bool d.toB := by
  obtain ⟨h1, h2⟩ := h
  obtain ⟨n, rfl, he⟩ := h1.bool hu
  refine ⟨rfl, ?_⟩
  unfold AggOk at h2; rw [hu] at h2
  cases v <;> simp [Value.cells] at he <;> first | (subst he; rfl) | exact absurd rfl (h2 _)
theorem RT.str {P : Program} {S : Cells} {t : Nat} {d : D} {v : Value} (hu : P.underlying t = some .string) (h : RT P S (.v t) d v) : ∃ bs, d = .s (bytesL bs) ∧ v = .string bs := by
  obtain ⟨h1, h2⟩ := h
  obtain ⟨bs, rfl, he, _⟩ := h1.str hu
  refine ⟨bs, rfl, ?_⟩
  unfold AggOk at h2; rw [hu] at h2
  cases v <;> simp [Value.cells] at he <;> first | (subst he; rfl) | exact absurd rfl (h2 _)
theorem RT.float {P : Program} {S : Cells} {t : Nat} {d : D} {v : Value} (hu : P.underlying t = some (.float .f64)) (h : RT P S (.v t) d v) : ∃ n m, d = .f n ∧ v = .float .f64 m ∧ FB n m := by
  obtain ⟨h1, h2⟩ := h
  obtain ⟨n, m, rfl, he, hf⟩ := h1.float hu
  refine ⟨n, m, rfl, ?_, hf⟩
  unfold AggOk at h2; rw [hu] at h2
  cases v <;> simp [Value.cells] at he <;> first | (obtain ⟨rfl, rfl⟩ := he; rfl) | exact absurd rfl (h2 _)
theorem RT.int_r {P : Program} {S : Cells} {t : Nat} {k : IntKind} {d : D} {v : Value} (hu : P.underlying t = some (.int k)) (h : RT P S (.v t) d v) : k.min ≤ d.toI ∧ d.toI ≤ k.max := by
  obtain ⟨n, rfl, _, h⟩ := h.1.int hu
  exact h
theorem RT.str_r {P : Program} {S : Cells} {t : Nat} {d : D} {v : Value} (hu : P.underlying t = some .string) (h : RT P S (.v t) d v) : d.toS.length ≤ maxLen := by
  obtain ⟨bs, rfl, _, h⟩ := h.1.str hu
  simpa [D.toS, bytesL] using h
theorem RT.str_b {P : Program} {S : Cells} {t : Nat} {d : D} {v : Value} (hu : P.underlying t = some .string) (h : RT P S (.v t) d v) : ∃ bs, d = .s (bytesL bs) ∧ v = .string bs ∧ bs.size ≤ maxLen := by
  obtain ⟨bs, h1, h2⟩ := RT.str hu h
  have := RT.str_r hu h
  subst h1
  exact ⟨bs, rfl, h2, by simpa [D.toS, bytesL] using this⟩
theorem wrapR (k : IntKind) (n : Int) : k.min ≤ k.wrap n ∧ k.wrap n ≤ k.max := by
  cases k <;> simp only [IntKind.wrap, IntKind.min, IntKind.max, IntKind.bits, IntKind.signed] <;> simp <;> (try split) <;> omega
theorem zeroR (k : IntKind) : k.min ≤ 0 ∧ 0 ≤ k.max := by
  cases k <;> simp [IntKind.min, IntKind.max, IntKind.bits, IntKind.signed]
theorem lenR {n : Nat} (h : n ≤ maxLen) : IntKind.i64.min ≤ (n : Int) ∧ (n : Int) ≤ IntKind.i64.max := by
  simp only [maxLen] at h
  simp only [IntKind.min, IntKind.max, IntKind.bits, IntKind.signed]
  simp
  omega
theorem tmodR {k : IntKind} {n m : Int} (h : k.min ≤ n ∧ n ≤ k.max) : k.min ≤ n.tmod m ∧ n.tmod m ≤ k.max := by
  have z := zeroR k
  by_cases hn : 0 ≤ n
  · have h1 := Int.tmod_nonneg m hn
    have h2 : n.tmod m ≤ n := by
      have := Int.natAbs_tmod n m
      have h3 : n.natAbs % m.natAbs ≤ n.natAbs := Nat.mod_le _ _
      omega
    omega
  · have h1 : (-n).tmod m = -(n.tmod m) := Int.neg_tmod n m
    have h2 := Int.tmod_nonneg m (show 0 ≤ -n by omega)
    have h3 : n ≤ n.tmod m := by
      have := Int.natAbs_tmod n m
      have h3 : n.natAbs % m.natAbs ≤ n.natAbs := Nat.mod_le _ _
      omega
    omega
theorem fdivR {k : IntKind} {n : Int} (h : k.min ≤ n ∧ n ≤ k.max) (j : Nat) : k.min ≤ n.fdiv (2 ^ j) ∧ n.fdiv (2 ^ j) ≤ k.max := by
  have z := zeroR k
  have hp : (0 : Int) < 2 ^ j := Int.pow_pos (by omega)
  rw [Int.fdiv_eq_ediv_of_nonneg _ (Int.le_of_lt hp)]
  by_cases hn : 0 ≤ n
  · have h1 := Int.ediv_nonneg hn (Int.le_of_lt hp)
    have h2 : n / 2 ^ j ≤ n := Int.ediv_le_self _ hn
    omega
  · have h1 : n / 2 ^ j < 0 := Int.ediv_neg_of_neg_of_pos (by omega) hp
    have h2 : n ≤ n / 2 ^ j := by
      rw [Int.le_ediv_iff_mul_le hp]
      have h3 : n * 2 ^ j ≤ n * 1 := Int.mul_le_mul_of_nonpos_left (by omega) (by omega)
      omega
    omega
theorem RT.mkI {P : Program} {S : Cells} {t : Nat} {k : IntKind} (hu : P.underlying t = some (.int k)) (n : Int) (hn : k.min ≤ n ∧ n ≤ k.max) : RT P S (.v t) (.i n) (.int k n) := ⟨.i hu hn, by unfold AggOk; rw [hu]; simp⟩
theorem RT.mkB {P : Program} {S : Cells} {t : Nat} (hu : P.underlying t = some .bool) (x : Bool) : RT P S (.v t) (.b x) (.bool x) := ⟨.b hu, by unfold AggOk; rw [hu]; simp⟩
theorem RT.mkS {P : Program} {S : Cells} {t : Nat} (hu : P.underlying t = some .string) (bs : ByteArray) (hb : bs.size ≤ maxLen) : RT P S (.v t) (.s (bytesL bs)) (.string bs) := ⟨.s hu hb, by unfold AggOk; rw [hu]; simp⟩
theorem RT.mkF {P : Program} {S : Cells} {t : Nat} (hu : P.underlying t = some (.float .f64)) {n m : Nat} (h : FB n m) : RT P S (.v t) (.f n) (.float .f64 m) := ⟨.f hu h, by unfold AggOk; rw [hu]; simp⟩
def opI (C : Ctx) (Γ : List Ty) (x : Operand) (vx : Opd) : Bool :=
  match x, vx with
  | .tmp n, .t m => n == m && (match Γ[n]? with | some (.v t) => (match C.P.underlying t with | some (.int _) => true | _ => false) | _ => false)
  | .const (.int _ n), .c (.i m) => n == m
  | _, _ => false
theorem Inv.int (hI : Inv C Γ g0 w0 g st a w) {x : Operand} {vx : Opd} (h : opI C Γ x vx = true) (hd : vx.isD st.get = true) : ∃ k, vx.d st.get = .i (vx.d st.get).toI ∧ a.eval x = .int k (vx.d st.get).toI := by
  unfold opI at h
  split at h
  · rename_i n m
    simp only [Bool.and_eq_true] at h
    obtain ⟨h1, h2⟩ := h
    have : n = m := by simpa using h1
    subst this
    split at h2
    · rename_i t ht
      split at h2
      · rename_i k hk
        have := RT.int hk ((RV.rd (Y := .ret) _ (hI.slot ht)).data hd)
        exact ⟨k, this.1, this.2⟩
      · cases h2
    · cases h2
  · rename_i k n m
    have : n = m := by simpa using h
    subst this
    exact ⟨k, rfl, rfl⟩
  · cases h
end
end Go.Vam
