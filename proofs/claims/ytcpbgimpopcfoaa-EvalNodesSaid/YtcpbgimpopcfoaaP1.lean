/- Chapter 14: what functions come to, part 1. No conditions. -/
import Derived.Test.YtcpbgimpopcfoaaB2
import Derived.KernelRfl
set_option linter.unusedVariables false
set_option linter.unusedSimpArgs false
set_option maxRecDepth 100000
namespace Go.Vam.C14
open Go.Proofs
theorem drop_cons {α : Type} {xs : List α} {i : Nat} {x : α} {r : List α} (d : α) (h : xs.drop i = x :: r) : i < xs.length ∧ xs.getD i d = x ∧ xs.drop (i + 1) = r := by
  have hi : i < xs.length := by
    by_cases hh : i < xs.length
    · exact hh
    · rw [List.drop_eq_nil_of_le (by omega)] at h; cases h
  rw [List.drop_eq_getElem_cons hi] at h
  injection h with h1 h2
  refine ⟨hi, ?_, h2⟩
  rw [List.getD_eq_getElem?_getD, List.getElem?_eq_getElem hi]
  exact h1
theorem drop_nil {α : Type} {xs : List α} {i : Nat} (h : xs.drop i = []) : xs.length ≤ i := by
  have := congrArg List.length h
  simp at this
  omega
theorem at_nat (d : D) (i : Nat) : d.at (i : Int).toNat = d.toL.getD i .nil := rfl
theorem inb_t {i n : Nat} (h : i < n) : inb (i : Int) n = true := inb_of (by omega) (by omega)
theorem inb_nat {i n : Nat} : inb (i : Int) n = decide (i < n) := by
  simp [inb]
theorem ltb_nat {i n : Nat} : ltb (i : Int) (n : Int) = decide (i < n) := by
  unfold ltb; by_cases h : i < n <;> simp [h]
theorem succ_nat {i : Nat} (h : i < 9223372036854775807) : IntKind.i64.wrap ((i : Int) + 1) = ((i + 1 : Nat) : Int) := by
  rw [wrap64_id (by omega) (by omega)]; simp
theorem dT {p : Prop} {i : Decidable p} (h : p) : @decide p i = true := by simp [h]
theorem dF {p : Prop} {i : Decidable p} (h : ¬ p) : @decide p i = false := by simp [h]
/-- The first place in a list where something holds. -/
def find (p : D → Bool) : List D → Nat → Int
  | [], _ => -1
  | x :: r, i => bif p x then (i : Int) else find p r (i + 1)
theorem find_pos (p : D → Bool) : ∀ (l : List D) (i : Nat), leb 0 (find p l i) = l.any p
  | [], i => rfl
  | x :: r, i => by
    rw [find, List.any_cons]
    cases h : p x
    · simp only [cond_false, Bool.false_or]; exact find_pos p r (i + 1)
    · simp [leb]
/-! ### Loops -/
/-- The first number from i on, of k, at which something holds; -1: none. -/
def fst (p : Nat → Bool) : Nat → Nat → Int
  | 0, _ => -1
  | k + 1, i => bif p i then (i : Int) else fst p k (i + 1)
theorem loop_find {R : Type} (L : Nat → Nat → Option R) (p : Nat → Bool) (n : Nat) (K0 : Option R) (Kr : Nat → Option R) (hs : ∀ j i, i < n → L (j + 1) i = bif p i then Kr i else L j (i + 1)) (he : ∀ j, L (j + 1) n = K0) :
    ∀ k i j, i + k = n → k < j → L j i = bif leb 0 (fst p k i) then Kr (fst p k i).toNat else K0
  | _, _, 0, _, h => by omega
  | 0, i, j + 1, h, _ => by
    have : i = n := by omega
    subst this
    rw [he]; rfl
  | k + 1, i, j + 1, h, h' => by
    rw [hs j i (by omega), fst]
    cases p i
    · simp only [cond_false]; exact loop_find L p n K0 Kr hs he k (i + 1) j (by omega) (by omega)
    · simp [leb]
def foldI {σ : Type} (f : Nat → σ → σ) : Nat → Nat → σ → σ
  | 0, _, s => s
  | k + 1, i, s => foldI f k (i + 1) (f i s)
theorem loop_fold {R σ : Type} (L : Nat → Nat → σ → Option R) (K : σ → Option R) (n : Nat) (f : Nat → σ → σ) (I : Nat → σ → Prop) (hs : ∀ j i s, i < n → I i s → L (j + 1) i s = L j (i + 1) (f i s)) (hI : ∀ i s, i < n → I i s → I (i + 1) (f i s)) (he : ∀ j s, I n s → L (j + 1) n s = K s) :
    ∀ k i j s, i + k = n → k < j → I i s → L j i s = K (foldI f k i s)
  | _, _, 0, _, _, h, _ => by omega
  | 0, i, j + 1, s, h, _, hi => by
    have : i = n := by omega
    subst this
    rw [he j s hi]; rfl
  | k + 1, i, j + 1, s, h, h', hi => by
    rw [hs j i s (by omega) hi, foldI]
    exact loop_fold L K n f I hs hI he k (i + 1) j _ (by omega) (by omega) (hI i s (by omega) hi)
theorem foldI_inv {σ : Type} {f : Nat → σ → σ} {n : Nat} {I : Nat → σ → Prop} (hI : ∀ i s, i < n → I i s → I (i + 1) (f i s)) : ∀ k i s, i + k = n → I i s → I n (foldI f k i s)
  | 0, i, s, h, hi => by
    have : i = n := by omega
    subst this
    exact hi
  | k + 1, i, s, h, hi => foldI_inv hI k (i + 1) _ (by omega) (hI i s (by omega) hi)
theorem foldI_list {σ : Type} {g : σ → D → σ} (xs : List D) : ∀ k i s, i + k = xs.length → foldI (fun i s => g s (xs.getD i .nil)) k i s = (xs.drop i).foldl g s
  | 0, i, s, h => by rw [List.drop_eq_nil_of_le (by omega)]; rfl
  | k + 1, i, s, h => by
    have hi : i < xs.length := by omega
    rw [foldI, foldI_list xs k (i + 1) _ (by omega), List.drop_eq_getElem_cons hi, List.foldl_cons, List.getD_eq_getElem?_getD, List.getElem?_eq_getElem hi]
    rfl
theorem fst_any (p : D → Bool) (xs : List D) : ∀ k i, i + k = xs.length → leb 0 (fst (fun i => p (xs.getD i .nil)) k i) = (xs.drop i).any p
  | 0, i, h => by rw [List.drop_eq_nil_of_le (by omega)]; rfl
  | k + 1, i, h => by
    have hi : i < xs.length := by omega
    rw [List.drop_eq_getElem_cons hi, List.any_cons, fst, List.getD_eq_getElem?_getD, List.getElem?_eq_getElem hi]
    simp only [Option.getD_some]
    cases p xs[i]
    · simp only [cond_false, Bool.false_or]; exact fst_any p xs k (i + 1) (by omega)
    · simp [leb]
theorem fst_all2 (p : D → D → Bool) (xs ys : List D) (hl : xs.length = ys.length) : ∀ k i, i + k = xs.length → leb 0 (fst (fun i => !p (xs.getD i .nil) (ys.getD i .nil)) k i) = !((xs.drop i).zip (ys.drop i)).all fun q => p q.1 q.2
  | 0, i, h => by rw [List.drop_eq_nil_of_le (by omega)]; rfl
  | k + 1, i, h => by
    have hi : i < xs.length := by omega
    have hi' : i < ys.length := by omega
    rw [List.drop_eq_getElem_cons hi, List.drop_eq_getElem_cons hi', List.zip_cons_cons, List.all_cons, fst, List.getD_eq_getElem?_getD, List.getElem?_eq_getElem hi, List.getD_eq_getElem?_getD, List.getElem?_eq_getElem hi']
    simp only [Option.getD_some]
    cases p xs[i] ys[i]
    · simp [leb]
    · simp only [Bool.not_true, cond_false, Bool.true_and]; exact fst_all2 p xs ys hl k (i + 1) (by omega)
theorem isPtr_p {d : D} : isPtrD (.p d) = true := rfl
theorem deref_p {d : D} : (D.p d).deref = d := rfl
theorem toI_i {n : Int} : (D.i n).toI = n := rfl
theorem toB_b {b : Bool} : (D.b b).toB = b := rfl
theorem toS_s {x : List Nat} : (D.s x).toS = x := rfl
theorem toL_sl {x : List D} : (D.sl x).toL = x := rfl
theorem toL_sz {x : List D} : (D.sz x).toL = x := rfl
theorem toL_sq {x : List D} : (D.sq x).toL = x := rfl
theorem toL_ag {x : List D} : (D.ag x).toL = x := rfl
theorem ltb_self {n : Int} : ltb n n = false := ltb_f (by omega)
theorem ltb_n {i n : Nat} (h : i < n) : ltb (i : Int) (n : Int) = true := ltb_t (by omega)
theorem succ_n {i n : Nat} (h : i < n) (hn : n ≤ 9223372036854775807) : IntKind.i64.wrap ((i : Int) + 1) = ((i + 1 : Nat) : Int) := succ_nat (by omega)
def foldO {σ : Type} (f : Nat → σ → Option σ) : Nat → Nat → σ → Option σ
  | 0, _, s => some s
  | k + 1, i, s => (f i s).elim none (foldO f k (i + 1))
theorem loop_opt {R σ : Type} (L : Nat → Nat → σ → Option R) (K : Option σ → Option R) (n : Nat) (f : Nat → σ → Option σ) (I : Nat → σ → Prop) (hs : ∀ j i s, i < n → I i s → L (j + 1) i s = (f i s).elim (K none) (L j (i + 1))) (hI : ∀ i s s', i < n → I i s → f i s = some s' → I (i + 1) s') (he : ∀ j s, I n s → L (j + 1) n s = K (some s)) :
    ∀ k i j s, i + k = n → k < j → I i s → L j i s = K (foldO f k i s)
  | _, _, 0, _, _, h, _ => by omega
  | 0, i, j + 1, s, h, _, hi => by
    have : i = n := by omega
    subst this
    rw [he j s hi]; rfl
  | k + 1, i, j + 1, s, h, h', hi => by
    rw [hs j i s (by omega) hi, foldO]
    cases hf : f i s with
    | none => rfl
    | some s' => exact loop_opt L K n f I hs hI he k (i + 1) j s' (by omega) (by omega) (hI i s s' (by omega) hi hf)
def runO {σ : Type} (g : σ → D → Option σ) : List D → σ → Option σ
  | [], s => some s
  | x :: r, s => (g s x).elim none (runO g r)
theorem foldO_list {σ : Type} {g : σ → D → Option σ} (xs : List D) : ∀ k i s, i + k = xs.length → foldO (fun i s => g s (xs.getD i .nil)) k i s = runO g (xs.drop i) s
  | 0, i, s, h => by rw [List.drop_eq_nil_of_le (by omega)]; rfl
  | k + 1, i, s, h => by
    have hi : i < xs.length := by omega
    rw [foldO, List.drop_eq_getElem_cons hi, runO, List.getD_eq_getElem?_getD, List.getElem?_eq_getElem hi]
    simp only [Option.getD_some]
    congr 1
    funext s'
    exact foldO_list xs k (i + 1) s' (by omega)
theorem getD_at {xs : List D} {i : Nat} (h : i < xs.length) : xs.getD i .nil = xs[i] := by rw [List.getD_eq_getElem?_getD, List.getElem?_eq_getElem h]; rfl

end Go.Vam.C14
namespace Go.Vam.C14
open Go.Proofs
/-- The first guard of all laws: it holds. -/
theorem lives_run : toO (runF PHI 60 9 [] []) = some (.f (.b true), []) := by kernel_rfl
def sp9 : Bool := true
def Tb9 : CallF := extend noF 9 (fn0 true (.f (.b sp9)))
theorem ok9 : FnOk Try.prog PHI Tb9 := FnOk.from (FnOk.empty _ _) (FnOk.run _ _ hPHI 60) _ fun args r h => by
  cases args with
  | nil => exact lives_run.trans h
  | cons y l => cases h

end Go.Vam.C14
