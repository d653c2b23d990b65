/- Chapter 20: what functions come to, part 1. No conditions. -/
import Derived.Test.YtbpgfdjencpcmaaB
import Derived.KernelRfl
set_option linter.unusedVariables false
set_option maxRecDepth 100000
namespace Go.Vam.C20
open Go.Proofs
theorem drop_cons {α : Type} {xs : List α} {i : Nat} {x : α} {r : List α} (d : α) (h : xs.drop i = x :: r) : i < xs.length ∧ xs.getD i d = x ∧ xs.drop (i + 1) = r := by
  have hi : i < xs.length := by
    by_cases hh : i < xs.length
    · exact hh
    · rw [List.drop_eq_nil_of_le (by omega)] at h; cases h
  rw [List.drop_eq_getElem_cons hi] at h
  injection h with h1 h2
  refine ⟨hi, ?_, h2⟩
  rw [List.getD_eq_getElem?_getD, List.getElem?_eq_getElem hi]
  exact h1
theorem drop_nil {α : Type} {xs : List α} {i : Nat} (h : xs.drop i = []) : xs.length ≤ i := by
  have := congrArg List.length h
  simp at this
  omega
theorem at_nat (d : D) (i : Nat) : d.at (i : Int).toNat = d.toL.getD i .nil := rfl
theorem inb_t {i n : Nat} (h : i < n) : inb (i : Int) n = true := inb_of (by omega) (by omega)
theorem inb_nat {i n : Nat} : inb (i : Int) n = decide (i < n) := by
  simp [inb]
theorem ltb_nat {i n : Nat} : ltb (i : Int) (n : Int) = decide (i < n) := by
  unfold ltb; by_cases h : i < n <;> simp [h]
theorem succ_nat {i : Nat} (h : i < 9223372036854775807) : IntKind.i64.wrap ((i : Int) + 1) = ((i + 1 : Nat) : Int) := by
  rw [wrap64_id (by omega) (by omega)]; simp
theorem dT {p : Prop} {i : Decidable p} (h : p) : @decide p i = true := by simp [h]
theorem dF {p : Prop} {i : Decidable p} (h : ¬ p) : @decide p i = false := by simp [h]
/-- The first place in a list where something holds. -/
def find (p : D → Bool) : List D → Nat → Int
  | [], _ => -1
  | x :: r, i => bif p x then (i : Int) else find p r (i + 1)
theorem find_pos (p : D → Bool) : ∀ (l : List D) (i : Nat), leb 0 (find p l i) = l.any p
  | [], i => rfl
  | x :: r, i => by
    rw [find, List.any_cons]
    cases h : p x
    · simp only [cond_false, Bool.false_or]; exact find_pos p r (i + 1)
    · simp [leb]
/-! ### Loops -/
/-- The first number from i on, of k, at which something holds; -1: none. -/
def fst (p : Nat → Bool) : Nat → Nat → Int
  | 0, _ => -1
  | k + 1, i => bif p i then (i : Int) else fst p k (i + 1)
theorem loop_find {R : Type} (L : Nat → Nat → Option R) (p : Nat → Bool) (n : Nat) (K0 : Option R) (Kr : Nat → Option R) (hs : ∀ j i, i < n → L (j + 1) i = bif p i then Kr i else L j (i + 1)) (he : ∀ j, L (j + 1) n = K0) :
    ∀ k i j, i + k = n → k < j → L j i = bif leb 0 (fst p k i) then Kr (fst p k i).toNat else K0
  | _, _, 0, _, h => by omega
  | 0, i, j + 1, h, _ => by
    have : i = n := by omega
    subst this
    rw [he]; rfl
  | k + 1, i, j + 1, h, h' => by
    rw [hs j i (by omega), fst]
    cases p i
    · simp only [cond_false]; exact loop_find L p n K0 Kr hs he k (i + 1) j (by omega) (by omega)
    · simp [leb]
def foldI {σ : Type} (f : Nat → σ → σ) : Nat → Nat → σ → σ
  | 0, _, s => s
  | k + 1, i, s => foldI f k (i + 1) (f i s)
theorem loop_fold {R σ : Type} (L : Nat → Nat → σ → Option R) (K : σ → Option R) (n : Nat) (f : Nat → σ → σ) (I : Nat → σ → Prop) (hs : ∀ j i s, i < n → I i s → L (j + 1) i s = L j (i + 1) (f i s)) (hI : ∀ i s, i < n → I i s → I (i + 1) (f i s)) (he : ∀ j s, I n s → L (j + 1) n s = K s) :
    ∀ k i j s, i + k = n → k < j → I i s → L j i s = K (foldI f k i s)
  | _, _, 0, _, _, h, _ => by omega
  | 0, i, j + 1, s, h, _, hi => by
    have : i = n := by omega
    subst this
    rw [he j s hi]; rfl
  | k + 1, i, j + 1, s, h, h', hi => by
    rw [hs j i s (by omega) hi, foldI]
    exact loop_fold L K n f I hs hI he k (i + 1) j _ (by omega) (by omega) (hI i s (by omega) hi)
theorem foldI_inv {σ : Type} {f : Nat → σ → σ} {n : Nat} {I : Nat → σ → Prop} (hI : ∀ i s, i < n → I i s → I (i + 1) (f i s)) : ∀ k i s, i + k = n → I i s → I n (foldI f k i s)
  | 0, i, s, h, hi => by
    have : i = n := by omega
    subst this
    exact hi
  | k + 1, i, s, h, hi => foldI_inv hI k (i + 1) _ (by omega) (hI i s (by omega) hi)
theorem foldI_list {σ : Type} {g : σ → D → σ} (xs : List D) : ∀ k i s, i + k = xs.length → foldI (fun i s => g s (xs.getD i .nil)) k i s = (xs.drop i).foldl g s
  | 0, i, s, h => by rw [List.drop_eq_nil_of_le (by omega)]; rfl
  | k + 1, i, s, h => by
    have hi : i < xs.length := by omega
    rw [foldI, foldI_list xs k (i + 1) _ (by omega), List.drop_eq_getElem_cons hi, List.foldl_cons, List.getD_eq_getElem?_getD, List.getElem?_eq_getElem hi]
    rfl
theorem fst_any (p : D → Bool) (xs : List D) : ∀ k i, i + k = xs.length → leb 0 (fst (fun i => p (xs.getD i .nil)) k i) = (xs.drop i).any p
  | 0, i, h => by rw [List.drop_eq_nil_of_le (by omega)]; rfl
  | k + 1, i, h => by
    have hi : i < xs.length := by omega
    rw [List.drop_eq_getElem_cons hi, List.any_cons, fst, List.getD_eq_getElem?_getD, List.getElem?_eq_getElem hi]
    simp only [Option.getD_some]
    cases p xs[i]
    · simp only [cond_false, Bool.false_or]; exact fst_any p xs k (i + 1) (by omega)
    · simp [leb]
theorem fst_all2 (p : D → D → Bool) (xs ys : List D) (hl : xs.length = ys.length) : ∀ k i, i + k = xs.length → leb 0 (fst (fun i => !p (xs.getD i .nil) (ys.getD i .nil)) k i) = !((xs.drop i).zip (ys.drop i)).all fun q => p q.1 q.2
  | 0, i, h => by rw [List.drop_eq_nil_of_le (by omega)]; rfl
  | k + 1, i, h => by
    have hi : i < xs.length := by omega
    have hi' : i < ys.length := by omega
    rw [List.drop_eq_getElem_cons hi, List.drop_eq_getElem_cons hi', List.zip_cons_cons, List.all_cons, fst, List.getD_eq_getElem?_getD, List.getElem?_eq_getElem hi, List.getD_eq_getElem?_getD, List.getElem?_eq_getElem hi']
    simp only [Option.getD_some]
    cases p xs[i] ys[i]
    · simp [leb]
    · simp only [Bool.not_true, cond_false, Bool.true_and]; exact fst_all2 p xs ys hl k (i + 1) (by omega)
theorem isPtr_p {d : D} : isPtrD (.p d) = true := rfl
theorem deref_p {d : D} : (D.p d).deref = d := rfl
theorem toI_i {n : Int} : (D.i n).toI = n := rfl
theorem toB_b {b : Bool} : (D.b b).toB = b := rfl
theorem toS_s {x : List Nat} : (D.s x).toS = x := rfl
theorem toL_sl {x : List D} : (D.sl x).toL = x := rfl
theorem toL_sz {x : List D} : (D.sz x).toL = x := rfl
theorem toL_sq {x : List D} : (D.sq x).toL = x := rfl
theorem toL_ag {x : List D} : (D.ag x).toL = x := rfl
theorem ltb_self {n : Int} : ltb n n = false := ltb_f (by omega)
theorem ltb_n {i n : Nat} (h : i < n) : ltb (i : Int) (n : Int) = true := ltb_t (by omega)
theorem succ_n {i n : Nat} (h : i < n) (hn : n ≤ 9223372036854775807) : IntKind.i64.wrap ((i : Int) + 1) = ((i + 1 : Nat) : Int) := succ_nat (by omega)
def foldO {σ : Type} (f : Nat → σ → Option σ) : Nat → Nat → σ → Option σ
  | 0, _, s => some s
  | k + 1, i, s => (f i s).elim none (foldO f k (i + 1))
theorem loop_opt {R σ : Type} (L : Nat → Nat → σ → Option R) (K : Option σ → Option R) (n : Nat) (f : Nat → σ → Option σ) (I : Nat → σ → Prop) (hs : ∀ j i s, i < n → I i s → L (j + 1) i s = (f i s).elim (K none) (L j (i + 1))) (hI : ∀ i s s', i < n → I i s → f i s = some s' → I (i + 1) s') (he : ∀ j s, I n s → L (j + 1) n s = K (some s)) :
    ∀ k i j s, i + k = n → k < j → I i s → L j i s = K (foldO f k i s)
  | _, _, 0, _, _, h, _ => by omega
  | 0, i, j + 1, s, h, _, hi => by
    have : i = n := by omega
    subst this
    rw [he j s hi]; rfl
  | k + 1, i, j + 1, s, h, h', hi => by
    rw [hs j i s (by omega) hi, foldO]
    cases hf : f i s with
    | none => rfl
    | some s' => exact loop_opt L K n f I hs hI he k (i + 1) j s' (by omega) (by omega) (hI i s s' (by omega) hi hf)
def runO {σ : Type} (g : σ → D → Option σ) : List D → σ → Option σ
  | [], s => some s
  | x :: r, s => (g s x).elim none (runO g r)
theorem foldO_list {σ : Type} {g : σ → D → Option σ} (xs : List D) : ∀ k i s, i + k = xs.length → foldO (fun i s => g s (xs.getD i .nil)) k i s = runO g (xs.drop i) s
  | 0, i, s, h => by rw [List.drop_eq_nil_of_le (by omega)]; rfl
  | k + 1, i, s, h => by
    have hi : i < xs.length := by omega
    rw [foldO, List.drop_eq_getElem_cons hi, runO, List.getD_eq_getElem?_getD, List.getElem?_eq_getElem hi]
    simp only [Option.getD_some]
    congr 1
    funext s'
    exact foldO_list xs k (i + 1) s' (by omega)
theorem getD_at {xs : List D} {i : Nat} (h : i < xs.length) : xs.getD i .nil = xs[i] := by rw [List.getD_eq_getElem?_getD, List.getElem?_eq_getElem h]; rfl

end Go.Vam.C20
namespace Go.Vam.C20
open Go.Proofs
def sp15 (a : D) : D := .ag [.i 2, .s [], .ag [.i 0, .i 0, .f 0, .s []], a, .b false, .i 1, .sz []]
section
variable {R : Type}
def m15_0 (N : Nat) (x0 : D) (Kr : D → Option R) : Option R :=
  Kr (D.p (D.ag [(D.i 2), (D.s []), (D.ag [(D.i 0), (D.i 0), (D.f 0), (D.s [])]), x0, (D.b false), (D.i 1), (D.sz [])]))
def s15_0 (x0 : D) : St := sts 5 [(0, V.f x0)] []
def s15_1 (x2 : D) : St := sts 5 [(2, V.f x2)] []
theorem e15_0 (N : Nat) (k : Kn R) (x0 : D) : runC PHI noF N vc15_0 (s15_0 x0) k = m15_0 N x0 (fun x2 => k .ret (s15_1 x2)) := by kernel_rfl
theorem r15 (N : Nat) (x0 : D) : runC PHI noF N vf15.body (enterV vf15 [V.f x0] []) (finish vf15) = m15_0 N x0 (fun x2 => finish vf15 .ret (s15_1 x2)) := 
  Eq.trans (runC_pre (s1 := (s15_0 x0)) (by kernel_rfl) _ _) (Eq.trans (e15_0 N (finish vf15) x0) (by kernel_rfl))
end
def Tb15 : CallF := extend noF 15 (fn1 (fun _ => true) fun a => .f (sp15 a))
theorem ok15 : FnOk Try.prog PHI Tb15 := FnOk.add1 hPHI (FnOk.empty _ _) (by kernel_rfl) fun a _ _ => ⟨0, (r15 0 a).trans rfl⟩
def sp20 (q : D) : Bool := !(q.at 5).toB && ltb 0 (q.at 7).toL.length
section
variable {R : Type}
def m20_0 (N : Nat) (x0 : D) (Kr : D → Option R) : Option R :=
  (bif (!(x0.at 5).toB) then Kr (D.b (ltb 0 ((x0.at 7).toL.length : Int))) else Kr (D.b false))
def s20_0 (x0 : D) : St := sts 12 [(0, V.f x0)] []
def s20_1 (x2 : D) : St := sts 12 [(2, V.f x2)] []
theorem e20_0 (N : Nat) (k : Kn R) (x0 : D) : runC PHI Tb15 N vc20_0 (s20_0 x0) k = m20_0 N x0 (fun x2 => k .ret (s20_1 x2)) := by kernel_rfl
theorem r20 (N : Nat) (x0 : D) : runC PHI Tb15 N vf20.body (enterV vf20 [V.f x0] []) (finish vf20) = m20_0 N x0 (fun x2 => finish vf20 .ret (s20_1 x2)) := 
  Eq.trans (runC_pre (s1 := (s20_0 x0)) (by kernel_rfl) _ _) (Eq.trans (e20_0 N (finish vf20) x0) (by kernel_rfl))
end
def Tb20 : CallF := extend Tb15 20 (fn1 (fun _ => true) fun a => .f (.b (sp20 a)))
theorem ok20 : FnOk Try.prog PHI Tb20 := FnOk.add1 hPHI ok15 (by kernel_rfl) fun a _ _ => ⟨0, (r20 0 a).trans (by
  unfold m20_0 sp20
  cases h : (a.at 5).toB
  · rfl
  · rfl)⟩
def sp22 (s : D) : Bool := (s.at 1).toB
section
variable {R : Type}
def m22_0 (N : Nat) (x0 : D) (Kr : D → Option R) : Option R :=
  Kr (x0.at 1)
def s22_0 (x0 : D) : St := sts 5 [(0, V.f x0)] []
def s22_1 (x2 : D) : St := sts 5 [(2, V.f x2)] []
theorem e22_0 (N : Nat) (k : Kn R) (x0 : D) : runC PHI Tb20 N vc22_0 (s22_0 x0) k = m22_0 N x0 (fun x2 => k .ret (s22_1 x2)) := by kernel_rfl
theorem r22 (N : Nat) (x0 : D) : runC PHI Tb20 N vf22.body (enterV vf22 [V.f x0] []) (finish vf22) = m22_0 N x0 (fun x2 => finish vf22 .ret (s22_1 x2)) := 
  Eq.trans (runC_pre (s1 := (s22_0 x0)) (by kernel_rfl) _ _) (Eq.trans (e22_0 N (finish vf22) x0) (by kernel_rfl))
end
def Tb22 : CallF := extend Tb20 22 (fn1 (fun _ => true) fun a => .f (.b (sp22 a)))
theorem ok22 : FnOk Try.prog PHI Tb22 := FnOk.add1 hPHI ok20 (by kernel_rfl) fun a ha _ => ⟨0, (r22 0 a).trans (by
  unfold m22_0 sp22
  have h := ((ha.is 0 rfl rfl).fld (k := 1) (ft := 4) (off := 1) (by kernel_rfl)).bool (by kernel_rfl)
  rw [← h]; rfl)⟩
section
variable {R : Type}
def m46_0 (N : Nat) (x0 : D) (Kr : D → Option R) : Option R :=
  (bif (!(x0.at 5).toB) then Kr (D.b (ltb 0 ((x0.at 7).toL.length : Int))) else Kr (D.b false))
def s46_0 (x0 : D) : St := sts 12 [(0, V.f x0)] []
def s46_1 (x2 : D) : St := sts 12 [(2, V.f x2)] []
theorem e46_0 (N : Nat) (k : Kn R) (x0 : D) : runC PHI Tb22 N vc46_0 (s46_0 x0) k = m46_0 N x0 (fun x2 => k .ret (s46_1 x2)) := by kernel_rfl
theorem r46 (N : Nat) (x0 : D) : runC PHI Tb22 N vf46.body (enterV vf46 [V.f x0] []) (finish vf46) = m46_0 N x0 (fun x2 => finish vf46 .ret (s46_1 x2)) := 
  Eq.trans (runC_pre (s1 := (s46_0 x0)) (by kernel_rfl) _ _) (Eq.trans (e46_0 N (finish vf46) x0) (by kernel_rfl))
end
def Tb46 : CallF := extend Tb22 46 (fn1 (fun _ => true) fun a => .f (.b (sp20 a)))
theorem ok46 : FnOk Try.prog PHI Tb46 := FnOk.add1 hPHI ok22 (by kernel_rfl) fun a _ _ => ⟨0, (r46 0 a).trans (by
  unfold m46_0 sp20
  cases h : (a.at 5).toB
  · rfl
  · rfl)⟩

end Go.Vam.C20
namespace Go.Vam.C20
open Go.Proofs
def sp46 (q : D) : Bool := sp20 q
/-- The last of the first places whose number is no greater; -1: none. -/
def lastLe (bs : List D) (a : Int) : Nat → Int
  | 0 => -1
  | n + 1 => bif leb (bs.getD n .nil).toI a then (n : Int) else lastLe bs a n
theorem lastLe_lt (bs : List D) (a : Int) : ∀ n, -1 ≤ lastLe bs a n ∧ lastLe bs a n < (n : Int)
  | 0 => by simp [lastLe]
  | n + 1 => by
    have := lastLe_lt bs a n
    rw [lastLe]
    cases leb (bs.getD n .nil).toI a <;> simp only [cond_true, cond_false] <;> omega
/-- The place's table before it is asked whether there is one. -/
def rawT (q : D) (a : Int) : Int := bif leb 0 a && ltb a (q.at 2).toI then lastLe (q.at 1).toL a (q.at 1).toL.length else -1
def sp33_0 (q a : D) : Int := bif leb 0 (rawT q a.toI) then rawT q a.toI else 0
def sp33_1 (q a : D) : Int := bif leb 0 (rawT q a.toI) then IntKind.i64.wrap (a.toI - ((q.at 1).at (rawT q a.toI).toNat).toI) else 0
def sp33_2 (q a : D) : Bool := leb 0 (rawT q a.toI) && ltb (rawT q a.toI) (q.at 0).toL.length
section
variable {R : Type}
def m33_1 (N : Nat) (x0 x1 : D) (K : D → D → Option R) : Option R :=
  K x1 (D.p x0)
def s33_0 (x0 x1 : D) : St := sts 46 [(0, V.f x0), (1, V.f x1)] []
def s33_1 (x1 x2 : D) : St := sts 46 [(1, V.f x1), (2, V.f x2)] []
theorem e33_1 (N : Nat) (k : Kn R) (x0 x1 : D) : runC PHI Tb46 N vc33_1 (s33_0 x0 x1) k = m33_1 N x0 x1 (fun x1 x2 => k .normal (s33_1 x1 x2)) := by
  refine Eq.trans (runC_post _ _ _ k) (Eq.trans (ops_run _ _ _ _) (by kernel_rfl))
def m33_4 (N : Nat) (x1 x2 : D) (K : D → D → D → Option R) : Option R :=
  (bif (isPtrD x2) then K x1 x2 (D.i (IntKind.wrap IntKind.i64 (((x2.deref.at 1).toL.length : Int) - 1))) else none)
def s33_2 (x1 x2 x7 : D) : St := sts 46 [(1, V.f x1), (2, V.f x2), (7, V.f x7)] []
theorem e33_4 (N : Nat) (k : Kn R) (x1 x2 : D) : runC PHI Tb46 N vc33_4 (s33_1 x1 x2) k = m33_4 N x1 x2 (fun x1 x2 x7 => k .normal (s33_2 x1 x2 x7)) := by
  refine Eq.trans (runC_post _ _ _ k) (Eq.trans (ops_run _ _ _ _) (by kernel_rfl))
def m33_8 (N : Nat) (x1 x2 x7 : D) (K : D → D → D → Option R) (K0 : Option R) : Option R :=
  (bif (leb 0 x7.toI) then (bif (leb 0 x1.toI) then K x1 x2 x7 else K0) else (bif false then K x1 x2 x7 else K0))
def s33_3 : St := sts 46 [] []
theorem e33_8 (N : Nat) (k : Kn R) (x1 x2 x7 : D) : runC PHI Tb46 N vc33_8 (s33_2 x1 x2 x7) k = m33_8 N x1 x2 x7 (fun x1 x2 x7 => k .normal (s33_2 x1 x2 x7)) (k (.exit 0) s33_3) := by kernel_rfl
def m33_13 (N : Nat) (x1 x2 x7 : D) (K : D → D → D → Option R) (Kr : D → D → D → Option R) : Option R :=
  (bif (isPtrD x2) then (bif (inb x7.toI (x2.deref.at 1).toL.length) then (bif (leb ((x2.deref.at 1).at (x7.toI : Int).toNat).toI x1.toI) then (bif (isPtrD x2) then (bif (ltb x1.toI (x2.deref.at 2).toI) then (bif (isPtrD x2) then (bif (inb x7.toI (x2.deref.at 1).toL.length) then (bif (isPtrD x2) then Kr x7 (D.i (IntKind.wrap IntKind.i64 (x1.toI - ((x2.deref.at 1).at (x7.toI : Int).toNat).toI))) (D.b (ltb x7.toI ((x2.deref.at 0).toL.length : Int))) else none) else none) else none) else K x1 x2 (D.i (IntKind.wrap IntKind.i64 (x7.toI - 1)))) else none) else (bif false then (bif (isPtrD x2) then (bif (inb x7.toI (x2.deref.at 1).toL.length) then (bif (isPtrD x2) then Kr x7 (D.i (IntKind.wrap IntKind.i64 (x1.toI - ((x2.deref.at 1).at (x7.toI : Int).toNat).toI))) (D.b (ltb x7.toI ((x2.deref.at 0).toL.length : Int))) else none) else none) else none) else K x1 x2 (D.i (IntKind.wrap IntKind.i64 (x7.toI - 1))))) else none) else none)
def s33_4 (x4 x5 x6 : D) : St := sts 46 [(4, V.f x4), (5, V.f x5), (6, V.f x6)] []
theorem e33_13 (N : Nat) (k : Kn R) (x1 x2 x7 : D) : runC PHI Tb46 N vc33_13 (s33_2 x1 x2 x7) k = m33_13 N x1 x2 x7 (fun x1 x2 x7 => k .normal (s33_2 x1 x2 x7)) (fun x4 x5 x6 => k .ret (s33_4 x4 x5 x6)) := by kernel_rfl
def m33_7 (N : Nat) (x1 x2 x7 : D) (K : D → D → D → Option R) (K0 : Option R) (Kr : D → D → D → Option R) : Option R :=
  (m33_8 N x1 x2 x7 (fun y1 y2 y7 => (m33_13 N y1 y2 y7 (fun y1 y2 y7 => K y1 y2 y7) Kr)) K0)
theorem e33_7 (N : Nat) (k : Kn R) (x1 x2 x7 : D) : runC PHI Tb46 N vc33_7 (s33_2 x1 x2 x7) k = m33_7 N x1 x2 x7 (fun x1 x2 x7 => k .normal (s33_2 x1 x2 x7)) (k (.exit 0) s33_3) (fun x4 x5 x6 => k .ret (s33_4 x4 x5 x6)) := by
  have h2 := e33_8 N (kseq PHI Tb46 N vc33_13 k) x1 x2 x7
  have h3 := (funext fun y1 => funext fun y2 => funext fun y7 => (e33_13 N k y1 y2 y7) : (fun (y1 y2 y7 : D) => (kseq PHI Tb46 N vc33_13 k) .normal (s33_2 y1 y2 y7)) = _)
  refine Eq.trans (runC_seq _ _ _ k) (Eq.trans h2 (Eq.trans (congrArg (fun K => m33_8 N x1 x2 x7 K ((kseq PHI Tb46 N vc33_13 k) (.exit 0) s33_3)) h3) (by kernel_rfl)))
def l33_6 (N : Nat) (j : Nat) (x1 x2 x7 : D) (K0 : Option R) (Kr : D → D → D → Option R) : Option R :=
  match j with
  | 0 => none
  | j + 1 => (m33_7 N x1 x2 x7 (fun y1 y2 y7 => l33_6 N j y1 y2 y7 K0 Kr) K0 Kr)
def m33_6 (N : Nat) (x1 x2 x7 : D) (K0 : Option R) (Kr : D → D → D → Option R) : Option R :=
  l33_6 N N x1 x2 x7 K0 Kr
theorem el33_6 (N : Nat) (k : Kn R) : ∀ (j : Nat) (x1 x2 x7 : D), loopGo (runC PHI Tb46 N vc33_7) j (s33_2 x1 x2 x7) k = l33_6 N j x1 x2 x7 (k (.exit 0) s33_3) (fun x4 x5 x6 => k .ret (s33_4 x4 x5 x6))
  | 0, _, _, _ => by kernel_rfl
  | j + 1, x1, x2, x7 => by
    have h2 := e33_7 N (kloop PHI Tb46 N vc33_7 j k) x1 x2 x7
    have h3 : (fun (y1 y2 y7 : D) => (kloop PHI Tb46 N vc33_7 j k) .normal (s33_2 y1 y2 y7)) = (fun (y1 y2 y7 : D) => l33_6 N j y1 y2 y7 (k (.exit 0) s33_3) (fun x4 x5 x6 => k .ret (s33_4 x4 x5 x6))) := funext fun y1 => funext fun y2 => funext fun y7 => (el33_6 N k j y1 y2 y7)
    refine Eq.trans (loop_succ _ j _ k) (Eq.trans h2 (Eq.trans (congrArg (fun K => m33_7 N x1 x2 x7 K ((kloop PHI Tb46 N vc33_7 j k) (.exit 0) s33_3) (fun x4 x5 x6 => (kloop PHI Tb46 N vc33_7 j k) .ret (s33_4 x4 x5 x6))) h3) (by kernel_rfl)))
theorem e33_6 (N : Nat) (k : Kn R) (x1 x2 x7 : D) : runC PHI Tb46 N vc33_6 (s33_2 x1 x2 x7) k = m33_6 N x1 x2 x7 (k (.exit 0) s33_3) (fun x4 x5 x6 => k .ret (s33_4 x4 x5 x6)) := by
  refine Eq.trans (runC_loop _ _ k) (Eq.trans (el33_6 N k N x1 x2 x7) (by kernel_rfl))
def m33_5 (N : Nat) (x1 x2 x7 : D) (K : Option R) (Kr : D → D → D → Option R) : Option R :=
  (m33_6 N x1 x2 x7 (K) Kr)
theorem e33_5 (N : Nat) (k : Kn R) (x1 x2 x7 : D) : runC PHI Tb46 N vc33_5 (s33_2 x1 x2 x7) k = m33_5 N x1 x2 x7 (k .normal s33_3) (fun x4 x5 x6 => k .ret (s33_4 x4 x5 x6)) := by
  refine Eq.trans (runC_block _ _ _ k) (Eq.trans (e33_6 N (kblk 0 k) x1 x2 x7) (by kernel_rfl))
def m33_3 (N : Nat) (x1 x2 : D) (K : Option R) (Kr : D → D → D → Option R) : Option R :=
  (m33_4 N x1 x2 (fun y1 y2 y7 => (m33_5 N y1 y2 y7 (K) Kr)))
theorem e33_3 (N : Nat) (k : Kn R) (x1 x2 : D) : runC PHI Tb46 N vc33_3 (s33_1 x1 x2) k = m33_3 N x1 x2 (k .normal s33_3) (fun x4 x5 x6 => k .ret (s33_4 x4 x5 x6)) := by
  have h2 := e33_4 N (kseq PHI Tb46 N vc33_5 k) x1 x2
  have h3 := (funext fun y1 => funext fun y2 => funext fun y7 => (e33_5 N k y1 y2 y7) : (fun (y1 y2 y7 : D) => (kseq PHI Tb46 N vc33_5 k) .normal (s33_2 y1 y2 y7)) = _)
  refine Eq.trans (runC_seq _ _ _ k) (Eq.trans h2 (Eq.trans (congrArg (fun K => m33_4 N x1 x2 K) h3) (by kernel_rfl)))
def m33_23 (N : Nat) (Kr : D → D → D → Option R) : Option R :=
  Kr (D.i 0) (D.i 0) (D.b false)
theorem e33_23 (N : Nat) (k : Kn R) : runC PHI Tb46 N vc33_23 s33_3 k = m33_23 N (fun x4 x5 x6 => k .ret (s33_4 x4 x5 x6)) := by kernel_rfl
def m33_2 (N : Nat) (x1 x2 : D) (Kr : D → D → D → Option R) : Option R :=
  (m33_3 N x1 x2 ((m33_23 N Kr)) Kr)
theorem e33_2 (N : Nat) (k : Kn R) (x1 x2 : D) : runC PHI Tb46 N vc33_2 (s33_1 x1 x2) k = m33_2 N x1 x2 (fun x4 x5 x6 => k .ret (s33_4 x4 x5 x6)) := by
  have h2 := e33_3 N (kseq PHI Tb46 N vc33_23 k) x1 x2
  have h3 := ((e33_23 N k ) : ((kseq PHI Tb46 N vc33_23 k) .normal s33_3) = _)
  refine Eq.trans (runC_seq _ _ _ k) (Eq.trans h2 (Eq.trans (congrArg (fun K => m33_3 N x1 x2 K (fun x4 x5 x6 => (kseq PHI Tb46 N vc33_23 k) .ret (s33_4 x4 x5 x6))) h3) (by kernel_rfl)))
def m33_0 (N : Nat) (x0 x1 : D) (Kr : D → D → D → Option R) : Option R :=
  (m33_1 N x0 x1 (fun y1 y2 => (m33_2 N y1 y2 Kr)))
theorem e33_0 (N : Nat) (k : Kn R) (x0 x1 : D) : runC PHI Tb46 N vc33_0 (s33_0 x0 x1) k = m33_0 N x0 x1 (fun x4 x5 x6 => k .ret (s33_4 x4 x5 x6)) := by
  have h2 := e33_1 N (kseq PHI Tb46 N vc33_2 k) x0 x1
  have h3 := (funext fun y1 => funext fun y2 => (e33_2 N k y1 y2) : (fun (y1 y2 : D) => (kseq PHI Tb46 N vc33_2 k) .normal (s33_1 y1 y2)) = _)
  refine Eq.trans (runC_seq _ _ _ k) (Eq.trans h2 (Eq.trans (congrArg (fun K => m33_1 N x0 x1 K) h3) (by kernel_rfl)))
theorem r33 (N : Nat) (x0 x1 : D) : runC PHI Tb46 N vf33.body (enterV vf33 [V.f x0, V.f x1] []) (finish vf33) = m33_0 N x0 x1 (fun x4 x5 x6 => finish vf33 .ret (s33_4 x4 x5 x6)) := 
  Eq.trans (runC_pre (s1 := (s33_0 x0 x1)) (by kernel_rfl) _ _) (Eq.trans (e33_0 N (finish vf33) x0 x1) (by kernel_rfl))
end
section
variable {R : Type}
theorem l33 (N : Nat) (a q : D) (K0 : Option R) (Kr : D → D → D → Option R) (hl : (q.at 1).toL.length ≤ 9223372036854775807) : ∀ (n j : Nat), n < j → n ≤ (q.at 1).toL.length →
    l33_6 N j a (.p q) (.i ((n : Int) - 1)) K0 Kr = bif leb 0 a.toI && ltb a.toI (q.at 2).toI && leb 0 (lastLe (q.at 1).toL a.toI n) then
      Kr (.i (lastLe (q.at 1).toL a.toI n)) (.i (IntKind.i64.wrap (a.toI - ((q.at 1).at (lastLe (q.at 1).toL a.toI n).toNat).toI))) (.b (ltb (lastLe (q.at 1).toL a.toI n) (q.at 0).toL.length)) else K0
  | _, 0, h, _ => by omega
  | 0, j + 1, _, _ => by
    simp only [l33_6, m33_7, m33_8, toI_i, lastLe, leb_f (show ¬ (0 : Int) ≤ ((0 : Nat) : Int) - 1 by simp), leb_f (show ¬ (0 : Int) ≤ -1 by simp), cond_false, Bool.and_false]
  | n + 1, j + 1, h, hn => by
    have e : ((n + 1 : Nat) : Int) - 1 = n := by omega
    have ew : IntKind.i64.wrap ((n : Int) - 1) = (n : Int) - 1 := wrap64_id (by omega) (by omega)
    have ih := l33 N a q K0 Kr hl n j (by omega) (by omega)
    have hnl : n < (q.at 1).toL.length := by omega
    rw [l33_6, e]
    have h0 : (0 : Int) ≤ (n : Int) := by omega
    simp only [m33_7, m33_8, m33_13, isPtr_p, deref_p, toI_i, cond_true, ew, inb_t hnl, leb_t h0, lastLe, at_nat]
    cases ha : leb 0 a.toI
    · simp only [cond_false, Bool.false_and]
    · simp only [cond_true, Bool.true_and]
      cases hb : leb ((q.at 1).toL.getD n .nil).toI a.toI
      · simp only [cond_false]
        rw [ih, ha]
        simp only [Bool.true_and]
      · cases hw : ltb a.toI (q.at 2).toI
        · simp only [cond_false, cond_true, Bool.false_and]
          rw [ih, hw]
          simp only [Bool.and_false, Bool.false_and, cond_false]
        · simp only [cond_true, leb_t h0, Bool.true_and]
          rfl
end
def Tb33 : CallF := extend Tb46 33 (fn2 (fun _ _ => true) fun q a => .t [.f (.i (sp33_0 q a)), .f (.i (sp33_1 q a)), .f (.b (sp33_2 q a))])
theorem ok33 : FnOk Try.prog PHI Tb33 := FnOk.add2 hPHI ok46 (by kernel_rfl) fun q a ha _ => ⟨(q.at 1).toL.length + 1, (r33 _ q a).trans (by
  have hl := ((ha.is 0 rfl rfl).fld (k := 1) (ft := 22) (off := 1) (by kernel_rfl)).len' (e := 3) (by kernel_rfl)
  have ew : IntKind.i64.wrap (((q.at 1).toL.length : Int) - 1) = ((q.at 1).toL.length : Int) - 1 := wrap64_id (by omega) (by omega)
  simp only [m33_0, m33_1, m33_2, m33_3, m33_4, m33_5, m33_6, m33_23, isPtr_p, deref_p, cond_true, ew]
  rw [l33 _ a q _ _ hl _ _ (by omega) (Nat.le_refl _)]
  unfold sp33_0 sp33_1 sp33_2 rawT
  cases hc : leb 0 a.toI && ltb a.toI (q.at 2).toI
  · simp only [Bool.false_and, cond_false]; rfl
  · simp only [Bool.true_and, cond_true]
    cases hd : leb 0 (lastLe (q.at 1).toL a.toI (q.at 1).toL.length) <;> rfl)⟩

end Go.Vam.C20
namespace Go.Vam.C20
open Go.Proofs
/-- The table of a place; -1: none. -/
def sp43 (q a : D) : Int := bif leb 0 (rawT q a.toI) && ltb (rawT q a.toI) (q.at 0).toL.length then rawT q a.toI else -1
section
variable {R : Type}
def m43_1 (N : Nat) (x0 x1 : D) (K : D → D → Option R) : Option R :=
  K x1 (D.p x0)
def s43_0 (x0 x1 : D) : St := sts 36 [(0, V.f x0), (1, V.f x1)] []
def s43_1 (x1 x2 : D) : St := sts 36 [(1, V.f x1), (2, V.f x2)] []
theorem e43_1 (N : Nat) (k : Kn R) (x0 x1 : D) : runC PHI Tb33 N vc43_1 (s43_0 x0 x1) k = m43_1 N x0 x1 (fun x1 x2 => k .normal (s43_1 x1 x2)) := by
  refine Eq.trans (runC_post _ _ _ k) (Eq.trans (ops_run _ _ _ _) (by kernel_rfl))
def m43_3 (N : Nat) (x1 x2 : D) (K : D → D → Option R) (Kr : D → Option R) : Option R :=
  (bif (ltb x1.toI 0) then (bif true then Kr (D.i (-1)) else K x1 x2) else (bif (isPtrD x2) then (bif (leb (x2.deref.at 2).toI x1.toI) then Kr (D.i (-1)) else K x1 x2) else none))
def s43_2 (x4 : D) : St := sts 36 [(4, V.f x4)] []
theorem e43_3 (N : Nat) (k : Kn R) (x1 x2 : D) : runC PHI Tb33 N vc43_3 (s43_1 x1 x2) k = m43_3 N x1 x2 (fun x1 x2 => k .normal (s43_1 x1 x2)) (fun x4 => k .ret (s43_2 x4)) := by kernel_rfl
def m43_11 (N : Nat) (x1 x2 : D) (K : D → D → D → Option R) : Option R :=
  K x1 x2 (D.i (-1))
def s43_3 (x1 x2 x5 : D) : St := sts 36 [(1, V.f x1), (2, V.f x2), (5, V.f x5)] []
theorem e43_11 (N : Nat) (k : Kn R) (x1 x2 : D) : runC PHI Tb33 N vc43_11 (s43_1 x1 x2) k = m43_11 N x1 x2 (fun x1 x2 x5 => k .normal (s43_3 x1 x2 x5)) := by
  refine Eq.trans (runC_post _ _ _ k) (Eq.trans (ops_run _ _ _ _) (by kernel_rfl))
def m43_14 (N : Nat) (x1 x2 x5 : D) (K : D → D → D → D → Option R) : Option R :=
  K x1 x2 x5 (D.i 0)
def s43_4 (x1 x2 x5 x6 : D) : St := sts 36 [(1, V.f x1), (2, V.f x2), (5, V.f x5), (6, V.f x6)] []
theorem e43_14 (N : Nat) (k : Kn R) (x1 x2 x5 : D) : runC PHI Tb33 N vc43_14 (s43_3 x1 x2 x5) k = m43_14 N x1 x2 x5 (fun x1 x2 x5 x6 => k .normal (s43_4 x1 x2 x5 x6)) := by
  refine Eq.trans (runC_post _ _ _ k) (Eq.trans (ops_run _ _ _ _) (by kernel_rfl))
def m43_17 (N : Nat) (x1 x2 x5 x6 : D) (K : D → D → D → D → Option R) (K0 : D → D → Option R) : Option R :=
  (bif (isPtrD x2) then (bif (ltb x6.toI ((x2.deref.at 1).toL.length : Int)) then (bif (isPtrD x2) then (bif (inb x6.toI (x2.deref.at 1).toL.length) then (bif (leb ((x2.deref.at 1).at (x6.toI : Int).toNat).toI x1.toI) then K x1 x2 x6 (D.i (IntKind.wrap IntKind.i64 (x6.toI + 1))) else K x1 x2 x5 (D.i (IntKind.wrap IntKind.i64 (x6.toI + 1)))) else none) else none) else K0 x2 x5) else none)
def s43_5 (x2 x5 : D) : St := sts 36 [(2, V.f x2), (5, V.f x5)] []
theorem e43_17 (N : Nat) (k : Kn R) (x1 x2 x5 x6 : D) : runC PHI Tb33 N vc43_17 (s43_4 x1 x2 x5 x6) k = m43_17 N x1 x2 x5 x6 (fun x1 x2 x5 x6 => k .normal (s43_4 x1 x2 x5 x6)) (fun x2 x5 => k (.exit 0) (s43_5 x2 x5)) := by kernel_rfl
def l43_16 (N : Nat) (j : Nat) (x1 x2 x5 x6 : D) (K0 : D → D → Option R) : Option R :=
  match j with
  | 0 => none
  | j + 1 => (m43_17 N x1 x2 x5 x6 (fun y1 y2 y5 y6 => l43_16 N j y1 y2 y5 y6 K0) K0)
def m43_16 (N : Nat) (x1 x2 x5 x6 : D) (K0 : D → D → Option R) : Option R :=
  l43_16 N N x1 x2 x5 x6 K0
theorem el43_16 (N : Nat) (k : Kn R) : ∀ (j : Nat) (x1 x2 x5 x6 : D), loopGo (runC PHI Tb33 N vc43_17) j (s43_4 x1 x2 x5 x6) k = l43_16 N j x1 x2 x5 x6 (fun x2 x5 => k (.exit 0) (s43_5 x2 x5))
  | 0, _, _, _, _ => by kernel_rfl
  | j + 1, x1, x2, x5, x6 => by
    have h2 := e43_17 N (kloop PHI Tb33 N vc43_17 j k) x1 x2 x5 x6
    have h3 : (fun (y1 y2 y5 y6 : D) => (kloop PHI Tb33 N vc43_17 j k) .normal (s43_4 y1 y2 y5 y6)) = (fun (y1 y2 y5 y6 : D) => l43_16 N j y1 y2 y5 y6 (fun x2 x5 => k (.exit 0) (s43_5 x2 x5))) := funext fun y1 => funext fun y2 => funext fun y5 => funext fun y6 => (el43_16 N k j y1 y2 y5 y6)
    refine Eq.trans (loop_succ _ j _ k) (Eq.trans h2 (Eq.trans (congrArg (fun K => m43_17 N x1 x2 x5 x6 K (fun x2 x5 => (kloop PHI Tb33 N vc43_17 j k) (.exit 0) (s43_5 x2 x5))) h3) (by kernel_rfl)))
theorem e43_16 (N : Nat) (k : Kn R) (x1 x2 x5 x6 : D) : runC PHI Tb33 N vc43_16 (s43_4 x1 x2 x5 x6) k = m43_16 N x1 x2 x5 x6 (fun x2 x5 => k (.exit 0) (s43_5 x2 x5)) := by
  refine Eq.trans (runC_loop _ _ k) (Eq.trans (el43_16 N k N x1 x2 x5 x6) (by kernel_rfl))
def m43_15 (N : Nat) (x1 x2 x5 x6 : D) (K : D → D → Option R) : Option R :=
  (m43_16 N x1 x2 x5 x6 (fun y2 y5 => K y2 y5))
theorem e43_15 (N : Nat) (k : Kn R) (x1 x2 x5 x6 : D) : runC PHI Tb33 N vc43_15 (s43_4 x1 x2 x5 x6) k = m43_15 N x1 x2 x5 x6 (fun x2 x5 => k .normal (s43_5 x2 x5)) := by
  refine Eq.trans (runC_block _ _ _ k) (Eq.trans (e43_16 N (kblk 0 k) x1 x2 x5 x6) (by kernel_rfl))
def m43_13 (N : Nat) (x1 x2 x5 : D) (K : D → D → Option R) : Option R :=
  (m43_14 N x1 x2 x5 (fun y1 y2 y5 y6 => (m43_15 N y1 y2 y5 y6 (fun y2 y5 => K y2 y5))))
theorem e43_13 (N : Nat) (k : Kn R) (x1 x2 x5 : D) : runC PHI Tb33 N vc43_13 (s43_3 x1 x2 x5) k = m43_13 N x1 x2 x5 (fun x2 x5 => k .normal (s43_5 x2 x5)) := by
  have h2 := e43_14 N (kseq PHI Tb33 N vc43_15 k) x1 x2 x5
  have h3 := (funext fun y1 => funext fun y2 => funext fun y5 => funext fun y6 => (e43_15 N k y1 y2 y5 y6) : (fun (y1 y2 y5 y6 : D) => (kseq PHI Tb33 N vc43_15 k) .normal (s43_4 y1 y2 y5 y6)) = _)
  refine Eq.trans (runC_seq _ _ _ k) (Eq.trans h2 (Eq.trans (congrArg (fun K => m43_14 N x1 x2 x5 K) h3) (by kernel_rfl)))
def m43_31 (N : Nat) (x2 x5 : D) (Kr : D → Option R) : Option R :=
  (bif (isPtrD x2) then (bif (leb ((x2.deref.at 0).toL.length : Int) x5.toI) then Kr (D.i (-1)) else Kr x5) else none)
theorem e43_31 (N : Nat) (k : Kn R) (x2 x5 : D) : runC PHI Tb33 N vc43_31 (s43_5 x2 x5) k = m43_31 N x2 x5 (fun x4 => k .ret (s43_2 x4)) := by kernel_rfl
def m43_12 (N : Nat) (x1 x2 x5 : D) (Kr : D → Option R) : Option R :=
  (m43_13 N x1 x2 x5 (fun y2 y5 => (m43_31 N y2 y5 Kr)))
theorem e43_12 (N : Nat) (k : Kn R) (x1 x2 x5 : D) : runC PHI Tb33 N vc43_12 (s43_3 x1 x2 x5) k = m43_12 N x1 x2 x5 (fun x4 => k .ret (s43_2 x4)) := by
  have h2 := e43_13 N (kseq PHI Tb33 N vc43_31 k) x1 x2 x5
  have h3 := (funext fun y2 => funext fun y5 => (e43_31 N k y2 y5) : (fun (y2 y5 : D) => (kseq PHI Tb33 N vc43_31 k) .normal (s43_5 y2 y5)) = _)
  refine Eq.trans (runC_seq _ _ _ k) (Eq.trans h2 (Eq.trans (congrArg (fun K => m43_13 N x1 x2 x5 K) h3) (by kernel_rfl)))
def m43_10 (N : Nat) (x1 x2 : D) (Kr : D → Option R) : Option R :=
  (m43_11 N x1 x2 (fun y1 y2 y5 => (m43_12 N y1 y2 y5 Kr)))
theorem e43_10 (N : Nat) (k : Kn R) (x1 x2 : D) : runC PHI Tb33 N vc43_10 (s43_1 x1 x2) k = m43_10 N x1 x2 (fun x4 => k .ret (s43_2 x4)) := by
  have h2 := e43_11 N (kseq PHI Tb33 N vc43_12 k) x1 x2
  have h3 := (funext fun y1 => funext fun y2 => funext fun y5 => (e43_12 N k y1 y2 y5) : (fun (y1 y2 y5 : D) => (kseq PHI Tb33 N vc43_12 k) .normal (s43_3 y1 y2 y5)) = _)
  refine Eq.trans (runC_seq _ _ _ k) (Eq.trans h2 (Eq.trans (congrArg (fun K => m43_11 N x1 x2 K) h3) (by kernel_rfl)))
def m43_2 (N : Nat) (x1 x2 : D) (Kr : D → Option R) : Option R :=
  (m43_3 N x1 x2 (fun y1 y2 => (m43_10 N y1 y2 Kr)) Kr)
theorem e43_2 (N : Nat) (k : Kn R) (x1 x2 : D) : runC PHI Tb33 N vc43_2 (s43_1 x1 x2) k = m43_2 N x1 x2 (fun x4 => k .ret (s43_2 x4)) := by
  have h2 := e43_3 N (kseq PHI Tb33 N vc43_10 k) x1 x2
  have h3 := (funext fun y1 => funext fun y2 => (e43_10 N k y1 y2) : (fun (y1 y2 : D) => (kseq PHI Tb33 N vc43_10 k) .normal (s43_1 y1 y2)) = _)
  refine Eq.trans (runC_seq _ _ _ k) (Eq.trans h2 (Eq.trans (congrArg (fun K => m43_3 N x1 x2 K (fun x4 => (kseq PHI Tb33 N vc43_10 k) .ret (s43_2 x4))) h3) (by kernel_rfl)))
def m43_0 (N : Nat) (x0 x1 : D) (Kr : D → Option R) : Option R :=
  (m43_1 N x0 x1 (fun y1 y2 => (m43_2 N y1 y2 Kr)))
theorem e43_0 (N : Nat) (k : Kn R) (x0 x1 : D) : runC PHI Tb33 N vc43_0 (s43_0 x0 x1) k = m43_0 N x0 x1 (fun x4 => k .ret (s43_2 x4)) := by
  have h2 := e43_1 N (kseq PHI Tb33 N vc43_2 k) x0 x1
  have h3 := (funext fun y1 => funext fun y2 => (e43_2 N k y1 y2) : (fun (y1 y2 : D) => (kseq PHI Tb33 N vc43_2 k) .normal (s43_1 y1 y2)) = _)
  refine Eq.trans (runC_seq _ _ _ k) (Eq.trans h2 (Eq.trans (congrArg (fun K => m43_1 N x0 x1 K) h3) (by kernel_rfl)))
theorem r43 (N : Nat) (x0 x1 : D) : runC PHI Tb33 N vf43.body (enterV vf43 [V.f x0, V.f x1] []) (finish vf43) = m43_0 N x0 x1 (fun x4 => finish vf43 .ret (s43_2 x4)) := 
  Eq.trans (runC_pre (s1 := (s43_0 x0 x1)) (by kernel_rfl) _ _) (Eq.trans (e43_0 N (finish vf43) x0 x1) (by kernel_rfl))
end
def Tb43 : CallF := extend Tb33 43 (fn2 (fun _ _ => true) fun q a => .f (.i (sp43 q a)))
theorem ok43 : FnOk Try.prog PHI Tb43 := FnOk.add2 hPHI ok33 (by kernel_rfl) fun q a ha _ => ⟨(q.at 1).toL.length + 1, (r43 _ q a).trans (by
  have hl := ((ha.is 0 rfl rfl).fld (k := 1) (ft := 22) (off := 1) (by kernel_rfl)).len' (e := 3) (by kernel_rfl)
  simp only [m43_0, m43_1, m43_2, m43_3, m43_10, m43_11, m43_12, m43_13, m43_14, m43_15, m43_16, m43_31, isPtr_p, deref_p, cond_true]
  unfold sp43 rawT
  have hlp := loop_fold (fun j i s => l43_16 ((q.at 1).toL.length + 1) j a (.p q) (.i s) (.i (i : Nat)) fun y2 y5 => bif isPtrD y2 then (bif leb ((y2.deref.at 0).toL.length : Int) y5.toI then finish vf43 .ret (s43_2 (.i (-1))) else finish vf43 .ret (s43_2 y5)) else none)
    (fun s => bif leb ((q.at 0).toL.length : Int) s then finish vf43 .ret (s43_2 (.i (-1))) else finish vf43 .ret (s43_2 (.i s))) (q.at 1).toL.length (fun i s => bif leb ((q.at 1).toL.getD i .nil).toI a.toI then (i : Int) else s) (fun i s => s = lastLe (q.at 1).toL a.toI i)
    (fun j i s hi hs => by
      simp only [l43_16, m43_17, isPtr_p, deref_p, toI_i, cond_true, ltb_t (show (i : Int) < ((q.at 1).toL.length : Int) by omega), inb_t hi, at_nat, succ_nat (show i < 9223372036854775807 by omega)]
      cases leb ((q.at 1).toL.getD i .nil).toI a.toI <;> rfl)
    (fun i s _ hs => by subst hs; rfl)
    (fun j s _ => by simp only [l43_16, m43_17, isPtr_p, deref_p, toI_i, cond_true, ltb_f (show ¬ ((q.at 1).toL.length : Int) < ((q.at 1).toL.length : Int) by omega), cond_false])
  have hin := foldI_inv (n := (q.at 1).toL.length) (f := fun i s => bif leb ((q.at 1).toL.getD i .nil).toI a.toI then (i : Int) else s) (I := fun i s => s = lastLe (q.at 1).toL a.toI i) (fun i s _ hs => by subst hs; rfl) (q.at 1).toL.length 0 (-1) (by omega) rfl
  have h2 := hlp (q.at 1).toL.length 0 ((q.at 1).toL.length + 1) (-1) (by omega) (by omega) rfl
  rw [hin] at h2
  have hb := lastLe_lt (q.at 1).toL a.toI (q.at 1).toL.length
  simp only [Int.natCast_zero] at h2
  by_cases ha0 : a.toI < 0
  · simp only [ltb_t ha0, cond_true, leb_f (show ¬ 0 ≤ a.toI by omega), Bool.false_and, cond_false]; rfl
  · simp only [ltb_f ha0, cond_false, leb_t (show 0 ≤ a.toI by omega), Bool.true_and]
    by_cases hw : (q.at 2).toI ≤ a.toI
    · simp only [leb_t hw, cond_true, ltb_f (show ¬ a.toI < (q.at 2).toI by omega), cond_false]; rfl
    · simp only [leb_f hw, cond_false, ltb_t (show a.toI < (q.at 2).toI by omega), cond_true]
      rw [h2]
      generalize lastLe (q.at 1).toL a.toI (q.at 1).toL.length = r at *
      by_cases hr : ((q.at 0).toL.length : Int) ≤ r
      · simp only [leb_t hr, ltb_f (show ¬ r < ((q.at 0).toL.length : Int) by omega), Bool.and_false, cond_true, cond_false]; rfl
      · by_cases h0 : 0 ≤ r
        · simp only [leb_f hr, ltb_t (show r < ((q.at 0).toL.length : Int) by omega), leb_t h0, Bool.and_true, cond_true, cond_false]; rfl
        · have : r = -1 := by omega
          subst this
          simp only [leb_f hr, leb_f h0, Bool.false_and, cond_false]; rfl)⟩
def sp47 (s v : D) : Int := fst (fun i => eqL v.toS (s.toL.getD i .nil).toS) s.toL.length 0
section
variable {R : Type}
def m47_1 (N : Nat) (x0 x1 : D) (K : D → D → Option R) : Option R :=
  K x0 x1
def s47_0 (x0 x1 : D) : St := sts 19 [(0, V.f x0), (1, V.f x1)] []
theorem e47_1 (N : Nat) (k : Kn R) (x0 x1 : D) : runC PHI Tb43 N vc47_1 (s47_0 x0 x1) k = m47_1 N x0 x1 (fun x0 x1 => k .normal (s47_0 x0 x1)) := by
  refine Eq.trans (runC_post _ _ _ k) (Eq.trans (ops_run _ _ _ _) (by kernel_rfl))
def m47_4 (N : Nat) (x0 x1 : D) (K : D → D → D → D → Option R) : Option R :=
  K x0 x1 (D.i (x0.toL.length : Int)) (D.i 0)
def s47_1 (x0 x1 x7 x8 : D) : St := sts 19 [(0, V.f x0), (1, V.f x1), (7, V.f x7), (8, V.f x8)] []
theorem e47_4 (N : Nat) (k : Kn R) (x0 x1 : D) : runC PHI Tb43 N vc47_4 (s47_0 x0 x1) k = m47_4 N x0 x1 (fun x0 x1 x7 x8 => k .normal (s47_1 x0 x1 x7 x8)) := by
  refine Eq.trans (runC_post _ _ _ k) (Eq.trans (ops_run _ _ _ _) (by kernel_rfl))
def m47_7 (N : Nat) (x0 x1 x7 x8 : D) (K : D → D → D → D → Option R) (K0 : Option R) (Kr : D → Option R) : Option R :=
  (bif (ltb x8.toI x7.toI) then (bif (inb x8.toI x0.toL.length) then (bif (eqL x1.toS (x0.at (x8.toI : Int).toNat).toS) then Kr x8 else K x0 x1 x7 (D.i (IntKind.wrap IntKind.i64 (x8.toI + 1)))) else none) else K0)
def s47_2 : St := sts 19 [] []
def s47_3 (x4 : D) : St := sts 19 [(4, V.f x4)] []
theorem e47_7 (N : Nat) (k : Kn R) (x0 x1 x7 x8 : D) : runC PHI Tb43 N vc47_7 (s47_1 x0 x1 x7 x8) k = m47_7 N x0 x1 x7 x8 (fun x0 x1 x7 x8 => k .normal (s47_1 x0 x1 x7 x8)) (k (.exit 0) s47_2) (fun x4 => k .ret (s47_3 x4)) := by kernel_rfl
def l47_6 (N : Nat) (j : Nat) (x0 x1 x7 x8 : D) (K0 : Option R) (Kr : D → Option R) : Option R :=
  match j with
  | 0 => none
  | j + 1 => (m47_7 N x0 x1 x7 x8 (fun y0 y1 y7 y8 => l47_6 N j y0 y1 y7 y8 K0 Kr) K0 Kr)
def m47_6 (N : Nat) (x0 x1 x7 x8 : D) (K0 : Option R) (Kr : D → Option R) : Option R :=
  l47_6 N N x0 x1 x7 x8 K0 Kr
theorem el47_6 (N : Nat) (k : Kn R) : ∀ (j : Nat) (x0 x1 x7 x8 : D), loopGo (runC PHI Tb43 N vc47_7) j (s47_1 x0 x1 x7 x8) k = l47_6 N j x0 x1 x7 x8 (k (.exit 0) s47_2) (fun x4 => k .ret (s47_3 x4))
  | 0, _, _, _, _ => by kernel_rfl
  | j + 1, x0, x1, x7, x8 => by
    have h2 := e47_7 N (kloop PHI Tb43 N vc47_7 j k) x0 x1 x7 x8
    have h3 : (fun (y0 y1 y7 y8 : D) => (kloop PHI Tb43 N vc47_7 j k) .normal (s47_1 y0 y1 y7 y8)) = (fun (y0 y1 y7 y8 : D) => l47_6 N j y0 y1 y7 y8 (k (.exit 0) s47_2) (fun x4 => k .ret (s47_3 x4))) := funext fun y0 => funext fun y1 => funext fun y7 => funext fun y8 => (el47_6 N k j y0 y1 y7 y8)
    refine Eq.trans (loop_succ _ j _ k) (Eq.trans h2 (Eq.trans (congrArg (fun K => m47_7 N x0 x1 x7 x8 K ((kloop PHI Tb43 N vc47_7 j k) (.exit 0) s47_2) (fun x4 => (kloop PHI Tb43 N vc47_7 j k) .ret (s47_3 x4))) h3) (by kernel_rfl)))
theorem e47_6 (N : Nat) (k : Kn R) (x0 x1 x7 x8 : D) : runC PHI Tb43 N vc47_6 (s47_1 x0 x1 x7 x8) k = m47_6 N x0 x1 x7 x8 (k (.exit 0) s47_2) (fun x4 => k .ret (s47_3 x4)) := by
  refine Eq.trans (runC_loop _ _ k) (Eq.trans (el47_6 N k N x0 x1 x7 x8) (by kernel_rfl))
def m47_5 (N : Nat) (x0 x1 x7 x8 : D) (K : Option R) (Kr : D → Option R) : Option R :=
  (m47_6 N x0 x1 x7 x8 (K) Kr)
theorem e47_5 (N : Nat) (k : Kn R) (x0 x1 x7 x8 : D) : runC PHI Tb43 N vc47_5 (s47_1 x0 x1 x7 x8) k = m47_5 N x0 x1 x7 x8 (k .normal s47_2) (fun x4 => k .ret (s47_3 x4)) := by
  refine Eq.trans (runC_block _ _ _ k) (Eq.trans (e47_6 N (kblk 0 k) x0 x1 x7 x8) (by kernel_rfl))
def m47_3 (N : Nat) (x0 x1 : D) (K : Option R) (Kr : D → Option R) : Option R :=
  (m47_4 N x0 x1 (fun y0 y1 y7 y8 => (m47_5 N y0 y1 y7 y8 (K) Kr)))
theorem e47_3 (N : Nat) (k : Kn R) (x0 x1 : D) : runC PHI Tb43 N vc47_3 (s47_0 x0 x1) k = m47_3 N x0 x1 (k .normal s47_2) (fun x4 => k .ret (s47_3 x4)) := by
  have h2 := e47_4 N (kseq PHI Tb43 N vc47_5 k) x0 x1
  have h3 := (funext fun y0 => funext fun y1 => funext fun y7 => funext fun y8 => (e47_5 N k y0 y1 y7 y8) : (fun (y0 y1 y7 y8 : D) => (kseq PHI Tb43 N vc47_5 k) .normal (s47_1 y0 y1 y7 y8)) = _)
  refine Eq.trans (runC_seq _ _ _ k) (Eq.trans h2 (Eq.trans (congrArg (fun K => m47_4 N x0 x1 K) h3) (by kernel_rfl)))
def m47_25 (N : Nat) (Kr : D → Option R) : Option R :=
  Kr (D.i (-1))
theorem e47_25 (N : Nat) (k : Kn R) : runC PHI Tb43 N vc47_25 s47_2 k = m47_25 N (fun x4 => k .ret (s47_3 x4)) := by kernel_rfl
def m47_2 (N : Nat) (x0 x1 : D) (Kr : D → Option R) : Option R :=
  (m47_3 N x0 x1 ((m47_25 N Kr)) Kr)
theorem e47_2 (N : Nat) (k : Kn R) (x0 x1 : D) : runC PHI Tb43 N vc47_2 (s47_0 x0 x1) k = m47_2 N x0 x1 (fun x4 => k .ret (s47_3 x4)) := by
  have h2 := e47_3 N (kseq PHI Tb43 N vc47_25 k) x0 x1
  have h3 := ((e47_25 N k ) : ((kseq PHI Tb43 N vc47_25 k) .normal s47_2) = _)
  refine Eq.trans (runC_seq _ _ _ k) (Eq.trans h2 (Eq.trans (congrArg (fun K => m47_3 N x0 x1 K (fun x4 => (kseq PHI Tb43 N vc47_25 k) .ret (s47_3 x4))) h3) (by kernel_rfl)))
def m47_0 (N : Nat) (x0 x1 : D) (Kr : D → Option R) : Option R :=
  (m47_1 N x0 x1 (fun y0 y1 => (m47_2 N y0 y1 Kr)))
theorem e47_0 (N : Nat) (k : Kn R) (x0 x1 : D) : runC PHI Tb43 N vc47_0 (s47_0 x0 x1) k = m47_0 N x0 x1 (fun x4 => k .ret (s47_3 x4)) := by
  have h2 := e47_1 N (kseq PHI Tb43 N vc47_2 k) x0 x1
  have h3 := (funext fun y0 => funext fun y1 => (e47_2 N k y0 y1) : (fun (y0 y1 : D) => (kseq PHI Tb43 N vc47_2 k) .normal (s47_0 y0 y1)) = _)
  refine Eq.trans (runC_seq _ _ _ k) (Eq.trans h2 (Eq.trans (congrArg (fun K => m47_1 N x0 x1 K) h3) (by kernel_rfl)))
theorem r47 (N : Nat) (x0 x1 : D) : runC PHI Tb43 N vf47.body (enterV vf47 [V.f x0, V.f x1] []) (finish vf47) = m47_0 N x0 x1 (fun x4 => finish vf47 .ret (s47_3 x4)) := 
  Eq.trans (runC_pre (s1 := (s47_0 x0 x1)) (by kernel_rfl) _ _) (Eq.trans (e47_0 N (finish vf47) x0 x1) (by kernel_rfl))
end
def Tb47 : CallF := extend Tb43 47 (fn2 (fun _ _ => true) fun s v => .f (.i (sp47 s v)))
theorem fst_cases (p : Nat → Bool) : ∀ k i, fst p k i = -1 ∨ fst p k i = ((fst p k i).toNat : Int)
  | 0, _ => .inl rfl
  | k + 1, i => by
    rw [fst]
    cases p i
    · exact fst_cases p k (i + 1)
    · exact .inr (by simp)
theorem fst_res {R : Type} {p : Nat → Bool} {k i : Nat} {K : Int → R} : (bif leb 0 (fst p k i) then K ((fst p k i).toNat : Int) else K (-1)) = K (fst p k i) := by
  rcases fst_cases p k i with h | h
  · rw [h]; rfl
  · rw [← h]
    have : 0 ≤ fst p k i := by rw [h]; omega
    rw [leb_t this]; rfl
theorem ok47 : FnOk Try.prog PHI Tb47 := FnOk.add2 hPHI ok43 (by kernel_rfl) fun s v ha _ => ⟨s.toL.length + 1, (r47 _ s v).trans (by
  have hl := (ha.is 0 rfl rfl).len' (e := 9) (by kernel_rfl)
  simp only [m47_0, m47_1, m47_2, m47_3, m47_4, m47_5, m47_6, m47_25]
  have h := loop_find (fun j i => l47_6 (s.toL.length + 1) j s v (.i (s.toL.length : Int)) (.i (i : Nat)) (finish vf47 .ret (s47_3 (.i (-1)))) (fun x4 => finish vf47 .ret (s47_3 x4))) (fun i => eqL v.toS (s.toL.getD i .nil).toS) s.toL.length (finish vf47 .ret (s47_3 (.i (-1)))) (fun i => finish vf47 .ret (s47_3 (.i (i : Int))))
    (fun j i hi => by simp only [l47_6, m47_7, toI_i, cond_true, ltb_t (show (i : Int) < (s.toL.length : Int) by omega), inb_t hi, at_nat, succ_nat (show i < 9223372036854775807 by omega)])
    (fun j => by simp only [l47_6, m47_7, toI_i, ltb_f (show ¬ (s.toL.length : Int) < (s.toL.length : Int) by omega), cond_false])
    s.toL.length 0 (s.toL.length + 1) (by omega) (by omega)
  exact h.trans (fst_res (K := fun r => finish vf47 .ret (s47_3 (.i r)))))⟩
def sp50 (s v : D) : Int := fst (fun i => eqb v.toI (s.toL.getD i .nil).toI) s.toL.length 0
section
variable {R : Type}
def m50_1 (N : Nat) (x0 x1 : D) (K : D → D → Option R) : Option R :=
  K x0 x1
def s50_0 (x0 x1 : D) : St := sts 19 [(0, V.f x0), (1, V.f x1)] []
theorem e50_1 (N : Nat) (k : Kn R) (x0 x1 : D) : runC PHI Tb47 N vc50_1 (s50_0 x0 x1) k = m50_1 N x0 x1 (fun x0 x1 => k .normal (s50_0 x0 x1)) := by
  refine Eq.trans (runC_post _ _ _ k) (Eq.trans (ops_run _ _ _ _) (by kernel_rfl))
def m50_4 (N : Nat) (x0 x1 : D) (K : D → D → D → D → Option R) : Option R :=
  K x0 x1 (D.i (x0.toL.length : Int)) (D.i 0)
def s50_1 (x0 x1 x7 x8 : D) : St := sts 19 [(0, V.f x0), (1, V.f x1), (7, V.f x7), (8, V.f x8)] []
theorem e50_4 (N : Nat) (k : Kn R) (x0 x1 : D) : runC PHI Tb47 N vc50_4 (s50_0 x0 x1) k = m50_4 N x0 x1 (fun x0 x1 x7 x8 => k .normal (s50_1 x0 x1 x7 x8)) := by
  refine Eq.trans (runC_post _ _ _ k) (Eq.trans (ops_run _ _ _ _) (by kernel_rfl))
def m50_7 (N : Nat) (x0 x1 x7 x8 : D) (K : D → D → D → D → Option R) (K0 : Option R) (Kr : D → Option R) : Option R :=
  (bif (ltb x8.toI x7.toI) then (bif (inb x8.toI x0.toL.length) then (bif (eqb x1.toI (x0.at (x8.toI : Int).toNat).toI) then Kr x8 else K x0 x1 x7 (D.i (IntKind.wrap IntKind.i64 (x8.toI + 1)))) else none) else K0)
def s50_2 : St := sts 19 [] []
def s50_3 (x4 : D) : St := sts 19 [(4, V.f x4)] []
theorem e50_7 (N : Nat) (k : Kn R) (x0 x1 x7 x8 : D) : runC PHI Tb47 N vc50_7 (s50_1 x0 x1 x7 x8) k = m50_7 N x0 x1 x7 x8 (fun x0 x1 x7 x8 => k .normal (s50_1 x0 x1 x7 x8)) (k (.exit 0) s50_2) (fun x4 => k .ret (s50_3 x4)) := by kernel_rfl
def l50_6 (N : Nat) (j : Nat) (x0 x1 x7 x8 : D) (K0 : Option R) (Kr : D → Option R) : Option R :=
  match j with
  | 0 => none
  | j + 1 => (m50_7 N x0 x1 x7 x8 (fun y0 y1 y7 y8 => l50_6 N j y0 y1 y7 y8 K0 Kr) K0 Kr)
def m50_6 (N : Nat) (x0 x1 x7 x8 : D) (K0 : Option R) (Kr : D → Option R) : Option R :=
  l50_6 N N x0 x1 x7 x8 K0 Kr
theorem el50_6 (N : Nat) (k : Kn R) : ∀ (j : Nat) (x0 x1 x7 x8 : D), loopGo (runC PHI Tb47 N vc50_7) j (s50_1 x0 x1 x7 x8) k = l50_6 N j x0 x1 x7 x8 (k (.exit 0) s50_2) (fun x4 => k .ret (s50_3 x4))
  | 0, _, _, _, _ => by kernel_rfl
  | j + 1, x0, x1, x7, x8 => by
    have h2 := e50_7 N (kloop PHI Tb47 N vc50_7 j k) x0 x1 x7 x8
    have h3 : (fun (y0 y1 y7 y8 : D) => (kloop PHI Tb47 N vc50_7 j k) .normal (s50_1 y0 y1 y7 y8)) = (fun (y0 y1 y7 y8 : D) => l50_6 N j y0 y1 y7 y8 (k (.exit 0) s50_2) (fun x4 => k .ret (s50_3 x4))) := funext fun y0 => funext fun y1 => funext fun y7 => funext fun y8 => (el50_6 N k j y0 y1 y7 y8)
    refine Eq.trans (loop_succ _ j _ k) (Eq.trans h2 (Eq.trans (congrArg (fun K => m50_7 N x0 x1 x7 x8 K ((kloop PHI Tb47 N vc50_7 j k) (.exit 0) s50_2) (fun x4 => (kloop PHI Tb47 N vc50_7 j k) .ret (s50_3 x4))) h3) (by kernel_rfl)))
theorem e50_6 (N : Nat) (k : Kn R) (x0 x1 x7 x8 : D) : runC PHI Tb47 N vc50_6 (s50_1 x0 x1 x7 x8) k = m50_6 N x0 x1 x7 x8 (k (.exit 0) s50_2) (fun x4 => k .ret (s50_3 x4)) := by
  refine Eq.trans (runC_loop _ _ k) (Eq.trans (el50_6 N k N x0 x1 x7 x8) (by kernel_rfl))
def m50_5 (N : Nat) (x0 x1 x7 x8 : D) (K : Option R) (Kr : D → Option R) : Option R :=
  (m50_6 N x0 x1 x7 x8 (K) Kr)
theorem e50_5 (N : Nat) (k : Kn R) (x0 x1 x7 x8 : D) : runC PHI Tb47 N vc50_5 (s50_1 x0 x1 x7 x8) k = m50_5 N x0 x1 x7 x8 (k .normal s50_2) (fun x4 => k .ret (s50_3 x4)) := by
  refine Eq.trans (runC_block _ _ _ k) (Eq.trans (e50_6 N (kblk 0 k) x0 x1 x7 x8) (by kernel_rfl))
def m50_3 (N : Nat) (x0 x1 : D) (K : Option R) (Kr : D → Option R) : Option R :=
  (m50_4 N x0 x1 (fun y0 y1 y7 y8 => (m50_5 N y0 y1 y7 y8 (K) Kr)))
theorem e50_3 (N : Nat) (k : Kn R) (x0 x1 : D) : runC PHI Tb47 N vc50_3 (s50_0 x0 x1) k = m50_3 N x0 x1 (k .normal s50_2) (fun x4 => k .ret (s50_3 x4)) := by
  have h2 := e50_4 N (kseq PHI Tb47 N vc50_5 k) x0 x1
  have h3 := (funext fun y0 => funext fun y1 => funext fun y7 => funext fun y8 => (e50_5 N k y0 y1 y7 y8) : (fun (y0 y1 y7 y8 : D) => (kseq PHI Tb47 N vc50_5 k) .normal (s50_1 y0 y1 y7 y8)) = _)
  refine Eq.trans (runC_seq _ _ _ k) (Eq.trans h2 (Eq.trans (congrArg (fun K => m50_4 N x0 x1 K) h3) (by kernel_rfl)))
def m50_25 (N : Nat) (Kr : D → Option R) : Option R :=
  Kr (D.i (-1))
theorem e50_25 (N : Nat) (k : Kn R) : runC PHI Tb47 N vc50_25 s50_2 k = m50_25 N (fun x4 => k .ret (s50_3 x4)) := by kernel_rfl
def m50_2 (N : Nat) (x0 x1 : D) (Kr : D → Option R) : Option R :=
  (m50_3 N x0 x1 ((m50_25 N Kr)) Kr)
theorem e50_2 (N : Nat) (k : Kn R) (x0 x1 : D) : runC PHI Tb47 N vc50_2 (s50_0 x0 x1) k = m50_2 N x0 x1 (fun x4 => k .ret (s50_3 x4)) := by
  have h2 := e50_3 N (kseq PHI Tb47 N vc50_25 k) x0 x1
  have h3 := ((e50_25 N k ) : ((kseq PHI Tb47 N vc50_25 k) .normal s50_2) = _)
  refine Eq.trans (runC_seq _ _ _ k) (Eq.trans h2 (Eq.trans (congrArg (fun K => m50_3 N x0 x1 K (fun x4 => (kseq PHI Tb47 N vc50_25 k) .ret (s50_3 x4))) h3) (by kernel_rfl)))
def m50_0 (N : Nat) (x0 x1 : D) (Kr : D → Option R) : Option R :=
  (m50_1 N x0 x1 (fun y0 y1 => (m50_2 N y0 y1 Kr)))
theorem e50_0 (N : Nat) (k : Kn R) (x0 x1 : D) : runC PHI Tb47 N vc50_0 (s50_0 x0 x1) k = m50_0 N x0 x1 (fun x4 => k .ret (s50_3 x4)) := by
  have h2 := e50_1 N (kseq PHI Tb47 N vc50_2 k) x0 x1
  have h3 := (funext fun y0 => funext fun y1 => (e50_2 N k y0 y1) : (fun (y0 y1 : D) => (kseq PHI Tb47 N vc50_2 k) .normal (s50_0 y0 y1)) = _)
  refine Eq.trans (runC_seq _ _ _ k) (Eq.trans h2 (Eq.trans (congrArg (fun K => m50_1 N x0 x1 K) h3) (by kernel_rfl)))
theorem r50 (N : Nat) (x0 x1 : D) : runC PHI Tb47 N vf50.body (enterV vf50 [V.f x0, V.f x1] []) (finish vf50) = m50_0 N x0 x1 (fun x4 => finish vf50 .ret (s50_3 x4)) := 
  Eq.trans (runC_pre (s1 := (s50_0 x0 x1)) (by kernel_rfl) _ _) (Eq.trans (e50_0 N (finish vf50) x0 x1) (by kernel_rfl))
end
def Tb50 : CallF := extend Tb47 50 (fn2 (fun _ _ => true) fun s v => .f (.i (sp50 s v)))
theorem ok50 : FnOk Try.prog PHI Tb50 := FnOk.add2 hPHI ok47 (by kernel_rfl) fun s v ha _ => ⟨s.toL.length + 1, (r50 _ s v).trans (by
  have hl := (ha.is 0 rfl rfl).len' (e := 3) (by kernel_rfl)
  simp only [m50_0, m50_1, m50_2, m50_3, m50_4, m50_5, m50_6, m50_25]
  have h := loop_find (fun j i => l50_6 (s.toL.length + 1) j s v (.i (s.toL.length : Int)) (.i (i : Nat)) (finish vf50 .ret (s50_3 (.i (-1)))) (fun x4 => finish vf50 .ret (s50_3 x4))) (fun i => eqb v.toI (s.toL.getD i .nil).toI) s.toL.length (finish vf50 .ret (s50_3 (.i (-1)))) (fun i => finish vf50 .ret (s50_3 (.i (i : Int))))
    (fun j i hi => by simp only [l50_6, m50_7, toI_i, cond_true, ltb_t (show (i : Int) < (s.toL.length : Int) by omega), inb_t hi, at_nat, succ_nat (show i < 9223372036854775807 by omega)])
    (fun j => by simp only [l50_6, m50_7, toI_i, ltb_f (show ¬ (s.toL.length : Int) < (s.toL.length : Int) by omega), cond_false])
    s.toL.length 0 (s.toL.length + 1) (by omega) (by omega)
  exact h.trans (fst_res (K := fun r => finish vf50 .ret (s50_3 (.i r)))))⟩

end Go.Vam.C20
namespace Go.Vam.C20
open Go.Proofs
def sp40 (a b : D) : Bool := eqb a.toL.length b.toL.length && !leb 0 (fst (fun i => !eqb (a.toL.getD i .nil).toI (b.toL.getD i .nil).toI) a.toL.length 0)
section
variable {R : Type}
def m40_1 (N : Nat) (x0 x1 : D) (K : D → D → Option R) : Option R :=
  K x0 x1
def s40_0 (x0 x1 : D) : St := sts 26 [(0, V.f x0), (1, V.f x1)] []
theorem e40_1 (N : Nat) (k : Kn R) (x0 x1 : D) : runC PHI Tb50 N vc40_1 (s40_0 x0 x1) k = m40_1 N x0 x1 (fun x0 x1 => k .normal (s40_0 x0 x1)) := by
  refine Eq.trans (runC_post _ _ _ k) (Eq.trans (ops_run _ _ _ _) (by kernel_rfl))
def m40_3 (N : Nat) (x0 x1 : D) (K : D → D → Option R) (Kr : D → Option R) : Option R :=
  (bif (!eqb (x0.toL.length : Int) (x1.toL.length : Int)) then Kr (D.b false) else K x0 x1)
def s40_1 (x4 : D) : St := sts 26 [(4, V.f x4)] []
theorem e40_3 (N : Nat) (k : Kn R) (x0 x1 : D) : runC PHI Tb50 N vc40_3 (s40_0 x0 x1) k = m40_3 N x0 x1 (fun x0 x1 => k .normal (s40_0 x0 x1)) (fun x4 => k .ret (s40_1 x4)) := by kernel_rfl
def m40_12 (N : Nat) (x0 x1 : D) (K : D → D → D → D → Option R) : Option R :=
  K x0 x1 (D.i (x0.toL.length : Int)) (D.i 0)
def s40_2 (x0 x1 x12 x13 : D) : St := sts 26 [(0, V.f x0), (1, V.f x1), (12, V.f x12), (13, V.f x13)] []
theorem e40_12 (N : Nat) (k : Kn R) (x0 x1 : D) : runC PHI Tb50 N vc40_12 (s40_0 x0 x1) k = m40_12 N x0 x1 (fun x0 x1 x12 x13 => k .normal (s40_2 x0 x1 x12 x13)) := by
  refine Eq.trans (runC_post _ _ _ k) (Eq.trans (ops_run _ _ _ _) (by kernel_rfl))
def m40_15 (N : Nat) (x0 x1 x12 x13 : D) (K : D → D → D → D → Option R) (K0 : Option R) (Kr : D → Option R) : Option R :=
  (bif (ltb x13.toI x12.toI) then (bif (inb x13.toI x0.toL.length) then (bif (inb x13.toI x1.toL.length) then (bif (!eqb (x0.at (x13.toI : Int).toNat).toI (x1.at (x13.toI : Int).toNat).toI) then Kr (D.b false) else K x0 x1 x12 (D.i (IntKind.wrap IntKind.i64 (x13.toI + 1)))) else none) else none) else K0)
def s40_3 : St := sts 26 [] []
theorem e40_15 (N : Nat) (k : Kn R) (x0 x1 x12 x13 : D) : runC PHI Tb50 N vc40_15 (s40_2 x0 x1 x12 x13) k = m40_15 N x0 x1 x12 x13 (fun x0 x1 x12 x13 => k .normal (s40_2 x0 x1 x12 x13)) (k (.exit 0) s40_3) (fun x4 => k .ret (s40_1 x4)) := by kernel_rfl
def l40_14 (N : Nat) (j : Nat) (x0 x1 x12 x13 : D) (K0 : Option R) (Kr : D → Option R) : Option R :=
  match j with
  | 0 => none
  | j + 1 => (m40_15 N x0 x1 x12 x13 (fun y0 y1 y12 y13 => l40_14 N j y0 y1 y12 y13 K0 Kr) K0 Kr)
def m40_14 (N : Nat) (x0 x1 x12 x13 : D) (K0 : Option R) (Kr : D → Option R) : Option R :=
  l40_14 N N x0 x1 x12 x13 K0 Kr
theorem el40_14 (N : Nat) (k : Kn R) : ∀ (j : Nat) (x0 x1 x12 x13 : D), loopGo (runC PHI Tb50 N vc40_15) j (s40_2 x0 x1 x12 x13) k = l40_14 N j x0 x1 x12 x13 (k (.exit 0) s40_3) (fun x4 => k .ret (s40_1 x4))
  | 0, _, _, _, _ => by kernel_rfl
  | j + 1, x0, x1, x12, x13 => by
    have h2 := e40_15 N (kloop PHI Tb50 N vc40_15 j k) x0 x1 x12 x13
    have h3 : (fun (y0 y1 y12 y13 : D) => (kloop PHI Tb50 N vc40_15 j k) .normal (s40_2 y0 y1 y12 y13)) = (fun (y0 y1 y12 y13 : D) => l40_14 N j y0 y1 y12 y13 (k (.exit 0) s40_3) (fun x4 => k .ret (s40_1 x4))) := funext fun y0 => funext fun y1 => funext fun y12 => funext fun y13 => (el40_14 N k j y0 y1 y12 y13)
    refine Eq.trans (loop_succ _ j _ k) (Eq.trans h2 (Eq.trans (congrArg (fun K => m40_15 N x0 x1 x12 x13 K ((kloop PHI Tb50 N vc40_15 j k) (.exit 0) s40_3) (fun x4 => (kloop PHI Tb50 N vc40_15 j k) .ret (s40_1 x4))) h3) (by kernel_rfl)))
theorem e40_14 (N : Nat) (k : Kn R) (x0 x1 x12 x13 : D) : runC PHI Tb50 N vc40_14 (s40_2 x0 x1 x12 x13) k = m40_14 N x0 x1 x12 x13 (k (.exit 0) s40_3) (fun x4 => k .ret (s40_1 x4)) := by
  refine Eq.trans (runC_loop _ _ k) (Eq.trans (el40_14 N k N x0 x1 x12 x13) (by kernel_rfl))
def m40_13 (N : Nat) (x0 x1 x12 x13 : D) (K : Option R) (Kr : D → Option R) : Option R :=
  (m40_14 N x0 x1 x12 x13 (K) Kr)
theorem e40_13 (N : Nat) (k : Kn R) (x0 x1 x12 x13 : D) : runC PHI Tb50 N vc40_13 (s40_2 x0 x1 x12 x13) k = m40_13 N x0 x1 x12 x13 (k .normal s40_3) (fun x4 => k .ret (s40_1 x4)) := by
  refine Eq.trans (runC_block _ _ _ k) (Eq.trans (e40_14 N (kblk 0 k) x0 x1 x12 x13) (by kernel_rfl))
def m40_11 (N : Nat) (x0 x1 : D) (K : Option R) (Kr : D → Option R) : Option R :=
  (m40_12 N x0 x1 (fun y0 y1 y12 y13 => (m40_13 N y0 y1 y12 y13 (K) Kr)))
theorem e40_11 (N : Nat) (k : Kn R) (x0 x1 : D) : runC PHI Tb50 N vc40_11 (s40_0 x0 x1) k = m40_11 N x0 x1 (k .normal s40_3) (fun x4 => k .ret (s40_1 x4)) := by
  have h2 := e40_12 N (kseq PHI Tb50 N vc40_13 k) x0 x1
  have h3 := (funext fun y0 => funext fun y1 => funext fun y12 => funext fun y13 => (e40_13 N k y0 y1 y12 y13) : (fun (y0 y1 y12 y13 : D) => (kseq PHI Tb50 N vc40_13 k) .normal (s40_2 y0 y1 y12 y13)) = _)
  refine Eq.trans (runC_seq _ _ _ k) (Eq.trans h2 (Eq.trans (congrArg (fun K => m40_12 N x0 x1 K) h3) (by kernel_rfl)))
def m40_33 (N : Nat) (Kr : D → Option R) : Option R :=
  Kr (D.b true)
theorem e40_33 (N : Nat) (k : Kn R) : runC PHI Tb50 N vc40_33 s40_3 k = m40_33 N (fun x4 => k .ret (s40_1 x4)) := by kernel_rfl
def m40_10 (N : Nat) (x0 x1 : D) (Kr : D → Option R) : Option R :=
  (m40_11 N x0 x1 ((m40_33 N Kr)) Kr)
theorem e40_10 (N : Nat) (k : Kn R) (x0 x1 : D) : runC PHI Tb50 N vc40_10 (s40_0 x0 x1) k = m40_10 N x0 x1 (fun x4 => k .ret (s40_1 x4)) := by
  have h2 := e40_11 N (kseq PHI Tb50 N vc40_33 k) x0 x1
  have h3 := ((e40_33 N k ) : ((kseq PHI Tb50 N vc40_33 k) .normal s40_3) = _)
  refine Eq.trans (runC_seq _ _ _ k) (Eq.trans h2 (Eq.trans (congrArg (fun K => m40_11 N x0 x1 K (fun x4 => (kseq PHI Tb50 N vc40_33 k) .ret (s40_1 x4))) h3) (by kernel_rfl)))
def m40_2 (N : Nat) (x0 x1 : D) (Kr : D → Option R) : Option R :=
  (m40_3 N x0 x1 (fun y0 y1 => (m40_10 N y0 y1 Kr)) Kr)
theorem e40_2 (N : Nat) (k : Kn R) (x0 x1 : D) : runC PHI Tb50 N vc40_2 (s40_0 x0 x1) k = m40_2 N x0 x1 (fun x4 => k .ret (s40_1 x4)) := by
  have h2 := e40_3 N (kseq PHI Tb50 N vc40_10 k) x0 x1
  have h3 := (funext fun y0 => funext fun y1 => (e40_10 N k y0 y1) : (fun (y0 y1 : D) => (kseq PHI Tb50 N vc40_10 k) .normal (s40_0 y0 y1)) = _)
  refine Eq.trans (runC_seq _ _ _ k) (Eq.trans h2 (Eq.trans (congrArg (fun K => m40_3 N x0 x1 K (fun x4 => (kseq PHI Tb50 N vc40_10 k) .ret (s40_1 x4))) h3) (by kernel_rfl)))
def m40_0 (N : Nat) (x0 x1 : D) (Kr : D → Option R) : Option R :=
  (m40_1 N x0 x1 (fun y0 y1 => (m40_2 N y0 y1 Kr)))
theorem e40_0 (N : Nat) (k : Kn R) (x0 x1 : D) : runC PHI Tb50 N vc40_0 (s40_0 x0 x1) k = m40_0 N x0 x1 (fun x4 => k .ret (s40_1 x4)) := by
  have h2 := e40_1 N (kseq PHI Tb50 N vc40_2 k) x0 x1
  have h3 := (funext fun y0 => funext fun y1 => (e40_2 N k y0 y1) : (fun (y0 y1 : D) => (kseq PHI Tb50 N vc40_2 k) .normal (s40_0 y0 y1)) = _)
  refine Eq.trans (runC_seq _ _ _ k) (Eq.trans h2 (Eq.trans (congrArg (fun K => m40_1 N x0 x1 K) h3) (by kernel_rfl)))
theorem r40 (N : Nat) (x0 x1 : D) : runC PHI Tb50 N vf40.body (enterV vf40 [V.f x0, V.f x1] []) (finish vf40) = m40_0 N x0 x1 (fun x4 => finish vf40 .ret (s40_1 x4)) := 
  Eq.trans (runC_pre (s1 := (s40_0 x0 x1)) (by kernel_rfl) _ _) (Eq.trans (e40_0 N (finish vf40) x0 x1) (by kernel_rfl))
end
def Tb40 : CallF := extend Tb50 40 (fn2 (fun _ _ => true) fun s v => .f (.b (sp40 s v)))
theorem eqb_t' {x y : Int} (h : eqb x y = true) : x = y := of_decide_eq_true h
theorem bif_not {R : Type} {b : Bool} {K : Bool → R} : (bif b then K false else K true) = K (!b) := by cases b <;> rfl
theorem ok40 : FnOk Try.prog PHI Tb40 := FnOk.add2 hPHI ok50 (by kernel_rfl) fun a b ha _ => ⟨a.toL.length + 1, (r40 _ a b).trans (by
  have hl := (ha.is 0 rfl rfl).len' (e := 3) (by kernel_rfl)
  simp only [m40_0, m40_1, m40_2, m40_3, m40_10, m40_11, m40_12, m40_13, m40_14, m40_33]
  unfold sp40
  cases hq : eqb a.toL.length b.toL.length
  · rfl
  · have hq := eqb_t' hq
    simp only [Bool.not_true, cond_false, Bool.true_and]
    have h := loop_find (fun j i => l40_14 (a.toL.length + 1) j a b (.i (a.toL.length : Int)) (.i (i : Nat)) (finish vf40 .ret (s40_1 (.b true))) (fun x4 => finish vf40 .ret (s40_1 x4))) (fun i => !eqb (a.toL.getD i .nil).toI (b.toL.getD i .nil).toI) a.toL.length (finish vf40 .ret (s40_1 (.b true))) (fun i => finish vf40 .ret (s40_1 (.b false)))
      (fun j i hi => by simp only [l40_14, m40_15, toI_i, cond_true, ltb_n hi, inb_t hi, inb_t (show i < b.toL.length by omega), at_nat, succ_n hi hl])
      (fun j => by simp only [l40_14, m40_15, toI_i, ltb_self, cond_false])
      a.toL.length 0 (a.toL.length + 1) (by omega) (by omega)
    exact h.trans (bif_not (K := fun r => finish vf40 .ret (s40_1 (.b r)))))⟩
def sp14 (a b : D) : Bool := eqb (a.at 0).toI (b.at 0).toI && ((a.at 2).toB == (b.at 2).toB && sp40 (a.at 1) (b.at 1))
section
variable {R : Type}
def m14_1 (N : Nat) (x0 x1 : D) (K : D → D → Option R) : Option R :=
  K (D.p x0) (D.p x1)
def s14_0 (x0 x1 : D) : St := sts 45 [(0, V.f x0), (1, V.f x1)] []
def s14_1 (x2 x3 : D) : St := sts 45 [(2, V.f x2), (3, V.f x3)] []
theorem e14_1 (N : Nat) (k : Kn R) (x0 x1 : D) : runC PHI Tb40 N vc14_1 (s14_0 x0 x1) k = m14_1 N x0 x1 (fun x2 x3 => k .normal (s14_1 x2 x3)) := by
  refine Eq.trans (runC_post _ _ _ k) (Eq.trans (ops_run _ _ _ _) (by kernel_rfl))
def m14_3 (N : Nat) (x2 x3 : D) (K : D → D → Option R) (Kr : D → Option R) : Option R :=
  (bif (isPtrD x2) then (bif (isPtrD x3) then (bif (!eqb (x2.deref.at 0).toI (x3.deref.at 0).toI) then (bif true then Kr (D.b false) else K x2 x3) else (bif (isPtrD x2) then (bif (isPtrD x3) then (bif ((x2.deref.at 2).toB != (x3.deref.at 2).toB) then (bif true then Kr (D.b false) else K x2 x3) else (bif (isPtrD x2) then (bif (isPtrD x3) then (bif (!eqb ((x2.deref.at 1).toL.length : Int) ((x3.deref.at 1).toL.length : Int)) then Kr (D.b false) else K x2 x3) else none) else none)) else none) else none)) else none) else none)
def s14_2 (x4 : D) : St := sts 45 [(4, V.f x4)] []
theorem e14_3 (N : Nat) (k : Kn R) (x2 x3 : D) : runC PHI Tb40 N vc14_3 (s14_1 x2 x3) k = m14_3 N x2 x3 (fun x2 x3 => k .normal (s14_1 x2 x3)) (fun x4 => k .ret (s14_2 x4)) := by kernel_rfl
def m14_12 (N : Nat) (x2 x3 : D) (K : D → D → D → Option R) : Option R :=
  K x2 x3 (D.i 0)
def s14_3 (x2 x3 x5 : D) : St := sts 45 [(2, V.f x2), (3, V.f x3), (5, V.f x5)] []
theorem e14_12 (N : Nat) (k : Kn R) (x2 x3 : D) : runC PHI Tb40 N vc14_12 (s14_1 x2 x3) k = m14_12 N x2 x3 (fun x2 x3 x5 => k .normal (s14_3 x2 x3 x5)) := by
  refine Eq.trans (runC_post _ _ _ k) (Eq.trans (ops_run _ _ _ _) (by kernel_rfl))
def m14_15 (N : Nat) (x2 x3 x5 : D) (K : D → D → D → Option R) (K0 : Option R) (Kr : D → Option R) : Option R :=
  (bif (isPtrD x2) then (bif (ltb x5.toI ((x2.deref.at 1).toL.length : Int)) then (bif (isPtrD x2) then (bif (inb x5.toI (x2.deref.at 1).toL.length) then (bif (isPtrD x3) then (bif (inb x5.toI (x3.deref.at 1).toL.length) then (bif (!eqb ((x2.deref.at 1).at (x5.toI : Int).toNat).toI ((x3.deref.at 1).at (x5.toI : Int).toNat).toI) then Kr (D.b false) else K x2 x3 (D.i (IntKind.wrap IntKind.i64 (x5.toI + 1)))) else none) else none) else none) else none) else K0) else none)
def s14_4 : St := sts 45 [] []
theorem e14_15 (N : Nat) (k : Kn R) (x2 x3 x5 : D) : runC PHI Tb40 N vc14_15 (s14_3 x2 x3 x5) k = m14_15 N x2 x3 x5 (fun x2 x3 x5 => k .normal (s14_3 x2 x3 x5)) (k (.exit 0) s14_4) (fun x4 => k .ret (s14_2 x4)) := by kernel_rfl
def l14_14 (N : Nat) (j : Nat) (x2 x3 x5 : D) (K0 : Option R) (Kr : D → Option R) : Option R :=
  match j with
  | 0 => none
  | j + 1 => (m14_15 N x2 x3 x5 (fun y2 y3 y5 => l14_14 N j y2 y3 y5 K0 Kr) K0 Kr)
def m14_14 (N : Nat) (x2 x3 x5 : D) (K0 : Option R) (Kr : D → Option R) : Option R :=
  l14_14 N N x2 x3 x5 K0 Kr
theorem el14_14 (N : Nat) (k : Kn R) : ∀ (j : Nat) (x2 x3 x5 : D), loopGo (runC PHI Tb40 N vc14_15) j (s14_3 x2 x3 x5) k = l14_14 N j x2 x3 x5 (k (.exit 0) s14_4) (fun x4 => k .ret (s14_2 x4))
  | 0, _, _, _ => by kernel_rfl
  | j + 1, x2, x3, x5 => by
    have h2 := e14_15 N (kloop PHI Tb40 N vc14_15 j k) x2 x3 x5
    have h3 : (fun (y2 y3 y5 : D) => (kloop PHI Tb40 N vc14_15 j k) .normal (s14_3 y2 y3 y5)) = (fun (y2 y3 y5 : D) => l14_14 N j y2 y3 y5 (k (.exit 0) s14_4) (fun x4 => k .ret (s14_2 x4))) := funext fun y2 => funext fun y3 => funext fun y5 => (el14_14 N k j y2 y3 y5)
    refine Eq.trans (loop_succ _ j _ k) (Eq.trans h2 (Eq.trans (congrArg (fun K => m14_15 N x2 x3 x5 K ((kloop PHI Tb40 N vc14_15 j k) (.exit 0) s14_4) (fun x4 => (kloop PHI Tb40 N vc14_15 j k) .ret (s14_2 x4))) h3) (by kernel_rfl)))
theorem e14_14 (N : Nat) (k : Kn R) (x2 x3 x5 : D) : runC PHI Tb40 N vc14_14 (s14_3 x2 x3 x5) k = m14_14 N x2 x3 x5 (k (.exit 0) s14_4) (fun x4 => k .ret (s14_2 x4)) := by
  refine Eq.trans (runC_loop _ _ k) (Eq.trans (el14_14 N k N x2 x3 x5) (by kernel_rfl))
def m14_13 (N : Nat) (x2 x3 x5 : D) (K : Option R) (Kr : D → Option R) : Option R :=
  (m14_14 N x2 x3 x5 (K) Kr)
theorem e14_13 (N : Nat) (k : Kn R) (x2 x3 x5 : D) : runC PHI Tb40 N vc14_13 (s14_3 x2 x3 x5) k = m14_13 N x2 x3 x5 (k .normal s14_4) (fun x4 => k .ret (s14_2 x4)) := by
  refine Eq.trans (runC_block _ _ _ k) (Eq.trans (e14_14 N (kblk 0 k) x2 x3 x5) (by kernel_rfl))
def m14_11 (N : Nat) (x2 x3 : D) (K : Option R) (Kr : D → Option R) : Option R :=
  (m14_12 N x2 x3 (fun y2 y3 y5 => (m14_13 N y2 y3 y5 (K) Kr)))
theorem e14_11 (N : Nat) (k : Kn R) (x2 x3 : D) : runC PHI Tb40 N vc14_11 (s14_1 x2 x3) k = m14_11 N x2 x3 (k .normal s14_4) (fun x4 => k .ret (s14_2 x4)) := by
  have h2 := e14_12 N (kseq PHI Tb40 N vc14_13 k) x2 x3
  have h3 := (funext fun y2 => funext fun y3 => funext fun y5 => (e14_13 N k y2 y3 y5) : (fun (y2 y3 y5 : D) => (kseq PHI Tb40 N vc14_13 k) .normal (s14_3 y2 y3 y5)) = _)
  refine Eq.trans (runC_seq _ _ _ k) (Eq.trans h2 (Eq.trans (congrArg (fun K => m14_12 N x2 x3 K) h3) (by kernel_rfl)))
def m14_31 (N : Nat) (Kr : D → Option R) : Option R :=
  Kr (D.b true)
theorem e14_31 (N : Nat) (k : Kn R) : runC PHI Tb40 N vc14_31 s14_4 k = m14_31 N (fun x4 => k .ret (s14_2 x4)) := by kernel_rfl
def m14_10 (N : Nat) (x2 x3 : D) (Kr : D → Option R) : Option R :=
  (m14_11 N x2 x3 ((m14_31 N Kr)) Kr)
theorem e14_10 (N : Nat) (k : Kn R) (x2 x3 : D) : runC PHI Tb40 N vc14_10 (s14_1 x2 x3) k = m14_10 N x2 x3 (fun x4 => k .ret (s14_2 x4)) := by
  have h2 := e14_11 N (kseq PHI Tb40 N vc14_31 k) x2 x3
  have h3 := ((e14_31 N k ) : ((kseq PHI Tb40 N vc14_31 k) .normal s14_4) = _)
  refine Eq.trans (runC_seq _ _ _ k) (Eq.trans h2 (Eq.trans (congrArg (fun K => m14_11 N x2 x3 K (fun x4 => (kseq PHI Tb40 N vc14_31 k) .ret (s14_2 x4))) h3) (by kernel_rfl)))
def m14_2 (N : Nat) (x2 x3 : D) (Kr : D → Option R) : Option R :=
  (m14_3 N x2 x3 (fun y2 y3 => (m14_10 N y2 y3 Kr)) Kr)
theorem e14_2 (N : Nat) (k : Kn R) (x2 x3 : D) : runC PHI Tb40 N vc14_2 (s14_1 x2 x3) k = m14_2 N x2 x3 (fun x4 => k .ret (s14_2 x4)) := by
  have h2 := e14_3 N (kseq PHI Tb40 N vc14_10 k) x2 x3
  have h3 := (funext fun y2 => funext fun y3 => (e14_10 N k y2 y3) : (fun (y2 y3 : D) => (kseq PHI Tb40 N vc14_10 k) .normal (s14_1 y2 y3)) = _)
  refine Eq.trans (runC_seq _ _ _ k) (Eq.trans h2 (Eq.trans (congrArg (fun K => m14_3 N x2 x3 K (fun x4 => (kseq PHI Tb40 N vc14_10 k) .ret (s14_2 x4))) h3) (by kernel_rfl)))
def m14_0 (N : Nat) (x0 x1 : D) (Kr : D → Option R) : Option R :=
  (m14_1 N x0 x1 (fun y2 y3 => (m14_2 N y2 y3 Kr)))
theorem e14_0 (N : Nat) (k : Kn R) (x0 x1 : D) : runC PHI Tb40 N vc14_0 (s14_0 x0 x1) k = m14_0 N x0 x1 (fun x4 => k .ret (s14_2 x4)) := by
  have h2 := e14_1 N (kseq PHI Tb40 N vc14_2 k) x0 x1
  have h3 := (funext fun y2 => funext fun y3 => (e14_2 N k y2 y3) : (fun (y2 y3 : D) => (kseq PHI Tb40 N vc14_2 k) .normal (s14_1 y2 y3)) = _)
  refine Eq.trans (runC_seq _ _ _ k) (Eq.trans h2 (Eq.trans (congrArg (fun K => m14_1 N x0 x1 K) h3) (by kernel_rfl)))
theorem r14 (N : Nat) (x0 x1 : D) : runC PHI Tb40 N vf14.body (enterV vf14 [V.f x0, V.f x1] []) (finish vf14) = m14_0 N x0 x1 (fun x4 => finish vf14 .ret (s14_2 x4)) := 
  Eq.trans (runC_pre (s1 := (s14_0 x0 x1)) (by kernel_rfl) _ _) (Eq.trans (e14_0 N (finish vf14) x0 x1) (by kernel_rfl))
end
def Tb14 : CallF := extend Tb40 14 (fn2 (fun _ _ => true) fun s v => .f (.b (sp14 s v)))
theorem ok14 : FnOk Try.prog PHI Tb14 := FnOk.add2 hPHI ok40 (by kernel_rfl) fun a b ha _ => ⟨(a.at 1).toL.length + 1, (r14 _ a b).trans (by
  have hl := ((ha.is 0 rfl rfl).fld (k := 1) (ft := 22) (off := 1) (by kernel_rfl)).len' (e := 3) (by kernel_rfl)
  simp only [m14_0, m14_1, m14_2, m14_3, m14_10, m14_11, m14_12, m14_13, m14_14, m14_31, isPtr_p, deref_p, cond_true]
  unfold sp14 sp40
  cases h0 : eqb (a.at 0).toI (b.at 0).toI
  · rfl
  · cases h2 : (a.at 2).toB <;> cases h2' : (b.at 2).toB <;> first | rfl | skip
    all_goals
      cases hq : eqb (a.at 1).toL.length (b.at 1).toL.length
      · rfl
      · have hq := eqb_t' hq
        simp only [Bool.not_true, cond_false, Bool.true_and, bne_self_eq_false, BEq.rfl]
        have h := loop_find (fun j i => l14_14 ((a.at 1).toL.length + 1) j (.p a) (.p b) (.i (i : Nat)) (finish vf14 .ret (s14_2 (.b true))) (fun x4 => finish vf14 .ret (s14_2 x4))) (fun i => !eqb ((a.at 1).toL.getD i .nil).toI ((b.at 1).toL.getD i .nil).toI) (a.at 1).toL.length (finish vf14 .ret (s14_2 (.b true))) (fun i => finish vf14 .ret (s14_2 (.b false)))
          (fun j i hi => by simp only [l14_14, m14_15, isPtr_p, deref_p, toI_i, cond_true, ltb_n hi, inb_t hi, inb_t (show i < (b.at 1).toL.length by omega), at_nat, succ_n hi hl])
          (fun j => by simp only [l14_14, m14_15, isPtr_p, deref_p, cond_true, toI_i, ltb_self, cond_false])
          (a.at 1).toL.length 0 ((a.at 1).toL.length + 1) (by omega) (by omega)
        exact h.trans (bif_not (K := fun r => finish vf14 .ret (s14_2 (.b r)))))⟩

end Go.Vam.C20
namespace Go.Vam.C20
open Go.Proofs
/-! ### size -/
def szL (f : D → Int → Int) (m : Int) : List D → Int → Int
  | [], k => k
  | y :: r, k => bif ltb m k then k else szL f m r (IntKind.i64.wrap (k + f y (IntKind.i64.wrap (m - k))))
def szN : Nat → D → Int → Int
  | 0, _, _ => 0
  | n + 1, d, m => szL (szN n) m (d.at 6).toL 1
/-- Are so many steps enough for all parts of a node? -/
def depOk : Nat → D → Bool
  | 0, _ => false
  | n + 1, d => (d.at 6).toL.all (depOk n)
theorem depOk_size : ∀ (n : Nat) (d : D), d.wt ≤ n → depOk n d = true
  | 0, d, h => by have := D.wt_pos d; omega
  | n + 1, d, h => by
    rw [depOk, List.all_eq_true]
    intro x hx
    have h1 := D.wt_mem hx
    have h2 := D.wt_at d 6
    exact depOk_size n x (by omega)
def spx16 (n : Nat) (a m : D) : Int := szN n a m.toI
def prx16 (n : Nat) (a _m : D) : Bool := depOk n a
def Tx16 (n : Nat) : CallF := extend Tb14 16 (fn2 (prx16 n) fun a m => .f (.i (spx16 n a m)))
section
variable {R : Type}
def m16_1 (n N : Nat) (x0 x1 : D) (K : D → D → Option R) : Option R :=
  K x1 (D.p x0)
def s16_0 (x0 x1 : D) : St := sts 27 [(0, V.f x0), (1, V.f x1)] []
def s16_1 (x1 x2 : D) : St := sts 27 [(1, V.f x1), (2, V.f x2)] []
theorem e16_1 (n N : Nat) (k : Kn R) (x0 x1 : D) : runC PHI (Tx16 n) N vc16_1 (s16_0 x0 x1) k = m16_1 n N x0 x1 (fun x1 x2 => k .normal (s16_1 x1 x2)) := by
  refine Eq.trans (runC_post _ _ _ k) (Eq.trans (ops_run _ _ _ _) (by kernel_rfl))
def m16_3 (n N : Nat) (x1 x2 : D) (K : D → D → D → Option R) : Option R :=
  K x1 x2 (D.i 1)
def s16_2 (x1 x2 x5 : D) : St := sts 27 [(1, V.f x1), (2, V.f x2), (5, V.f x5)] []
theorem e16_3 (n N : Nat) (k : Kn R) (x1 x2 : D) : runC PHI (Tx16 n) N vc16_3 (s16_1 x1 x2) k = m16_3 n N x1 x2 (fun x1 x2 x5 => k .normal (s16_2 x1 x2 x5)) := by
  refine Eq.trans (runC_post _ _ _ k) (Eq.trans (ops_run _ _ _ _) (by kernel_rfl))
def m16_6 (n N : Nat) (x1 x2 x5 : D) (K : D → D → D → D → D → Option R) : Option R :=
  (bif (isPtrD x2) then K x1 x5 (x2.deref.at 6) (D.i ((x2.deref.at 6).toL.length : Int)) (D.i 0) else none)
def s16_3 (x1 x5 x9 x10 x11 : D) : St := sts 27 [(1, V.f x1), (5, V.f x5), (9, V.f x9), (10, V.f x10), (11, V.f x11)] []
theorem e16_6 (n N : Nat) (k : Kn R) (x1 x2 x5 : D) : runC PHI (Tx16 n) N vc16_6 (s16_2 x1 x2 x5) k = m16_6 n N x1 x2 x5 (fun x1 x5 x9 x10 x11 => k .normal (s16_3 x1 x5 x9 x10 x11)) := by
  refine Eq.trans (runC_post _ _ _ k) (Eq.trans (ops_run _ _ _ _) (by kernel_rfl))
def m16_9 (n N : Nat) (x1 x5 x9 x10 x11 : D) (K : D → D → D → D → D → Option R) (K0 : D → Option R) : Option R :=
  (bif (ltb x11.toI x10.toI) then (bif (inb x11.toI x9.toL.length) then (bif (ltb x1.toI x5.toI) then K0 x5 else (bif (prx16 n (x9.at (x11.toI : Int).toNat) (D.i (IntKind.wrap IntKind.i64 (x1.toI - x5.toI)))) then K x1 (D.i (IntKind.wrap IntKind.i64 (x5.toI + (spx16 n (x9.at (x11.toI : Int).toNat) (D.i (IntKind.wrap IntKind.i64 (x1.toI - x5.toI))))))) x9 x10 (D.i (IntKind.wrap IntKind.i64 (x11.toI + 1))) else none)) else none) else K0 x5)
def s16_4 (x5 : D) : St := sts 27 [(5, V.f x5)] []
theorem e16_9 (n N : Nat) (k : Kn R) (x1 x5 x9 x10 x11 : D) : runC PHI (Tx16 n) N vc16_9 (s16_3 x1 x5 x9 x10 x11) k = m16_9 n N x1 x5 x9 x10 x11 (fun x1 x5 x9 x10 x11 => k .normal (s16_3 x1 x5 x9 x10 x11)) (fun x5 => k (.exit 0) (s16_4 x5)) := by kernel_rfl
def l16_8 (n N : Nat) (j : Nat) (x1 x5 x9 x10 x11 : D) (K0 : D → Option R) : Option R :=
  match j with
  | 0 => none
  | j + 1 => (m16_9 n N x1 x5 x9 x10 x11 (fun y1 y5 y9 y10 y11 => l16_8 n N j y1 y5 y9 y10 y11 K0) K0)
def m16_8 (n N : Nat) (x1 x5 x9 x10 x11 : D) (K0 : D → Option R) : Option R :=
  l16_8 n N N x1 x5 x9 x10 x11 K0
theorem el16_8 (n N : Nat) (k : Kn R) : ∀ (j : Nat) (x1 x5 x9 x10 x11 : D), loopGo (runC PHI (Tx16 n) N vc16_9) j (s16_3 x1 x5 x9 x10 x11) k = l16_8 n N j x1 x5 x9 x10 x11 (fun x5 => k (.exit 0) (s16_4 x5))
  | 0, _, _, _, _, _ => by kernel_rfl
  | j + 1, x1, x5, x9, x10, x11 => by
    have h2 := e16_9 n N (kloop PHI (Tx16 n) N vc16_9 j k) x1 x5 x9 x10 x11
    have h3 : (fun (y1 y5 y9 y10 y11 : D) => (kloop PHI (Tx16 n) N vc16_9 j k) .normal (s16_3 y1 y5 y9 y10 y11)) = (fun (y1 y5 y9 y10 y11 : D) => l16_8 n N j y1 y5 y9 y10 y11 (fun x5 => k (.exit 0) (s16_4 x5))) := funext fun y1 => funext fun y5 => funext fun y9 => funext fun y10 => funext fun y11 => (el16_8 n N k j y1 y5 y9 y10 y11)
    refine Eq.trans (loop_succ _ j _ k) (Eq.trans h2 (Eq.trans (congrArg (fun K => m16_9 n N x1 x5 x9 x10 x11 K (fun x5 => (kloop PHI (Tx16 n) N vc16_9 j k) (.exit 0) (s16_4 x5))) h3) (by kernel_rfl)))
theorem e16_8 (n N : Nat) (k : Kn R) (x1 x5 x9 x10 x11 : D) : runC PHI (Tx16 n) N vc16_8 (s16_3 x1 x5 x9 x10 x11) k = m16_8 n N x1 x5 x9 x10 x11 (fun x5 => k (.exit 0) (s16_4 x5)) := by
  refine Eq.trans (runC_loop _ _ k) (Eq.trans (el16_8 n N k N x1 x5 x9 x10 x11) (by kernel_rfl))
def m16_7 (n N : Nat) (x1 x5 x9 x10 x11 : D) (K : D → Option R) : Option R :=
  (m16_8 n N x1 x5 x9 x10 x11 (fun y5 => K y5))
theorem e16_7 (n N : Nat) (k : Kn R) (x1 x5 x9 x10 x11 : D) : runC PHI (Tx16 n) N vc16_7 (s16_3 x1 x5 x9 x10 x11) k = m16_7 n N x1 x5 x9 x10 x11 (fun x5 => k .normal (s16_4 x5)) := by
  refine Eq.trans (runC_block _ _ _ k) (Eq.trans (e16_8 n N (kblk 0 k) x1 x5 x9 x10 x11) (by kernel_rfl))
def m16_5 (n N : Nat) (x1 x2 x5 : D) (K : D → Option R) : Option R :=
  (m16_6 n N x1 x2 x5 (fun y1 y5 y9 y10 y11 => (m16_7 n N y1 y5 y9 y10 y11 (fun y5 => K y5))))
theorem e16_5 (n N : Nat) (k : Kn R) (x1 x2 x5 : D) : runC PHI (Tx16 n) N vc16_5 (s16_2 x1 x2 x5) k = m16_5 n N x1 x2 x5 (fun x5 => k .normal (s16_4 x5)) := by
  have h2 := e16_6 n N (kseq PHI (Tx16 n) N vc16_7 k) x1 x2 x5
  have h3 := (funext fun y1 => funext fun y5 => funext fun y9 => funext fun y10 => funext fun y11 => (e16_7 n N k y1 y5 y9 y10 y11) : (fun (y1 y5 y9 y10 y11 : D) => (kseq PHI (Tx16 n) N vc16_7 k) .normal (s16_3 y1 y5 y9 y10 y11)) = _)
  refine Eq.trans (runC_seq _ _ _ k) (Eq.trans h2 (Eq.trans (congrArg (fun K => m16_6 n N x1 x2 x5 K) h3) (by kernel_rfl)))
def m16_27 (n N : Nat) (x5 : D) (Kr : D → Option R) : Option R :=
  Kr x5
def s16_5 (x4 : D) : St := sts 27 [(4, V.f x4)] []
theorem e16_27 (n N : Nat) (k : Kn R) (x5 : D) : runC PHI (Tx16 n) N vc16_27 (s16_4 x5) k = m16_27 n N x5 (fun x4 => k .ret (s16_5 x4)) := by kernel_rfl
def m16_4 (n N : Nat) (x1 x2 x5 : D) (Kr : D → Option R) : Option R :=
  (m16_5 n N x1 x2 x5 (fun y5 => (m16_27 n N y5 Kr)))
theorem e16_4 (n N : Nat) (k : Kn R) (x1 x2 x5 : D) : runC PHI (Tx16 n) N vc16_4 (s16_2 x1 x2 x5) k = m16_4 n N x1 x2 x5 (fun x4 => k .ret (s16_5 x4)) := by
  have h2 := e16_5 n N (kseq PHI (Tx16 n) N vc16_27 k) x1 x2 x5
  have h3 := (funext fun y5 => (e16_27 n N k y5) : (fun (y5 : D) => (kseq PHI (Tx16 n) N vc16_27 k) .normal (s16_4 y5)) = _)
  refine Eq.trans (runC_seq _ _ _ k) (Eq.trans h2 (Eq.trans (congrArg (fun K => m16_5 n N x1 x2 x5 K) h3) (by kernel_rfl)))
def m16_2 (n N : Nat) (x1 x2 : D) (Kr : D → Option R) : Option R :=
  (m16_3 n N x1 x2 (fun y1 y2 y5 => (m16_4 n N y1 y2 y5 Kr)))
theorem e16_2 (n N : Nat) (k : Kn R) (x1 x2 : D) : runC PHI (Tx16 n) N vc16_2 (s16_1 x1 x2) k = m16_2 n N x1 x2 (fun x4 => k .ret (s16_5 x4)) := by
  have h2 := e16_3 n N (kseq PHI (Tx16 n) N vc16_4 k) x1 x2
  have h3 := (funext fun y1 => funext fun y2 => funext fun y5 => (e16_4 n N k y1 y2 y5) : (fun (y1 y2 y5 : D) => (kseq PHI (Tx16 n) N vc16_4 k) .normal (s16_2 y1 y2 y5)) = _)
  refine Eq.trans (runC_seq _ _ _ k) (Eq.trans h2 (Eq.trans (congrArg (fun K => m16_3 n N x1 x2 K) h3) (by kernel_rfl)))
def m16_0 (n N : Nat) (x0 x1 : D) (Kr : D → Option R) : Option R :=
  (m16_1 n N x0 x1 (fun y1 y2 => (m16_2 n N y1 y2 Kr)))
theorem e16_0 (n N : Nat) (k : Kn R) (x0 x1 : D) : runC PHI (Tx16 n) N vc16_0 (s16_0 x0 x1) k = m16_0 n N x0 x1 (fun x4 => k .ret (s16_5 x4)) := by
  have h2 := e16_1 n N (kseq PHI (Tx16 n) N vc16_2 k) x0 x1
  have h3 := (funext fun y1 => funext fun y2 => (e16_2 n N k y1 y2) : (fun (y1 y2 : D) => (kseq PHI (Tx16 n) N vc16_2 k) .normal (s16_1 y1 y2)) = _)
  refine Eq.trans (runC_seq _ _ _ k) (Eq.trans h2 (Eq.trans (congrArg (fun K => m16_1 n N x0 x1 K) h3) (by kernel_rfl)))
theorem r16 (n N : Nat) (x0 x1 : D) : runC PHI (Tx16 n) N vf16.body (enterV vf16 [V.f x0, V.f x1] []) (finish vf16) = m16_0 n N x0 x1 (fun x4 => finish vf16 .ret (s16_5 x4)) := 
  Eq.trans (runC_pre (s1 := (s16_0 x0 x1)) (by kernel_rfl) _ _) (Eq.trans (e16_0 n N (finish vf16) x0 x1) (by kernel_rfl))
end
theorem l16 {R : Type} (n N : Nat) (m xs : D) (K0 : D → Option R) (hl : xs.toL.length ≤ 9223372036854775807) (hd : ∀ y ∈ xs.toL, depOk n y = true) : ∀ (k i j : Nat) (s : Int), i + k = xs.toL.length → k < j →
    l16_8 n N j m (.i s) xs (.i (xs.toL.length : Int)) (.i (i : Nat)) K0 = K0 (.i (szL (szN n) m.toI (xs.toL.drop i) s))
  | _, _, 0, _, _, h => by omega
  | 0, i, j + 1, s, h, _ => by
    have : i = xs.toL.length := by omega
    subst this
    simp only [l16_8, m16_9, toI_i, ltb_self, cond_false, List.drop_length, szL]
  | k + 1, i, j + 1, s, h, h' => by
    have hi : i < xs.toL.length := by omega
    have ih := fun s' => l16 n N m xs K0 hl hd k (i + 1) j s' (by omega) (by omega)
    have e : xs.toL.getD i .nil = xs.toL[i] := by rw [List.getD_eq_getElem?_getD, List.getElem?_eq_getElem hi]; rfl
    simp only [l16_8, m16_9, toI_i, ltb_n hi, inb_t hi, cond_true, at_nat, succ_n hi hl, e, prx16, hd _ (List.getElem_mem hi), ih, List.drop_eq_getElem_cons hi, szL, spx16]
    cases ltb m.toI s <;> rfl
theorem okx16 : ∀ n, FnOk Try.prog PHI (Tx16 n) := by
  refine FnOk.rec Try.prog PHI hPHI ok14 (vf := vf16) (by kernel_rfl) (fun n => fn2 (prx16 n) fun a m => .f (.i (spx16 n a m))) (fun args => ?_) (fun n args r H' ha hr => ?_)
  · unfold fn2; split <;> rfl
  · unfold fn2 at hr
    split at hr
    · rename_i a m
      obtain ⟨h1, h2⟩ := toO_some hr
      injection h2 with h2 h3; subst h2; subst h3
      have hl := ((ha.is 0 rfl rfl).fld (k := 6) (ft := 23) (off := 9) (by kernel_rfl)).len' (e := 42) (by kernel_rfl)
      refine ⟨(a.at 6).toL.length + 1, (r16 n _ a m).trans ?_⟩
      simp only [m16_0, m16_1, m16_2, m16_3, m16_4, m16_5, m16_6, m16_7, m16_8, m16_27, isPtr_p, deref_p, cond_true]
      rw [show (0 : Int) = ((0 : Nat) : Int) from rfl, l16 n _ m (a.at 6) _ hl (fun y hy => List.all_eq_true.1 (show ((a.at 6).toL.all (depOk n)) = true from h1) y hy) (a.at 6).toL.length 0 _ _ (by omega) (by omega)]
      rfl
    · cases hr
def sp16 (a m : D) : Int := szN a.wt a m.toI
def pr16 (_ _ : D) : Bool := true
def Tb16 : CallF := extend Tb14 16 (fn2 pr16 fun a m => .f (.i (sp16 a m)))
theorem ok16 : FnOk Try.prog PHI Tb16 := FnOk.lim okx16 fun args r hr => by
  unfold fn2 at hr
  split at hr
  · rename_i a m
    refine ⟨a.wt, ?_⟩
    show toO (prx16 a.wt a m, _, _) = _
    rw [show prx16 a.wt a m = true from depOk_size _ _ (Nat.le_refl _)]
    exact hr
  · cases hr
/-! ### Turn -/
def sp32 (a : D) : D := bif eqL a.toS [60] then .s [62] else bif eqL a.toS [60, 61] then .s [62, 61] else bif eqL a.toS [62] then .s [60] else bif eqL a.toS [62, 61] then .s [60, 61] else a
section
variable {R : Type}
def m32_0 (N : Nat) (x0 : D) (Kr : D → Option R) : Option R :=
  (bif (eqL x0.toS [60]) then Kr (D.s [62]) else (bif (eqL x0.toS [60, 61]) then Kr (D.s [62, 61]) else (bif (eqL x0.toS [62]) then Kr (D.s [60]) else (bif (eqL x0.toS [62, 61]) then Kr (D.s [60, 61]) else Kr x0))))
def s32_0 (x0 : D) : St := sts 13 [(0, V.f x0)] []
def s32_1 (x2 : D) : St := sts 13 [(2, V.f x2)] []
theorem e32_0 (N : Nat) (k : Kn R) (x0 : D) : runC PHI Tb16 N vc32_0 (s32_0 x0) k = m32_0 N x0 (fun x2 => k .ret (s32_1 x2)) := by kernel_rfl
theorem r32 (N : Nat) (x0 : D) : runC PHI Tb16 N vf32.body (enterV vf32 [V.f x0] []) (finish vf32) = m32_0 N x0 (fun x2 => finish vf32 .ret (s32_1 x2)) := 
  Eq.trans (runC_pre (s1 := (s32_0 x0)) (by kernel_rfl) _ _) (Eq.trans (e32_0 N (finish vf32) x0) (by kernel_rfl))
end
def Tb32 : CallF := extend Tb16 32 (fn1 (fun _ => true) fun a => .f (sp32 a))
theorem ok32 : FnOk Try.prog PHI Tb32 := FnOk.add1 hPHI ok16 (by kernel_rfl) fun a ha _ => ⟨0, (r32 0 a).trans (by
  unfold m32_0 sp32
  cases eqL a.toS [60] <;> cases eqL a.toS [60, 61] <;> cases eqL a.toS [62] <;> cases eqL a.toS [62, 61] <;> rfl)⟩
def sp45 (a : D) : D := sp32 a
theorem eqL_iff : ∀ (x y : List Nat), eqL x y = decide (x = y)
  | [], [] => rfl
  | [], _ :: _ => rfl
  | _ :: _, [] => rfl
  | a :: x, b :: y => by rw [eqL, eqL_iff x y]; by_cases h : a = b <;> by_cases h' : x = y <;> simp [h, h']
theorem eqL_symm (x y : List Nat) : eqL x y = eqL y x := by rw [eqL_iff, eqL_iff]; by_cases h : x = y <;> simp [h, eq_comm]
section
variable {R : Type}
def m45_1 (N : Nat) (x0 : D) (K : D → Option R) : Option R :=
  K x0
def s45_0 (x0 : D) : St := sts 23 [(0, V.f x0)] []
theorem e45_1 (N : Nat) (k : Kn R) (x0 : D) : runC PHI Tb32 N vc45_1 (s45_0 x0) k = m45_1 N x0 (fun x0 => k .normal (s45_0 x0)) := by
  refine Eq.trans (runC_post _ _ _ k) (Eq.trans (ops_run _ _ _ _) (by kernel_rfl))
def m45_3 (N : Nat) (x0 : D) (K : D → D → D → Option R) : Option R :=
  K x0 (D.sl ([(D.s [60]), (D.s [60, 61]), (D.s [62]), (D.s [62, 61])] : List D)) (D.sl ([(D.s [62]), (D.s [62, 61]), (D.s [60]), (D.s [60, 61])] : List D))
def s45_1 (x0 x3 x4 : D) : St := sts 23 [(0, V.f x0), (3, V.f x3), (4, V.f x4)] []
theorem e45_3 (N : Nat) (k : Kn R) (x0 : D) : runC PHI Tb32 N vc45_3 (s45_0 x0) k = m45_3 N x0 (fun x0 x3 x4 => k .normal (s45_1 x0 x3 x4)) := by
  refine Eq.trans (runC_post _ _ _ k) (Eq.trans (ops_run _ _ _ _) (by kernel_rfl))
def m45_6 (N : Nat) (x0 x3 x4 : D) (K : D → D → D → D → Option R) : Option R :=
  K x0 x3 x4 (D.i 0)
def s45_2 (x0 x3 x4 x5 : D) : St := sts 23 [(0, V.f x0), (3, V.f x3), (4, V.f x4), (5, V.f x5)] []
theorem e45_6 (N : Nat) (k : Kn R) (x0 x3 x4 : D) : runC PHI Tb32 N vc45_6 (s45_1 x0 x3 x4) k = m45_6 N x0 x3 x4 (fun x0 x3 x4 x5 => k .normal (s45_2 x0 x3 x4 x5)) := by
  refine Eq.trans (runC_post _ _ _ k) (Eq.trans (ops_run _ _ _ _) (by kernel_rfl))
def m45_9 (N : Nat) (x0 x3 x4 x5 : D) (K : D → D → D → D → Option R) (K0 : D → Option R) (Kr : D → Option R) : Option R :=
  (bif (ltb x5.toI 4) then (bif (inb x5.toI x3.toL.length) then (bif (eqL (x3.at (x5.toI : Int).toNat).toS x0.toS) then (bif (inb x5.toI x4.toL.length) then Kr (x4.at (x5.toI : Int).toNat) else none) else K x0 x3 x4 (D.i (IntKind.wrap IntKind.i64 (x5.toI + 1)))) else none) else K0 x0)
def s45_3 (x2 : D) : St := sts 23 [(2, V.f x2)] []
theorem e45_9 (N : Nat) (k : Kn R) (x0 x3 x4 x5 : D) : runC PHI Tb32 N vc45_9 (s45_2 x0 x3 x4 x5) k = m45_9 N x0 x3 x4 x5 (fun x0 x3 x4 x5 => k .normal (s45_2 x0 x3 x4 x5)) (fun x0 => k (.exit 0) (s45_0 x0)) (fun x2 => k .ret (s45_3 x2)) := by kernel_rfl
def l45_8 (N : Nat) (j : Nat) (x0 x3 x4 x5 : D) (K0 : D → Option R) (Kr : D → Option R) : Option R :=
  match j with
  | 0 => none
  | j + 1 => (m45_9 N x0 x3 x4 x5 (fun y0 y3 y4 y5 => l45_8 N j y0 y3 y4 y5 K0 Kr) K0 Kr)
def m45_8 (N : Nat) (x0 x3 x4 x5 : D) (K0 : D → Option R) (Kr : D → Option R) : Option R :=
  l45_8 N N x0 x3 x4 x5 K0 Kr
theorem el45_8 (N : Nat) (k : Kn R) : ∀ (j : Nat) (x0 x3 x4 x5 : D), loopGo (runC PHI Tb32 N vc45_9) j (s45_2 x0 x3 x4 x5) k = l45_8 N j x0 x3 x4 x5 (fun x0 => k (.exit 0) (s45_0 x0)) (fun x2 => k .ret (s45_3 x2))
  | 0, _, _, _, _ => by kernel_rfl
  | j + 1, x0, x3, x4, x5 => by
    have h2 := e45_9 N (kloop PHI Tb32 N vc45_9 j k) x0 x3 x4 x5
    have h3 : (fun (y0 y3 y4 y5 : D) => (kloop PHI Tb32 N vc45_9 j k) .normal (s45_2 y0 y3 y4 y5)) = (fun (y0 y3 y4 y5 : D) => l45_8 N j y0 y3 y4 y5 (fun x0 => k (.exit 0) (s45_0 x0)) (fun x2 => k .ret (s45_3 x2))) := funext fun y0 => funext fun y3 => funext fun y4 => funext fun y5 => (el45_8 N k j y0 y3 y4 y5)
    refine Eq.trans (loop_succ _ j _ k) (Eq.trans h2 (Eq.trans (congrArg (fun K => m45_9 N x0 x3 x4 x5 K (fun x0 => (kloop PHI Tb32 N vc45_9 j k) (.exit 0) (s45_0 x0)) (fun x2 => (kloop PHI Tb32 N vc45_9 j k) .ret (s45_3 x2))) h3) (by kernel_rfl)))
theorem e45_8 (N : Nat) (k : Kn R) (x0 x3 x4 x5 : D) : runC PHI Tb32 N vc45_8 (s45_2 x0 x3 x4 x5) k = m45_8 N x0 x3 x4 x5 (fun x0 => k (.exit 0) (s45_0 x0)) (fun x2 => k .ret (s45_3 x2)) := by
  refine Eq.trans (runC_loop _ _ k) (Eq.trans (el45_8 N k N x0 x3 x4 x5) (by kernel_rfl))
def m45_7 (N : Nat) (x0 x3 x4 x5 : D) (K : D → Option R) (Kr : D → Option R) : Option R :=
  (m45_8 N x0 x3 x4 x5 (fun y0 => K y0) Kr)
theorem e45_7 (N : Nat) (k : Kn R) (x0 x3 x4 x5 : D) : runC PHI Tb32 N vc45_7 (s45_2 x0 x3 x4 x5) k = m45_7 N x0 x3 x4 x5 (fun x0 => k .normal (s45_0 x0)) (fun x2 => k .ret (s45_3 x2)) := by
  refine Eq.trans (runC_block _ _ _ k) (Eq.trans (e45_8 N (kblk 0 k) x0 x3 x4 x5) (by kernel_rfl))
def m45_5 (N : Nat) (x0 x3 x4 : D) (K : D → Option R) (Kr : D → Option R) : Option R :=
  (m45_6 N x0 x3 x4 (fun y0 y3 y4 y5 => (m45_7 N y0 y3 y4 y5 (fun y0 => K y0) Kr)))
theorem e45_5 (N : Nat) (k : Kn R) (x0 x3 x4 : D) : runC PHI Tb32 N vc45_5 (s45_1 x0 x3 x4) k = m45_5 N x0 x3 x4 (fun x0 => k .normal (s45_0 x0)) (fun x2 => k .ret (s45_3 x2)) := by
  have h2 := e45_6 N (kseq PHI Tb32 N vc45_7 k) x0 x3 x4
  have h3 := (funext fun y0 => funext fun y3 => funext fun y4 => funext fun y5 => (e45_7 N k y0 y3 y4 y5) : (fun (y0 y3 y4 y5 : D) => (kseq PHI Tb32 N vc45_7 k) .normal (s45_2 y0 y3 y4 y5)) = _)
  refine Eq.trans (runC_seq _ _ _ k) (Eq.trans h2 (Eq.trans (congrArg (fun K => m45_6 N x0 x3 x4 K) h3) (by kernel_rfl)))
def m45_25 (N : Nat) (x0 : D) (Kr : D → Option R) : Option R :=
  Kr x0
theorem e45_25 (N : Nat) (k : Kn R) (x0 : D) : runC PHI Tb32 N vc45_25 (s45_0 x0) k = m45_25 N x0 (fun x2 => k .ret (s45_3 x2)) := by kernel_rfl
def m45_4 (N : Nat) (x0 x3 x4 : D) (Kr : D → Option R) : Option R :=
  (m45_5 N x0 x3 x4 (fun y0 => (m45_25 N y0 Kr)) Kr)
theorem e45_4 (N : Nat) (k : Kn R) (x0 x3 x4 : D) : runC PHI Tb32 N vc45_4 (s45_1 x0 x3 x4) k = m45_4 N x0 x3 x4 (fun x2 => k .ret (s45_3 x2)) := by
  have h2 := e45_5 N (kseq PHI Tb32 N vc45_25 k) x0 x3 x4
  have h3 := (funext fun y0 => (e45_25 N k y0) : (fun (y0 : D) => (kseq PHI Tb32 N vc45_25 k) .normal (s45_0 y0)) = _)
  refine Eq.trans (runC_seq _ _ _ k) (Eq.trans h2 (Eq.trans (congrArg (fun K => m45_5 N x0 x3 x4 K (fun x2 => (kseq PHI Tb32 N vc45_25 k) .ret (s45_3 x2))) h3) (by kernel_rfl)))
def m45_2 (N : Nat) (x0 : D) (Kr : D → Option R) : Option R :=
  (m45_3 N x0 (fun y0 y3 y4 => (m45_4 N y0 y3 y4 Kr)))
theorem e45_2 (N : Nat) (k : Kn R) (x0 : D) : runC PHI Tb32 N vc45_2 (s45_0 x0) k = m45_2 N x0 (fun x2 => k .ret (s45_3 x2)) := by
  have h2 := e45_3 N (kseq PHI Tb32 N vc45_4 k) x0
  have h3 := (funext fun y0 => funext fun y3 => funext fun y4 => (e45_4 N k y0 y3 y4) : (fun (y0 y3 y4 : D) => (kseq PHI Tb32 N vc45_4 k) .normal (s45_1 y0 y3 y4)) = _)
  refine Eq.trans (runC_seq _ _ _ k) (Eq.trans h2 (Eq.trans (congrArg (fun K => m45_3 N x0 K) h3) (by kernel_rfl)))
def m45_0 (N : Nat) (x0 : D) (Kr : D → Option R) : Option R :=
  (m45_1 N x0 (fun y0 => (m45_2 N y0 Kr)))
theorem e45_0 (N : Nat) (k : Kn R) (x0 : D) : runC PHI Tb32 N vc45_0 (s45_0 x0) k = m45_0 N x0 (fun x2 => k .ret (s45_3 x2)) := by
  have h2 := e45_1 N (kseq PHI Tb32 N vc45_2 k) x0
  have h3 := (funext fun y0 => (e45_2 N k y0) : (fun (y0 : D) => (kseq PHI Tb32 N vc45_2 k) .normal (s45_0 y0)) = _)
  refine Eq.trans (runC_seq _ _ _ k) (Eq.trans h2 (Eq.trans (congrArg (fun K => m45_1 N x0 K) h3) (by kernel_rfl)))
theorem r45 (N : Nat) (x0 : D) : runC PHI Tb32 N vf45.body (enterV vf45 [V.f x0] []) (finish vf45) = m45_0 N x0 (fun x2 => finish vf45 .ret (s45_3 x2)) := 
  Eq.trans (runC_pre (s1 := (s45_0 x0)) (by kernel_rfl) _ _) (Eq.trans (e45_0 N (finish vf45) x0) (by kernel_rfl))
end
def Tb45 : CallF := extend Tb32 45 (fn1 (fun _ => true) fun a => .f (sp45 a))
theorem ok45 : FnOk Try.prog PHI Tb45 := FnOk.add1 hPHI ok32 (by kernel_rfl) fun a ha _ => ⟨5, (r45 5 a).trans (by
  unfold sp45 sp32
  rw [eqL_symm a.toS, eqL_symm a.toS, eqL_symm a.toS, eqL_symm a.toS]
  simp only [m45_0, m45_1, m45_2, m45_3, m45_4, m45_5, m45_6, m45_7, m45_8, m45_25]
  have h := loop_find (fun j i => l45_8 5 j a (.sl [.s [60], .s [60, 61], .s [62], .s [62, 61]]) (.sl [.s [62], .s [62, 61], .s [60], .s [60, 61]]) (.i (i : Nat)) (fun y0 => finish vf45 .ret (s45_3 y0)) (fun x2 => finish vf45 .ret (s45_3 x2)))
    (fun i => eqL (([.s [60], .s [60, 61], .s [62], .s [62, 61]] : List D).getD i .nil).toS a.toS) 4 (finish vf45 .ret (s45_3 a)) (fun i => finish vf45 .ret (s45_3 (([.s [62], .s [62, 61], .s [60], .s [60, 61]] : List D).getD i .nil)))
    (fun j i hi => by simp only [l45_8, m45_9, toI_i, toL_sl, cond_true, ltb_t (show (i : Int) < 4 by omega), inb_t (show i < [D.s [60], D.s [60, 61], D.s [62], D.s [62, 61]].length from hi), inb_t (show i < [D.s [62], D.s [62, 61], D.s [60], D.s [60, 61]].length from hi), at_nat, succ_n hi (by omega)])
    (fun j => by simp only [l45_8, m45_9, toI_i, show ltb ((4 : Nat) : Int) 4 = false from rfl, cond_false])
    4 0 5 (by omega) (by omega)
  refine h.trans ?_
  simp only [fst, show (([.s [60], .s [60, 61], .s [62], .s [62, 61]] : List D).getD 0 .nil).toS = [60] from rfl, show (([.s [60], .s [60, 61], .s [62], .s [62, 61]] : List D).getD 1 .nil).toS = [60, 61] from rfl, show (([.s [60], .s [60, 61], .s [62], .s [62, 61]] : List D).getD 2 .nil).toS = [62] from rfl, show (([.s [60], .s [60, 61], .s [62], .s [62, 61]] : List D).getD 3 .nil).toS = [62, 61] from rfl]
  cases h1 : eqL [60] a.toS <;> cases h2 : eqL [60, 61] a.toS <;> cases h3 : eqL [62] a.toS <;> cases h4 : eqL [62, 61] a.toS <;> rfl)⟩

end Go.Vam.C20
