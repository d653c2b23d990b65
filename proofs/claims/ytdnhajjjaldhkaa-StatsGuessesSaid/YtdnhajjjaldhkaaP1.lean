/- Chapter 15: what functions come to, part 1. No conditions. -/
import Derived.Test.YtdnhajjjaldhkaaB2
import Derived.KernelRfl
set_option linter.unusedVariables false
set_option linter.unusedSimpArgs false
set_option maxRecDepth 100000
namespace Go.Vam.C15
open Go.Proofs
theorem drop_cons {α : Type} {xs : List α} {i : Nat} {x : α} {r : List α} (d : α) (h : xs.drop i = x :: r) : i < xs.length ∧ xs.getD i d = x ∧ xs.drop (i + 1) = r := by
  have hi : i < xs.length := by
    by_cases hh : i < xs.length
    · exact hh
    · rw [List.drop_eq_nil_of_le (by omega)] at h; cases h
  rw [List.drop_eq_getElem_cons hi] at h
  injection h with h1 h2
  refine ⟨hi, ?_, h2⟩
  rw [List.getD_eq_getElem?_getD, List.getElem?_eq_getElem hi]
  exact h1
theorem drop_nil {α : Type} {xs : List α} {i : Nat} (h : xs.drop i = []) : xs.length ≤ i := by
  have := congrArg List.length h
  simp at this
  omega
theorem at_nat (d : D) (i : Nat) : d.at (i : Int).toNat = d.toL.getD i .nil := rfl
theorem inb_t {i n : Nat} (h : i < n) : inb (i : Int) n = true := inb_of (by omega) (by omega)
theorem inb_nat {i n : Nat} : inb (i : Int) n = decide (i < n) := by
  simp [inb]
theorem ltb_nat {i n : Nat} : ltb (i : Int) (n : Int) = decide (i < n) := by
  unfold ltb; by_cases h : i < n <;> simp [h]
theorem succ_nat {i : Nat} (h : i < 9223372036854775807) : IntKind.i64.wrap ((i : Int) + 1) = ((i + 1 : Nat) : Int) := by
  rw [wrap64_id (by omega) (by omega)]; simp
theorem dT {p : Prop} {i : Decidable p} (h : p) : @decide p i = true := by simp [h]
theorem dF {p : Prop} {i : Decidable p} (h : ¬ p) : @decide p i = false := by simp [h]
/-- The first place in a list where something holds. -/
def find (p : D → Bool) : List D → Nat → Int
  | [], _ => -1
  | x :: r, i => bif p x then (i : Int) else find p r (i + 1)
theorem find_pos (p : D → Bool) : ∀ (l : List D) (i : Nat), leb 0 (find p l i) = l.any p
  | [], i => rfl
  | x :: r, i => by
    rw [find, List.any_cons]
    cases h : p x
    · simp only [cond_false, Bool.false_or]; exact find_pos p r (i + 1)
    · simp [leb]
/-! ### Loops -/
/-- The first number from i on, of k, at which something holds; -1: none. -/
def fst (p : Nat → Bool) : Nat → Nat → Int
  | 0, _ => -1
  | k + 1, i => bif p i then (i : Int) else fst p k (i + 1)
theorem loop_find {R : Type} (L : Nat → Nat → Option R) (p : Nat → Bool) (n : Nat) (K0 : Option R) (Kr : Nat → Option R) (hs : ∀ j i, i < n → L (j + 1) i = bif p i then Kr i else L j (i + 1)) (he : ∀ j, L (j + 1) n = K0) :
    ∀ k i j, i + k = n → k < j → L j i = bif leb 0 (fst p k i) then Kr (fst p k i).toNat else K0
  | _, _, 0, _, h => by omega
  | 0, i, j + 1, h, _ => by
    have : i = n := by omega
    subst this
    rw [he]; rfl
  | k + 1, i, j + 1, h, h' => by
    rw [hs j i (by omega), fst]
    cases p i
    · simp only [cond_false]; exact loop_find L p n K0 Kr hs he k (i + 1) j (by omega) (by omega)
    · simp [leb]
def foldI {σ : Type} (f : Nat → σ → σ) : Nat → Nat → σ → σ
  | 0, _, s => s
  | k + 1, i, s => foldI f k (i + 1) (f i s)
theorem loop_fold {R σ : Type} (L : Nat → Nat → σ → Option R) (K : σ → Option R) (n : Nat) (f : Nat → σ → σ) (I : Nat → σ → Prop) (hs : ∀ j i s, i < n → I i s → L (j + 1) i s = L j (i + 1) (f i s)) (hI : ∀ i s, i < n → I i s → I (i + 1) (f i s)) (he : ∀ j s, I n s → L (j + 1) n s = K s) :
    ∀ k i j s, i + k = n → k < j → I i s → L j i s = K (foldI f k i s)
  | _, _, 0, _, _, h, _ => by omega
  | 0, i, j + 1, s, h, _, hi => by
    have : i = n := by omega
    subst this
    rw [he j s hi]; rfl
  | k + 1, i, j + 1, s, h, h', hi => by
    rw [hs j i s (by omega) hi, foldI]
    exact loop_fold L K n f I hs hI he k (i + 1) j _ (by omega) (by omega) (hI i s (by omega) hi)
theorem foldI_inv {σ : Type} {f : Nat → σ → σ} {n : Nat} {I : Nat → σ → Prop} (hI : ∀ i s, i < n → I i s → I (i + 1) (f i s)) : ∀ k i s, i + k = n → I i s → I n (foldI f k i s)
  | 0, i, s, h, hi => by
    have : i = n := by omega
    subst this
    exact hi
  | k + 1, i, s, h, hi => foldI_inv hI k (i + 1) _ (by omega) (hI i s (by omega) hi)
theorem foldI_list {σ : Type} {g : σ → D → σ} (xs : List D) : ∀ k i s, i + k = xs.length → foldI (fun i s => g s (xs.getD i .nil)) k i s = (xs.drop i).foldl g s
  | 0, i, s, h => by rw [List.drop_eq_nil_of_le (by omega)]; rfl
  | k + 1, i, s, h => by
    have hi : i < xs.length := by omega
    rw [foldI, foldI_list xs k (i + 1) _ (by omega), List.drop_eq_getElem_cons hi, List.foldl_cons, List.getD_eq_getElem?_getD, List.getElem?_eq_getElem hi]
    rfl
theorem fst_any (p : D → Bool) (xs : List D) : ∀ k i, i + k = xs.length → leb 0 (fst (fun i => p (xs.getD i .nil)) k i) = (xs.drop i).any p
  | 0, i, h => by rw [List.drop_eq_nil_of_le (by omega)]; rfl
  | k + 1, i, h => by
    have hi : i < xs.length := by omega
    rw [List.drop_eq_getElem_cons hi, List.any_cons, fst, List.getD_eq_getElem?_getD, List.getElem?_eq_getElem hi]
    simp only [Option.getD_some]
    cases p xs[i]
    · simp only [cond_false, Bool.false_or]; exact fst_any p xs k (i + 1) (by omega)
    · simp [leb]
theorem fst_all2 (p : D → D → Bool) (xs ys : List D) (hl : xs.length = ys.length) : ∀ k i, i + k = xs.length → leb 0 (fst (fun i => !p (xs.getD i .nil) (ys.getD i .nil)) k i) = !((xs.drop i).zip (ys.drop i)).all fun q => p q.1 q.2
  | 0, i, h => by rw [List.drop_eq_nil_of_le (by omega)]; rfl
  | k + 1, i, h => by
    have hi : i < xs.length := by omega
    have hi' : i < ys.length := by omega
    rw [List.drop_eq_getElem_cons hi, List.drop_eq_getElem_cons hi', List.zip_cons_cons, List.all_cons, fst, List.getD_eq_getElem?_getD, List.getElem?_eq_getElem hi, List.getD_eq_getElem?_getD, List.getElem?_eq_getElem hi']
    simp only [Option.getD_some]
    cases p xs[i] ys[i]
    · simp [leb]
    · simp only [Bool.not_true, cond_false, Bool.true_and]; exact fst_all2 p xs ys hl k (i + 1) (by omega)
theorem isPtr_p {d : D} : isPtrD (.p d) = true := rfl
theorem deref_p {d : D} : (D.p d).deref = d := rfl
theorem toI_i {n : Int} : (D.i n).toI = n := rfl
theorem toB_b {b : Bool} : (D.b b).toB = b := rfl
theorem toS_s {x : List Nat} : (D.s x).toS = x := rfl
theorem toL_sl {x : List D} : (D.sl x).toL = x := rfl
theorem toL_sz {x : List D} : (D.sz x).toL = x := rfl
theorem toL_sq {x : List D} : (D.sq x).toL = x := rfl
theorem toL_ag {x : List D} : (D.ag x).toL = x := rfl
theorem ltb_self {n : Int} : ltb n n = false := ltb_f (by omega)
theorem ltb_n {i n : Nat} (h : i < n) : ltb (i : Int) (n : Int) = true := ltb_t (by omega)
theorem succ_n {i n : Nat} (h : i < n) (hn : n ≤ 9223372036854775807) : IntKind.i64.wrap ((i : Int) + 1) = ((i + 1 : Nat) : Int) := succ_nat (by omega)
def foldO {σ : Type} (f : Nat → σ → Option σ) : Nat → Nat → σ → Option σ
  | 0, _, s => some s
  | k + 1, i, s => (f i s).elim none (foldO f k (i + 1))
theorem loop_opt {R σ : Type} (L : Nat → Nat → σ → Option R) (K : Option σ → Option R) (n : Nat) (f : Nat → σ → Option σ) (I : Nat → σ → Prop) (hs : ∀ j i s, i < n → I i s → L (j + 1) i s = (f i s).elim (K none) (L j (i + 1))) (hI : ∀ i s s', i < n → I i s → f i s = some s' → I (i + 1) s') (he : ∀ j s, I n s → L (j + 1) n s = K (some s)) :
    ∀ k i j s, i + k = n → k < j → I i s → L j i s = K (foldO f k i s)
  | _, _, 0, _, _, h, _ => by omega
  | 0, i, j + 1, s, h, _, hi => by
    have : i = n := by omega
    subst this
    rw [he j s hi]; rfl
  | k + 1, i, j + 1, s, h, h', hi => by
    rw [hs j i s (by omega) hi, foldO]
    cases hf : f i s with
    | none => rfl
    | some s' => exact loop_opt L K n f I hs hI he k (i + 1) j s' (by omega) (by omega) (hI i s s' (by omega) hi hf)
def runO {σ : Type} (g : σ → D → Option σ) : List D → σ → Option σ
  | [], s => some s
  | x :: r, s => (g s x).elim none (runO g r)
theorem foldO_list {σ : Type} {g : σ → D → Option σ} (xs : List D) : ∀ k i s, i + k = xs.length → foldO (fun i s => g s (xs.getD i .nil)) k i s = runO g (xs.drop i) s
  | 0, i, s, h => by rw [List.drop_eq_nil_of_le (by omega)]; rfl
  | k + 1, i, s, h => by
    have hi : i < xs.length := by omega
    rw [foldO, List.drop_eq_getElem_cons hi, runO, List.getD_eq_getElem?_getD, List.getElem?_eq_getElem hi]
    simp only [Option.getD_some]
    congr 1
    funext s'
    exact foldO_list xs k (i + 1) s' (by omega)
theorem getD_at {xs : List D} {i : Nat} (h : i < xs.length) : xs.getD i .nil = xs[i] := by rw [List.getD_eq_getElem?_getD, List.getElem?_eq_getElem h]; rfl

end Go.Vam.C15
namespace Go.Vam.C15
open Go.Proofs
/-- The first guard of all laws: it holds. -/
theorem lives_run : toO (runF PHI 60 7 [] []) = some (.f (.b true), []) := by kernel_rfl
def sp7 : Bool := true
def Tb7 : CallF := extend noF 7 (fn0 true (.f (.b sp7)))
theorem ok7 : FnOk Try.prog PHI Tb7 := FnOk.from (FnOk.empty _ _) (FnOk.run _ _ hPHI 60) _ fun args r h => by
  cases args with
  | nil => exact lives_run.trans h
  | cons y l => cases h

end Go.Vam.C15
namespace Go.Vam.C15
open Go.Proofs
theorem bif_app {α β : Type} {c : Bool} {a b : α} (f : α → β) : (bif c then f a else f b) = f (bif c then a else b) := by cases c <;> rfl
def z0 : D := D.ag [.i 0, .i 0, .f 0, .s []]
def sp91 : D := .f (9221120237041090561 : Int).toNat
section
variable {R : Type}
def m91_0 (N : Nat) (Kr : D → Option R) : Option R :=
  Kr (D.f (9221120237041090561 : Int).toNat)
def s91_0 : St := sts 2 [] []
def s91_1 (x0 : D) : St := sts 2 [(0, V.f x0)] []
theorem e91_0 (N : Nat) (k : Kn R) : runC PHI Tb7 N vc91_0 s91_0 k = m91_0 N (fun x0 => k .ret (s91_1 x0)) := by kernel_rfl
theorem r91 (N : Nat) : runC PHI Tb7 N vf91.body (enterV vf91 [] []) (finish vf91) = m91_0 N (fun x0 => finish vf91 .ret (s91_1 x0)) := 
  Eq.trans (runC_pre (s1 := s91_0) (by kernel_rfl) _ _) (Eq.trans (e91_0 N (finish vf91)) (by kernel_rfl))
end
def Tb91 : CallF := extend Tb7 91 (fn0 true (.f sp91))
theorem ok91 : FnOk Try.prog PHI Tb91 := FnOk.add0 hPHI ok7 (by kernel_rfl) fun _ => ⟨0, (r91 0).trans rfl⟩
def sp55 (x : D) : Bool := (F2.ev .fne x x).toB
section
variable {R : Type}
def m55_0 (N : Nat) (x0 : D) (Kr : D → Option R) : Option R :=
  Kr (F2.ev .fne x0 x0)
def s55_0 (x0 : D) : St := sts 6 [(0, V.f x0)] []
def s55_1 (x2 : D) : St := sts 6 [(2, V.f x2)] []
theorem e55_0 (N : Nat) (k : Kn R) (x0 : D) : runC PHI Tb91 N vc55_0 (s55_0 x0) k = m55_0 N x0 (fun x2 => k .ret (s55_1 x2)) := by kernel_rfl
theorem r55 (N : Nat) (x0 : D) : runC PHI Tb91 N vf55.body (enterV vf55 [V.f x0] []) (finish vf55) = m55_0 N x0 (fun x2 => finish vf55 .ret (s55_1 x2)) := 
  Eq.trans (runC_pre (s1 := (s55_0 x0)) (by kernel_rfl) _ _) (Eq.trans (e55_0 N (finish vf55) x0) (by kernel_rfl))
end
def Tb55 : CallF := extend Tb91 55 (fn1 (fun _ => true) fun x => .f (.b (sp55 x)))
theorem ok55 : FnOk Try.prog PHI Tb55 := FnOk.add1 hPHI ok91 (by kernel_rfl) fun x _ _ => ⟨0, (r55 0 x).trans rfl⟩
def sp39 (x : D) : Bool := (F2.ev .feq x x).toB
section
variable {R : Type}
def m39_0 (N : Nat) (x0 : D) (Kr : D → Option R) : Option R :=
  Kr (F2.ev .feq x0 x0)
def s39_0 (x0 : D) : St := sts 6 [(0, V.f x0)] []
def s39_1 (x2 : D) : St := sts 6 [(2, V.f x2)] []
theorem e39_0 (N : Nat) (k : Kn R) (x0 : D) : runC PHI Tb55 N vc39_0 (s39_0 x0) k = m39_0 N x0 (fun x2 => k .ret (s39_1 x2)) := by kernel_rfl
theorem r39 (N : Nat) (x0 : D) : runC PHI Tb55 N vf39.body (enterV vf39 [V.f x0] []) (finish vf39) = m39_0 N x0 (fun x2 => finish vf39 .ret (s39_1 x2)) := 
  Eq.trans (runC_pre (s1 := (s39_0 x0)) (by kernel_rfl) _ _) (Eq.trans (e39_0 N (finish vf39) x0) (by kernel_rfl))
end
def Tb39 : CallF := extend Tb55 39 (fn1 (fun _ => true) fun x => .f (.b (sp39 x)))
theorem ok39 : FnOk Try.prog PHI Tb39 := FnOk.add1 hPHI ok55 (by kernel_rfl) fun x _ _ => ⟨0, (r39 0 x).trans rfl⟩
def canon (x : D) : D := bif sp55 x then sp91 else bif (F2.ev .feq x (.f 0)).toB then .f 0 else x
def sp61 (x : D) : D := .ag [.i 2, .i 0, canon x, .s []]
section
variable {R : Type}
def m61_0 (N : Nat) (x0 : D) (Kr : D → Option R) : Option R :=
  (bif (sp55 x0) then Kr (D.p (D.ag [(D.i 2), (D.i 0), sp91, (D.s [])])) else (bif (F2.ev .feq x0 (D.f 0)).toB then Kr (D.p (D.ag [(D.i 2), (D.i 0), (D.f 0), (D.s [])])) else Kr (D.p (D.ag [(D.i 2), (D.i 0), x0, (D.s [])]))))
def s61_0 (x0 : D) : St := sts 12 [(0, V.f x0)] []
def s61_1 (x2 : D) : St := sts 12 [(2, V.f x2)] []
theorem e61_0 (N : Nat) (k : Kn R) (x0 : D) : runC PHI Tb39 N vc61_0 (s61_0 x0) k = m61_0 N x0 (fun x2 => k .ret (s61_1 x2)) := by kernel_rfl
theorem r61 (N : Nat) (x0 : D) : runC PHI Tb39 N vf61.body (enterV vf61 [V.f x0] []) (finish vf61) = m61_0 N x0 (fun x2 => finish vf61 .ret (s61_1 x2)) := 
  Eq.trans (runC_pre (s1 := (s61_0 x0)) (by kernel_rfl) _ _) (Eq.trans (e61_0 N (finish vf61) x0) (by kernel_rfl))
end
def Tb61 : CallF := extend Tb39 61 (fn1 (fun _ => true) fun x => .f (sp61 x))
theorem ok61 : FnOk Try.prog PHI Tb61 := FnOk.add1 hPHI ok39 (by kernel_rfl) fun x _ _ => ⟨0, (r61 0 x).trans (by
  unfold m61_0 sp61 canon
  cases sp55 x <;> cases (F2.ev .feq x (.f 0)).toB <;> rfl)⟩
def sp60 (x : D) : D := .ag [.i 1, x, .f 0, .s []]
section
variable {R : Type}
def m60_0 (N : Nat) (x0 : D) (Kr : D → Option R) : Option R :=
  Kr (D.p (D.ag [(D.i 1), x0, (D.f 0), (D.s [])]))
def s60_0 (x0 : D) : St := sts 5 [(0, V.f x0)] []
def s60_1 (x2 : D) : St := sts 5 [(2, V.f x2)] []
theorem e60_0 (N : Nat) (k : Kn R) (x0 : D) : runC PHI Tb61 N vc60_0 (s60_0 x0) k = m60_0 N x0 (fun x2 => k .ret (s60_1 x2)) := by kernel_rfl
theorem r60 (N : Nat) (x0 : D) : runC PHI Tb61 N vf60.body (enterV vf60 [V.f x0] []) (finish vf60) = m60_0 N x0 (fun x2 => finish vf60 .ret (s60_1 x2)) := 
  Eq.trans (runC_pre (s1 := (s60_0 x0)) (by kernel_rfl) _ _) (Eq.trans (e60_0 N (finish vf60) x0) (by kernel_rfl))
end
def Tb60 : CallF := extend Tb61 60 (fn1 (fun _ => true) fun x => .f (sp60 x))
theorem ok60 : FnOk Try.prog PHI Tb60 := FnOk.add1 hPHI ok61 (by kernel_rfl) fun x _ _ => ⟨0, (r60 0 x).trans rfl⟩
def sp62 (x : D) : D := .ag [.i 3, .i 0, .f 0, x]
section
variable {R : Type}
def m62_0 (N : Nat) (x0 : D) (Kr : D → Option R) : Option R :=
  Kr (D.p (D.ag [(D.i 3), (D.i 0), (D.f 0), x0]))
def s62_0 (x0 : D) : St := sts 5 [(0, V.f x0)] []
def s62_1 (x2 : D) : St := sts 5 [(2, V.f x2)] []
theorem e62_0 (N : Nat) (k : Kn R) (x0 : D) : runC PHI Tb60 N vc62_0 (s62_0 x0) k = m62_0 N x0 (fun x2 => k .ret (s62_1 x2)) := by kernel_rfl
theorem r62 (N : Nat) (x0 : D) : runC PHI Tb60 N vf62.body (enterV vf62 [V.f x0] []) (finish vf62) = m62_0 N x0 (fun x2 => finish vf62 .ret (s62_1 x2)) := 
  Eq.trans (runC_pre (s1 := (s62_0 x0)) (by kernel_rfl) _ _) (Eq.trans (e62_0 N (finish vf62) x0) (by kernel_rfl))
end
def Tb62 : CallF := extend Tb60 62 (fn1 (fun _ => true) fun x => .f (sp62 x))
theorem ok62 : FnOk Try.prog PHI Tb62 := FnOk.add1 hPHI ok60 (by kernel_rfl) fun x _ _ => ⟨0, (r62 0 x).trans rfl⟩
def sp51 (x : D) : D := .ag [.i 4, .i (bif x.toB then 1 else 0), .f 0, .s []]
section
variable {R : Type}
def m51_0 (N : Nat) (x0 : D) (Kr : D → D → Option R) : Option R :=
  (bif x0.toB then Kr (D.p (D.setP [1] (D.ag [(D.i 4), (D.i 0), (D.f 0), (D.s [])]) (D.i 1))) (D.setP [1] (D.ag [(D.i 4), (D.i 0), (D.f 0), (D.s [])]) (D.i 1)) else Kr (D.p (D.ag [(D.i 4), (D.i 0), (D.f 0), (D.s [])])) (D.ag [(D.i 4), (D.i 0), (D.f 0), (D.s [])]))
def s51_0 (x0 : D) : St := sts 8 [(0, V.f x0)] [V.u]
def s51_1 (x2 h0 : D) : St := sts 8 [(2, V.f x2)] [V.f h0]
theorem e51_0 (N : Nat) (k : Kn R) (x0 : D) : runC PHI Tb62 N vc51_0 (s51_0 x0) k = m51_0 N x0 (fun x2 h0 => k .ret (s51_1 x2 h0)) := by kernel_rfl
theorem r51 (N : Nat) (x0 : D) : runC PHI Tb62 N vf51.body (enterV vf51 [V.f x0] []) (finish vf51) = m51_0 N x0 (fun x2 h0 => finish vf51 .ret (s51_1 x2 h0)) := 
  Eq.trans (runC_pre (s1 := (s51_0 x0)) (by kernel_rfl) _ _) (Eq.trans (e51_0 N (finish vf51) x0) (by kernel_rfl))
end
def Tb51 : CallF := extend Tb62 51 (fn1 (fun _ => true) fun x => .f (sp51 x))
theorem ok51 : FnOk Try.prog PHI Tb51 := FnOk.add1 hPHI ok62 (by kernel_rfl) fun x _ _ => ⟨0, (r51 0 x).trans (by
  unfold m51_0 sp51
  cases x.toB <;> rfl)⟩
def sp30 (v : D) : D := bif eqb (v.at 0).toI 1 then sp60 (v.at 1) else bif eqb (v.at 0).toI 2 then sp61 (v.at 2) else bif eqb (v.at 0).toI 3 then sp62 (v.at 3) else bif eqb (v.at 0).toI 4 then sp51 (.b (!eqb (v.at 1).toI 0)) else z0
section
variable {R : Type}
def m30_0 (N : Nat) (x0 : D) (Kr : D → Option R) : Option R :=
  (bif (eqb (x0.at 0).toI 1) then Kr (D.p (sp60 (x0.at 1))) else (bif (eqb (x0.at 0).toI 2) then Kr (D.p (sp61 (x0.at 2))) else (bif (eqb (x0.at 0).toI 3) then Kr (D.p (sp62 (x0.at 3))) else (bif (eqb (x0.at 0).toI 4) then Kr (D.p (sp51 (D.b (!eqb (x0.at 1).toI 0)))) else Kr (D.p (D.ag [(D.i 0), (D.i 0), (D.f 0), (D.s [])]))))))
def s30_0 (x0 : D) : St := sts 27 [(0, V.f x0)] []
def s30_1 (x2 : D) : St := sts 27 [(2, V.f x2)] []
theorem e30_0 (N : Nat) (k : Kn R) (x0 : D) : runC PHI Tb51 N vc30_0 (s30_0 x0) k = m30_0 N x0 (fun x2 => k .ret (s30_1 x2)) := by kernel_rfl
theorem r30 (N : Nat) (x0 : D) : runC PHI Tb51 N vf30.body (enterV vf30 [V.f x0] []) (finish vf30) = m30_0 N x0 (fun x2 => finish vf30 .ret (s30_1 x2)) := 
  Eq.trans (runC_pre (s1 := (s30_0 x0)) (by kernel_rfl) _ _) (Eq.trans (e30_0 N (finish vf30) x0) (by kernel_rfl))
end
def Tb30 : CallF := extend Tb51 30 (fn1 (fun _ => true) fun x => .f (sp30 x))
theorem ok30 : FnOk Try.prog PHI Tb30 := FnOk.add1 hPHI ok51 (by kernel_rfl) fun x _ _ => ⟨0, (r30 0 x).trans (by
  unfold m30_0 sp30
  cases eqb (x.at 0).toI 1 <;> cases eqb (x.at 0).toI 2 <;> cases eqb (x.at 0).toI 3 <;> cases eqb (x.at 0).toI 4 <;> rfl)⟩
def sp10 (v : D) : D := bif ltb (v.at 0).toI 0 || ltb 4 (v.at 0).toI then z0 else .ag [v.at 0, (bif eqb (v.at 0).toI 1 then v.at 1 else .i (bif eqb (v.at 0).toI 4 && !eqb (v.at 1).toI 0 then 1 else 0)), (bif eqb (v.at 0).toI 2 && (F2.ev .fne (v.at 2) (.f 0)).toB then v.at 2 else .f 0), (bif eqb (v.at 0).toI 3 then v.at 3 else .s [])]
section
variable {R : Type}
def m10_1 (N : Nat) (x0 : D) (K : D → Option R) : Option R :=
  K (D.p x0)
def s10_0 (x0 : D) : St := sts 50 [(0, V.f x0)] [V.u]
def s10_1 (x1 : D) : St := sts 50 [(1, V.f x1), (2, V.a)] [V.u]
theorem e10_1 (N : Nat) (k : Kn R) (x0 : D) : runC PHI Tb30 N vc10_1 (s10_0 x0) k = m10_1 N x0 (fun x1 => k .normal (s10_1 x1)) := by
  refine Eq.trans (runC_post _ _ _ k) (Eq.trans (ops_run _ _ _ _) (by kernel_rfl))
def m10_3 (N : Nat) (x1 : D) (K : D → D → Option R) : Option R :=
  K x1 (D.ag [(D.i 0), (D.i 0), (D.f 0), (D.s [])])
def s10_2 (x1 h0 : D) : St := sts 50 [(1, V.f x1), (2, V.a), (3, V.m 0 [])] [V.f h0]
theorem e10_3 (N : Nat) (k : Kn R) (x1 : D) : runC PHI Tb30 N vc10_3 (s10_1 x1) k = m10_3 N x1 (fun x1 h0 => k .normal (s10_2 x1 h0)) := by
  refine Eq.trans (runC_post _ _ _ k) (Eq.trans (ops_run _ _ _ _) (by kernel_rfl))
def m10_5 (N : Nat) (x1 h0 : D) (K : D → D → Option R) (Kr : D → D → Option R) : Option R :=
  (bif (isPtrD x1) then (bif (ltb (x1.deref.at 0).toI 0) then (bif true then Kr (D.p h0) h0 else K x1 h0) else (bif (isPtrD x1) then (bif (ltb 4 (x1.deref.at 0).toI) then Kr (D.p h0) h0 else K x1 h0) else none)) else none)
def s10_3 (x2 h0 : D) : St := sts 50 [(2, V.f x2)] [V.f h0]
theorem e10_5 (N : Nat) (k : Kn R) (x1 h0 : D) : runC PHI Tb30 N vc10_5 (s10_2 x1 h0) k = m10_5 N x1 h0 (fun x1 h0 => k .normal (s10_2 x1 h0)) (fun x2 h0 => k .ret (s10_3 x2 h0)) := by kernel_rfl
def m10_13 (N : Nat) (x1 h0 : D) (K : D → D → Option R) : Option R :=
  (bif (isPtrD x1) then K x1 (D.setP [0] h0 (x1.deref.at 0)) else none)
theorem e10_13 (N : Nat) (k : Kn R) (x1 h0 : D) : runC PHI Tb30 N vc10_13 (s10_2 x1 h0) k = m10_13 N x1 h0 (fun x1 h0 => k .normal (s10_2 x1 h0)) := by
  refine Eq.trans (runC_post _ _ _ k) (Eq.trans (ops_run _ _ _ _) (by kernel_rfl))
def m10_15 (N : Nat) (x1 h0 : D) (K : D → D → Option R) : Option R :=
  (bif (isPtrD x1) then (bif (eqb (x1.deref.at 0).toI 1) then (bif (isPtrD x1) then K x1 (D.setP [1] h0 (x1.deref.at 1)) else none) else K x1 h0) else none)
theorem e10_15 (N : Nat) (k : Kn R) (x1 h0 : D) : runC PHI Tb30 N vc10_15 (s10_2 x1 h0) k = m10_15 N x1 h0 (fun x1 h0 => k .normal (s10_2 x1 h0)) := by kernel_rfl
def m10_21 (N : Nat) (x1 h0 : D) (K : D → D → Option R) : Option R :=
  (bif (isPtrD x1) then (bif (eqb (x1.deref.at 0).toI 2) then (bif (isPtrD x1) then (bif (F2.ev .fne (x1.deref.at 2) (D.f 0)).toB then (bif (isPtrD x1) then K x1 (D.setP [2] h0 (x1.deref.at 2)) else none) else K x1 h0) else none) else (bif false then (bif (isPtrD x1) then K x1 (D.setP [2] h0 (x1.deref.at 2)) else none) else K x1 h0)) else none)
theorem e10_21 (N : Nat) (k : Kn R) (x1 h0 : D) : runC PHI Tb30 N vc10_21 (s10_2 x1 h0) k = m10_21 N x1 h0 (fun x1 h0 => k .normal (s10_2 x1 h0)) := by kernel_rfl
def m10_26 (N : Nat) (x1 h0 : D) (Kr : D → D → Option R) : Option R :=
  (bif (isPtrD x1) then (bif (eqb (x1.deref.at 0).toI 3) then (bif (isPtrD x1) then (bif (isPtrD x1) then (bif (eqb (x1.deref.at 0).toI 4) then (bif (isPtrD x1) then (bif (!eqb (x1.deref.at 1).toI 0) then Kr (D.p (D.setP [1] (D.setP [3] h0 (x1.deref.at 3)) (D.i 1))) (D.setP [1] (D.setP [3] h0 (x1.deref.at 3)) (D.i 1)) else Kr (D.p (D.setP [3] h0 (x1.deref.at 3))) (D.setP [3] h0 (x1.deref.at 3))) else none) else (bif false then Kr (D.p (D.setP [1] (D.setP [3] h0 (x1.deref.at 3)) (D.i 1))) (D.setP [1] (D.setP [3] h0 (x1.deref.at 3)) (D.i 1)) else Kr (D.p (D.setP [3] h0 (x1.deref.at 3))) (D.setP [3] h0 (x1.deref.at 3)))) else none) else none) else (bif (isPtrD x1) then (bif (eqb (x1.deref.at 0).toI 4) then (bif (isPtrD x1) then (bif (!eqb (x1.deref.at 1).toI 0) then Kr (D.p (D.setP [1] h0 (D.i 1))) (D.setP [1] h0 (D.i 1)) else Kr (D.p h0) h0) else none) else (bif false then Kr (D.p (D.setP [1] h0 (D.i 1))) (D.setP [1] h0 (D.i 1)) else Kr (D.p h0) h0)) else none)) else none)
theorem e10_26 (N : Nat) (k : Kn R) (x1 h0 : D) : runC PHI Tb30 N vc10_26 (s10_2 x1 h0) k = m10_26 N x1 h0 (fun x2 h0 => k .ret (s10_3 x2 h0)) := by kernel_rfl
def m10_20 (N : Nat) (x1 h0 : D) (Kr : D → D → Option R) : Option R :=
  (m10_21 N x1 h0 (fun y1 h0 => (m10_26 N y1 h0 Kr)))
theorem e10_20 (N : Nat) (k : Kn R) (x1 h0 : D) : runC PHI Tb30 N vc10_20 (s10_2 x1 h0) k = m10_20 N x1 h0 (fun x2 h0 => k .ret (s10_3 x2 h0)) := by
  have h2 := e10_21 N (kseq PHI Tb30 N vc10_26 k) x1 h0
  have h3 := (funext fun y1 => funext fun h0 => (e10_26 N k y1 h0) : (fun (y1 h0 : D) => (kseq PHI Tb30 N vc10_26 k) .normal (s10_2 y1 h0)) = _)
  refine Eq.trans (runC_seq _ _ _ k) (Eq.trans h2 (Eq.trans (congrArg (fun K => m10_21 N x1 h0 K) h3) (by kernel_rfl)))
def m10_14 (N : Nat) (x1 h0 : D) (Kr : D → D → Option R) : Option R :=
  (m10_15 N x1 h0 (fun y1 h0 => (m10_20 N y1 h0 Kr)))
theorem e10_14 (N : Nat) (k : Kn R) (x1 h0 : D) : runC PHI Tb30 N vc10_14 (s10_2 x1 h0) k = m10_14 N x1 h0 (fun x2 h0 => k .ret (s10_3 x2 h0)) := by
  have h2 := e10_15 N (kseq PHI Tb30 N vc10_20 k) x1 h0
  have h3 := (funext fun y1 => funext fun h0 => (e10_20 N k y1 h0) : (fun (y1 h0 : D) => (kseq PHI Tb30 N vc10_20 k) .normal (s10_2 y1 h0)) = _)
  refine Eq.trans (runC_seq _ _ _ k) (Eq.trans h2 (Eq.trans (congrArg (fun K => m10_15 N x1 h0 K) h3) (by kernel_rfl)))
def m10_12 (N : Nat) (x1 h0 : D) (Kr : D → D → Option R) : Option R :=
  (m10_13 N x1 h0 (fun y1 h0 => (m10_14 N y1 h0 Kr)))
theorem e10_12 (N : Nat) (k : Kn R) (x1 h0 : D) : runC PHI Tb30 N vc10_12 (s10_2 x1 h0) k = m10_12 N x1 h0 (fun x2 h0 => k .ret (s10_3 x2 h0)) := by
  have h2 := e10_13 N (kseq PHI Tb30 N vc10_14 k) x1 h0
  have h3 := (funext fun y1 => funext fun h0 => (e10_14 N k y1 h0) : (fun (y1 h0 : D) => (kseq PHI Tb30 N vc10_14 k) .normal (s10_2 y1 h0)) = _)
  refine Eq.trans (runC_seq _ _ _ k) (Eq.trans h2 (Eq.trans (congrArg (fun K => m10_13 N x1 h0 K) h3) (by kernel_rfl)))
def m10_4 (N : Nat) (x1 h0 : D) (Kr : D → D → Option R) : Option R :=
  (m10_5 N x1 h0 (fun y1 h0 => (m10_12 N y1 h0 Kr)) Kr)
theorem e10_4 (N : Nat) (k : Kn R) (x1 h0 : D) : runC PHI Tb30 N vc10_4 (s10_2 x1 h0) k = m10_4 N x1 h0 (fun x2 h0 => k .ret (s10_3 x2 h0)) := by
  have h2 := e10_5 N (kseq PHI Tb30 N vc10_12 k) x1 h0
  have h3 := (funext fun y1 => funext fun h0 => (e10_12 N k y1 h0) : (fun (y1 h0 : D) => (kseq PHI Tb30 N vc10_12 k) .normal (s10_2 y1 h0)) = _)
  refine Eq.trans (runC_seq _ _ _ k) (Eq.trans h2 (Eq.trans (congrArg (fun K => m10_5 N x1 h0 K (fun x2 h0 => (kseq PHI Tb30 N vc10_12 k) .ret (s10_3 x2 h0))) h3) (by kernel_rfl)))
def m10_2 (N : Nat) (x1 : D) (Kr : D → D → Option R) : Option R :=
  (m10_3 N x1 (fun y1 h0 => (m10_4 N y1 h0 Kr)))
theorem e10_2 (N : Nat) (k : Kn R) (x1 : D) : runC PHI Tb30 N vc10_2 (s10_1 x1) k = m10_2 N x1 (fun x2 h0 => k .ret (s10_3 x2 h0)) := by
  have h2 := e10_3 N (kseq PHI Tb30 N vc10_4 k) x1
  have h3 := (funext fun y1 => funext fun h0 => (e10_4 N k y1 h0) : (fun (y1 h0 : D) => (kseq PHI Tb30 N vc10_4 k) .normal (s10_2 y1 h0)) = _)
  refine Eq.trans (runC_seq _ _ _ k) (Eq.trans h2 (Eq.trans (congrArg (fun K => m10_3 N x1 K) h3) (by kernel_rfl)))
def m10_0 (N : Nat) (x0 : D) (Kr : D → D → Option R) : Option R :=
  (m10_1 N x0 (fun y1 => (m10_2 N y1 Kr)))
theorem e10_0 (N : Nat) (k : Kn R) (x0 : D) : runC PHI Tb30 N vc10_0 (s10_0 x0) k = m10_0 N x0 (fun x2 h0 => k .ret (s10_3 x2 h0)) := by
  have h2 := e10_1 N (kseq PHI Tb30 N vc10_2 k) x0
  have h3 := (funext fun y1 => (e10_2 N k y1) : (fun (y1 : D) => (kseq PHI Tb30 N vc10_2 k) .normal (s10_1 y1)) = _)
  refine Eq.trans (runC_seq _ _ _ k) (Eq.trans h2 (Eq.trans (congrArg (fun K => m10_1 N x0 K) h3) (by kernel_rfl)))
theorem r10 (N : Nat) (x0 : D) : runC PHI Tb30 N vf10.body (enterV vf10 [V.f x0] []) (finish vf10) = m10_0 N x0 (fun x2 h0 => finish vf10 .ret (s10_3 x2 h0)) := 
  Eq.trans (runC_pre (s1 := (s10_0 x0)) (by kernel_rfl) _ _) (Eq.trans (e10_0 N (finish vf10) x0) (by kernel_rfl))
end
def Tb10 : CallF := extend Tb30 10 (fn1 (fun _ => true) fun x => .f (sp10 x))
theorem ok10 : FnOk Try.prog PHI Tb10 := FnOk.add1 hPHI ok30 (by kernel_rfl) fun x _ _ => ⟨0, (r10 0 x).trans (by
  simp only [m10_0, m10_1, m10_2, m10_3, m10_4, m10_5, m10_12, m10_13, m10_14, m10_15, m10_20, m10_21, m10_26, isPtr_p, deref_p, cond_true, cond_false, sp10]
  cases ltb (x.at 0).toI 0
  · cases ltb 4 (x.at 0).toI
    · by_cases h1 : (x.at 0).toI = 1
      · simp only [h1]; rfl
      by_cases h2 : (x.at 0).toI = 2
      · simp only [h2]
        cases (F2.ev .fne (x.at 2) (D.f 0)).toB <;> rfl
      by_cases h3 : (x.at 0).toI = 3
      · simp only [h3]; rfl
      by_cases h4 : (x.at 0).toI = 4
      · simp only [h4]
        cases eqb (x.at 1).toI 0 <;> rfl
      simp only [eqb_f h1, eqb_f h2, eqb_f h3, eqb_f h4]; rfl
    · rfl
  · rfl)⟩
def sp87 (x : D) : Bool := !eqb x.toI x.toI
section
variable {R : Type}
def m87_0 (N : Nat) (x0 : D) (Kr : D → Option R) : Option R :=
  Kr (D.b (!eqb x0.toI x0.toI))
def s87_0 (x0 : D) : St := sts 6 [(0, V.f x0)] []
def s87_1 (x2 : D) : St := sts 6 [(2, V.f x2)] []
theorem e87_0 (N : Nat) (k : Kn R) (x0 : D) : runC PHI Tb10 N vc87_0 (s87_0 x0) k = m87_0 N x0 (fun x2 => k .ret (s87_1 x2)) := by kernel_rfl
theorem r87 (N : Nat) (x0 : D) : runC PHI Tb10 N vf87.body (enterV vf87 [V.f x0] []) (finish vf87) = m87_0 N x0 (fun x2 => finish vf87 .ret (s87_1 x2)) := 
  Eq.trans (runC_pre (s1 := (s87_0 x0)) (by kernel_rfl) _ _) (Eq.trans (e87_0 N (finish vf87) x0) (by kernel_rfl))
end
def Tb87 : CallF := extend Tb10 87 (fn1 (fun _ => true) fun x => .f (.b (sp87 x)))
theorem ok87 : FnOk Try.prog PHI Tb87 := FnOk.add1 hPHI ok10 (by kernel_rfl) fun x _ _ => ⟨0, (r87 0 x).trans rfl⟩
def sp90 (x : D) : Bool := !eqb x.toI x.toI
section
variable {R : Type}
def m90_0 (N : Nat) (x0 : D) (Kr : D → Option R) : Option R :=
  Kr (D.b (!eqb x0.toI x0.toI))
def s90_0 (x0 : D) : St := sts 6 [(0, V.f x0)] []
def s90_1 (x2 : D) : St := sts 6 [(2, V.f x2)] []
theorem e90_0 (N : Nat) (k : Kn R) (x0 : D) : runC PHI Tb87 N vc90_0 (s90_0 x0) k = m90_0 N x0 (fun x2 => k .ret (s90_1 x2)) := by kernel_rfl
theorem r90 (N : Nat) (x0 : D) : runC PHI Tb87 N vf90.body (enterV vf90 [V.f x0] []) (finish vf90) = m90_0 N x0 (fun x2 => finish vf90 .ret (s90_1 x2)) := 
  Eq.trans (runC_pre (s1 := (s90_0 x0)) (by kernel_rfl) _ _) (Eq.trans (e90_0 N (finish vf90) x0) (by kernel_rfl))
end
def Tb90 : CallF := extend Tb87 90 (fn1 (fun _ => true) fun x => .f (.b (sp90 x)))
theorem ok90 : FnOk Try.prog PHI Tb90 := FnOk.add1 hPHI ok87 (by kernel_rfl) fun x _ _ => ⟨0, (r90 0 x).trans rfl⟩
def sp88 (x : D) : Bool := (F2.ev .fne x x).toB
section
variable {R : Type}
def m88_0 (N : Nat) (x0 : D) (Kr : D → Option R) : Option R :=
  Kr (F2.ev .fne x0 x0)
def s88_0 (x0 : D) : St := sts 6 [(0, V.f x0)] []
def s88_1 (x2 : D) : St := sts 6 [(2, V.f x2)] []
theorem e88_0 (N : Nat) (k : Kn R) (x0 : D) : runC PHI Tb90 N vc88_0 (s88_0 x0) k = m88_0 N x0 (fun x2 => k .ret (s88_1 x2)) := by kernel_rfl
theorem r88 (N : Nat) (x0 : D) : runC PHI Tb90 N vf88.body (enterV vf88 [V.f x0] []) (finish vf88) = m88_0 N x0 (fun x2 => finish vf88 .ret (s88_1 x2)) := 
  Eq.trans (runC_pre (s1 := (s88_0 x0)) (by kernel_rfl) _ _) (Eq.trans (e88_0 N (finish vf88) x0) (by kernel_rfl))
end
def Tb88 : CallF := extend Tb90 88 (fn1 (fun _ => true) fun x => .f (.b (sp88 x)))
theorem ok88 : FnOk Try.prog PHI Tb88 := FnOk.add1 hPHI ok90 (by kernel_rfl) fun x _ _ => ⟨0, (r88 0 x).trans rfl⟩
def cmpI (x y : Int) : Int := bif ltb x y then -1 else bif ltb y x then 1 else 0
def sp54 (x y : D) : Int := cmpI x.toI y.toI
theorem eqb_self {n : Int} : eqb n n = true := eqb_t rfl
section
variable {R : Type}
def m54_0 (N : Nat) (x0 x1 : D) (Kr : D → Option R) : Option R :=
  (bif (sp87 x0) then (bif (sp87 x1) then Kr (D.i 0) else Kr (D.i (-1))) else (bif (sp87 x1) then Kr (D.i 1) else (bif (ltb x0.toI x1.toI) then Kr (D.i (-1)) else (bif (ltb x1.toI x0.toI) then Kr (D.i 1) else Kr (D.i 0)))))
def s54_0 (x0 x1 : D) : St := sts 20 [(0, V.f x0), (1, V.f x1)] []
def s54_1 (x4 : D) : St := sts 20 [(4, V.f x4)] []
theorem e54_0 (N : Nat) (k : Kn R) (x0 x1 : D) : runC PHI Tb88 N vc54_0 (s54_0 x0 x1) k = m54_0 N x0 x1 (fun x4 => k .ret (s54_1 x4)) := by kernel_rfl
theorem r54 (N : Nat) (x0 x1 : D) : runC PHI Tb88 N vf54.body (enterV vf54 [V.f x0, V.f x1] []) (finish vf54) = m54_0 N x0 x1 (fun x4 => finish vf54 .ret (s54_1 x4)) := 
  Eq.trans (runC_pre (s1 := (s54_0 x0 x1)) (by kernel_rfl) _ _) (Eq.trans (e54_0 N (finish vf54) x0 x1) (by kernel_rfl))
end
def Tb54 : CallF := extend Tb88 54 (fn2 (fun _ _ => true) fun x y => .f (.i (sp54 x y)))
theorem ok54 : FnOk Try.prog PHI Tb54 := FnOk.add2 hPHI ok88 (by kernel_rfl) fun x y _ _ => ⟨0, (r54 0 x y).trans (by
  simp only [m54_0, sp87, eqb_self, Bool.not_true, cond_false, sp54, cmpI]
  cases ltb x.toI y.toI <;> cases ltb y.toI x.toI <;> rfl)⟩
def sp58 (x y : D) : Int := cmpI x.toI y.toI
section
variable {R : Type}
def m58_0 (N : Nat) (x0 x1 : D) (Kr : D → Option R) : Option R :=
  (bif (sp90 x0) then (bif (sp90 x1) then Kr (D.i 0) else Kr (D.i (-1))) else (bif (sp90 x1) then Kr (D.i 1) else (bif (ltb x0.toI x1.toI) then Kr (D.i (-1)) else (bif (ltb x1.toI x0.toI) then Kr (D.i 1) else Kr (D.i 0)))))
def s58_0 (x0 x1 : D) : St := sts 20 [(0, V.f x0), (1, V.f x1)] []
def s58_1 (x4 : D) : St := sts 20 [(4, V.f x4)] []
theorem e58_0 (N : Nat) (k : Kn R) (x0 x1 : D) : runC PHI Tb54 N vc58_0 (s58_0 x0 x1) k = m58_0 N x0 x1 (fun x4 => k .ret (s58_1 x4)) := by kernel_rfl
theorem r58 (N : Nat) (x0 x1 : D) : runC PHI Tb54 N vf58.body (enterV vf58 [V.f x0, V.f x1] []) (finish vf58) = m58_0 N x0 x1 (fun x4 => finish vf58 .ret (s58_1 x4)) := 
  Eq.trans (runC_pre (s1 := (s58_0 x0 x1)) (by kernel_rfl) _ _) (Eq.trans (e58_0 N (finish vf58) x0 x1) (by kernel_rfl))
end
def Tb58 : CallF := extend Tb54 58 (fn2 (fun _ _ => true) fun x y => .f (.i (sp58 x y)))
theorem ok58 : FnOk Try.prog PHI Tb58 := FnOk.add2 hPHI ok54 (by kernel_rfl) fun x y _ _ => ⟨0, (r58 0 x y).trans (by
  simp only [m58_0, sp90, eqb_self, Bool.not_true, cond_false, sp58, cmpI]
  cases ltb x.toI y.toI <;> cases ltb y.toI x.toI <;> rfl)⟩
def sp56 (x y : D) : Int := bif sp88 x then (bif sp88 y then 0 else -1) else bif sp88 y then 1 else bif (F2.ev .flt x y).toB then -1 else bif (F2.ev .fgt x y).toB then 1 else 0
section
variable {R : Type}
def m56_0 (N : Nat) (x0 x1 : D) (Kr : D → Option R) : Option R :=
  (bif (sp88 x0) then (bif (sp88 x1) then Kr (D.i 0) else Kr (D.i (-1))) else (bif (sp88 x1) then Kr (D.i 1) else (bif (F2.ev .flt x0 x1).toB then Kr (D.i (-1)) else (bif (F2.ev .fgt x0 x1).toB then Kr (D.i 1) else Kr (D.i 0)))))
def s56_0 (x0 x1 : D) : St := sts 20 [(0, V.f x0), (1, V.f x1)] []
def s56_1 (x4 : D) : St := sts 20 [(4, V.f x4)] []
theorem e56_0 (N : Nat) (k : Kn R) (x0 x1 : D) : runC PHI Tb58 N vc56_0 (s56_0 x0 x1) k = m56_0 N x0 x1 (fun x4 => k .ret (s56_1 x4)) := by kernel_rfl
theorem r56 (N : Nat) (x0 x1 : D) : runC PHI Tb58 N vf56.body (enterV vf56 [V.f x0, V.f x1] []) (finish vf56) = m56_0 N x0 x1 (fun x4 => finish vf56 .ret (s56_1 x4)) := 
  Eq.trans (runC_pre (s1 := (s56_0 x0 x1)) (by kernel_rfl) _ _) (Eq.trans (e56_0 N (finish vf56) x0 x1) (by kernel_rfl))
end
def Tb56 : CallF := extend Tb58 56 (fn2 (fun _ _ => true) fun x y => .f (.i (sp56 x y)))
theorem ok56 : FnOk Try.prog PHI Tb56 := FnOk.add2 hPHI ok58 (by kernel_rfl) fun x y _ _ => ⟨0, (r56 0 x y).trans (by
  unfold m56_0 sp56
  cases sp88 x <;> cases sp88 y <;> cases (F2.ev .flt x y).toB <;> cases (F2.ev .fgt x y).toB <;> rfl)⟩
def sp89 (x y : D) : Int := cmpL x.toS y.toS
section
variable {R : Type}
def m89_0 (N : Nat) (x0 x1 : D) (Kr : D → Option R) : Option R :=
  Kr (D.i (cmpL x0.toS x1.toS))
def s89_0 (x0 x1 : D) : St := sts 8 [(0, V.f x0), (1, V.f x1)] []
def s89_1 (x4 : D) : St := sts 8 [(4, V.f x4)] []
theorem e89_0 (N : Nat) (k : Kn R) (x0 x1 : D) : runC PHI Tb56 N vc89_0 (s89_0 x0 x1) k = m89_0 N x0 x1 (fun x4 => k .ret (s89_1 x4)) := by kernel_rfl
theorem r89 (N : Nat) (x0 x1 : D) : runC PHI Tb56 N vf89.body (enterV vf89 [V.f x0, V.f x1] []) (finish vf89) = m89_0 N x0 x1 (fun x4 => finish vf89 .ret (s89_1 x4)) := 
  Eq.trans (runC_pre (s1 := (s89_0 x0 x1)) (by kernel_rfl) _ _) (Eq.trans (e89_0 N (finish vf89) x0 x1) (by kernel_rfl))
end
def Tb89 : CallF := extend Tb56 89 (fn2 (fun _ _ => true) fun x y => .f (.i (sp89 x y)))
theorem ok89 : FnOk Try.prog PHI Tb89 := FnOk.add2 hPHI ok56 (by kernel_rfl) fun x y _ _ => ⟨0, (r89 0 x y).trans rfl⟩
def sp57 (x y : D) : Int := sp89 x y
section
variable {R : Type}
def m57_0 (N : Nat) (x0 x1 : D) (Kr : D → Option R) : Option R :=
  Kr (D.i (sp89 x0 x1))
def s57_0 (x0 x1 : D) : St := sts 8 [(0, V.f x0), (1, V.f x1)] []
def s57_1 (x4 : D) : St := sts 8 [(4, V.f x4)] []
theorem e57_0 (N : Nat) (k : Kn R) (x0 x1 : D) : runC PHI Tb89 N vc57_0 (s57_0 x0 x1) k = m57_0 N x0 x1 (fun x4 => k .ret (s57_1 x4)) := by kernel_rfl
theorem r57 (N : Nat) (x0 x1 : D) : runC PHI Tb89 N vf57.body (enterV vf57 [V.f x0, V.f x1] []) (finish vf57) = m57_0 N x0 x1 (fun x4 => finish vf57 .ret (s57_1 x4)) := 
  Eq.trans (runC_pre (s1 := (s57_0 x0 x1)) (by kernel_rfl) _ _) (Eq.trans (e57_0 N (finish vf57) x0 x1) (by kernel_rfl))
end
def Tb57 : CallF := extend Tb89 57 (fn2 (fun _ _ => true) fun x y => .f (.i (sp57 x y)))
theorem ok57 : FnOk Try.prog PHI Tb57 := FnOk.add2 hPHI ok89 (by kernel_rfl) fun x y _ _ => ⟨0, (r57 0 x y).trans rfl⟩
def sp27 (u v : D) : Int := bif !eqb ((sp30 u).at 0).toI ((sp30 v).at 0).toI then sp54 ((sp30 u).at 0) ((sp30 v).at 0) else
  bif eqb ((sp30 u).at 0).toI 2 then (bif sp55 ((sp30 u).at 2) then (bif sp55 ((sp30 v).at 2) then 0 else 1) else bif sp55 ((sp30 v).at 2) then -1 else sp56 ((sp30 u).at 2) ((sp30 v).at 2)) else
  bif eqb ((sp30 u).at 0).toI 3 then sp57 ((sp30 u).at 3) ((sp30 v).at 3) else sp58 ((sp30 u).at 1) ((sp30 v).at 1)
section
variable {R : Type}
def m27_1 (N : Nat) (x0 x1 : D) (K : D → D → Option R) : Option R :=
  K x0 x1
def s27_0 (x0 x1 : D) : St := sts 57 [(0, V.f x0), (1, V.f x1)] [V.u, V.u]
def s27_1 (h0 h1 : D) : St := sts 57 [(2, V.m 0 []), (3, V.m 1 [])] [V.f h0, V.f h1]
theorem e27_1 (N : Nat) (k : Kn R) (x0 x1 : D) : runC PHI Tb57 N vc27_1 (s27_0 x0 x1) k = m27_1 N x0 x1 (fun h0 h1 => k .normal (s27_1 h0 h1)) := by
  refine Eq.trans (runC_post _ _ _ k) (Eq.trans (ops_run _ _ _ _) (by kernel_rfl))
def m27_3 (N : Nat) (h0 h1 : D) (K : D → D → Option R) : Option R :=
  K (sp30 h0) (sp30 h1)
theorem e27_3 (N : Nat) (k : Kn R) (h0 h1 : D) : runC PHI Tb57 N vc27_3 (s27_1 h0 h1) k = m27_3 N h0 h1 (fun h0 h1 => k .normal (s27_1 h0 h1)) := by
  refine Eq.trans (runC_post _ _ _ k) (Eq.trans (ops_run _ _ _ _) (by kernel_rfl))
def m27_5 (N : Nat) (h0 h1 : D) (K : D → D → Option R) (Kr : D → D → D → Option R) : Option R :=
  (bif (!eqb (h0.at 0).toI (h1.at 0).toI) then Kr (D.i (sp54 (h0.at 0) (h1.at 0))) h0 h1 else K h0 h1)
def s27_2 (x4 h0 h1 : D) : St := sts 57 [(4, V.f x4)] [V.f h0, V.f h1]
theorem e27_5 (N : Nat) (k : Kn R) (h0 h1 : D) : runC PHI Tb57 N vc27_5 (s27_1 h0 h1) k = m27_5 N h0 h1 (fun h0 h1 => k .normal (s27_1 h0 h1)) (fun x4 h0 h1 => k .ret (s27_2 x4 h0 h1)) := by kernel_rfl
def m27_14 (N : Nat) (h0 h1 : D) (K : D → D → D → Option R) : Option R :=
  K (h0.at 0) h0 h1
def s27_3 (x22 h0 h1 : D) : St := sts 57 [(2, V.m 0 []), (3, V.m 1 []), (22, V.f x22)] [V.f h0, V.f h1]
theorem e27_14 (N : Nat) (k : Kn R) (h0 h1 : D) : runC PHI Tb57 N vc27_14 (s27_1 h0 h1) k = m27_14 N h0 h1 (fun x22 h0 h1 => k .normal (s27_3 x22 h0 h1)) := by
  refine Eq.trans (runC_post _ _ _ k) (Eq.trans (ops_run _ _ _ _) (by kernel_rfl))
def m27_17 (N : Nat) (x22 h0 h1 : D) (K : D → D → D → D → Option R) : Option R :=
  K x22 (D.b (eqb x22.toI 2)) h0 h1
def s27_4 (x22 x23 h0 h1 : D) : St := sts 57 [(2, V.m 0 []), (3, V.m 1 []), (22, V.f x22), (23, V.f x23)] [V.f h0, V.f h1]
theorem e27_17 (N : Nat) (k : Kn R) (x22 h0 h1 : D) : runC PHI Tb57 N vc27_17 (s27_3 x22 h0 h1) k = m27_17 N x22 h0 h1 (fun x22 x23 h0 h1 => k .normal (s27_4 x22 x23 h0 h1)) := by
  refine Eq.trans (runC_post _ _ _ k) (Eq.trans (ops_run _ _ _ _) (by kernel_rfl))
def m27_19 (N : Nat) (h0 h1 : D) (Kr : D → D → D → Option R) : Option R :=
  (bif (sp55 (h0.at 2)) then (bif (sp55 (h1.at 2)) then Kr (D.i 0) h0 h1 else (bif (sp55 (h0.at 2)) then Kr (D.i 1) h0 h1 else (bif (sp55 (h1.at 2)) then Kr (D.i (-1)) h0 h1 else Kr (D.i (sp56 (h0.at 2) (h1.at 2))) h0 h1))) else (bif false then Kr (D.i 0) h0 h1 else (bif (sp55 (h0.at 2)) then Kr (D.i 1) h0 h1 else (bif (sp55 (h1.at 2)) then Kr (D.i (-1)) h0 h1 else Kr (D.i (sp56 (h0.at 2) (h1.at 2))) h0 h1))))
theorem e27_19 (N : Nat) (k : Kn R) (h0 h1 : D) : runC PHI Tb57 N vc27_19 (s27_1 h0 h1) k = m27_19 N h0 h1 (fun x4 h0 h1 => k .ret (s27_2 x4 h0 h1)) := by kernel_rfl
def m27_45 (N : Nat) (x22 h0 h1 : D) (K : D → D → Option R) (Kr : D → D → D → Option R) : Option R :=
  (bif (eqb x22.toI 3) then Kr (D.i (sp57 (h0.at 3) (h1.at 3))) h0 h1 else K h0 h1)
theorem e27_45 (N : Nat) (k : Kn R) (x22 h0 h1 : D) : runC PHI Tb57 N vc27_45 (s27_3 x22 h0 h1) k = m27_45 N x22 h0 h1 (fun h0 h1 => k .normal (s27_1 h0 h1)) (fun x4 h0 h1 => k .ret (s27_2 x4 h0 h1)) := by kernel_rfl
def m27_18 (N : Nat) (x22 x23 h0 h1 : D) (K : D → D → Option R) (Kr : D → D → D → Option R) : Option R :=
  (bif x23.toB then (m27_19 N h0 h1 Kr) else (m27_45 N x22 h0 h1 (fun h0 h1 => K h0 h1) Kr))
theorem e27_18 (N : Nat) (k : Kn R) (x22 x23 h0 h1 : D) : runC PHI Tb57 N vc27_18 (s27_4 x22 x23 h0 h1) k = m27_18 N x22 x23 h0 h1 (fun h0 h1 => k .normal (s27_1 h0 h1)) (fun x4 h0 h1 => k .ret (s27_2 x4 h0 h1)) := by
  refine Eq.trans (runC_cond (s1 := (s27_1 h0 h1)) (s2 := (s27_3 x22 h0 h1)) (d := x23) _ _ k (by kernel_rfl) (by kernel_rfl) (by kernel_rfl)) (Eq.trans (congr (congrArg (cond x23.toB) ((e27_19 N k h0 h1))) ((e27_45 N k x22 h0 h1))) (by kernel_rfl))
def m27_16 (N : Nat) (x22 h0 h1 : D) (K : D → D → Option R) (Kr : D → D → D → Option R) : Option R :=
  (m27_17 N x22 h0 h1 (fun y22 y23 h0 h1 => (m27_18 N y22 y23 h0 h1 (fun h0 h1 => K h0 h1) Kr)))
theorem e27_16 (N : Nat) (k : Kn R) (x22 h0 h1 : D) : runC PHI Tb57 N vc27_16 (s27_3 x22 h0 h1) k = m27_16 N x22 h0 h1 (fun h0 h1 => k .normal (s27_1 h0 h1)) (fun x4 h0 h1 => k .ret (s27_2 x4 h0 h1)) := by
  have h2 := e27_17 N (kseq PHI Tb57 N vc27_18 k) x22 h0 h1
  have h3 := (funext fun y22 => funext fun y23 => funext fun h0 => funext fun h1 => (e27_18 N k y22 y23 h0 h1) : (fun (y22 y23 h0 h1 : D) => (kseq PHI Tb57 N vc27_18 k) .normal (s27_4 y22 y23 h0 h1)) = _)
  refine Eq.trans (runC_seq _ _ _ k) (Eq.trans h2 (Eq.trans (congrArg (fun K => m27_17 N x22 h0 h1 K) h3) (by kernel_rfl)))
def m27_15 (N : Nat) (x22 h0 h1 : D) (K : D → D → Option R) (Kr : D → D → D → Option R) : Option R :=
  (m27_16 N x22 h0 h1 (fun h0 h1 => K h0 h1) Kr)
theorem e27_15 (N : Nat) (k : Kn R) (x22 h0 h1 : D) : runC PHI Tb57 N vc27_15 (s27_3 x22 h0 h1) k = m27_15 N x22 h0 h1 (fun h0 h1 => k .normal (s27_1 h0 h1)) (fun x4 h0 h1 => k .ret (s27_2 x4 h0 h1)) := by
  refine Eq.trans (runC_block _ _ _ k) (Eq.trans (e27_16 N (kblk 0 k) x22 h0 h1) (by kernel_rfl))
def m27_13 (N : Nat) (h0 h1 : D) (K : D → D → Option R) (Kr : D → D → D → Option R) : Option R :=
  (m27_14 N h0 h1 (fun y22 h0 h1 => (m27_15 N y22 h0 h1 (fun h0 h1 => K h0 h1) Kr)))
theorem e27_13 (N : Nat) (k : Kn R) (h0 h1 : D) : runC PHI Tb57 N vc27_13 (s27_1 h0 h1) k = m27_13 N h0 h1 (fun h0 h1 => k .normal (s27_1 h0 h1)) (fun x4 h0 h1 => k .ret (s27_2 x4 h0 h1)) := by
  have h2 := e27_14 N (kseq PHI Tb57 N vc27_15 k) h0 h1
  have h3 := (funext fun y22 => funext fun h0 => funext fun h1 => (e27_15 N k y22 h0 h1) : (fun (y22 h0 h1 : D) => (kseq PHI Tb57 N vc27_15 k) .normal (s27_3 y22 h0 h1)) = _)
  refine Eq.trans (runC_seq _ _ _ k) (Eq.trans h2 (Eq.trans (congrArg (fun K => m27_14 N h0 h1 K) h3) (by kernel_rfl)))
def m27_52 (N : Nat) (h0 h1 : D) (Kr : D → D → D → Option R) : Option R :=
  Kr (D.i (sp58 (h0.at 1) (h1.at 1))) h0 h1
theorem e27_52 (N : Nat) (k : Kn R) (h0 h1 : D) : runC PHI Tb57 N vc27_52 (s27_1 h0 h1) k = m27_52 N h0 h1 (fun x4 h0 h1 => k .ret (s27_2 x4 h0 h1)) := by kernel_rfl
def m27_12 (N : Nat) (h0 h1 : D) (Kr : D → D → D → Option R) : Option R :=
  (m27_13 N h0 h1 (fun h0 h1 => (m27_52 N h0 h1 Kr)) Kr)
theorem e27_12 (N : Nat) (k : Kn R) (h0 h1 : D) : runC PHI Tb57 N vc27_12 (s27_1 h0 h1) k = m27_12 N h0 h1 (fun x4 h0 h1 => k .ret (s27_2 x4 h0 h1)) := by
  have h2 := e27_13 N (kseq PHI Tb57 N vc27_52 k) h0 h1
  have h3 := (funext fun h0 => funext fun h1 => (e27_52 N k h0 h1) : (fun (h0 h1 : D) => (kseq PHI Tb57 N vc27_52 k) .normal (s27_1 h0 h1)) = _)
  refine Eq.trans (runC_seq _ _ _ k) (Eq.trans h2 (Eq.trans (congrArg (fun K => m27_13 N h0 h1 K (fun x4 h0 h1 => (kseq PHI Tb57 N vc27_52 k) .ret (s27_2 x4 h0 h1))) h3) (by kernel_rfl)))
def m27_4 (N : Nat) (h0 h1 : D) (Kr : D → D → D → Option R) : Option R :=
  (m27_5 N h0 h1 (fun h0 h1 => (m27_12 N h0 h1 Kr)) Kr)
theorem e27_4 (N : Nat) (k : Kn R) (h0 h1 : D) : runC PHI Tb57 N vc27_4 (s27_1 h0 h1) k = m27_4 N h0 h1 (fun x4 h0 h1 => k .ret (s27_2 x4 h0 h1)) := by
  have h2 := e27_5 N (kseq PHI Tb57 N vc27_12 k) h0 h1
  have h3 := (funext fun h0 => funext fun h1 => (e27_12 N k h0 h1) : (fun (h0 h1 : D) => (kseq PHI Tb57 N vc27_12 k) .normal (s27_1 h0 h1)) = _)
  refine Eq.trans (runC_seq _ _ _ k) (Eq.trans h2 (Eq.trans (congrArg (fun K => m27_5 N h0 h1 K (fun x4 h0 h1 => (kseq PHI Tb57 N vc27_12 k) .ret (s27_2 x4 h0 h1))) h3) (by kernel_rfl)))
def m27_2 (N : Nat) (h0 h1 : D) (Kr : D → D → D → Option R) : Option R :=
  (m27_3 N h0 h1 (fun h0 h1 => (m27_4 N h0 h1 Kr)))
theorem e27_2 (N : Nat) (k : Kn R) (h0 h1 : D) : runC PHI Tb57 N vc27_2 (s27_1 h0 h1) k = m27_2 N h0 h1 (fun x4 h0 h1 => k .ret (s27_2 x4 h0 h1)) := by
  have h2 := e27_3 N (kseq PHI Tb57 N vc27_4 k) h0 h1
  have h3 := (funext fun h0 => funext fun h1 => (e27_4 N k h0 h1) : (fun (h0 h1 : D) => (kseq PHI Tb57 N vc27_4 k) .normal (s27_1 h0 h1)) = _)
  refine Eq.trans (runC_seq _ _ _ k) (Eq.trans h2 (Eq.trans (congrArg (fun K => m27_3 N h0 h1 K) h3) (by kernel_rfl)))
def m27_0 (N : Nat) (x0 x1 : D) (Kr : D → D → D → Option R) : Option R :=
  (m27_1 N x0 x1 (fun h0 h1 => (m27_2 N h0 h1 Kr)))
theorem e27_0 (N : Nat) (k : Kn R) (x0 x1 : D) : runC PHI Tb57 N vc27_0 (s27_0 x0 x1) k = m27_0 N x0 x1 (fun x4 h0 h1 => k .ret (s27_2 x4 h0 h1)) := by
  have h2 := e27_1 N (kseq PHI Tb57 N vc27_2 k) x0 x1
  have h3 := (funext fun h0 => funext fun h1 => (e27_2 N k h0 h1) : (fun (h0 h1 : D) => (kseq PHI Tb57 N vc27_2 k) .normal (s27_1 h0 h1)) = _)
  refine Eq.trans (runC_seq _ _ _ k) (Eq.trans h2 (Eq.trans (congrArg (fun K => m27_1 N x0 x1 K) h3) (by kernel_rfl)))
theorem r27 (N : Nat) (x0 x1 : D) : runC PHI Tb57 N vf27.body (enterV vf27 [V.f x0, V.f x1] []) (finish vf27) = m27_0 N x0 x1 (fun x4 h0 h1 => finish vf27 .ret (s27_2 x4 h0 h1)) := 
  Eq.trans (runC_pre (s1 := (s27_0 x0 x1)) (by kernel_rfl) _ _) (Eq.trans (e27_0 N (finish vf27) x0 x1) (by kernel_rfl))
end
def Tb27 : CallF := extend Tb57 27 (fn2 (fun _ _ => true) fun x y => .f (.i (sp27 x y)))
theorem ok27 : FnOk Try.prog PHI Tb27 := FnOk.add2 hPHI ok57 (by kernel_rfl) fun u v _ _ => ⟨0, (r27 0 u v).trans (by
  simp only [m27_1, m27_3, m27_5, m27_14, m27_17, m27_19, m27_45, m27_18, m27_16, m27_15, m27_13, m27_52, m27_12, m27_4, m27_2, m27_0, toB_b, sp27]
  cases eqb ((sp30 u).at 0).toI ((sp30 v).at 0).toI
  · rfl
  · cases eqb ((sp30 u).at 0).toI 2
    · cases eqb ((sp30 u).at 0).toI 3 <;> rfl
    · cases sp55 ((sp30 u).at 2) <;> cases sp55 ((sp30 v).at 2) <;> rfl)⟩
def less (a b : D) : Bool := bif eqb (a.at 0).toI (b.at 0).toI then (bif eqb (a.at 0).toI 3 then lessL (a.at 3).toS (b.at 3).toS else bif eqb (a.at 0).toI 2 then sp39 (a.at 2) && !sp39 (b.at 2) || (F2.ev .flt (a.at 2) (b.at 2)).toB else ltb (a.at 1).toI (b.at 1).toI) else ltb (a.at 0).toI (b.at 0).toI
def more (a b : D) : Bool := bif eqb (a.at 0).toI (b.at 0).toI then (bif eqb (a.at 0).toI 3 then (F2.ev .sgt (a.at 3) (b.at 3)).toB else bif eqb (a.at 0).toI 2 then !sp39 (a.at 2) && sp39 (b.at 2) || (F2.ev .fgt (a.at 2) (b.at 2)).toB else ltb (b.at 1).toI (a.at 1).toI) else ltb (b.at 0).toI (a.at 0).toI
def sp64 (u v : D) : Int := bif less (sp10 u) (sp10 v) then -1 else bif more (sp10 u) (sp10 v) then 1 else 0
section
variable {R : Type}
def m64_1 (N : Nat) (x0 x1 : D) (K : D → D → Option R) : Option R :=
  K x0 x1
def s64_0 (x0 x1 : D) : St := sts 86 [(0, V.f x0), (1, V.f x1)] [V.u, V.u]
def s64_1 (h0 h1 : D) : St := sts 86 [(2, V.m 0 []), (3, V.m 1 [])] [V.f h0, V.f h1]
theorem e64_1 (N : Nat) (k : Kn R) (x0 x1 : D) : runC PHI Tb27 N vc64_1 (s64_0 x0 x1) k = m64_1 N x0 x1 (fun h0 h1 => k .normal (s64_1 h0 h1)) := by
  refine Eq.trans (runC_post _ _ _ k) (Eq.trans (ops_run _ _ _ _) (by kernel_rfl))
def m64_3 (N : Nat) (h0 h1 : D) (K : D → D → Option R) : Option R :=
  K (sp10 h0) (sp10 h1)
theorem e64_3 (N : Nat) (k : Kn R) (h0 h1 : D) : runC PHI Tb27 N vc64_3 (s64_1 h0 h1) k = m64_3 N h0 h1 (fun h0 h1 => k .normal (s64_1 h0 h1)) := by
  refine Eq.trans (runC_post _ _ _ k) (Eq.trans (ops_run _ _ _ _) (by kernel_rfl))
def m64_5 (N : Nat) (h0 h1 : D) (K : D → D → D → D → Option R) : Option R :=
  K (D.b (ltb (h0.at 0).toI (h1.at 0).toI)) (D.b (ltb (h1.at 0).toI (h0.at 0).toI)) h0 h1
def s64_2 (x5 x6 h0 h1 : D) : St := sts 86 [(2, V.m 0 []), (3, V.m 1 []), (5, V.f x5), (6, V.f x6)] [V.f h0, V.f h1]
theorem e64_5 (N : Nat) (k : Kn R) (h0 h1 : D) : runC PHI Tb27 N vc64_5 (s64_1 h0 h1) k = m64_5 N h0 h1 (fun x5 x6 h0 h1 => k .normal (s64_2 x5 x6 h0 h1)) := by
  refine Eq.trans (runC_post _ _ _ k) (Eq.trans (ops_run _ _ _ _) (by kernel_rfl))
def m64_8 (N : Nat) (x5 x6 h0 h1 : D) (K : D → D → D → D → D → Option R) : Option R :=
  K x5 x6 (D.b (eqb (h0.at 0).toI (h1.at 0).toI)) h0 h1
def s64_3 (x5 x6 x25 h0 h1 : D) : St := sts 86 [(2, V.m 0 []), (3, V.m 1 []), (5, V.f x5), (6, V.f x6), (25, V.f x25)] [V.f h0, V.f h1]
theorem e64_8 (N : Nat) (k : Kn R) (x5 x6 h0 h1 : D) : runC PHI Tb27 N vc64_8 (s64_2 x5 x6 h0 h1) k = m64_8 N x5 x6 h0 h1 (fun x5 x6 x25 h0 h1 => k .normal (s64_3 x5 x6 x25 h0 h1)) := by
  refine Eq.trans (runC_post _ _ _ k) (Eq.trans (ops_run _ _ _ _) (by kernel_rfl))
def m64_11 (N : Nat) (h0 h1 : D) (K : D → D → D → D → Option R) : Option R :=
  K (D.b (ltb (h0.at 1).toI (h1.at 1).toI)) (D.b (ltb (h1.at 1).toI (h0.at 1).toI)) h0 h1
theorem e64_11 (N : Nat) (k : Kn R) (h0 h1 : D) : runC PHI Tb27 N vc64_11 (s64_1 h0 h1) k = m64_11 N h0 h1 (fun x5 x6 h0 h1 => k .normal (s64_2 x5 x6 h0 h1)) := by
  refine Eq.trans (runC_post _ _ _ k) (Eq.trans (ops_run _ _ _ _) (by kernel_rfl))
def m64_14 (N : Nat) (x5 x6 h0 h1 : D) (K : D → D → D → D → D → Option R) : Option R :=
  K x5 x6 (D.b (eqb (h0.at 0).toI 2)) h0 h1
def s64_4 (x5 x6 x38 h0 h1 : D) : St := sts 86 [(2, V.m 0 []), (3, V.m 1 []), (5, V.f x5), (6, V.f x6), (38, V.f x38)] [V.f h0, V.f h1]
theorem e64_14 (N : Nat) (k : Kn R) (x5 x6 h0 h1 : D) : runC PHI Tb27 N vc64_14 (s64_2 x5 x6 h0 h1) k = m64_14 N x5 x6 h0 h1 (fun x5 x6 x38 h0 h1 => k .normal (s64_4 x5 x6 x38 h0 h1)) := by
  refine Eq.trans (runC_post _ _ _ k) (Eq.trans (ops_run _ _ _ _) (by kernel_rfl))
def m64_17 (N : Nat) (h0 h1 : D) (K : D → D → D → Option R) : Option R :=
  (bif (sp39 (h0.at 2)) then (bif (!(sp39 (h1.at 2))) then K (D.b true) h0 h1 else K (F2.ev .flt (h0.at 2) (h1.at 2)) h0 h1) else K (F2.ev .flt (h0.at 2) (h1.at 2)) h0 h1)
def s64_5 (x5 h0 h1 : D) : St := sts 86 [(2, V.m 0 []), (3, V.m 1 []), (5, V.f x5)] [V.f h0, V.f h1]
theorem e64_17 (N : Nat) (k : Kn R) (h0 h1 : D) : runC PHI Tb27 N vc64_17 (s64_1 h0 h1) k = m64_17 N h0 h1 (fun x5 h0 h1 => k .normal (s64_5 x5 h0 h1)) := by
  refine Eq.trans (runC_post _ _ _ k) (Eq.trans (ops_run _ _ _ _) (by kernel_rfl))
def m64_18 (N : Nat) (x5 h0 h1 : D) (K : D → D → D → D → Option R) : Option R :=
  (bif (!(sp39 (h0.at 2))) then (bif (sp39 (h1.at 2)) then K x5 (D.b true) h0 h1 else K x5 (F2.ev .fgt (h0.at 2) (h1.at 2)) h0 h1) else K x5 (F2.ev .fgt (h0.at 2) (h1.at 2)) h0 h1)
theorem e64_18 (N : Nat) (k : Kn R) (x5 h0 h1 : D) : runC PHI Tb27 N vc64_18 (s64_5 x5 h0 h1) k = m64_18 N x5 h0 h1 (fun x5 x6 h0 h1 => k .normal (s64_2 x5 x6 h0 h1)) := by
  refine Eq.trans (runC_post _ _ _ k) (Eq.trans (ops_run _ _ _ _) (by kernel_rfl))
def m64_16 (N : Nat) (h0 h1 : D) (K : D → D → D → D → Option R) : Option R :=
  (m64_17 N h0 h1 (fun y5 h0 h1 => (m64_18 N y5 h0 h1 (fun y5 y6 h0 h1 => K y5 y6 h0 h1))))
theorem e64_16 (N : Nat) (k : Kn R) (h0 h1 : D) : runC PHI Tb27 N vc64_16 (s64_1 h0 h1) k = m64_16 N h0 h1 (fun x5 x6 h0 h1 => k .normal (s64_2 x5 x6 h0 h1)) := by
  have h2 := e64_17 N (kseq PHI Tb27 N vc64_18 k) h0 h1
  have h3 := (funext fun y5 => funext fun h0 => funext fun h1 => (e64_18 N k y5 h0 h1) : (fun (y5 h0 h1 : D) => (kseq PHI Tb27 N vc64_18 k) .normal (s64_5 y5 h0 h1)) = _)
  refine Eq.trans (runC_seq _ _ _ k) (Eq.trans h2 (Eq.trans (congrArg (fun K => m64_17 N h0 h1 K) h3) (by kernel_rfl)))
def m64_19 (N : Nat) (x5 x6 h0 h1 : D) (K : D → D → D → D → Option R) : Option R :=
  K x5 x6 h0 h1
theorem e64_19 (N : Nat) (k : Kn R) (x5 x6 h0 h1 : D) : runC PHI Tb27 N vc64_19 (s64_2 x5 x6 h0 h1) k = m64_19 N x5 x6 h0 h1 (fun x5 x6 h0 h1 => k .normal (s64_2 x5 x6 h0 h1)) := by kernel_rfl
def m64_15 (N : Nat) (x5 x6 x38 h0 h1 : D) (K : D → D → D → D → Option R) : Option R :=
  (bif x38.toB then (m64_16 N h0 h1 (fun y5 y6 h0 h1 => K y5 y6 h0 h1)) else (m64_19 N x5 x6 h0 h1 (fun y5 y6 h0 h1 => K y5 y6 h0 h1)))
theorem e64_15 (N : Nat) (k : Kn R) (x5 x6 x38 h0 h1 : D) : runC PHI Tb27 N vc64_15 (s64_4 x5 x6 x38 h0 h1) k = m64_15 N x5 x6 x38 h0 h1 (fun x5 x6 h0 h1 => k .normal (s64_2 x5 x6 h0 h1)) := by
  refine Eq.trans (runC_cond (s1 := (s64_1 h0 h1)) (s2 := (s64_2 x5 x6 h0 h1)) (d := x38) _ _ k (by kernel_rfl) (by kernel_rfl) (by kernel_rfl)) (Eq.trans (congr (congrArg (cond x38.toB) ((e64_16 N k h0 h1))) ((e64_19 N k x5 x6 h0 h1))) (by kernel_rfl))
def m64_13 (N : Nat) (x5 x6 h0 h1 : D) (K : D → D → D → D → Option R) : Option R :=
  (m64_14 N x5 x6 h0 h1 (fun y5 y6 y38 h0 h1 => (m64_15 N y5 y6 y38 h0 h1 (fun y5 y6 h0 h1 => K y5 y6 h0 h1))))
theorem e64_13 (N : Nat) (k : Kn R) (x5 x6 h0 h1 : D) : runC PHI Tb27 N vc64_13 (s64_2 x5 x6 h0 h1) k = m64_13 N x5 x6 h0 h1 (fun x5 x6 h0 h1 => k .normal (s64_2 x5 x6 h0 h1)) := by
  have h2 := e64_14 N (kseq PHI Tb27 N vc64_15 k) x5 x6 h0 h1
  have h3 := (funext fun y5 => funext fun y6 => funext fun y38 => funext fun h0 => funext fun h1 => (e64_15 N k y5 y6 y38 h0 h1) : (fun (y5 y6 y38 h0 h1 : D) => (kseq PHI Tb27 N vc64_15 k) .normal (s64_4 y5 y6 y38 h0 h1)) = _)
  refine Eq.trans (runC_seq _ _ _ k) (Eq.trans h2 (Eq.trans (congrArg (fun K => m64_14 N x5 x6 h0 h1 K) h3) (by kernel_rfl)))
def m64_20 (N : Nat) (x5 x6 h0 h1 : D) (K : D → D → D → D → Option R) : Option R :=
  (bif (eqb (h0.at 0).toI 3) then K (D.b (lessL (h0.at 3).toS (h1.at 3).toS)) (F2.ev .sgt (h0.at 3) (h1.at 3)) h0 h1 else K x5 x6 h0 h1)
def s64_6 (x5 x6 h0 h1 : D) : St := sts 86 [(5, V.f x5), (6, V.f x6)] [V.f h0, V.f h1]
theorem e64_20 (N : Nat) (k : Kn R) (x5 x6 h0 h1 : D) : runC PHI Tb27 N vc64_20 (s64_2 x5 x6 h0 h1) k = m64_20 N x5 x6 h0 h1 (fun x5 x6 h0 h1 => k .normal (s64_6 x5 x6 h0 h1)) := by kernel_rfl
def m64_12 (N : Nat) (x5 x6 h0 h1 : D) (K : D → D → D → D → Option R) : Option R :=
  (m64_13 N x5 x6 h0 h1 (fun y5 y6 h0 h1 => (m64_20 N y5 y6 h0 h1 (fun y5 y6 h0 h1 => K y5 y6 h0 h1))))
theorem e64_12 (N : Nat) (k : Kn R) (x5 x6 h0 h1 : D) : runC PHI Tb27 N vc64_12 (s64_2 x5 x6 h0 h1) k = m64_12 N x5 x6 h0 h1 (fun x5 x6 h0 h1 => k .normal (s64_6 x5 x6 h0 h1)) := by
  have h2 := e64_13 N (kseq PHI Tb27 N vc64_20 k) x5 x6 h0 h1
  have h3 := (funext fun y5 => funext fun y6 => funext fun h0 => funext fun h1 => (e64_20 N k y5 y6 h0 h1) : (fun (y5 y6 h0 h1 : D) => (kseq PHI Tb27 N vc64_20 k) .normal (s64_2 y5 y6 h0 h1)) = _)
  refine Eq.trans (runC_seq _ _ _ k) (Eq.trans h2 (Eq.trans (congrArg (fun K => m64_13 N x5 x6 h0 h1 K) h3) (by kernel_rfl)))
def m64_10 (N : Nat) (h0 h1 : D) (K : D → D → D → D → Option R) : Option R :=
  (m64_11 N h0 h1 (fun y5 y6 h0 h1 => (m64_12 N y5 y6 h0 h1 (fun y5 y6 h0 h1 => K y5 y6 h0 h1))))
theorem e64_10 (N : Nat) (k : Kn R) (h0 h1 : D) : runC PHI Tb27 N vc64_10 (s64_1 h0 h1) k = m64_10 N h0 h1 (fun x5 x6 h0 h1 => k .normal (s64_6 x5 x6 h0 h1)) := by
  have h2 := e64_11 N (kseq PHI Tb27 N vc64_12 k) h0 h1
  have h3 := (funext fun y5 => funext fun y6 => funext fun h0 => funext fun h1 => (e64_12 N k y5 y6 h0 h1) : (fun (y5 y6 h0 h1 : D) => (kseq PHI Tb27 N vc64_12 k) .normal (s64_2 y5 y6 h0 h1)) = _)
  refine Eq.trans (runC_seq _ _ _ k) (Eq.trans h2 (Eq.trans (congrArg (fun K => m64_11 N h0 h1 K) h3) (by kernel_rfl)))
def m64_25 (N : Nat) (x5 x6 h0 h1 : D) (K : D → D → D → D → Option R) : Option R :=
  K x5 x6 h0 h1
theorem e64_25 (N : Nat) (k : Kn R) (x5 x6 h0 h1 : D) : runC PHI Tb27 N vc64_25 (s64_6 x5 x6 h0 h1) k = m64_25 N x5 x6 h0 h1 (fun x5 x6 h0 h1 => k .normal (s64_6 x5 x6 h0 h1)) := by kernel_rfl
def m64_9 (N : Nat) (x5 x6 x25 h0 h1 : D) (K : D → D → D → D → Option R) : Option R :=
  (bif x25.toB then (m64_10 N h0 h1 (fun y5 y6 h0 h1 => K y5 y6 h0 h1)) else (m64_25 N x5 x6 h0 h1 (fun y5 y6 h0 h1 => K y5 y6 h0 h1)))
theorem e64_9 (N : Nat) (k : Kn R) (x5 x6 x25 h0 h1 : D) : runC PHI Tb27 N vc64_9 (s64_3 x5 x6 x25 h0 h1) k = m64_9 N x5 x6 x25 h0 h1 (fun x5 x6 h0 h1 => k .normal (s64_6 x5 x6 h0 h1)) := by
  refine Eq.trans (runC_cond (s1 := (s64_1 h0 h1)) (s2 := (s64_6 x5 x6 h0 h1)) (d := x25) _ _ k (by kernel_rfl) (by kernel_rfl) (by kernel_rfl)) (Eq.trans (congr (congrArg (cond x25.toB) ((e64_10 N k h0 h1))) ((e64_25 N k x5 x6 h0 h1))) (by kernel_rfl))
def m64_7 (N : Nat) (x5 x6 h0 h1 : D) (K : D → D → D → D → Option R) : Option R :=
  (m64_8 N x5 x6 h0 h1 (fun y5 y6 y25 h0 h1 => (m64_9 N y5 y6 y25 h0 h1 (fun y5 y6 h0 h1 => K y5 y6 h0 h1))))
theorem e64_7 (N : Nat) (k : Kn R) (x5 x6 h0 h1 : D) : runC PHI Tb27 N vc64_7 (s64_2 x5 x6 h0 h1) k = m64_7 N x5 x6 h0 h1 (fun x5 x6 h0 h1 => k .normal (s64_6 x5 x6 h0 h1)) := by
  have h2 := e64_8 N (kseq PHI Tb27 N vc64_9 k) x5 x6 h0 h1
  have h3 := (funext fun y5 => funext fun y6 => funext fun y25 => funext fun h0 => funext fun h1 => (e64_9 N k y5 y6 y25 h0 h1) : (fun (y5 y6 y25 h0 h1 : D) => (kseq PHI Tb27 N vc64_9 k) .normal (s64_3 y5 y6 y25 h0 h1)) = _)
  refine Eq.trans (runC_seq _ _ _ k) (Eq.trans h2 (Eq.trans (congrArg (fun K => m64_8 N x5 x6 h0 h1 K) h3) (by kernel_rfl)))
def m64_26 (N : Nat) (x5 x6 h0 h1 : D) (Kr : D → D → D → Option R) : Option R :=
  (bif x5.toB then Kr (D.i (-1)) h0 h1 else (bif x6.toB then Kr (D.i 1) h0 h1 else Kr (D.i 0) h0 h1))
def s64_7 (x4 h0 h1 : D) : St := sts 86 [(4, V.f x4)] [V.f h0, V.f h1]
theorem e64_26 (N : Nat) (k : Kn R) (x5 x6 h0 h1 : D) : runC PHI Tb27 N vc64_26 (s64_6 x5 x6 h0 h1) k = m64_26 N x5 x6 h0 h1 (fun x4 h0 h1 => k .ret (s64_7 x4 h0 h1)) := by kernel_rfl
def m64_6 (N : Nat) (x5 x6 h0 h1 : D) (Kr : D → D → D → Option R) : Option R :=
  (m64_7 N x5 x6 h0 h1 (fun y5 y6 h0 h1 => (m64_26 N y5 y6 h0 h1 Kr)))
theorem e64_6 (N : Nat) (k : Kn R) (x5 x6 h0 h1 : D) : runC PHI Tb27 N vc64_6 (s64_2 x5 x6 h0 h1) k = m64_6 N x5 x6 h0 h1 (fun x4 h0 h1 => k .ret (s64_7 x4 h0 h1)) := by
  have h2 := e64_7 N (kseq PHI Tb27 N vc64_26 k) x5 x6 h0 h1
  have h3 := (funext fun y5 => funext fun y6 => funext fun h0 => funext fun h1 => (e64_26 N k y5 y6 h0 h1) : (fun (y5 y6 h0 h1 : D) => (kseq PHI Tb27 N vc64_26 k) .normal (s64_6 y5 y6 h0 h1)) = _)
  refine Eq.trans (runC_seq _ _ _ k) (Eq.trans h2 (Eq.trans (congrArg (fun K => m64_7 N x5 x6 h0 h1 K) h3) (by kernel_rfl)))
def m64_4 (N : Nat) (h0 h1 : D) (Kr : D → D → D → Option R) : Option R :=
  (m64_5 N h0 h1 (fun y5 y6 h0 h1 => (m64_6 N y5 y6 h0 h1 Kr)))
theorem e64_4 (N : Nat) (k : Kn R) (h0 h1 : D) : runC PHI Tb27 N vc64_4 (s64_1 h0 h1) k = m64_4 N h0 h1 (fun x4 h0 h1 => k .ret (s64_7 x4 h0 h1)) := by
  have h2 := e64_5 N (kseq PHI Tb27 N vc64_6 k) h0 h1
  have h3 := (funext fun y5 => funext fun y6 => funext fun h0 => funext fun h1 => (e64_6 N k y5 y6 h0 h1) : (fun (y5 y6 h0 h1 : D) => (kseq PHI Tb27 N vc64_6 k) .normal (s64_2 y5 y6 h0 h1)) = _)
  refine Eq.trans (runC_seq _ _ _ k) (Eq.trans h2 (Eq.trans (congrArg (fun K => m64_5 N h0 h1 K) h3) (by kernel_rfl)))
def m64_2 (N : Nat) (h0 h1 : D) (Kr : D → D → D → Option R) : Option R :=
  (m64_3 N h0 h1 (fun h0 h1 => (m64_4 N h0 h1 Kr)))
theorem e64_2 (N : Nat) (k : Kn R) (h0 h1 : D) : runC PHI Tb27 N vc64_2 (s64_1 h0 h1) k = m64_2 N h0 h1 (fun x4 h0 h1 => k .ret (s64_7 x4 h0 h1)) := by
  have h2 := e64_3 N (kseq PHI Tb27 N vc64_4 k) h0 h1
  have h3 := (funext fun h0 => funext fun h1 => (e64_4 N k h0 h1) : (fun (h0 h1 : D) => (kseq PHI Tb27 N vc64_4 k) .normal (s64_1 h0 h1)) = _)
  refine Eq.trans (runC_seq _ _ _ k) (Eq.trans h2 (Eq.trans (congrArg (fun K => m64_3 N h0 h1 K) h3) (by kernel_rfl)))
def m64_0 (N : Nat) (x0 x1 : D) (Kr : D → D → D → Option R) : Option R :=
  (m64_1 N x0 x1 (fun h0 h1 => (m64_2 N h0 h1 Kr)))
theorem e64_0 (N : Nat) (k : Kn R) (x0 x1 : D) : runC PHI Tb27 N vc64_0 (s64_0 x0 x1) k = m64_0 N x0 x1 (fun x4 h0 h1 => k .ret (s64_7 x4 h0 h1)) := by
  have h2 := e64_1 N (kseq PHI Tb27 N vc64_2 k) x0 x1
  have h3 := (funext fun h0 => funext fun h1 => (e64_2 N k h0 h1) : (fun (h0 h1 : D) => (kseq PHI Tb27 N vc64_2 k) .normal (s64_1 h0 h1)) = _)
  refine Eq.trans (runC_seq _ _ _ k) (Eq.trans h2 (Eq.trans (congrArg (fun K => m64_1 N x0 x1 K) h3) (by kernel_rfl)))
theorem r64 (N : Nat) (x0 x1 : D) : runC PHI Tb27 N vf64.body (enterV vf64 [V.f x0, V.f x1] []) (finish vf64) = m64_0 N x0 x1 (fun x4 h0 h1 => finish vf64 .ret (s64_7 x4 h0 h1)) := 
  Eq.trans (runC_pre (s1 := (s64_0 x0 x1)) (by kernel_rfl) _ _) (Eq.trans (e64_0 N (finish vf64) x0 x1) (by kernel_rfl))
end
def Tb64 : CallF := extend Tb27 64 (fn2 (fun _ _ => true) fun x y => .f (.i (sp64 x y)))
theorem ok64 : FnOk Try.prog PHI Tb64 := FnOk.add2 hPHI ok27 (by kernel_rfl) fun u v _ _ => ⟨0, (r64 0 u v).trans (by
  simp only [m64_1, m64_3, m64_5, m64_8, m64_11, m64_14, m64_17, m64_18, m64_16, m64_19, m64_15, m64_13, m64_20, m64_12, m64_10, m64_25, m64_9, m64_7, m64_26, m64_6, m64_4, m64_2, m64_0, toB_b, sp64, less, more]
  generalize sp10 u = a
  generalize sp10 v = b
  cases eqb (a.at 0).toI (b.at 0).toI
  · cases ltb (a.at 0).toI (b.at 0).toI <;> cases ltb (b.at 0).toI (a.at 0).toI <;> rfl
  · cases eqb (a.at 0).toI 3
    · cases eqb (a.at 0).toI 2
      · cases ltb (a.at 1).toI (b.at 1).toI <;> cases ltb (b.at 1).toI (a.at 1).toI <;> rfl
      · cases sp39 (a.at 2) <;> cases sp39 (b.at 2) <;> cases (F2.ev .flt (a.at 2) (b.at 2)).toB <;> cases (F2.ev .fgt (a.at 2) (b.at 2)).toB <;> rfl
    · cases eqb (a.at 0).toI 2
      · cases lessL (a.at 3).toS (b.at 3).toS <;> cases (F2.ev .sgt (a.at 3) (b.at 3)).toB <;> rfl
      · cases sp39 (a.at 2) <;> cases sp39 (b.at 2) <;> cases lessL (a.at 3).toS (b.at 3).toS <;> cases (F2.ev .sgt (a.at 3) (b.at 3)).toB <;> rfl)⟩

end Go.Vam.C15
namespace Go.Vam.C15
open Go.Proofs
/-! ### Numbers with a point -/
theorem ord_swap (a b : Ieee.Datum) : b.order a = (a.order b).map Ordering.swap := by
  cases a with
  | nan s t => cases b <;> rfl
  | infinity s =>
    cases b with
    | nan t u => rfl
    | infinity t => cases s <;> cases t <;> rfl
    | number t n j => cases s <;> rfl
  | number s m i =>
    cases b with
    | nan t u => rfl
    | infinity t => cases t <;> rfl
    | number t n j =>
      simp only [Ieee.Datum.order, Option.map_some, Option.some.injEq]
      rw [Int.min_comm j i]
      exact Std.OrientedCmp.eq_swap
theorem ord_none (a b : Ieee.Datum) : a.order b = none ↔ a.isNaN = true ∨ b.isNaN = true := by
  cases a <;> cases b <;> simp [Ieee.Datum.order, Ieee.Datum.isNaN]
theorem ord_self (a : Ieee.Datum) (h : a.isNaN = false) : a.order a = some .eq := by
  cases a with
  | nan s t => cases h
  | infinity s => cases s <;> rfl
  | number s m i => simp only [Ieee.Datum.order, Option.some.injEq]; exact Std.ReflCmp.compare_self
theorem sg0 (s : Bool) (k : Nat) : Ieee.signed s 0 k = 0 := by cases s <;> simp [Ieee.signed]
theorem sgn0 {s : Bool} {m k : Nat} (h : Ieee.signed s m k = 0) : m = 0 := by
  have h2 : m <<< k = 0 := by
    unfold Ieee.signed at h
    split at h <;> omega
  rw [Nat.shiftLeft_eq] at h2
  rcases Nat.mul_eq_zero.1 h2 with h2 | h2
  · exact h2
  · exact absurd h2 (by have := Nat.two_pow_pos k; omega)
theorem sgn_c (t : Bool) (n k k' : Nat) : compare (0 : Int) (Ieee.signed t n k) = compare (0 : Int) (Ieee.signed t n k') := by
  have key : ∀ k, compare (0 : Int) (Ieee.signed t n k) = (if n = 0 then .eq else if t then .gt else .lt) := by
    intro k
    by_cases hn : n = 0
    · subst hn; rw [sg0]; simp [Std.ReflCmp.compare_self]
    · rw [if_neg hn]
      have hp : 0 < n <<< k := by rw [Nat.shiftLeft_eq]; exact Nat.mul_pos (by omega) (Nat.two_pow_pos k)
      cases t
      · simp only [Ieee.signed, Bool.false_eq_true, if_false]
        rw [Int.compare_eq_lt]; omega
      · simp only [Ieee.signed, if_true]
        rw [Int.compare_eq_gt]; omega
  rw [key, key]
/-- A nought's sign is of no account. -/
theorem ord_zero (a : Ieee.Datum) (p : Int) (h : a.order (.number false 0 p) = some .eq) (c : Ieee.Datum) : a.order c = (Ieee.Datum.number false 0 p).order c := by
  cases a with
  | nan s t => cases h
  | infinity s => cases s <;> cases h
  | number s m i =>
    have hm : m = 0 := by
      simp only [Ieee.Datum.order, Option.some.injEq, sg0] at h
      exact sgn0 (Int.compare_eq_eq.1 h)
    subst hm
    cases c with
    | nan t u => rfl
    | infinity t => rfl
    | number t n j =>
      simp only [Ieee.Datum.order, sg0, Option.some.injEq]
      exact sgn_c _ _ _ _
/-- How two numbers stand to each other. -/
def oo (x y : D) : Option Ordering := Ieee.double.order x.toF y.toF
theorem feq_o (x y : D) : (F2.ev .feq x y).toB = (oo x y == some .eq) := rfl
theorem fne_o (x y : D) : (F2.ev .fne x y).toB = !(oo x y == some .eq) := rfl
theorem flt_o (x y : D) : (F2.ev .flt x y).toB = (oo x y == some .lt) := rfl
theorem fgt_o (x y : D) : (F2.ev .fgt x y).toB = (oo x y == some .gt) := rfl
def nan (x : D) : Bool := isNan x.toF
theorem oo_none (x y : D) : oo x y = none ↔ nan x = true ∨ nan y = true := ord_none _ _
theorem oo_self (x : D) (h : nan x = false) : oo x x = some .eq := ord_self _ h
theorem oo_swap (x y : D) : oo y x = (oo x y).map Ordering.swap := ord_swap _ _
theorem rd0 : Ieee.double.read 0 = .number false 0 Ieee.double.leastPlace := by decide
theorem oo_zero (x : D) (h : oo x (.f 0) = some .eq) (c : D) : oo x c = oo (.f 0) c := by
  have e : ∀ c, oo (.f 0) c = (Ieee.Datum.number false 0 Ieee.double.leastPlace).order (Ieee.double.read c.toF) := fun c => by rw [← rd0]; rfl
  rw [e]
  refine ord_zero _ _ ?_ _
  rw [← rd0]; exact h
theorem oo_zero' (x : D) (h : oo x (.f 0) = some .eq) (c : D) : oo c x = oo c (.f 0) := by rw [oo_swap x c, oo_zero x h c, ← oo_swap]
theorem s64 (x : D) : sp55 x = nan x := by
  unfold sp55
  rw [fne_o]
  cases h : nan x
  · rw [oo_self x h]; rfl
  · rw [(oo_none x x).2 (.inl h)]; rfl
theorem s89 (x : D) : sp88 x = nan x := s64 x
theorem s43 (x : D) : sp39 x = !nan x := by
  have : sp39 x = !sp55 x := by unfold sp39 sp55; rw [feq_o, fne_o, Bool.not_not]
  rw [this, s64]
theorem nan98 : nan sp91 = true := by kernel_rfl
theorem nan_zero (x : D) (h : oo x (.f 0) = some .eq) : nan x = false := by
  cases hn : nan x
  · rfl
  · rw [(oo_none x (.f 0)).2 (.inl hn)] at h; cases h
/-- Two that stand for one. -/
structure Fe (x y : D) : Prop where
  n : nan x = nan y
  l : ∀ c, oo x c = oo y c
  r : ∀ c, oo c x = oo c y
theorem Fe.refl (x : D) : Fe x x := ⟨rfl, fun _ => rfl, fun _ => rfl⟩
theorem fe_zero (x : D) (h : oo x (.f 0) = some .eq) : Fe (.f 0) x := ⟨by rw [nan_zero x h]; rfl, fun c => (oo_zero x h c).symm, fun c => (oo_zero' x h c).symm⟩
theorem fe_canon (x : D) : Fe (canon x) x := by
  unfold canon
  rw [s64, feq_o]
  cases hn : nan x
  · cases h : (oo x (.f 0) == some .eq)
    · exact Fe.refl x
    · exact fe_zero x (by simpa using h)
  · exact ⟨by rw [hn]; exact nan98, fun c => by rw [(oo_none x c).2 (.inl hn)]; exact (oo_none _ c).2 (.inl nan98), fun c => by rw [(oo_none c x).2 (.inr hn)]; exact (oo_none c _).2 (.inr nan98)⟩
def cl (x : D) : D := bif (F2.ev .fne x (.f 0)).toB then x else .f 0
theorem fe_cl (x : D) : Fe (cl x) x := by
  unfold cl
  rw [fne_o]
  cases h : (oo x (.f 0) == some .eq)
  · exact Fe.refl x
  · exact fe_zero x (by simpa using h)
theorem canon_idem (x : D) : canon (canon x) = canon x := by
  have h := fe_canon x
  have e1 : sp55 (canon x) = sp55 x := by rw [s64, s64, h.n]
  have e2 : (F2.ev .feq (canon x) (.f 0)).toB = (F2.ev .feq x (.f 0)).toB := by rw [feq_o, feq_o, h.l]
  have : canon (canon x) = bif sp55 (canon x) then sp91 else bif (F2.ev .feq (canon x) (.f 0)).toB then .f 0 else canon x := rfl
  rw [this, e1, e2]
  unfold canon
  cases sp55 x <;> cases (F2.ev .feq x (.f 0)).toB <;> rfl
theorem cl_idem (x : D) : cl (cl x) = cl x := by
  have h := fe_cl x
  have : cl (cl x) = bif (F2.ev .fne (cl x) (.f 0)).toB then cl x else .f 0 := rfl
  rw [this, fne_o, h.l, ← fne_o]
  unfold cl
  cases (F2.ev .fne x (.f 0)).toB <;> rfl
/-- Which of two comes first. -/
def G (x y : D) : Int := bif nan x then (bif nan y then 0 else 1) else bif nan y then -1 else bif oo x y == some .lt then -1 else bif oo x y == some .gt then 1 else 0
theorem G_fe {x x' y y' : D} (h : Fe x' x) (h' : Fe y' y) : G x' y' = G x y := by
  unfold G
  rw [h.n, h'.n, h.l, h'.r]
theorem G_swap (x y : D) : G y x = - G x y := by
  unfold G
  rw [oo_swap x y]
  cases hx : nan x <;> cases hy : nan y <;> try rfl
  cases h : oo x y with
  | none => have := (oo_none x y).1 h; simp_all
  | some o => cases o <;> rfl
theorem G27 (x y : D) : (bif sp55 x then (bif sp55 y then 0 else 1) else bif sp55 y then -1 else sp56 x y) = G x y := by
  unfold sp56 G
  rw [s64, s64, s89, s89, flt_o, fgt_o]
  cases nan x <;> cases nan y <;> rfl
theorem G29 (x y : D) : (bif sp39 x && !sp39 y || (F2.ev .flt x y).toB then -1 else bif !sp39 x && sp39 y || (F2.ev .fgt x y).toB then 1 else 0) = G x y := by
  unfold G
  rw [s43, s43, flt_o, fgt_o]
  cases hx : nan x <;> cases hy : nan y
  · simp
  · rw [(oo_none x y).2 (.inr hy)]; rfl
  · rw [(oo_none x y).2 (.inl hx)]; rfl
  · rw [(oo_none x y).2 (.inl hx)]; rfl
theorem G_range (x y : D) : -1 ≤ G x y ∧ G x y ≤ 1 := by
  unfold G
  cases nan x <;> cases nan y <;> cases (oo x y == some .lt) <;> cases (oo x y == some .gt) <;> decide
/-! ### Strings, whole numbers -/
theorem cmpL_less : ∀ x y : List Nat, (bif lessL x y then -1 else bif !(lessL x y || eqL x y) then 1 else 0) = cmpL x y
  | [], [] => rfl
  | [], _ :: _ => rfl
  | _ :: _, [] => rfl
  | a :: x, b :: y => by
    have ih := cmpL_less x y
    rw [cmpL, ← ih]
    simp only [lessL, eqL]
    rcases Nat.lt_trichotomy a b with h | h | h
    · have e1 : Nat.beq a b = false := Bool.eq_false_iff.2 fun e => by have := Nat.eq_of_beq_eq_true e; omega
      have e2 : Nat.ble a b = true := Nat.ble_eq_true_of_le (by omega)
      simp [e1, e2, h]
    · subst h
      simp
    · have e1 : Nat.beq a b = false := Bool.eq_false_iff.2 fun e => by have := Nat.eq_of_beq_eq_true e; omega
      have e2 : Nat.ble a b = false := Bool.eq_false_iff.2 fun e => by have := Nat.le_of_ble_eq_true e; omega
      have e3 : ¬ a < b := by omega
      have e4 : ¬ a = b := by omega
      simp [e1, e2, e3, e4]
theorem cmpL_swap : ∀ x y : List Nat, cmpL y x = - cmpL x y
  | [], [] => rfl
  | [], _ :: _ => rfl
  | _ :: _, [] => rfl
  | a :: x, b :: y => by
    have ih := cmpL_swap x y
    rw [cmpL, cmpL, ih]
    rcases Nat.lt_trichotomy a b with h | h | h
    · have e1 : Nat.beq a b = false := Bool.eq_false_iff.2 fun e => by have := Nat.eq_of_beq_eq_true e; omega
      have e1' : Nat.beq b a = false := Bool.eq_false_iff.2 fun e => by have := Nat.eq_of_beq_eq_true e; omega
      have e2 : Nat.ble a b = true := Nat.ble_eq_true_of_le (by omega)
      have e2' : Nat.ble b a = false := Bool.eq_false_iff.2 fun e => by have := Nat.le_of_ble_eq_true e; omega
      simp [e1, e2, e1', e2']
    · subst h; simp
    · have e1 : Nat.beq a b = false := Bool.eq_false_iff.2 fun e => by have := Nat.eq_of_beq_eq_true e; omega
      have e1' : Nat.beq b a = false := Bool.eq_false_iff.2 fun e => by have := Nat.eq_of_beq_eq_true e; omega
      have e2 : Nat.ble a b = false := Bool.eq_false_iff.2 fun e => by have := Nat.le_of_ble_eq_true e; omega
      have e2' : Nat.ble b a = true := Nat.ble_eq_true_of_le (by omega)
      simp [e1, e2, e1', e2']
theorem cmpI_swap (x y : Int) : cmpI y x = - cmpI x y := by
  unfold cmpI
  rcases Int.lt_trichotomy x y with h | h | h
  · rw [ltb_t h, ltb_f (show ¬ y < x by omega)]; rfl
  · subst h; rw [ltb_self]; rfl
  · rw [ltb_t h, ltb_f (show ¬ x < y by omega)]; rfl
theorem cmpI_range (x y : Int) : -1 ≤ cmpI x y ∧ cmpI x y ≤ 1 := by
  unfold cmpI
  cases ltb x y <;> cases ltb y x <;> decide

end Go.Vam.C15
namespace Go.Vam.C15
open Go.Proofs
/-! ### Which of two values comes first -/
def kd (v : D) : Int := bif leb 1 (v.at 0).toI && leb (v.at 0).toI 4 then (v.at 0).toI else 0
def num (v : D) : Int := bif eqb (v.at 0).toI 1 then (v.at 1).toI else bif eqb (v.at 0).toI 4 && !eqb (v.at 1).toI 0 then 1 else 0
def T (u v : D) : Int := bif eqb (kd u) (kd v) then (bif eqb (kd u) 3 then cmpL (u.at 3).toS (v.at 3).toS else bif eqb (kd u) 2 then G (u.at 2) (v.at 2) else cmpI (num u) (num v)) else cmpI (kd u) (kd v)
/-- What a cleaned value is. -/
structure Cl (c v : D) : Prop where
  k : (c.at 0).toI = kd v
  n : kd v ≠ 2 → kd v ≠ 3 → (c.at 1).toI = num v
  f : kd v = 2 → Fe (c.at 2) (v.at 2)
  s : kd v = 3 → (c.at 3) = (v.at 3)
theorem five (v : D) : ((v.at 0).toI = 1 ∨ (v.at 0).toI = 2 ∨ (v.at 0).toI = 3 ∨ (v.at 0).toI = 4) ∨ ((v.at 0).toI ≠ 1 ∧ (v.at 0).toI ≠ 2 ∧ (v.at 0).toI ≠ 3 ∧ (v.at 0).toI ≠ 4) := by omega
theorem kd_eq {v : D} {n : Int} (h : (v.at 0).toI = n) (h1 : 1 ≤ n) (h2 : n ≤ 4) : kd v = n := by
  unfold kd; rw [h, leb_t h1, leb_t h2]; rfl
theorem kd_0 {v : D} (h : (v.at 0).toI ≠ 1 ∧ (v.at 0).toI ≠ 2 ∧ (v.at 0).toI ≠ 3 ∧ (v.at 0).toI ≠ 4) : kd v = 0 := by
  unfold kd
  by_cases h1 : 1 ≤ (v.at 0).toI
  · rw [leb_t h1, leb_f (show ¬ (v.at 0).toI ≤ 4 by omega)]; rfl
  · rw [leb_f h1]; rfl
theorem cl46 (v : D) : Cl (sp30 v) v := by
  rcases five v with (h | h | h | h) | h
  · have hk := kd_eq h (by decide) (by decide)
    have e : sp30 v = sp60 (v.at 1) := by unfold sp30; rw [h]; rfl
    exact ⟨by rw [e, hk]; rfl, fun _ _ => by rw [e]; unfold num; rw [h]; rfl, fun h2 => by omega, fun h2 => by omega⟩
  · have hk := kd_eq h (by decide) (by decide)
    have e : sp30 v = sp61 (v.at 2) := by unfold sp30; rw [h]; rfl
    exact ⟨by rw [e, hk]; rfl, fun h2 => by omega, fun _ => by rw [e]; exact fe_canon _, fun h2 => by omega⟩
  · have hk := kd_eq h (by decide) (by decide)
    have e : sp30 v = sp62 (v.at 3) := by unfold sp30; rw [h]; rfl
    exact ⟨by rw [e, hk]; rfl, fun h2 h3 => by omega, fun h2 => by omega, fun _ => by rw [e]; rfl⟩
  · have hk := kd_eq h (by decide) (by decide)
    have e : sp30 v = sp51 (.b (!eqb (v.at 1).toI 0)) := by unfold sp30; rw [h]; rfl
    exact ⟨by rw [e, hk]; rfl, fun _ _ => by rw [e]; unfold num; rw [h]; cases eqb (v.at 1).toI 0 <;> rfl, fun h2 => by omega, fun h2 => by omega⟩
  · have hk := kd_0 h
    have e : sp30 v = z0 := by unfold sp30; rw [eqb_f h.1, eqb_f h.2.1, eqb_f h.2.2.1, eqb_f h.2.2.2]; rfl
    exact ⟨by rw [e, hk]; rfl, fun _ _ => by rw [e]; unfold num; rw [eqb_f h.1, eqb_f h.2.2.2]; rfl, fun h2 => by omega, fun h2 => by omega⟩
theorem cl30 (v : D) : Cl (sp10 v) v := by
  rcases five v with (h | h | h | h) | h
  · have hk := kd_eq h (by decide) (by decide)
    have e : sp10 v = .ag [v.at 0, v.at 1, .f 0, .s []] := by unfold sp10; rw [h]; rfl
    exact ⟨by rw [e, hk]; exact h, fun _ _ => by rw [e]; unfold num; rw [h]; rfl, fun h2 => by omega, fun h2 => by omega⟩
  · have hk := kd_eq h (by decide) (by decide)
    have e : sp10 v = .ag [v.at 0, .i 0, cl (v.at 2), .s []] := by
      unfold sp10 cl; rw [h]; rfl
    exact ⟨by rw [e, hk]; exact h, fun h2 => by omega, fun _ => by rw [e]; exact fe_cl _, fun h2 => by omega⟩
  · have hk := kd_eq h (by decide) (by decide)
    have e : sp10 v = .ag [v.at 0, .i 0, .f 0, v.at 3] := by unfold sp10; rw [h]; rfl
    exact ⟨by rw [e, hk]; exact h, fun h2 h3 => by omega, fun h2 => by omega, fun _ => by rw [e]; rfl⟩
  · have hk := kd_eq h (by decide) (by decide)
    have e : sp10 v = .ag [v.at 0, .i (bif !eqb (v.at 1).toI 0 then 1 else 0), .f 0, .s []] := by unfold sp10; rw [h]; rfl
    exact ⟨by rw [e, hk]; exact h, fun _ _ => by rw [e]; unfold num; rw [h]; cases eqb (v.at 1).toI 0 <;> rfl, fun h2 => by omega, fun h2 => by omega⟩
  · have hk := kd_0 h
    have hn : num v = 0 := by unfold num; rw [eqb_f h.1, eqb_f h.2.2.2]; rfl
    have : ((sp10 v).at 0).toI = 0 ∧ ((sp10 v).at 1).toI = 0 := by
      unfold sp10
      rw [eqb_f h.1, eqb_f h.2.1, eqb_f h.2.2.1, eqb_f h.2.2.2]
      by_cases h0 : (v.at 0).toI < 0
      · rw [ltb_t h0]; exact ⟨rfl, rfl⟩
      · by_cases h4 : 4 < (v.at 0).toI
        · rw [ltb_f h0, ltb_t h4]; exact ⟨rfl, rfl⟩
        · rw [ltb_f h0, ltb_f h4]
          exact ⟨show (v.at 0).toI = 0 by omega, rfl⟩
    exact ⟨by rw [hk]; exact this.1, fun _ _ => by rw [hn]; exact this.2, fun h2 => by omega, fun h2 => by omega⟩
theorem T27 {a b u v : D} (hu : Cl a u) (hv : Cl b v) : (bif !eqb (a.at 0).toI (b.at 0).toI then sp54 (a.at 0) (b.at 0) else
  bif eqb (a.at 0).toI 2 then (bif sp55 (a.at 2) then (bif sp55 (b.at 2) then 0 else 1) else bif sp55 (b.at 2) then -1 else sp56 (a.at 2) (b.at 2)) else
  bif eqb (a.at 0).toI 3 then sp57 (a.at 3) (b.at 3) else sp58 (a.at 1) (b.at 1)) = T u v := by
  unfold T sp54 sp58 sp57 sp89
  rw [hu.k, hv.k, G27]
  by_cases hk : kd u = kd v
  · rw [hk, eqb_t rfl]
    simp only [Bool.not_true, cond_false, cond_true]
    by_cases h2 : kd v = 2
    · rw [h2]
      exact G_fe (hu.f (by omega)) (hv.f h2)
    · by_cases h3 : kd v = 3
      · rw [h3, hu.s (by omega), hv.s h3]; rfl
      · rw [eqb_f h2, eqb_f h3, hu.n (by omega) (by omega), hv.n h2 h3]; rfl
  · rw [eqb_f hk]; rfl
theorem T29 {a b u v : D} (hu : Cl a u) (hv : Cl b v) : (bif less a b then -1 else bif more a b then 1 else 0) = T u v := by
  unfold T less more
  rw [hu.k, hv.k]
  by_cases hk : kd u = kd v
  · rw [hk, eqb_t rfl]
    simp only [cond_true]
    by_cases h3 : kd v = 3
    · rw [h3, hu.s (by omega), hv.s h3]
      simp only [eqb_t rfl, cond_true]
      exact cmpL_less _ _
    · by_cases h2 : kd v = 2
      · rw [h2]
        have e3 : eqb 2 3 = false := rfl
        rw [e3, eqb_t rfl]
        simp only [cond_true, cond_false]
        rw [G29]
        exact G_fe (hu.f (by omega)) (hv.f h2)
      · rw [eqb_f h2, eqb_f h3, hu.n (by omega) (by omega), hv.n h2 h3]; rfl
  · rw [eqb_f hk]; rfl
theorem T_swap (u v : D) : T v u = - T u v := by
  unfold T
  by_cases hk : kd u = kd v
  · rw [hk, eqb_t rfl]
    simp only [cond_true]
    cases eqb (kd v) 3
    · cases eqb (kd v) 2
      · exact cmpI_swap _ _
      · exact G_swap _ _
    · exact cmpL_swap _ _
  · rw [eqb_f hk, eqb_f (Ne.symm hk)]
    exact cmpI_swap _ _
theorem T_range (u v : D) : -1 ≤ T u v ∧ T u v ≤ 1 := by
  unfold T
  cases eqb (kd u) (kd v)
  · exact cmpI_range _ _
  · cases eqb (kd u) 3
    · cases eqb (kd u) 2
      · exact cmpI_range _ _
      · exact G_range _ _
    · exact cmpL_range _ _
theorem cl_cl {c d v : D} (h : Cl c v) (h' : Cl d c) (hk : kd c = kd v) (hn : num c = num v) : Cl d v := ⟨h'.k.trans hk, fun a b => (h'.n (hk ▸ a) (hk ▸ b)).trans hn, fun a => by
  have h1 := h'.f (hk ▸ a)
  have h2 := h.f a
  exact ⟨h1.n.trans h2.n, fun c => (h1.l c).trans (h2.l c), fun c => (h1.r c).trans (h2.r c)⟩, fun a => (h'.s (hk ▸ a)).trans (h.s a)⟩
theorem kd_46 (v : D) : kd (sp30 v) = kd v := by
  have h := (cl46 v).k
  have : kd (sp30 v) = bif leb 1 (kd v) && leb (kd v) 4 then kd v else 0 := by rw [← h]; rfl
  rw [this]
  unfold kd
  cases h1 : leb 1 (v.at 0).toI && leb (v.at 0).toI 4
  · rfl
  · simp only [cond_true, h1]
theorem kd_30 (v : D) : kd (sp10 v) = kd v := by
  have h := (cl30 v).k
  have : kd (sp10 v) = bif leb 1 (kd v) && leb (kd v) 4 then kd v else 0 := by rw [← h]; rfl
  rw [this]
  unfold kd
  cases h1 : leb 1 (v.at 0).toI && leb (v.at 0).toI 4
  · rfl
  · simp only [cond_true, h1]
theorem num_46 (v : D) : num (sp30 v) = num v := by
  rcases five v with (h | h | h | h) | h
  · have e : sp30 v = sp60 (v.at 1) := by unfold sp30; rw [h]; rfl
    rw [e]; unfold num; rw [h]; rfl
  · have e : sp30 v = sp61 (v.at 2) := by unfold sp30; rw [h]; rfl
    rw [e]; unfold num; rw [h]; rfl
  · have e : sp30 v = sp62 (v.at 3) := by unfold sp30; rw [h]; rfl
    rw [e]; unfold num; rw [h]; rfl
  · have e : sp30 v = sp51 (.b (!eqb (v.at 1).toI 0)) := by unfold sp30; rw [h]; rfl
    rw [e]; unfold num; rw [h]; cases eqb (v.at 1).toI 0 <;> rfl
  · have e : sp30 v = z0 := by unfold sp30; rw [eqb_f h.1, eqb_f h.2.1, eqb_f h.2.2.1, eqb_f h.2.2.2]; rfl
    rw [e]; unfold num; rw [eqb_f h.1, eqb_f h.2.2.2]; rfl
theorem num_30 (v : D) : num (sp10 v) = num v := by
  rcases five v with (h | h | h | h) | h
  · have e : sp10 v = .ag [v.at 0, v.at 1, .f 0, .s []] := by unfold sp10; rw [h]; rfl
    rw [e]
    show (bif eqb (v.at 0).toI 1 then _ else _) = _
    unfold num; rw [h]; rfl
  · have e : sp10 v = .ag [v.at 0, .i 0, cl (v.at 2), .s []] := by unfold sp10 cl; rw [h]; rfl
    rw [e]
    show (bif eqb (v.at 0).toI 1 then _ else (bif eqb (v.at 0).toI 4 && _ then _ else _)) = _
    unfold num; rw [h]; rfl
  · have e : sp10 v = .ag [v.at 0, .i 0, .f 0, v.at 3] := by unfold sp10; rw [h]; rfl
    rw [e]
    show (bif eqb (v.at 0).toI 1 then _ else (bif eqb (v.at 0).toI 4 && _ then _ else _)) = _
    unfold num; rw [h]; rfl
  · have e : sp10 v = .ag [v.at 0, .i (bif !eqb (v.at 1).toI 0 then 1 else 0), .f 0, .s []] := by unfold sp10; rw [h]; rfl
    rw [e]
    show (bif eqb (v.at 0).toI 1 then _ else (bif eqb (v.at 0).toI 4 && !eqb (bif !eqb (v.at 1).toI 0 then 1 else 0) 0 then _ else _)) = _
    unfold num; rw [h]; cases eqb (v.at 1).toI 0 <;> rfl
  · have hn : num v = 0 := by unfold num; rw [eqb_f h.1, eqb_f h.2.2.2]; rfl
    rw [hn]
    unfold sp10
    rw [eqb_f h.1, eqb_f h.2.1, eqb_f h.2.2.1, eqb_f h.2.2.2]
    cases ltb (v.at 0).toI 0 || ltb 4 (v.at 0).toI
    · show (bif eqb (v.at 0).toI 1 then _ else (bif eqb (v.at 0).toI 4 && _ then _ else _)) = _
      rw [eqb_f h.1, eqb_f h.2.2.2]; rfl
    · rfl
/-- The two orders are one, of values that are clean. -/
theorem t27 (u v : D) : sp27 (sp30 u) (sp30 v) = T u v := T27 (cl_cl (cl46 u) (cl46 _) (kd_46 u) (num_46 u)) (cl_cl (cl46 v) (cl46 _) (kd_46 v) (num_46 v))
theorem t29 (u v : D) : sp64 (sp10 u) (sp10 v) = T u v := T29 (cl_cl (cl30 u) (cl30 _) (kd_30 u) (num_30 u)) (cl_cl (cl30 v) (cl30 _) (kd_30 v) (num_30 v))

end Go.Vam.C15
