/- Chapter 14: what functions come to, part 1. No conditions. -/
import Derived.Test.YtcpbgimpopcfoaaB2
import Derived.KernelRfl
set_option linter.unusedVariables false
set_option linter.unusedSimpArgs false
set_option maxRecDepth 100000
namespace Go.Vam.C14
open Go.Proofs
theorem at_nat (d : D) (i : Nat) : d.at (i : Int).toNat = d.toL.getD i .nil := rfl
theorem inb_t {i n : Nat} (h : i < n) : inb (i : Int) n = true := inb_of (by omega) (by omega)
theorem succ_nat {i : Nat} (h : i < 9223372036854775807) : IntKind.i64.wrap ((i : Int) + 1) = ((i + 1 : Nat) : Int) := by
  rw [wrap64_id (by omega) (by omega)]; simp
def find (p : D → Bool) : List D → Nat → Int
  | [], _ => -1
  | x :: r, i => bif p x then (i : Int) else find p r (i + 1)
def fst (p : Nat → Bool) : Nat → Nat → Int
  | 0, _ => -1
  | k + 1, i => bif p i then (i : Int) else fst p k (i + 1)
theorem loop_find {R : Type} (L : Nat → Nat → Option R) (p : Nat → Bool) (n : Nat) (K0 : Option R) (Kr : Nat → Option R) (hs : ∀ j i, i < n → L (j + 1) i = bif p i then Kr i else L j (i + 1)) (he : ∀ j, L (j + 1) n = K0) :
    ∀ k i j, i + k = n → k < j → L j i = bif leb 0 (fst p k i) then Kr (fst p k i).toNat else K0
  | _, _, 0, _, h => by omega
  | 0, i, j + 1, h, _ => by
    have : i = n := by omega
    subst this
    rw [he]; rfl
  | k + 1, i, j + 1, h, h' => by
    rw [hs j i (by omega), fst]
    cases p i
    · simp only [cond_false]; exact loop_find L p n K0 Kr hs he k (i + 1) j (by omega) (by omega)
    · simp [leb]
theorem isPtr_p {d : D} : isPtrD (.p d) = true := rfl
theorem deref_p {d : D} : (D.p d).deref = d := rfl
theorem toI_i {n : Int} : (D.i n).toI = n := rfl
theorem toB_b {b : Bool} : (D.b b).toB = b := rfl
theorem toL_sl {x : List D} : (D.sl x).toL = x := rfl
theorem toL_sz {x : List D} : (D.sz x).toL = x := rfl
theorem ltb_self {n : Int} : ltb n n = false := ltb_f (by omega)
theorem ltb_n {i n : Nat} (h : i < n) : ltb (i : Int) (n : Int) = true := ltb_t (by omega)
theorem succ_n {i n : Nat} (h : i < n) (hn : n ≤ 9223372036854775807) : IntKind.i64.wrap ((i : Int) + 1) = ((i + 1 : Nat) : Int) := succ_nat (by omega)
theorem getD_at {xs : List D} {i : Nat} (h : i < xs.length) : xs.getD i .nil = xs[i] := by rw [List.getD_eq_getElem?_getD, List.getElem?_eq_getElem h]; rfl
end Go.Vam.C14
namespace Go.Vam.C14
open Go.Proofs
theorem lives_run : toO (runF PHI 60 9 [] []) = some (.f (.b true), []) := by kernel_rfl
def sp9 : Bool := true
def Tb9 : CallF := extend noF 9 (fn0 true (.f (.b sp9)))
theorem ok9 : FnOk Try.prog PHI Tb9 := FnOk.from (FnOk.empty _ _) (FnOk.run _ _ hPHI 60) _ fun args r h => by
  cases args with
  | nil => exact lives_run.trans h
  | cons y l => cases h
end Go.Vam.C14
namespace Go.Vam.C14
open Go.Proofs
def z0 : D := D.ag [.i 0, .i 0, .f 0, .s []]
def sp98 : D := .f (9221120237041090561 : Int).toNat
section
variable {R : Type}
def m98_0 (N : Nat) (Kr : D → Option R) : Option R :=
  Kr (D.f (9221120237041090561 : Int).toNat)
def s98_0 : St := sts 2 [] []
def s98_1 (x0 : D) : St := sts 2 [(0, V.f x0)] []
theorem e98_0 (N : Nat) (k : Kn R) : runC PHI Tb9 N vc98_0 s98_0 k = m98_0 N (fun x0 => k .ret (s98_1 x0)) := by kernel_rfl
theorem r98 (N : Nat) : runC PHI Tb9 N vf98.body (enterV vf98 [] []) (finish vf98) = m98_0 N (fun x0 => finish vf98 .ret (s98_1 x0)) := 
  Eq.trans (runC_pre (s1 := s98_0) (by kernel_rfl) _ _) (Eq.trans (e98_0 N (finish vf98)) (by kernel_rfl))
end
def Tb98 : CallF := extend Tb9 98 (fn0 true (.f sp98))
theorem ok98 : FnOk Try.prog PHI Tb98 := FnOk.add0 hPHI ok9 (by kernel_rfl) fun _ => ⟨0, (r98 0).trans rfl⟩
def sp64 (x : D) : Bool := (F2.ev .fne x x).toB
section
variable {R : Type}
def m64_0 (N : Nat) (x0 : D) (Kr : D → Option R) : Option R :=
  Kr (F2.ev .fne x0 x0)
def s64_0 (x0 : D) : St := sts 6 [(0, V.f x0)] []
def s64_1 (x2 : D) : St := sts 6 [(2, V.f x2)] []
theorem e64_0 (N : Nat) (k : Kn R) (x0 : D) : runC PHI Tb98 N vc64_0 (s64_0 x0) k = m64_0 N x0 (fun x2 => k .ret (s64_1 x2)) := by kernel_rfl
theorem r64 (N : Nat) (x0 : D) : runC PHI Tb98 N vf64.body (enterV vf64 [V.f x0] []) (finish vf64) = m64_0 N x0 (fun x2 => finish vf64 .ret (s64_1 x2)) := 
  Eq.trans (runC_pre (s1 := (s64_0 x0)) (by kernel_rfl) _ _) (Eq.trans (e64_0 N (finish vf64) x0) (by kernel_rfl))
end
def Tb64 : CallF := extend Tb98 64 (fn1 (fun _ => true) fun x => .f (.b (sp64 x)))
theorem ok64 : FnOk Try.prog PHI Tb64 := FnOk.add1 hPHI ok98 (by kernel_rfl) fun x _ _ => ⟨0, (r64 0 x).trans rfl⟩
def sp43 (x : D) : Bool := (F2.ev .feq x x).toB
def canon (x : D) : D := bif sp64 x then sp98 else bif (F2.ev .feq x (.f 0)).toB then .f 0 else x
def sp81 (x : D) : D := .ag [.i 2, .i 0, canon x, .s []]
section
variable {R : Type}
def m81_0 (N : Nat) (x0 : D) (Kr : D → Option R) : Option R :=
  (bif (sp64 x0) then Kr (D.p (D.ag [(D.i 2), (D.i 0), sp98, (D.s [])])) else (bif (F2.ev .feq x0 (D.f 0)).toB then Kr (D.p (D.ag [(D.i 2), (D.i 0), (D.f 0), (D.s [])])) else Kr (D.p (D.ag [(D.i 2), (D.i 0), x0, (D.s [])]))))
def s81_0 (x0 : D) : St := sts 12 [(0, V.f x0)] []
def s81_1 (x2 : D) : St := sts 12 [(2, V.f x2)] []
theorem e81_0 (N : Nat) (k : Kn R) (x0 : D) : runC PHI Tb64 N vc81_0 (s81_0 x0) k = m81_0 N x0 (fun x2 => k .ret (s81_1 x2)) := by kernel_rfl
theorem r81 (N : Nat) (x0 : D) : runC PHI Tb64 N vf81.body (enterV vf81 [V.f x0] []) (finish vf81) = m81_0 N x0 (fun x2 => finish vf81 .ret (s81_1 x2)) := 
  Eq.trans (runC_pre (s1 := (s81_0 x0)) (by kernel_rfl) _ _) (Eq.trans (e81_0 N (finish vf81) x0) (by kernel_rfl))
end
def Tb81 : CallF := extend Tb64 81 (fn1 (fun _ => true) fun x => .f (sp81 x))
theorem ok81 : FnOk Try.prog PHI Tb81 := FnOk.add1 hPHI ok64 (by kernel_rfl) fun x _ _ => ⟨0, (r81 0 x).trans (by
  unfold m81_0 sp81 canon
  cases sp64 x <;> cases (F2.ev .feq x (.f 0)).toB <;> rfl)⟩
def sp74 (x : D) : D := .ag [.i 1, x, .f 0, .s []]
section
variable {R : Type}
def m74_0 (N : Nat) (x0 : D) (Kr : D → Option R) : Option R :=
  Kr (D.p (D.ag [(D.i 1), x0, (D.f 0), (D.s [])]))
def s74_0 (x0 : D) : St := sts 5 [(0, V.f x0)] []
def s74_1 (x2 : D) : St := sts 5 [(2, V.f x2)] []
theorem e74_0 (N : Nat) (k : Kn R) (x0 : D) : runC PHI Tb81 N vc74_0 (s74_0 x0) k = m74_0 N x0 (fun x2 => k .ret (s74_1 x2)) := by kernel_rfl
theorem r74 (N : Nat) (x0 : D) : runC PHI Tb81 N vf74.body (enterV vf74 [V.f x0] []) (finish vf74) = m74_0 N x0 (fun x2 => finish vf74 .ret (s74_1 x2)) := 
  Eq.trans (runC_pre (s1 := (s74_0 x0)) (by kernel_rfl) _ _) (Eq.trans (e74_0 N (finish vf74) x0) (by kernel_rfl))
end
def Tb74 : CallF := extend Tb81 74 (fn1 (fun _ => true) fun x => .f (sp74 x))
theorem ok74 : FnOk Try.prog PHI Tb74 := FnOk.add1 hPHI ok81 (by kernel_rfl) fun x _ _ => ⟨0, (r74 0 x).trans rfl⟩
def sp82 (x : D) : D := .ag [.i 3, .i 0, .f 0, x]
section
variable {R : Type}
def m82_0 (N : Nat) (x0 : D) (Kr : D → Option R) : Option R :=
  Kr (D.p (D.ag [(D.i 3), (D.i 0), (D.f 0), x0]))
def s82_0 (x0 : D) : St := sts 5 [(0, V.f x0)] []
def s82_1 (x2 : D) : St := sts 5 [(2, V.f x2)] []
theorem e82_0 (N : Nat) (k : Kn R) (x0 : D) : runC PHI Tb74 N vc82_0 (s82_0 x0) k = m82_0 N x0 (fun x2 => k .ret (s82_1 x2)) := by kernel_rfl
theorem r82 (N : Nat) (x0 : D) : runC PHI Tb74 N vf82.body (enterV vf82 [V.f x0] []) (finish vf82) = m82_0 N x0 (fun x2 => finish vf82 .ret (s82_1 x2)) := 
  Eq.trans (runC_pre (s1 := (s82_0 x0)) (by kernel_rfl) _ _) (Eq.trans (e82_0 N (finish vf82) x0) (by kernel_rfl))
end
def Tb82 : CallF := extend Tb74 82 (fn1 (fun _ => true) fun x => .f (sp82 x))
theorem ok82 : FnOk Try.prog PHI Tb82 := FnOk.add1 hPHI ok74 (by kernel_rfl) fun x _ _ => ⟨0, (r82 0 x).trans rfl⟩
def sp53 (x : D) : D := .ag [.i 4, .i (bif x.toB then 1 else 0), .f 0, .s []]
section
variable {R : Type}
def m53_0 (N : Nat) (x0 : D) (Kr : D → D → Option R) : Option R :=
  (bif x0.toB then Kr (D.p (D.setP [1] (D.ag [(D.i 4), (D.i 0), (D.f 0), (D.s [])]) (D.i 1))) (D.setP [1] (D.ag [(D.i 4), (D.i 0), (D.f 0), (D.s [])]) (D.i 1)) else Kr (D.p (D.ag [(D.i 4), (D.i 0), (D.f 0), (D.s [])])) (D.ag [(D.i 4), (D.i 0), (D.f 0), (D.s [])]))
def s53_0 (x0 : D) : St := sts 8 [(0, V.f x0)] [V.u]
def s53_1 (x2 h0 : D) : St := sts 8 [(2, V.f x2)] [V.f h0]
theorem e53_0 (N : Nat) (k : Kn R) (x0 : D) : runC PHI Tb82 N vc53_0 (s53_0 x0) k = m53_0 N x0 (fun x2 h0 => k .ret (s53_1 x2 h0)) := by kernel_rfl
theorem r53 (N : Nat) (x0 : D) : runC PHI Tb82 N vf53.body (enterV vf53 [V.f x0] []) (finish vf53) = m53_0 N x0 (fun x2 h0 => finish vf53 .ret (s53_1 x2 h0)) := 
  Eq.trans (runC_pre (s1 := (s53_0 x0)) (by kernel_rfl) _ _) (Eq.trans (e53_0 N (finish vf53) x0) (by kernel_rfl))
end
def Tb53 : CallF := extend Tb82 53 (fn1 (fun _ => true) fun x => .f (sp53 x))
theorem ok53 : FnOk Try.prog PHI Tb53 := FnOk.add1 hPHI ok82 (by kernel_rfl) fun x _ _ => ⟨0, (r53 0 x).trans (by
  unfold m53_0 sp53
  cases x.toB <;> rfl)⟩
def sp46 (v : D) : D := bif eqb (v.at 0).toI 1 then sp74 (v.at 1) else bif eqb (v.at 0).toI 2 then sp81 (v.at 2) else bif eqb (v.at 0).toI 3 then sp82 (v.at 3) else bif eqb (v.at 0).toI 4 then sp53 (.b (!eqb (v.at 1).toI 0)) else z0
section
variable {R : Type}
def m46_0 (N : Nat) (x0 : D) (Kr : D → Option R) : Option R :=
  (bif (eqb (x0.at 0).toI 1) then Kr (D.p (sp74 (x0.at 1))) else (bif (eqb (x0.at 0).toI 2) then Kr (D.p (sp81 (x0.at 2))) else (bif (eqb (x0.at 0).toI 3) then Kr (D.p (sp82 (x0.at 3))) else (bif (eqb (x0.at 0).toI 4) then Kr (D.p (sp53 (D.b (!eqb (x0.at 1).toI 0)))) else Kr (D.p (D.ag [(D.i 0), (D.i 0), (D.f 0), (D.s [])]))))))
def s46_0 (x0 : D) : St := sts 27 [(0, V.f x0)] []
def s46_1 (x2 : D) : St := sts 27 [(2, V.f x2)] []
theorem e46_0 (N : Nat) (k : Kn R) (x0 : D) : runC PHI Tb53 N vc46_0 (s46_0 x0) k = m46_0 N x0 (fun x2 => k .ret (s46_1 x2)) := by kernel_rfl
theorem r46 (N : Nat) (x0 : D) : runC PHI Tb53 N vf46.body (enterV vf46 [V.f x0] []) (finish vf46) = m46_0 N x0 (fun x2 => finish vf46 .ret (s46_1 x2)) := 
  Eq.trans (runC_pre (s1 := (s46_0 x0)) (by kernel_rfl) _ _) (Eq.trans (e46_0 N (finish vf46) x0) (by kernel_rfl))
end
def Tb46 : CallF := extend Tb53 46 (fn1 (fun _ => true) fun x => .f (sp46 x))
theorem ok46 : FnOk Try.prog PHI Tb46 := FnOk.add1 hPHI ok53 (by kernel_rfl) fun x _ _ => ⟨0, (r46 0 x).trans (by
  unfold m46_0 sp46
  cases eqb (x.at 0).toI 1 <;> cases eqb (x.at 0).toI 2 <;> cases eqb (x.at 0).toI 3 <;> cases eqb (x.at 0).toI 4 <;> rfl)⟩
def sp30 (v : D) : D := bif ltb (v.at 0).toI 0 || ltb 4 (v.at 0).toI then z0 else .ag [v.at 0, (bif eqb (v.at 0).toI 1 then v.at 1 else .i (bif eqb (v.at 0).toI 4 && !eqb (v.at 1).toI 0 then 1 else 0)), (bif eqb (v.at 0).toI 2 && (F2.ev .fne (v.at 2) (.f 0)).toB then v.at 2 else .f 0), (bif eqb (v.at 0).toI 3 then v.at 3 else .s [])]
section
variable {R : Type}
def m30_1 (N : Nat) (x0 : D) (K : D → Option R) : Option R :=
  K (D.p x0)
def s30_0 (x0 : D) : St := sts 50 [(0, V.f x0)] [V.u]
def s30_1 (x1 : D) : St := sts 50 [(1, V.f x1), (2, V.a)] [V.u]
theorem e30_1 (N : Nat) (k : Kn R) (x0 : D) : runC PHI Tb46 N vc30_1 (s30_0 x0) k = m30_1 N x0 (fun x1 => k .normal (s30_1 x1)) := by
  refine Eq.trans (runC_post _ _ _ k) (Eq.trans (ops_run _ _ _ _) (by kernel_rfl))
def m30_3 (N : Nat) (x1 : D) (K : D → D → Option R) : Option R :=
  K x1 (D.ag [(D.i 0), (D.i 0), (D.f 0), (D.s [])])
def s30_2 (x1 h0 : D) : St := sts 50 [(1, V.f x1), (2, V.a), (3, V.m 0 [])] [V.f h0]
theorem e30_3 (N : Nat) (k : Kn R) (x1 : D) : runC PHI Tb46 N vc30_3 (s30_1 x1) k = m30_3 N x1 (fun x1 h0 => k .normal (s30_2 x1 h0)) := by
  refine Eq.trans (runC_post _ _ _ k) (Eq.trans (ops_run _ _ _ _) (by kernel_rfl))
def m30_5 (N : Nat) (x1 h0 : D) (K : D → D → Option R) (Kr : D → D → Option R) : Option R :=
  (bif (isPtrD x1) then (bif (ltb (x1.deref.at 0).toI 0) then (bif true then Kr (D.p h0) h0 else K x1 h0) else (bif (isPtrD x1) then (bif (ltb 4 (x1.deref.at 0).toI) then Kr (D.p h0) h0 else K x1 h0) else none)) else none)
def s30_3 (x2 h0 : D) : St := sts 50 [(2, V.f x2)] [V.f h0]
theorem e30_5 (N : Nat) (k : Kn R) (x1 h0 : D) : runC PHI Tb46 N vc30_5 (s30_2 x1 h0) k = m30_5 N x1 h0 (fun x1 h0 => k .normal (s30_2 x1 h0)) (fun x2 h0 => k .ret (s30_3 x2 h0)) := by kernel_rfl
def m30_13 (N : Nat) (x1 h0 : D) (K : D → D → Option R) : Option R :=
  (bif (isPtrD x1) then K x1 (D.setP [0] h0 (x1.deref.at 0)) else none)
theorem e30_13 (N : Nat) (k : Kn R) (x1 h0 : D) : runC PHI Tb46 N vc30_13 (s30_2 x1 h0) k = m30_13 N x1 h0 (fun x1 h0 => k .normal (s30_2 x1 h0)) := by
  refine Eq.trans (runC_post _ _ _ k) (Eq.trans (ops_run _ _ _ _) (by kernel_rfl))
def m30_15 (N : Nat) (x1 h0 : D) (K : D → D → Option R) : Option R :=
  (bif (isPtrD x1) then (bif (eqb (x1.deref.at 0).toI 1) then (bif (isPtrD x1) then K x1 (D.setP [1] h0 (x1.deref.at 1)) else none) else K x1 h0) else none)
theorem e30_15 (N : Nat) (k : Kn R) (x1 h0 : D) : runC PHI Tb46 N vc30_15 (s30_2 x1 h0) k = m30_15 N x1 h0 (fun x1 h0 => k .normal (s30_2 x1 h0)) := by kernel_rfl
def m30_21 (N : Nat) (x1 h0 : D) (K : D → D → Option R) : Option R :=
  (bif (isPtrD x1) then (bif (eqb (x1.deref.at 0).toI 2) then (bif (isPtrD x1) then (bif (F2.ev .fne (x1.deref.at 2) (D.f 0)).toB then (bif (isPtrD x1) then K x1 (D.setP [2] h0 (x1.deref.at 2)) else none) else K x1 h0) else none) else (bif false then (bif (isPtrD x1) then K x1 (D.setP [2] h0 (x1.deref.at 2)) else none) else K x1 h0)) else none)
theorem e30_21 (N : Nat) (k : Kn R) (x1 h0 : D) : runC PHI Tb46 N vc30_21 (s30_2 x1 h0) k = m30_21 N x1 h0 (fun x1 h0 => k .normal (s30_2 x1 h0)) := by kernel_rfl
def m30_26 (N : Nat) (x1 h0 : D) (Kr : D → D → Option R) : Option R :=
  (bif (isPtrD x1) then (bif (eqb (x1.deref.at 0).toI 3) then (bif (isPtrD x1) then (bif (isPtrD x1) then (bif (eqb (x1.deref.at 0).toI 4) then (bif (isPtrD x1) then (bif (!eqb (x1.deref.at 1).toI 0) then Kr (D.p (D.setP [1] (D.setP [3] h0 (x1.deref.at 3)) (D.i 1))) (D.setP [1] (D.setP [3] h0 (x1.deref.at 3)) (D.i 1)) else Kr (D.p (D.setP [3] h0 (x1.deref.at 3))) (D.setP [3] h0 (x1.deref.at 3))) else none) else (bif false then Kr (D.p (D.setP [1] (D.setP [3] h0 (x1.deref.at 3)) (D.i 1))) (D.setP [1] (D.setP [3] h0 (x1.deref.at 3)) (D.i 1)) else Kr (D.p (D.setP [3] h0 (x1.deref.at 3))) (D.setP [3] h0 (x1.deref.at 3)))) else none) else none) else (bif (isPtrD x1) then (bif (eqb (x1.deref.at 0).toI 4) then (bif (isPtrD x1) then (bif (!eqb (x1.deref.at 1).toI 0) then Kr (D.p (D.setP [1] h0 (D.i 1))) (D.setP [1] h0 (D.i 1)) else Kr (D.p h0) h0) else none) else (bif false then Kr (D.p (D.setP [1] h0 (D.i 1))) (D.setP [1] h0 (D.i 1)) else Kr (D.p h0) h0)) else none)) else none)
theorem e30_26 (N : Nat) (k : Kn R) (x1 h0 : D) : runC PHI Tb46 N vc30_26 (s30_2 x1 h0) k = m30_26 N x1 h0 (fun x2 h0 => k .ret (s30_3 x2 h0)) := by kernel_rfl
def m30_20 (N : Nat) (x1 h0 : D) (Kr : D → D → Option R) : Option R :=
  (m30_21 N x1 h0 (fun y1 h0 => (m30_26 N y1 h0 Kr)))
theorem e30_20 (N : Nat) (k : Kn R) (x1 h0 : D) : runC PHI Tb46 N vc30_20 (s30_2 x1 h0) k = m30_20 N x1 h0 (fun x2 h0 => k .ret (s30_3 x2 h0)) := by
  have h2 := e30_21 N (kseq PHI Tb46 N vc30_26 k) x1 h0
  have h3 := (funext fun y1 => funext fun h0 => (e30_26 N k y1 h0) : (fun (y1 h0 : D) => (kseq PHI Tb46 N vc30_26 k) .normal (s30_2 y1 h0)) = _)
  refine Eq.trans (runC_seq _ _ _ k) (Eq.trans h2 (Eq.trans (congrArg (fun K => m30_21 N x1 h0 K) h3) (by kernel_rfl)))
def m30_14 (N : Nat) (x1 h0 : D) (Kr : D → D → Option R) : Option R :=
  (m30_15 N x1 h0 (fun y1 h0 => (m30_20 N y1 h0 Kr)))
theorem e30_14 (N : Nat) (k : Kn R) (x1 h0 : D) : runC PHI Tb46 N vc30_14 (s30_2 x1 h0) k = m30_14 N x1 h0 (fun x2 h0 => k .ret (s30_3 x2 h0)) := by
  have h2 := e30_15 N (kseq PHI Tb46 N vc30_20 k) x1 h0
  have h3 := (funext fun y1 => funext fun h0 => (e30_20 N k y1 h0) : (fun (y1 h0 : D) => (kseq PHI Tb46 N vc30_20 k) .normal (s30_2 y1 h0)) = _)
  refine Eq.trans (runC_seq _ _ _ k) (Eq.trans h2 (Eq.trans (congrArg (fun K => m30_15 N x1 h0 K) h3) (by kernel_rfl)))
def m30_12 (N : Nat) (x1 h0 : D) (Kr : D → D → Option R) : Option R :=
  (m30_13 N x1 h0 (fun y1 h0 => (m30_14 N y1 h0 Kr)))
theorem e30_12 (N : Nat) (k : Kn R) (x1 h0 : D) : runC PHI Tb46 N vc30_12 (s30_2 x1 h0) k = m30_12 N x1 h0 (fun x2 h0 => k .ret (s30_3 x2 h0)) := by
  have h2 := e30_13 N (kseq PHI Tb46 N vc30_14 k) x1 h0
  have h3 := (funext fun y1 => funext fun h0 => (e30_14 N k y1 h0) : (fun (y1 h0 : D) => (kseq PHI Tb46 N vc30_14 k) .normal (s30_2 y1 h0)) = _)
  refine Eq.trans (runC_seq _ _ _ k) (Eq.trans h2 (Eq.trans (congrArg (fun K => m30_13 N x1 h0 K) h3) (by kernel_rfl)))
def m30_4 (N : Nat) (x1 h0 : D) (Kr : D → D → Option R) : Option R :=
  (m30_5 N x1 h0 (fun y1 h0 => (m30_12 N y1 h0 Kr)) Kr)
theorem e30_4 (N : Nat) (k : Kn R) (x1 h0 : D) : runC PHI Tb46 N vc30_4 (s30_2 x1 h0) k = m30_4 N x1 h0 (fun x2 h0 => k .ret (s30_3 x2 h0)) := by
  have h2 := e30_5 N (kseq PHI Tb46 N vc30_12 k) x1 h0
  have h3 := (funext fun y1 => funext fun h0 => (e30_12 N k y1 h0) : (fun (y1 h0 : D) => (kseq PHI Tb46 N vc30_12 k) .normal (s30_2 y1 h0)) = _)
  refine Eq.trans (runC_seq _ _ _ k) (Eq.trans h2 (Eq.trans (congrArg (fun K => m30_5 N x1 h0 K (fun x2 h0 => (kseq PHI Tb46 N vc30_12 k) .ret (s30_3 x2 h0))) h3) (by kernel_rfl)))
def m30_2 (N : Nat) (x1 : D) (Kr : D → D → Option R) : Option R :=
  (m30_3 N x1 (fun y1 h0 => (m30_4 N y1 h0 Kr)))
theorem e30_2 (N : Nat) (k : Kn R) (x1 : D) : runC PHI Tb46 N vc30_2 (s30_1 x1) k = m30_2 N x1 (fun x2 h0 => k .ret (s30_3 x2 h0)) := by
  have h2 := e30_3 N (kseq PHI Tb46 N vc30_4 k) x1
  have h3 := (funext fun y1 => funext fun h0 => (e30_4 N k y1 h0) : (fun (y1 h0 : D) => (kseq PHI Tb46 N vc30_4 k) .normal (s30_2 y1 h0)) = _)
  refine Eq.trans (runC_seq _ _ _ k) (Eq.trans h2 (Eq.trans (congrArg (fun K => m30_3 N x1 K) h3) (by kernel_rfl)))
def m30_0 (N : Nat) (x0 : D) (Kr : D → D → Option R) : Option R :=
  (m30_1 N x0 (fun y1 => (m30_2 N y1 Kr)))
theorem e30_0 (N : Nat) (k : Kn R) (x0 : D) : runC PHI Tb46 N vc30_0 (s30_0 x0) k = m30_0 N x0 (fun x2 h0 => k .ret (s30_3 x2 h0)) := by
  have h2 := e30_1 N (kseq PHI Tb46 N vc30_2 k) x0
  have h3 := (funext fun y1 => (e30_2 N k y1) : (fun (y1 : D) => (kseq PHI Tb46 N vc30_2 k) .normal (s30_1 y1)) = _)
  refine Eq.trans (runC_seq _ _ _ k) (Eq.trans h2 (Eq.trans (congrArg (fun K => m30_1 N x0 K) h3) (by kernel_rfl)))
theorem r30 (N : Nat) (x0 : D) : runC PHI Tb46 N vf30.body (enterV vf30 [V.f x0] []) (finish vf30) = m30_0 N x0 (fun x2 h0 => finish vf30 .ret (s30_3 x2 h0)) := 
  Eq.trans (runC_pre (s1 := (s30_0 x0)) (by kernel_rfl) _ _) (Eq.trans (e30_0 N (finish vf30) x0) (by kernel_rfl))
end
def Tb30 : CallF := extend Tb46 30 (fn1 (fun _ => true) fun x => .f (sp30 x))
theorem ok30 : FnOk Try.prog PHI Tb30 := FnOk.add1 hPHI ok46 (by kernel_rfl) fun x _ _ => ⟨0, (r30 0 x).trans (by
  simp only [m30_0, m30_1, m30_2, m30_3, m30_4, m30_5, m30_12, m30_13, m30_14, m30_15, m30_20, m30_21, m30_26, isPtr_p, deref_p, cond_true, cond_false, sp30]
  cases ltb (x.at 0).toI 0
  · cases ltb 4 (x.at 0).toI
    · by_cases h1 : (x.at 0).toI = 1
      · simp only [h1]; rfl
      by_cases h2 : (x.at 0).toI = 2
      · simp only [h2]
        cases (F2.ev .fne (x.at 2) (D.f 0)).toB <;> rfl
      by_cases h3 : (x.at 0).toI = 3
      · simp only [h3]; rfl
      by_cases h4 : (x.at 0).toI = 4
      · simp only [h4]
        cases eqb (x.at 1).toI 0 <;> rfl
      simp only [eqb_f h1, eqb_f h2, eqb_f h3, eqb_f h4]; rfl
    · rfl
  · rfl)⟩
def sp73 (x : D) : Bool := !eqb x.toI x.toI
section
variable {R : Type}
def m73_0 (N : Nat) (x0 : D) (Kr : D → Option R) : Option R :=
  Kr (D.b (!eqb x0.toI x0.toI))
def s73_0 (x0 : D) : St := sts 6 [(0, V.f x0)] []
def s73_1 (x2 : D) : St := sts 6 [(2, V.f x2)] []
theorem e73_0 (N : Nat) (k : Kn R) (x0 : D) : runC PHI Tb30 N vc73_0 (s73_0 x0) k = m73_0 N x0 (fun x2 => k .ret (s73_1 x2)) := by kernel_rfl
theorem r73 (N : Nat) (x0 : D) : runC PHI Tb30 N vf73.body (enterV vf73 [V.f x0] []) (finish vf73) = m73_0 N x0 (fun x2 => finish vf73 .ret (s73_1 x2)) := 
  Eq.trans (runC_pre (s1 := (s73_0 x0)) (by kernel_rfl) _ _) (Eq.trans (e73_0 N (finish vf73) x0) (by kernel_rfl))
end
def Tb73 : CallF := extend Tb30 73 (fn1 (fun _ => true) fun x => .f (.b (sp73 x)))
theorem ok73 : FnOk Try.prog PHI Tb73 := FnOk.add1 hPHI ok30 (by kernel_rfl) fun x _ _ => ⟨0, (r73 0 x).trans rfl⟩
def sp91 (x : D) : Bool := !eqb x.toI x.toI
section
variable {R : Type}
def m91_0 (N : Nat) (x0 : D) (Kr : D → Option R) : Option R :=
  Kr (D.b (!eqb x0.toI x0.toI))
def s91_0 (x0 : D) : St := sts 6 [(0, V.f x0)] []
def s91_1 (x2 : D) : St := sts 6 [(2, V.f x2)] []
theorem e91_0 (N : Nat) (k : Kn R) (x0 : D) : runC PHI Tb73 N vc91_0 (s91_0 x0) k = m91_0 N x0 (fun x2 => k .ret (s91_1 x2)) := by kernel_rfl
theorem r91 (N : Nat) (x0 : D) : runC PHI Tb73 N vf91.body (enterV vf91 [V.f x0] []) (finish vf91) = m91_0 N x0 (fun x2 => finish vf91 .ret (s91_1 x2)) := 
  Eq.trans (runC_pre (s1 := (s91_0 x0)) (by kernel_rfl) _ _) (Eq.trans (e91_0 N (finish vf91) x0) (by kernel_rfl))
end
def Tb91 : CallF := extend Tb73 91 (fn1 (fun _ => true) fun x => .f (.b (sp91 x)))
theorem ok91 : FnOk Try.prog PHI Tb91 := FnOk.add1 hPHI ok73 (by kernel_rfl) fun x _ _ => ⟨0, (r91 0 x).trans rfl⟩
def sp89 (x : D) : Bool := (F2.ev .fne x x).toB
section
variable {R : Type}
def m89_0 (N : Nat) (x0 : D) (Kr : D → Option R) : Option R :=
  Kr (F2.ev .fne x0 x0)
def s89_0 (x0 : D) : St := sts 6 [(0, V.f x0)] []
def s89_1 (x2 : D) : St := sts 6 [(2, V.f x2)] []
theorem e89_0 (N : Nat) (k : Kn R) (x0 : D) : runC PHI Tb91 N vc89_0 (s89_0 x0) k = m89_0 N x0 (fun x2 => k .ret (s89_1 x2)) := by kernel_rfl
theorem r89 (N : Nat) (x0 : D) : runC PHI Tb91 N vf89.body (enterV vf89 [V.f x0] []) (finish vf89) = m89_0 N x0 (fun x2 => finish vf89 .ret (s89_1 x2)) := 
  Eq.trans (runC_pre (s1 := (s89_0 x0)) (by kernel_rfl) _ _) (Eq.trans (e89_0 N (finish vf89) x0) (by kernel_rfl))
end
def Tb89 : CallF := extend Tb91 89 (fn1 (fun _ => true) fun x => .f (.b (sp89 x)))
theorem ok89 : FnOk Try.prog PHI Tb89 := FnOk.add1 hPHI ok91 (by kernel_rfl) fun x _ _ => ⟨0, (r89 0 x).trans rfl⟩
def cmpI (x y : Int) : Int := bif ltb x y then -1 else bif ltb y x then 1 else 0
def sp35 (x y : D) : Int := cmpI x.toI y.toI
theorem eqb_self {n : Int} : eqb n n = true := eqb_t rfl
section
variable {R : Type}
def m35_0 (N : Nat) (x0 x1 : D) (Kr : D → Option R) : Option R :=
  (bif (sp73 x0) then (bif (sp73 x1) then Kr (D.i 0) else Kr (D.i (-1))) else (bif (sp73 x1) then Kr (D.i 1) else (bif (ltb x0.toI x1.toI) then Kr (D.i (-1)) else (bif (ltb x1.toI x0.toI) then Kr (D.i 1) else Kr (D.i 0)))))
def s35_0 (x0 x1 : D) : St := sts 20 [(0, V.f x0), (1, V.f x1)] []
def s35_1 (x4 : D) : St := sts 20 [(4, V.f x4)] []
theorem e35_0 (N : Nat) (k : Kn R) (x0 x1 : D) : runC PHI Tb89 N vc35_0 (s35_0 x0 x1) k = m35_0 N x0 x1 (fun x4 => k .ret (s35_1 x4)) := by kernel_rfl
theorem r35 (N : Nat) (x0 x1 : D) : runC PHI Tb89 N vf35.body (enterV vf35 [V.f x0, V.f x1] []) (finish vf35) = m35_0 N x0 x1 (fun x4 => finish vf35 .ret (s35_1 x4)) := 
  Eq.trans (runC_pre (s1 := (s35_0 x0 x1)) (by kernel_rfl) _ _) (Eq.trans (e35_0 N (finish vf35) x0 x1) (by kernel_rfl))
end
def Tb35 : CallF := extend Tb89 35 (fn2 (fun _ _ => true) fun x y => .f (.i (sp35 x y)))
theorem ok35 : FnOk Try.prog PHI Tb35 := FnOk.add2 hPHI ok89 (by kernel_rfl) fun x y _ _ => ⟨0, (r35 0 x y).trans (by
  simp only [m35_0, sp73, eqb_self, Bool.not_true, cond_false, sp35, cmpI]
  cases ltb x.toI y.toI <;> cases ltb y.toI x.toI <;> rfl)⟩
def sp67 (x y : D) : Int := cmpI x.toI y.toI
section
variable {R : Type}
def m67_0 (N : Nat) (x0 x1 : D) (Kr : D → Option R) : Option R :=
  (bif (sp91 x0) then (bif (sp91 x1) then Kr (D.i 0) else Kr (D.i (-1))) else (bif (sp91 x1) then Kr (D.i 1) else (bif (ltb x0.toI x1.toI) then Kr (D.i (-1)) else (bif (ltb x1.toI x0.toI) then Kr (D.i 1) else Kr (D.i 0)))))
def s67_0 (x0 x1 : D) : St := sts 20 [(0, V.f x0), (1, V.f x1)] []
def s67_1 (x4 : D) : St := sts 20 [(4, V.f x4)] []
theorem e67_0 (N : Nat) (k : Kn R) (x0 x1 : D) : runC PHI Tb35 N vc67_0 (s67_0 x0 x1) k = m67_0 N x0 x1 (fun x4 => k .ret (s67_1 x4)) := by kernel_rfl
theorem r67 (N : Nat) (x0 x1 : D) : runC PHI Tb35 N vf67.body (enterV vf67 [V.f x0, V.f x1] []) (finish vf67) = m67_0 N x0 x1 (fun x4 => finish vf67 .ret (s67_1 x4)) := 
  Eq.trans (runC_pre (s1 := (s67_0 x0 x1)) (by kernel_rfl) _ _) (Eq.trans (e67_0 N (finish vf67) x0 x1) (by kernel_rfl))
end
def Tb67 : CallF := extend Tb35 67 (fn2 (fun _ _ => true) fun x y => .f (.i (sp67 x y)))
theorem ok67 : FnOk Try.prog PHI Tb67 := FnOk.add2 hPHI ok35 (by kernel_rfl) fun x y _ _ => ⟨0, (r67 0 x y).trans (by
  simp only [m67_0, sp91, eqb_self, Bool.not_true, cond_false, sp67, cmpI]
  cases ltb x.toI y.toI <;> cases ltb y.toI x.toI <;> rfl)⟩
def sp65 (x y : D) : Int := bif sp89 x then (bif sp89 y then 0 else -1) else bif sp89 y then 1 else bif (F2.ev .flt x y).toB then -1 else bif (F2.ev .fgt x y).toB then 1 else 0
section
variable {R : Type}
def m65_0 (N : Nat) (x0 x1 : D) (Kr : D → Option R) : Option R :=
  (bif (sp89 x0) then (bif (sp89 x1) then Kr (D.i 0) else Kr (D.i (-1))) else (bif (sp89 x1) then Kr (D.i 1) else (bif (F2.ev .flt x0 x1).toB then Kr (D.i (-1)) else (bif (F2.ev .fgt x0 x1).toB then Kr (D.i 1) else Kr (D.i 0)))))
def s65_0 (x0 x1 : D) : St := sts 20 [(0, V.f x0), (1, V.f x1)] []
def s65_1 (x4 : D) : St := sts 20 [(4, V.f x4)] []
theorem e65_0 (N : Nat) (k : Kn R) (x0 x1 : D) : runC PHI Tb67 N vc65_0 (s65_0 x0 x1) k = m65_0 N x0 x1 (fun x4 => k .ret (s65_1 x4)) := by kernel_rfl
theorem r65 (N : Nat) (x0 x1 : D) : runC PHI Tb67 N vf65.body (enterV vf65 [V.f x0, V.f x1] []) (finish vf65) = m65_0 N x0 x1 (fun x4 => finish vf65 .ret (s65_1 x4)) := 
  Eq.trans (runC_pre (s1 := (s65_0 x0 x1)) (by kernel_rfl) _ _) (Eq.trans (e65_0 N (finish vf65) x0 x1) (by kernel_rfl))
end
def Tb65 : CallF := extend Tb67 65 (fn2 (fun _ _ => true) fun x y => .f (.i (sp65 x y)))
theorem ok65 : FnOk Try.prog PHI Tb65 := FnOk.add2 hPHI ok67 (by kernel_rfl) fun x y _ _ => ⟨0, (r65 0 x y).trans (by
  unfold m65_0 sp65
  cases sp89 x <;> cases sp89 y <;> cases (F2.ev .flt x y).toB <;> cases (F2.ev .fgt x y).toB <;> rfl)⟩
def sp90 (x y : D) : Int := cmpL x.toS y.toS
section
variable {R : Type}
def m90_0 (N : Nat) (x0 x1 : D) (Kr : D → Option R) : Option R :=
  Kr (D.i (cmpL x0.toS x1.toS))
def s90_0 (x0 x1 : D) : St := sts 8 [(0, V.f x0), (1, V.f x1)] []
def s90_1 (x4 : D) : St := sts 8 [(4, V.f x4)] []
theorem e90_0 (N : Nat) (k : Kn R) (x0 x1 : D) : runC PHI Tb65 N vc90_0 (s90_0 x0 x1) k = m90_0 N x0 x1 (fun x4 => k .ret (s90_1 x4)) := by kernel_rfl
theorem r90 (N : Nat) (x0 x1 : D) : runC PHI Tb65 N vf90.body (enterV vf90 [V.f x0, V.f x1] []) (finish vf90) = m90_0 N x0 x1 (fun x4 => finish vf90 .ret (s90_1 x4)) := 
  Eq.trans (runC_pre (s1 := (s90_0 x0 x1)) (by kernel_rfl) _ _) (Eq.trans (e90_0 N (finish vf90) x0 x1) (by kernel_rfl))
end
def Tb90 : CallF := extend Tb65 90 (fn2 (fun _ _ => true) fun x y => .f (.i (sp90 x y)))
theorem ok90 : FnOk Try.prog PHI Tb90 := FnOk.add2 hPHI ok65 (by kernel_rfl) fun x y _ _ => ⟨0, (r90 0 x y).trans rfl⟩
def sp66 (x y : D) : Int := sp90 x y
section
variable {R : Type}
def m66_0 (N : Nat) (x0 x1 : D) (Kr : D → Option R) : Option R :=
  Kr (D.i (sp90 x0 x1))
def s66_0 (x0 x1 : D) : St := sts 8 [(0, V.f x0), (1, V.f x1)] []
def s66_1 (x4 : D) : St := sts 8 [(4, V.f x4)] []
theorem e66_0 (N : Nat) (k : Kn R) (x0 x1 : D) : runC PHI Tb90 N vc66_0 (s66_0 x0 x1) k = m66_0 N x0 x1 (fun x4 => k .ret (s66_1 x4)) := by kernel_rfl
theorem r66 (N : Nat) (x0 x1 : D) : runC PHI Tb90 N vf66.body (enterV vf66 [V.f x0, V.f x1] []) (finish vf66) = m66_0 N x0 x1 (fun x4 => finish vf66 .ret (s66_1 x4)) := 
  Eq.trans (runC_pre (s1 := (s66_0 x0 x1)) (by kernel_rfl) _ _) (Eq.trans (e66_0 N (finish vf66) x0 x1) (by kernel_rfl))
end
def Tb66 : CallF := extend Tb90 66 (fn2 (fun _ _ => true) fun x y => .f (.i (sp66 x y)))
theorem ok66 : FnOk Try.prog PHI Tb66 := FnOk.add2 hPHI ok90 (by kernel_rfl) fun x y _ _ => ⟨0, (r66 0 x y).trans rfl⟩
def sp27 (u v : D) : Int := bif !eqb ((sp46 u).at 0).toI ((sp46 v).at 0).toI then sp35 ((sp46 u).at 0) ((sp46 v).at 0) else
  bif eqb ((sp46 u).at 0).toI 2 then (bif sp64 ((sp46 u).at 2) then (bif sp64 ((sp46 v).at 2) then 0 else 1) else bif sp64 ((sp46 v).at 2) then -1 else sp65 ((sp46 u).at 2) ((sp46 v).at 2)) else
  bif eqb ((sp46 u).at 0).toI 3 then sp66 ((sp46 u).at 3) ((sp46 v).at 3) else sp67 ((sp46 u).at 1) ((sp46 v).at 1)
section
variable {R : Type}
def m27_1 (N : Nat) (x0 x1 : D) (K : D → D → Option R) : Option R :=
  K x0 x1
def s27_0 (x0 x1 : D) : St := sts 57 [(0, V.f x0), (1, V.f x1)] [V.u, V.u]
def s27_1 (h0 h1 : D) : St := sts 57 [(2, V.m 0 []), (3, V.m 1 [])] [V.f h0, V.f h1]
theorem e27_1 (N : Nat) (k : Kn R) (x0 x1 : D) : runC PHI Tb66 N vc27_1 (s27_0 x0 x1) k = m27_1 N x0 x1 (fun h0 h1 => k .normal (s27_1 h0 h1)) := by
  refine Eq.trans (runC_post _ _ _ k) (Eq.trans (ops_run _ _ _ _) (by kernel_rfl))
def m27_3 (N : Nat) (h0 h1 : D) (K : D → D → Option R) : Option R :=
  K (sp46 h0) (sp46 h1)
theorem e27_3 (N : Nat) (k : Kn R) (h0 h1 : D) : runC PHI Tb66 N vc27_3 (s27_1 h0 h1) k = m27_3 N h0 h1 (fun h0 h1 => k .normal (s27_1 h0 h1)) := by
  refine Eq.trans (runC_post _ _ _ k) (Eq.trans (ops_run _ _ _ _) (by kernel_rfl))
def m27_5 (N : Nat) (h0 h1 : D) (K : D → D → Option R) (Kr : D → D → D → Option R) : Option R :=
  (bif (!eqb (h0.at 0).toI (h1.at 0).toI) then Kr (D.i (sp35 (h0.at 0) (h1.at 0))) h0 h1 else K h0 h1)
def s27_2 (x4 h0 h1 : D) : St := sts 57 [(4, V.f x4)] [V.f h0, V.f h1]
theorem e27_5 (N : Nat) (k : Kn R) (h0 h1 : D) : runC PHI Tb66 N vc27_5 (s27_1 h0 h1) k = m27_5 N h0 h1 (fun h0 h1 => k .normal (s27_1 h0 h1)) (fun x4 h0 h1 => k .ret (s27_2 x4 h0 h1)) := by kernel_rfl
def m27_14 (N : Nat) (h0 h1 : D) (K : D → D → D → Option R) : Option R :=
  K (h0.at 0) h0 h1
def s27_3 (x22 h0 h1 : D) : St := sts 57 [(2, V.m 0 []), (3, V.m 1 []), (22, V.f x22)] [V.f h0, V.f h1]
theorem e27_14 (N : Nat) (k : Kn R) (h0 h1 : D) : runC PHI Tb66 N vc27_14 (s27_1 h0 h1) k = m27_14 N h0 h1 (fun x22 h0 h1 => k .normal (s27_3 x22 h0 h1)) := by
  refine Eq.trans (runC_post _ _ _ k) (Eq.trans (ops_run _ _ _ _) (by kernel_rfl))
def m27_17 (N : Nat) (x22 h0 h1 : D) (K : D → D → D → D → Option R) : Option R :=
  K x22 (D.b (eqb x22.toI 2)) h0 h1
def s27_4 (x22 x23 h0 h1 : D) : St := sts 57 [(2, V.m 0 []), (3, V.m 1 []), (22, V.f x22), (23, V.f x23)] [V.f h0, V.f h1]
theorem e27_17 (N : Nat) (k : Kn R) (x22 h0 h1 : D) : runC PHI Tb66 N vc27_17 (s27_3 x22 h0 h1) k = m27_17 N x22 h0 h1 (fun x22 x23 h0 h1 => k .normal (s27_4 x22 x23 h0 h1)) := by
  refine Eq.trans (runC_post _ _ _ k) (Eq.trans (ops_run _ _ _ _) (by kernel_rfl))
def m27_19 (N : Nat) (h0 h1 : D) (Kr : D → D → D → Option R) : Option R :=
  (bif (sp64 (h0.at 2)) then (bif (sp64 (h1.at 2)) then Kr (D.i 0) h0 h1 else (bif (sp64 (h0.at 2)) then Kr (D.i 1) h0 h1 else (bif (sp64 (h1.at 2)) then Kr (D.i (-1)) h0 h1 else Kr (D.i (sp65 (h0.at 2) (h1.at 2))) h0 h1))) else (bif false then Kr (D.i 0) h0 h1 else (bif (sp64 (h0.at 2)) then Kr (D.i 1) h0 h1 else (bif (sp64 (h1.at 2)) then Kr (D.i (-1)) h0 h1 else Kr (D.i (sp65 (h0.at 2) (h1.at 2))) h0 h1))))
theorem e27_19 (N : Nat) (k : Kn R) (h0 h1 : D) : runC PHI Tb66 N vc27_19 (s27_1 h0 h1) k = m27_19 N h0 h1 (fun x4 h0 h1 => k .ret (s27_2 x4 h0 h1)) := by kernel_rfl
def m27_45 (N : Nat) (x22 h0 h1 : D) (K : D → D → Option R) (Kr : D → D → D → Option R) : Option R :=
  (bif (eqb x22.toI 3) then Kr (D.i (sp66 (h0.at 3) (h1.at 3))) h0 h1 else K h0 h1)
theorem e27_45 (N : Nat) (k : Kn R) (x22 h0 h1 : D) : runC PHI Tb66 N vc27_45 (s27_3 x22 h0 h1) k = m27_45 N x22 h0 h1 (fun h0 h1 => k .normal (s27_1 h0 h1)) (fun x4 h0 h1 => k .ret (s27_2 x4 h0 h1)) := by kernel_rfl
def m27_18 (N : Nat) (x22 x23 h0 h1 : D) (K : D → D → Option R) (Kr : D → D → D → Option R) : Option R :=
  (bif x23.toB then (m27_19 N h0 h1 Kr) else (m27_45 N x22 h0 h1 (fun h0 h1 => K h0 h1) Kr))
theorem e27_18 (N : Nat) (k : Kn R) (x22 x23 h0 h1 : D) : runC PHI Tb66 N vc27_18 (s27_4 x22 x23 h0 h1) k = m27_18 N x22 x23 h0 h1 (fun h0 h1 => k .normal (s27_1 h0 h1)) (fun x4 h0 h1 => k .ret (s27_2 x4 h0 h1)) := by
  refine Eq.trans (runC_cond (s1 := (s27_1 h0 h1)) (s2 := (s27_3 x22 h0 h1)) (d := x23) _ _ k (by kernel_rfl) (by kernel_rfl) (by kernel_rfl)) (Eq.trans (congr (congrArg (cond x23.toB) ((e27_19 N k h0 h1))) ((e27_45 N k x22 h0 h1))) (by kernel_rfl))
def m27_16 (N : Nat) (x22 h0 h1 : D) (K : D → D → Option R) (Kr : D → D → D → Option R) : Option R :=
  (m27_17 N x22 h0 h1 (fun y22 y23 h0 h1 => (m27_18 N y22 y23 h0 h1 (fun h0 h1 => K h0 h1) Kr)))
theorem e27_16 (N : Nat) (k : Kn R) (x22 h0 h1 : D) : runC PHI Tb66 N vc27_16 (s27_3 x22 h0 h1) k = m27_16 N x22 h0 h1 (fun h0 h1 => k .normal (s27_1 h0 h1)) (fun x4 h0 h1 => k .ret (s27_2 x4 h0 h1)) := by
  have h2 := e27_17 N (kseq PHI Tb66 N vc27_18 k) x22 h0 h1
  have h3 := (funext fun y22 => funext fun y23 => funext fun h0 => funext fun h1 => (e27_18 N k y22 y23 h0 h1) : (fun (y22 y23 h0 h1 : D) => (kseq PHI Tb66 N vc27_18 k) .normal (s27_4 y22 y23 h0 h1)) = _)
  refine Eq.trans (runC_seq _ _ _ k) (Eq.trans h2 (Eq.trans (congrArg (fun K => m27_17 N x22 h0 h1 K) h3) (by kernel_rfl)))
def m27_15 (N : Nat) (x22 h0 h1 : D) (K : D → D → Option R) (Kr : D → D → D → Option R) : Option R :=
  (m27_16 N x22 h0 h1 (fun h0 h1 => K h0 h1) Kr)
theorem e27_15 (N : Nat) (k : Kn R) (x22 h0 h1 : D) : runC PHI Tb66 N vc27_15 (s27_3 x22 h0 h1) k = m27_15 N x22 h0 h1 (fun h0 h1 => k .normal (s27_1 h0 h1)) (fun x4 h0 h1 => k .ret (s27_2 x4 h0 h1)) := by
  refine Eq.trans (runC_block _ _ _ k) (Eq.trans (e27_16 N (kblk 0 k) x22 h0 h1) (by kernel_rfl))
def m27_13 (N : Nat) (h0 h1 : D) (K : D → D → Option R) (Kr : D → D → D → Option R) : Option R :=
  (m27_14 N h0 h1 (fun y22 h0 h1 => (m27_15 N y22 h0 h1 (fun h0 h1 => K h0 h1) Kr)))
theorem e27_13 (N : Nat) (k : Kn R) (h0 h1 : D) : runC PHI Tb66 N vc27_13 (s27_1 h0 h1) k = m27_13 N h0 h1 (fun h0 h1 => k .normal (s27_1 h0 h1)) (fun x4 h0 h1 => k .ret (s27_2 x4 h0 h1)) := by
  have h2 := e27_14 N (kseq PHI Tb66 N vc27_15 k) h0 h1
  have h3 := (funext fun y22 => funext fun h0 => funext fun h1 => (e27_15 N k y22 h0 h1) : (fun (y22 h0 h1 : D) => (kseq PHI Tb66 N vc27_15 k) .normal (s27_3 y22 h0 h1)) = _)
  refine Eq.trans (runC_seq _ _ _ k) (Eq.trans h2 (Eq.trans (congrArg (fun K => m27_14 N h0 h1 K) h3) (by kernel_rfl)))
def m27_52 (N : Nat) (h0 h1 : D) (Kr : D → D → D → Option R) : Option R :=
  Kr (D.i (sp67 (h0.at 1) (h1.at 1))) h0 h1
theorem e27_52 (N : Nat) (k : Kn R) (h0 h1 : D) : runC PHI Tb66 N vc27_52 (s27_1 h0 h1) k = m27_52 N h0 h1 (fun x4 h0 h1 => k .ret (s27_2 x4 h0 h1)) := by kernel_rfl
def m27_12 (N : Nat) (h0 h1 : D) (Kr : D → D → D → Option R) : Option R :=
  (m27_13 N h0 h1 (fun h0 h1 => (m27_52 N h0 h1 Kr)) Kr)
theorem e27_12 (N : Nat) (k : Kn R) (h0 h1 : D) : runC PHI Tb66 N vc27_12 (s27_1 h0 h1) k = m27_12 N h0 h1 (fun x4 h0 h1 => k .ret (s27_2 x4 h0 h1)) := by
  have h2 := e27_13 N (kseq PHI Tb66 N vc27_52 k) h0 h1
  have h3 := (funext fun h0 => funext fun h1 => (e27_52 N k h0 h1) : (fun (h0 h1 : D) => (kseq PHI Tb66 N vc27_52 k) .normal (s27_1 h0 h1)) = _)
  refine Eq.trans (runC_seq _ _ _ k) (Eq.trans h2 (Eq.trans (congrArg (fun K => m27_13 N h0 h1 K (fun x4 h0 h1 => (kseq PHI Tb66 N vc27_52 k) .ret (s27_2 x4 h0 h1))) h3) (by kernel_rfl)))
def m27_4 (N : Nat) (h0 h1 : D) (Kr : D → D → D → Option R) : Option R :=
  (m27_5 N h0 h1 (fun h0 h1 => (m27_12 N h0 h1 Kr)) Kr)
theorem e27_4 (N : Nat) (k : Kn R) (h0 h1 : D) : runC PHI Tb66 N vc27_4 (s27_1 h0 h1) k = m27_4 N h0 h1 (fun x4 h0 h1 => k .ret (s27_2 x4 h0 h1)) := by
  have h2 := e27_5 N (kseq PHI Tb66 N vc27_12 k) h0 h1
  have h3 := (funext fun h0 => funext fun h1 => (e27_12 N k h0 h1) : (fun (h0 h1 : D) => (kseq PHI Tb66 N vc27_12 k) .normal (s27_1 h0 h1)) = _)
  refine Eq.trans (runC_seq _ _ _ k) (Eq.trans h2 (Eq.trans (congrArg (fun K => m27_5 N h0 h1 K (fun x4 h0 h1 => (kseq PHI Tb66 N vc27_12 k) .ret (s27_2 x4 h0 h1))) h3) (by kernel_rfl)))
def m27_2 (N : Nat) (h0 h1 : D) (Kr : D → D → D → Option R) : Option R :=
  (m27_3 N h0 h1 (fun h0 h1 => (m27_4 N h0 h1 Kr)))
theorem e27_2 (N : Nat) (k : Kn R) (h0 h1 : D) : runC PHI Tb66 N vc27_2 (s27_1 h0 h1) k = m27_2 N h0 h1 (fun x4 h0 h1 => k .ret (s27_2 x4 h0 h1)) := by
  have h2 := e27_3 N (kseq PHI Tb66 N vc27_4 k) h0 h1
  have h3 := (funext fun h0 => funext fun h1 => (e27_4 N k h0 h1) : (fun (h0 h1 : D) => (kseq PHI Tb66 N vc27_4 k) .normal (s27_1 h0 h1)) = _)
  refine Eq.trans (runC_seq _ _ _ k) (Eq.trans h2 (Eq.trans (congrArg (fun K => m27_3 N h0 h1 K) h3) (by kernel_rfl)))
def m27_0 (N : Nat) (x0 x1 : D) (Kr : D → D → D → Option R) : Option R :=
  (m27_1 N x0 x1 (fun h0 h1 => (m27_2 N h0 h1 Kr)))
theorem e27_0 (N : Nat) (k : Kn R) (x0 x1 : D) : runC PHI Tb66 N vc27_0 (s27_0 x0 x1) k = m27_0 N x0 x1 (fun x4 h0 h1 => k .ret (s27_2 x4 h0 h1)) := by
  have h2 := e27_1 N (kseq PHI Tb66 N vc27_2 k) x0 x1
  have h3 := (funext fun h0 => funext fun h1 => (e27_2 N k h0 h1) : (fun (h0 h1 : D) => (kseq PHI Tb66 N vc27_2 k) .normal (s27_1 h0 h1)) = _)
  refine Eq.trans (runC_seq _ _ _ k) (Eq.trans h2 (Eq.trans (congrArg (fun K => m27_1 N x0 x1 K) h3) (by kernel_rfl)))
theorem r27 (N : Nat) (x0 x1 : D) : runC PHI Tb66 N vf27.body (enterV vf27 [V.f x0, V.f x1] []) (finish vf27) = m27_0 N x0 x1 (fun x4 h0 h1 => finish vf27 .ret (s27_2 x4 h0 h1)) := 
  Eq.trans (runC_pre (s1 := (s27_0 x0 x1)) (by kernel_rfl) _ _) (Eq.trans (e27_0 N (finish vf27) x0 x1) (by kernel_rfl))
end
def Tb27 : CallF := extend Tb66 27 (fn2 (fun _ _ => true) fun x y => .f (.i (sp27 x y)))
theorem ok27 : FnOk Try.prog PHI Tb27 := FnOk.add2 hPHI ok66 (by kernel_rfl) fun u v _ _ => ⟨0, (r27 0 u v).trans (by
  simp only [m27_1, m27_3, m27_5, m27_14, m27_17, m27_19, m27_45, m27_18, m27_16, m27_15, m27_13, m27_52, m27_12, m27_4, m27_2, m27_0, toB_b, sp27]
  cases eqb ((sp46 u).at 0).toI ((sp46 v).at 0).toI
  · rfl
  · cases eqb ((sp46 u).at 0).toI 2
    · cases eqb ((sp46 u).at 0).toI 3 <;> rfl
    · cases sp64 ((sp46 u).at 2) <;> cases sp64 ((sp46 v).at 2) <;> rfl)⟩
def more (a b : D) : Bool := bif eqb (a.at 0).toI (b.at 0).toI then (bif eqb (a.at 0).toI 3 then (F2.ev .sgt (a.at 3) (b.at 3)).toB else bif eqb (a.at 0).toI 2 then !sp43 (a.at 2) && sp43 (b.at 2) || (F2.ev .fgt (a.at 2) (b.at 2)).toB else ltb (b.at 1).toI (a.at 1).toI) else ltb (b.at 0).toI (a.at 0).toI
end Go.Vam.C14
namespace Go.Vam.C14
open Go.Proofs
theorem ord_swap (a b : Ieee.Datum) : b.order a = (a.order b).map Ordering.swap := by
  cases a with
  | nan s t => cases b <;> rfl
  | infinity s =>
    cases b with
    | nan t u => rfl
    | infinity t => cases s <;> cases t <;> rfl
    | number t n j => cases s <;> rfl
  | number s m i =>
    cases b with
    | nan t u => rfl
    | infinity t => cases t <;> rfl
    | number t n j =>
      simp only [Ieee.Datum.order, Option.map_some, Option.some.injEq]
      rw [Int.min_comm j i]
      exact Std.OrientedCmp.eq_swap
theorem ord_none (a b : Ieee.Datum) : a.order b = none ↔ a.isNaN = true ∨ b.isNaN = true := by
  cases a <;> cases b <;> simp [Ieee.Datum.order, Ieee.Datum.isNaN]
theorem ord_self (a : Ieee.Datum) (h : a.isNaN = false) : a.order a = some .eq := by
  cases a with
  | nan s t => cases h
  | infinity s => cases s <;> rfl
  | number s m i => simp only [Ieee.Datum.order, Option.some.injEq]; exact Std.ReflCmp.compare_self
theorem sg0 (s : Bool) (k : Nat) : Ieee.signed s 0 k = 0 := by cases s <;> simp [Ieee.signed]
theorem sgn0 {s : Bool} {m k : Nat} (h : Ieee.signed s m k = 0) : m = 0 := by
  have h2 : m <<< k = 0 := by
    unfold Ieee.signed at h
    split at h <;> omega
  rw [Nat.shiftLeft_eq] at h2
  rcases Nat.mul_eq_zero.1 h2 with h2 | h2
  · exact h2
  · exact absurd h2 (by have := Nat.two_pow_pos k; omega)
theorem sgn_c (t : Bool) (n k k' : Nat) : compare (0 : Int) (Ieee.signed t n k) = compare (0 : Int) (Ieee.signed t n k') := by
  have key : ∀ k, compare (0 : Int) (Ieee.signed t n k) = (if n = 0 then .eq else if t then .gt else .lt) := by
    intro k
    by_cases hn : n = 0
    · subst hn; rw [sg0]; simp [Std.ReflCmp.compare_self]
    · rw [if_neg hn]
      have hp : 0 < n <<< k := by rw [Nat.shiftLeft_eq]; exact Nat.mul_pos (by omega) (Nat.two_pow_pos k)
      cases t
      · simp only [Ieee.signed, Bool.false_eq_true, if_false]
        rw [Int.compare_eq_lt]; omega
      · simp only [Ieee.signed, if_true]
        rw [Int.compare_eq_gt]; omega
  rw [key, key]
theorem ord_zero (a : Ieee.Datum) (p : Int) (h : a.order (.number false 0 p) = some .eq) (c : Ieee.Datum) : a.order c = (Ieee.Datum.number false 0 p).order c := by
  cases a with
  | nan s t => cases h
  | infinity s => cases s <;> cases h
  | number s m i =>
    have hm : m = 0 := by
      simp only [Ieee.Datum.order, Option.some.injEq, sg0] at h
      exact sgn0 (Int.compare_eq_eq.1 h)
    subst hm
    cases c with
    | nan t u => rfl
    | infinity t => rfl
    | number t n j =>
      simp only [Ieee.Datum.order, sg0, Option.some.injEq]
      exact sgn_c _ _ _ _
def oo (x y : D) : Option Ordering := Ieee.double.order x.toF y.toF
theorem feq_o (x y : D) : (F2.ev .feq x y).toB = (oo x y == some .eq) := rfl
theorem fne_o (x y : D) : (F2.ev .fne x y).toB = !(oo x y == some .eq) := rfl
theorem flt_o (x y : D) : (F2.ev .flt x y).toB = (oo x y == some .lt) := rfl
theorem fgt_o (x y : D) : (F2.ev .fgt x y).toB = (oo x y == some .gt) := rfl
def nan (x : D) : Bool := isNan x.toF
theorem oo_none (x y : D) : oo x y = none ↔ nan x = true ∨ nan y = true := ord_none _ _
theorem oo_self (x : D) (h : nan x = false) : oo x x = some .eq := ord_self _ h
theorem oo_swap (x y : D) : oo y x = (oo x y).map Ordering.swap := ord_swap _ _
theorem rd0 : Ieee.double.read 0 = .number false 0 Ieee.double.leastPlace := by decide
theorem oo_zero (x : D) (h : oo x (.f 0) = some .eq) (c : D) : oo x c = oo (.f 0) c := by
  have e : ∀ c, oo (.f 0) c = (Ieee.Datum.number false 0 Ieee.double.leastPlace).order (Ieee.double.read c.toF) := fun c => by rw [← rd0]; rfl
  rw [e]
  refine ord_zero _ _ ?_ _
  rw [← rd0]; exact h
theorem oo_zero' (x : D) (h : oo x (.f 0) = some .eq) (c : D) : oo c x = oo c (.f 0) := by rw [oo_swap x c, oo_zero x h c, ← oo_swap]
theorem s64 (x : D) : sp64 x = nan x := by
  unfold sp64
  rw [fne_o]
  cases h : nan x
  · rw [oo_self x h]; rfl
  · rw [(oo_none x x).2 (.inl h)]; rfl
theorem s89 (x : D) : sp89 x = nan x := s64 x
theorem nan98 : nan sp98 = true := by kernel_rfl
theorem nan_zero (x : D) (h : oo x (.f 0) = some .eq) : nan x = false := by
  cases hn : nan x
  · rfl
  · rw [(oo_none x (.f 0)).2 (.inl hn)] at h; cases h
structure Fe (x y : D) : Prop where
  n : nan x = nan y
  l : ∀ c, oo x c = oo y c
  r : ∀ c, oo c x = oo c y
theorem Fe.refl (x : D) : Fe x x := ⟨rfl, fun _ => rfl, fun _ => rfl⟩
theorem fe_zero (x : D) (h : oo x (.f 0) = some .eq) : Fe (.f 0) x := ⟨by rw [nan_zero x h]; rfl, fun c => (oo_zero x h c).symm, fun c => (oo_zero' x h c).symm⟩
theorem fe_canon (x : D) : Fe (canon x) x := by
  unfold canon
  rw [s64, feq_o]
  cases hn : nan x
  · cases h : (oo x (.f 0) == some .eq)
    · exact Fe.refl x
    · exact fe_zero x (by simpa using h)
  · exact ⟨by rw [hn]; exact nan98, fun c => by rw [(oo_none x c).2 (.inl hn)]; exact (oo_none _ c).2 (.inl nan98), fun c => by rw [(oo_none c x).2 (.inr hn)]; exact (oo_none c _).2 (.inr nan98)⟩
def cl (x : D) : D := bif (F2.ev .fne x (.f 0)).toB then x else .f 0
def G (x y : D) : Int := bif nan x then (bif nan y then 0 else 1) else bif nan y then -1 else bif oo x y == some .lt then -1 else bif oo x y == some .gt then 1 else 0
theorem G_fe {x x' y y' : D} (h : Fe x' x) (h' : Fe y' y) : G x' y' = G x y := by
  unfold G
  rw [h.n, h'.n, h.l, h'.r]
theorem G_swap (x y : D) : G y x = - G x y := by
  unfold G
  rw [oo_swap x y]
  cases hx : nan x <;> cases hy : nan y <;> try rfl
  cases h : oo x y with
  | none => have := (oo_none x y).1 h; simp_all
  | some o => cases o <;> rfl
theorem G27 (x y : D) : (bif sp64 x then (bif sp64 y then 0 else 1) else bif sp64 y then -1 else sp65 x y) = G x y := by
  unfold sp65 G
  rw [s64, s64, s89, s89, flt_o, fgt_o]
  cases nan x <;> cases nan y <;> rfl
theorem G_range (x y : D) : -1 ≤ G x y ∧ G x y ≤ 1 := by
  unfold G
  cases nan x <;> cases nan y <;> cases (oo x y == some .lt) <;> cases (oo x y == some .gt) <;> decide
theorem cmpL_swap : ∀ x y : List Nat, cmpL y x = - cmpL x y
  | [], [] => rfl
  | [], _ :: _ => rfl
  | _ :: _, [] => rfl
  | a :: x, b :: y => by
    have ih := cmpL_swap x y
    rw [cmpL, cmpL, ih]
    rcases Nat.lt_trichotomy a b with h | h | h
    · have e1 : Nat.beq a b = false := Bool.eq_false_iff.2 fun e => by have := Nat.eq_of_beq_eq_true e; omega
      have e1' : Nat.beq b a = false := Bool.eq_false_iff.2 fun e => by have := Nat.eq_of_beq_eq_true e; omega
      have e2 : Nat.ble a b = true := Nat.ble_eq_true_of_le (by omega)
      have e2' : Nat.ble b a = false := Bool.eq_false_iff.2 fun e => by have := Nat.le_of_ble_eq_true e; omega
      simp [e1, e2, e1', e2']
    · subst h; simp
    · have e1 : Nat.beq a b = false := Bool.eq_false_iff.2 fun e => by have := Nat.eq_of_beq_eq_true e; omega
      have e1' : Nat.beq b a = false := Bool.eq_false_iff.2 fun e => by have := Nat.eq_of_beq_eq_true e; omega
      have e2 : Nat.ble a b = false := Bool.eq_false_iff.2 fun e => by have := Nat.le_of_ble_eq_true e; omega
      have e2' : Nat.ble b a = true := Nat.ble_eq_true_of_le (by omega)
      simp [e1, e2, e1', e2']
theorem cmpI_swap (x y : Int) : cmpI y x = - cmpI x y := by
  unfold cmpI
  rcases Int.lt_trichotomy x y with h | h | h
  · rw [ltb_t h, ltb_f (show ¬ y < x by omega)]; rfl
  · subst h; rw [ltb_self]; rfl
  · rw [ltb_t h, ltb_f (show ¬ x < y by omega)]; rfl
theorem cmpI_range (x y : Int) : -1 ≤ cmpI x y ∧ cmpI x y ≤ 1 := by
  unfold cmpI
  cases ltb x y <;> cases ltb y x <;> decide
end Go.Vam.C14
namespace Go.Vam.C14
open Go.Proofs
def kd (v : D) : Int := bif leb 1 (v.at 0).toI && leb (v.at 0).toI 4 then (v.at 0).toI else 0
def num (v : D) : Int := bif eqb (v.at 0).toI 1 then (v.at 1).toI else bif eqb (v.at 0).toI 4 && !eqb (v.at 1).toI 0 then 1 else 0
def T (u v : D) : Int := bif eqb (kd u) (kd v) then (bif eqb (kd u) 3 then cmpL (u.at 3).toS (v.at 3).toS else bif eqb (kd u) 2 then G (u.at 2) (v.at 2) else cmpI (num u) (num v)) else cmpI (kd u) (kd v)
structure Cl (c v : D) : Prop where
  k : (c.at 0).toI = kd v
  n : kd v ≠ 2 → kd v ≠ 3 → (c.at 1).toI = num v
  f : kd v = 2 → Fe (c.at 2) (v.at 2)
  s : kd v = 3 → (c.at 3) = (v.at 3)
theorem five (v : D) : ((v.at 0).toI = 1 ∨ (v.at 0).toI = 2 ∨ (v.at 0).toI = 3 ∨ (v.at 0).toI = 4) ∨ ((v.at 0).toI ≠ 1 ∧ (v.at 0).toI ≠ 2 ∧ (v.at 0).toI ≠ 3 ∧ (v.at 0).toI ≠ 4) := by omega
theorem kd_eq {v : D} {n : Int} (h : (v.at 0).toI = n) (h1 : 1 ≤ n) (h2 : n ≤ 4) : kd v = n := by
  unfold kd; rw [h, leb_t h1, leb_t h2]; rfl
theorem kd_0 {v : D} (h : (v.at 0).toI ≠ 1 ∧ (v.at 0).toI ≠ 2 ∧ (v.at 0).toI ≠ 3 ∧ (v.at 0).toI ≠ 4) : kd v = 0 := by
  unfold kd
  by_cases h1 : 1 ≤ (v.at 0).toI
  · rw [leb_t h1, leb_f (show ¬ (v.at 0).toI ≤ 4 by omega)]; rfl
  · rw [leb_f h1]; rfl
theorem cl46 (v : D) : Cl (sp46 v) v := by
  rcases five v with (h | h | h | h) | h
  · have hk := kd_eq h (by decide) (by decide)
    have e : sp46 v = sp74 (v.at 1) := by unfold sp46; rw [h]; rfl
    exact ⟨by rw [e, hk]; rfl, fun _ _ => by rw [e]; unfold num; rw [h]; rfl, fun h2 => by omega, fun h2 => by omega⟩
  · have hk := kd_eq h (by decide) (by decide)
    have e : sp46 v = sp81 (v.at 2) := by unfold sp46; rw [h]; rfl
    exact ⟨by rw [e, hk]; rfl, fun h2 => by omega, fun _ => by rw [e]; exact fe_canon _, fun h2 => by omega⟩
  · have hk := kd_eq h (by decide) (by decide)
    have e : sp46 v = sp82 (v.at 3) := by unfold sp46; rw [h]; rfl
    exact ⟨by rw [e, hk]; rfl, fun h2 h3 => by omega, fun h2 => by omega, fun _ => by rw [e]; rfl⟩
  · have hk := kd_eq h (by decide) (by decide)
    have e : sp46 v = sp53 (.b (!eqb (v.at 1).toI 0)) := by unfold sp46; rw [h]; rfl
    exact ⟨by rw [e, hk]; rfl, fun _ _ => by rw [e]; unfold num; rw [h]; cases eqb (v.at 1).toI 0 <;> rfl, fun h2 => by omega, fun h2 => by omega⟩
  · have hk := kd_0 h
    have e : sp46 v = z0 := by unfold sp46; rw [eqb_f h.1, eqb_f h.2.1, eqb_f h.2.2.1, eqb_f h.2.2.2]; rfl
    exact ⟨by rw [e, hk]; rfl, fun _ _ => by rw [e]; unfold num; rw [eqb_f h.1, eqb_f h.2.2.2]; rfl, fun h2 => by omega, fun h2 => by omega⟩
theorem T27 {a b u v : D} (hu : Cl a u) (hv : Cl b v) : (bif !eqb (a.at 0).toI (b.at 0).toI then sp35 (a.at 0) (b.at 0) else
  bif eqb (a.at 0).toI 2 then (bif sp64 (a.at 2) then (bif sp64 (b.at 2) then 0 else 1) else bif sp64 (b.at 2) then -1 else sp65 (a.at 2) (b.at 2)) else
  bif eqb (a.at 0).toI 3 then sp66 (a.at 3) (b.at 3) else sp67 (a.at 1) (b.at 1)) = T u v := by
  unfold T sp35 sp67 sp66 sp90
  rw [hu.k, hv.k, G27]
  by_cases hk : kd u = kd v
  · rw [hk, eqb_t rfl]
    simp only [Bool.not_true, cond_false, cond_true]
    by_cases h2 : kd v = 2
    · rw [h2]
      exact G_fe (hu.f (by omega)) (hv.f h2)
    · by_cases h3 : kd v = 3
      · rw [h3, hu.s (by omega), hv.s h3]; rfl
      · rw [eqb_f h2, eqb_f h3, hu.n (by omega) (by omega), hv.n h2 h3]; rfl
  · rw [eqb_f hk]; rfl
theorem T_swap (u v : D) : T v u = - T u v := by
  unfold T
  by_cases hk : kd u = kd v
  · rw [hk, eqb_t rfl]
    simp only [cond_true]
    cases eqb (kd v) 3
    · cases eqb (kd v) 2
      · exact cmpI_swap _ _
      · exact G_swap _ _
    · exact cmpL_swap _ _
  · rw [eqb_f hk, eqb_f (Ne.symm hk)]
    exact cmpI_swap _ _
theorem T_range (u v : D) : -1 ≤ T u v ∧ T u v ≤ 1 := by
  unfold T
  cases eqb (kd u) (kd v)
  · exact cmpI_range _ _
  · cases eqb (kd u) 3
    · cases eqb (kd u) 2
      · exact cmpI_range _ _
      · exact G_range _ _
    · exact cmpL_range _ _
theorem cl_cl {c d v : D} (h : Cl c v) (h' : Cl d c) (hk : kd c = kd v) (hn : num c = num v) : Cl d v := ⟨h'.k.trans hk, fun a b => (h'.n (hk ▸ a) (hk ▸ b)).trans hn, fun a => by
  have h1 := h'.f (hk ▸ a)
  have h2 := h.f a
  exact ⟨h1.n.trans h2.n, fun c => (h1.l c).trans (h2.l c), fun c => (h1.r c).trans (h2.r c)⟩, fun a => (h'.s (hk ▸ a)).trans (h.s a)⟩
theorem kd_46 (v : D) : kd (sp46 v) = kd v := by
  have h := (cl46 v).k
  have : kd (sp46 v) = bif leb 1 (kd v) && leb (kd v) 4 then kd v else 0 := by rw [← h]; rfl
  rw [this]
  unfold kd
  cases h1 : leb 1 (v.at 0).toI && leb (v.at 0).toI 4
  · rfl
  · simp only [cond_true, h1]
theorem num_46 (v : D) : num (sp46 v) = num v := by
  rcases five v with (h | h | h | h) | h
  · have e : sp46 v = sp74 (v.at 1) := by unfold sp46; rw [h]; rfl
    rw [e]; unfold num; rw [h]; rfl
  · have e : sp46 v = sp81 (v.at 2) := by unfold sp46; rw [h]; rfl
    rw [e]; unfold num; rw [h]; rfl
  · have e : sp46 v = sp82 (v.at 3) := by unfold sp46; rw [h]; rfl
    rw [e]; unfold num; rw [h]; rfl
  · have e : sp46 v = sp53 (.b (!eqb (v.at 1).toI 0)) := by unfold sp46; rw [h]; rfl
    rw [e]; unfold num; rw [h]; cases eqb (v.at 1).toI 0 <;> rfl
  · have e : sp46 v = z0 := by unfold sp46; rw [eqb_f h.1, eqb_f h.2.1, eqb_f h.2.2.1, eqb_f h.2.2.2]; rfl
    rw [e]; unfold num; rw [eqb_f h.1, eqb_f h.2.2.2]; rfl
theorem t27 (u v : D) : sp27 (sp46 u) (sp46 v) = T u v := T27 (cl_cl (cl46 u) (cl46 _) (kd_46 u) (num_46 u)) (cl_cl (cl46 v) (cl46 _) (kd_46 v) (num_46 v))
end Go.Vam.C14
