/- Chapter 14: what functions come to, part 4. No conditions. -/
import Derived.Test.YtcpbgimpopcfoaaP3
import Derived.KernelRfl
set_option linter.unusedVariables false
set_option linter.unusedSimpArgs false
set_option maxRecDepth 100000
namespace Go.Vam.C14
open Go.Proofs
theorem wrapu (n : Int) : wu n = n % 18446744073709551616 := by
  unfold wu
  simp only [IntKind.wrap, IntKind.bits, IntKind.signed]
  simp
theorem wu_id {n : Int} (h : 0 ≤ n) (h' : n < 18446744073709551616) : wu n = n := by rw [wrapu]; omega
def mulS (x y : D) : Option (Bool × Int) := bif ltb 9223372036854775808 (sp99 x * sp99 y) then none else some ((ltb x.toI 0 != ltb y.toI 0), sp99 x * sp99 y)
def sp88_0 (x y : D) : Int := wh0 (mulS x y)
def sp88_1 (x y : D) : Bool := wh1 (mulS x y)
theorem sp99_r (x : D) : 0 ≤ sp99 x ∧ sp99 x < 18446744073709551616 := by
  unfold sp99
  cases ltb x.toI 0 <;> simp only [cond_true, cond_false] <;> rw [wrapu] <;> omega
theorem sp99_abs {x : D} (h : -9223372036854775808 ≤ x.toI ∧ x.toI ≤ 9223372036854775807) : sp99 x = (if x.toI < 0 then -x.toI else x.toI) := by
  unfold sp99
  by_cases hx : x.toI < 0
  · rw [ltb_t hx, if_pos hx]
    simp only [cond_true]
    have e1 : w64 (x.toI + 1) = x.toI + 1 := wrap64_id (by omega) (by omega)
    rw [e1]
    have e2 : w64 (0 - (x.toI + 1)) = 0 - (x.toI + 1) := wrap64_id (by omega) (by omega)
    rw [e2, wu_id (n := 0 - (x.toI + 1)) (by omega) (by omega), wu_id (by omega) (by omega)]
    omega
  · rw [ltb_f hx, if_neg hx]
    simp only [cond_false]
    exact wu_id (by omega) (by omega)
section
variable {R : Type}
def m88_1 (N : Nat) (x0 x1 : D) (K : D → D → Option R) : Option R :=
  K x0 x1
def s88_0 (x0 x1 : D) : St := sts 44 [(0, V.f x0), (1, V.f x1)] []
theorem e88_1 (N : Nat) (k : Kn R) (x0 x1 : D) : runC PHI Tb87 N vc88_1 (s88_0 x0 x1) k = m88_1 N x0 x1 (fun x0 x1 => k .normal (s88_0 x0 x1)) := by
  refine Eq.trans (runC_post _ _ _ k) (Eq.trans (ops_run _ _ _ _) (by kernel_rfl))
def m88_3 (N : Nat) (x0 x1 : D) (K : D → D → D → D → D → Option R) : Option R :=
  K x0 x1 (D.i (sp99 x0)) (D.i (sp99 x1)) (D.i 0)
def s88_1 (x0 x1 x6 x7 x8 : D) : St := sts 44 [(0, V.f x0), (1, V.f x1), (6, V.f x6), (7, V.f x7), (8, V.f x8)] []
theorem e88_3 (N : Nat) (k : Kn R) (x0 x1 : D) : runC PHI Tb87 N vc88_3 (s88_0 x0 x1) k = m88_3 N x0 x1 (fun x0 x1 x6 x7 x8 => k .normal (s88_1 x0 x1 x6 x7 x8)) := by
  refine Eq.trans (runC_post _ _ _ k) (Eq.trans (ops_run _ _ _ _) (by kernel_rfl))
def m88_8 (N : Nat) (x0 x1 x6 x7 x8 : D) (K : D → D → D → D → D → Option R) (K0 : D → D → D → Option R) : Option R :=
  (bif (ltb 0 x7.toI) then K x0 x1 x6 x7 x8 else K0 x0 x1 x8)
def s88_2 (x0 x1 x8 : D) : St := sts 44 [(0, V.f x0), (1, V.f x1), (8, V.f x8)] []
theorem e88_8 (N : Nat) (k : Kn R) (x0 x1 x6 x7 x8 : D) : runC PHI Tb87 N vc88_8 (s88_1 x0 x1 x6 x7 x8) k = m88_8 N x0 x1 x6 x7 x8 (fun x0 x1 x6 x7 x8 => k .normal (s88_1 x0 x1 x6 x7 x8)) (fun x0 x1 x8 => k (.exit 0) (s88_2 x0 x1 x8)) := by kernel_rfl
def m88_15 (N : Nat) (x0 x1 x6 x7 x8 : D) (K : D → D → D → D → D → Option R) : Option R :=
  (bif (!eqb 2 0) then (bif (eqb (Int.tmod x7.toI 2) 1) then K x0 x1 x6 x7 (D.i (IntKind.wrap IntKind.u64 (x8.toI + x6.toI))) else K x0 x1 x6 x7 x8) else none)
theorem e88_15 (N : Nat) (k : Kn R) (x0 x1 x6 x7 x8 : D) : runC PHI Tb87 N vc88_15 (s88_1 x0 x1 x6 x7 x8) k = m88_15 N x0 x1 x6 x7 x8 (fun x0 x1 x6 x7 x8 => k .normal (s88_1 x0 x1 x6 x7 x8)) := by kernel_rfl
def m88_20 (N : Nat) (x0 x1 x6 x7 x8 : D) (K : D → D → D → D → D → Option R) (Kr : D → D → Option R) : Option R :=
  (bif (ltb 9223372036854775808 x8.toI) then (bif true then Kr (D.i 0) (D.b false) else (bif (!eqb 2 0) then K x0 x1 (D.i (IntKind.wrap IntKind.u64 (x6.toI * 2))) (D.i (IntKind.wrap IntKind.u64 (Int.tdiv x7.toI 2))) x8 else none)) else (bif (ltb 1 x7.toI) then (bif (ltb 4611686018427387904 x6.toI) then Kr (D.i 0) (D.b false) else (bif (!eqb 2 0) then K x0 x1 (D.i (IntKind.wrap IntKind.u64 (x6.toI * 2))) (D.i (IntKind.wrap IntKind.u64 (Int.tdiv x7.toI 2))) x8 else none)) else (bif false then Kr (D.i 0) (D.b false) else (bif (!eqb 2 0) then K x0 x1 (D.i (IntKind.wrap IntKind.u64 (x6.toI * 2))) (D.i (IntKind.wrap IntKind.u64 (Int.tdiv x7.toI 2))) x8 else none))))
def s88_3 (x4 x5 : D) : St := sts 44 [(4, V.f x4), (5, V.f x5)] []
theorem e88_20 (N : Nat) (k : Kn R) (x0 x1 x6 x7 x8 : D) : runC PHI Tb87 N vc88_20 (s88_1 x0 x1 x6 x7 x8) k = m88_20 N x0 x1 x6 x7 x8 (fun x0 x1 x6 x7 x8 => k .normal (s88_1 x0 x1 x6 x7 x8)) (fun x4 x5 => k .ret (s88_3 x4 x5)) := by kernel_rfl
def m88_14 (N : Nat) (x0 x1 x6 x7 x8 : D) (K : D → D → D → D → D → Option R) (Kr : D → D → Option R) : Option R :=
  (m88_15 N x0 x1 x6 x7 x8 (fun y0 y1 y6 y7 y8 => (m88_20 N y0 y1 y6 y7 y8 (fun y0 y1 y6 y7 y8 => K y0 y1 y6 y7 y8) Kr)))
theorem e88_14 (N : Nat) (k : Kn R) (x0 x1 x6 x7 x8 : D) : runC PHI Tb87 N vc88_14 (s88_1 x0 x1 x6 x7 x8) k = m88_14 N x0 x1 x6 x7 x8 (fun x0 x1 x6 x7 x8 => k .normal (s88_1 x0 x1 x6 x7 x8)) (fun x4 x5 => k .ret (s88_3 x4 x5)) := by
  have h2 := e88_15 N (kseq PHI Tb87 N vc88_20 k) x0 x1 x6 x7 x8
  have h3 := (funext fun y0 => funext fun y1 => funext fun y6 => funext fun y7 => funext fun y8 => (e88_20 N k y0 y1 y6 y7 y8) : (fun (y0 y1 y6 y7 y8 : D) => (kseq PHI Tb87 N vc88_20 k) .normal (s88_1 y0 y1 y6 y7 y8)) = _)
  refine Eq.trans (runC_seq _ _ _ k) (Eq.trans h2 (Eq.trans (congrArg (fun K => m88_15 N x0 x1 x6 x7 x8 K) h3) (by kernel_rfl)))
def m88_13 (N : Nat) (x0 x1 x6 x7 x8 : D) (K : D → D → D → D → D → Option R) (Kr : D → D → Option R) : Option R :=
  (m88_14 N x0 x1 x6 x7 x8 (fun y0 y1 y6 y7 y8 => K y0 y1 y6 y7 y8) Kr)
theorem e88_13 (N : Nat) (k : Kn R) (x0 x1 x6 x7 x8 : D) : runC PHI Tb87 N vc88_13 (s88_1 x0 x1 x6 x7 x8) k = m88_13 N x0 x1 x6 x7 x8 (fun x0 x1 x6 x7 x8 => k .normal (s88_1 x0 x1 x6 x7 x8)) (fun x4 x5 => k .ret (s88_3 x4 x5)) := by
  refine Eq.trans (runC_block _ _ _ k) (Eq.trans (e88_14 N (kblk 1 k) x0 x1 x6 x7 x8) (by kernel_rfl))
def m88_7 (N : Nat) (x0 x1 x6 x7 x8 : D) (K : D → D → D → D → D → Option R) (K0 : D → D → D → Option R) (Kr : D → D → Option R) : Option R :=
  (m88_8 N x0 x1 x6 x7 x8 (fun y0 y1 y6 y7 y8 => (m88_13 N y0 y1 y6 y7 y8 (fun y0 y1 y6 y7 y8 => K y0 y1 y6 y7 y8) Kr)) K0)
theorem e88_7 (N : Nat) (k : Kn R) (x0 x1 x6 x7 x8 : D) : runC PHI Tb87 N vc88_7 (s88_1 x0 x1 x6 x7 x8) k = m88_7 N x0 x1 x6 x7 x8 (fun x0 x1 x6 x7 x8 => k .normal (s88_1 x0 x1 x6 x7 x8)) (fun x0 x1 x8 => k (.exit 0) (s88_2 x0 x1 x8)) (fun x4 x5 => k .ret (s88_3 x4 x5)) := by
  have h2 := e88_8 N (kseq PHI Tb87 N vc88_13 k) x0 x1 x6 x7 x8
  have h3 := (funext fun y0 => funext fun y1 => funext fun y6 => funext fun y7 => funext fun y8 => (e88_13 N k y0 y1 y6 y7 y8) : (fun (y0 y1 y6 y7 y8 : D) => (kseq PHI Tb87 N vc88_13 k) .normal (s88_1 y0 y1 y6 y7 y8)) = _)
  refine Eq.trans (runC_seq _ _ _ k) (Eq.trans h2 (Eq.trans (congrArg (fun K => m88_8 N x0 x1 x6 x7 x8 K (fun x0 x1 x8 => (kseq PHI Tb87 N vc88_13 k) (.exit 0) (s88_2 x0 x1 x8))) h3) (by kernel_rfl)))
def l88_6 (N : Nat) (j : Nat) (x0 x1 x6 x7 x8 : D) (K0 : D → D → D → Option R) (Kr : D → D → Option R) : Option R :=
  match j with
  | 0 => none
  | j + 1 => (m88_7 N x0 x1 x6 x7 x8 (fun y0 y1 y6 y7 y8 => l88_6 N j y0 y1 y6 y7 y8 K0 Kr) K0 Kr)
def m88_6 (N : Nat) (x0 x1 x6 x7 x8 : D) (K0 : D → D → D → Option R) (Kr : D → D → Option R) : Option R :=
  l88_6 N N x0 x1 x6 x7 x8 K0 Kr
theorem el88_6 (N : Nat) (k : Kn R) : ∀ (j : Nat) (x0 x1 x6 x7 x8 : D), loopGo (runC PHI Tb87 N vc88_7) j (s88_1 x0 x1 x6 x7 x8) k = l88_6 N j x0 x1 x6 x7 x8 (fun x0 x1 x8 => k (.exit 0) (s88_2 x0 x1 x8)) (fun x4 x5 => k .ret (s88_3 x4 x5))
  | 0, _, _, _, _, _ => by kernel_rfl
  | j + 1, x0, x1, x6, x7, x8 => by
    have h2 := e88_7 N (kloop PHI Tb87 N vc88_7 j k) x0 x1 x6 x7 x8
    have h3 : (fun (y0 y1 y6 y7 y8 : D) => (kloop PHI Tb87 N vc88_7 j k) .normal (s88_1 y0 y1 y6 y7 y8)) = (fun (y0 y1 y6 y7 y8 : D) => l88_6 N j y0 y1 y6 y7 y8 (fun x0 x1 x8 => k (.exit 0) (s88_2 x0 x1 x8)) (fun x4 x5 => k .ret (s88_3 x4 x5))) := funext fun y0 => funext fun y1 => funext fun y6 => funext fun y7 => funext fun y8 => (el88_6 N k j y0 y1 y6 y7 y8)
    refine Eq.trans (loop_succ _ j _ k) (Eq.trans h2 (Eq.trans (congrArg (fun K => m88_7 N x0 x1 x6 x7 x8 K (fun x0 x1 x8 => (kloop PHI Tb87 N vc88_7 j k) (.exit 0) (s88_2 x0 x1 x8)) (fun x4 x5 => (kloop PHI Tb87 N vc88_7 j k) .ret (s88_3 x4 x5))) h3) (by kernel_rfl)))
theorem e88_6 (N : Nat) (k : Kn R) (x0 x1 x6 x7 x8 : D) : runC PHI Tb87 N vc88_6 (s88_1 x0 x1 x6 x7 x8) k = m88_6 N x0 x1 x6 x7 x8 (fun x0 x1 x8 => k (.exit 0) (s88_2 x0 x1 x8)) (fun x4 x5 => k .ret (s88_3 x4 x5)) := by
  refine Eq.trans (runC_loop _ _ k) (Eq.trans (el88_6 N k N x0 x1 x6 x7 x8) (by kernel_rfl))
def m88_5 (N : Nat) (x0 x1 x6 x7 x8 : D) (K : D → D → D → Option R) (Kr : D → D → Option R) : Option R :=
  (m88_6 N x0 x1 x6 x7 x8 (fun y0 y1 y8 => K y0 y1 y8) Kr)
theorem e88_5 (N : Nat) (k : Kn R) (x0 x1 x6 x7 x8 : D) : runC PHI Tb87 N vc88_5 (s88_1 x0 x1 x6 x7 x8) k = m88_5 N x0 x1 x6 x7 x8 (fun x0 x1 x8 => k .normal (s88_2 x0 x1 x8)) (fun x4 x5 => k .ret (s88_3 x4 x5)) := by
  refine Eq.trans (runC_block _ _ _ k) (Eq.trans (e88_6 N (kblk 0 k) x0 x1 x6 x7 x8) (by kernel_rfl))
def m88_29 (N : Nat) (x0 x1 x8 : D) (Kr : D → D → Option R) : Option R :=
  Kr (D.i (sp100_0 (D.b ((ltb x0.toI 0) != (ltb x1.toI 0))) x8)) (D.b (sp100_1 (D.b ((ltb x0.toI 0) != (ltb x1.toI 0))) x8))
theorem e88_29 (N : Nat) (k : Kn R) (x0 x1 x8 : D) : runC PHI Tb87 N vc88_29 (s88_2 x0 x1 x8) k = m88_29 N x0 x1 x8 (fun x4 x5 => k .ret (s88_3 x4 x5)) := by kernel_rfl
def m88_4 (N : Nat) (x0 x1 x6 x7 x8 : D) (Kr : D → D → Option R) : Option R :=
  (m88_5 N x0 x1 x6 x7 x8 (fun y0 y1 y8 => (m88_29 N y0 y1 y8 Kr)) Kr)
theorem e88_4 (N : Nat) (k : Kn R) (x0 x1 x6 x7 x8 : D) : runC PHI Tb87 N vc88_4 (s88_1 x0 x1 x6 x7 x8) k = m88_4 N x0 x1 x6 x7 x8 (fun x4 x5 => k .ret (s88_3 x4 x5)) := by
  have h2 := e88_5 N (kseq PHI Tb87 N vc88_29 k) x0 x1 x6 x7 x8
  have h3 := (funext fun y0 => funext fun y1 => funext fun y8 => (e88_29 N k y0 y1 y8) : (fun (y0 y1 y8 : D) => (kseq PHI Tb87 N vc88_29 k) .normal (s88_2 y0 y1 y8)) = _)
  refine Eq.trans (runC_seq _ _ _ k) (Eq.trans h2 (Eq.trans (congrArg (fun K => m88_5 N x0 x1 x6 x7 x8 K (fun x4 x5 => (kseq PHI Tb87 N vc88_29 k) .ret (s88_3 x4 x5))) h3) (by kernel_rfl)))
def m88_2 (N : Nat) (x0 x1 : D) (Kr : D → D → Option R) : Option R :=
  (m88_3 N x0 x1 (fun y0 y1 y6 y7 y8 => (m88_4 N y0 y1 y6 y7 y8 Kr)))
theorem e88_2 (N : Nat) (k : Kn R) (x0 x1 : D) : runC PHI Tb87 N vc88_2 (s88_0 x0 x1) k = m88_2 N x0 x1 (fun x4 x5 => k .ret (s88_3 x4 x5)) := by
  have h2 := e88_3 N (kseq PHI Tb87 N vc88_4 k) x0 x1
  have h3 := (funext fun y0 => funext fun y1 => funext fun y6 => funext fun y7 => funext fun y8 => (e88_4 N k y0 y1 y6 y7 y8) : (fun (y0 y1 y6 y7 y8 : D) => (kseq PHI Tb87 N vc88_4 k) .normal (s88_1 y0 y1 y6 y7 y8)) = _)
  refine Eq.trans (runC_seq _ _ _ k) (Eq.trans h2 (Eq.trans (congrArg (fun K => m88_3 N x0 x1 K) h3) (by kernel_rfl)))
def m88_0 (N : Nat) (x0 x1 : D) (Kr : D → D → Option R) : Option R :=
  (m88_1 N x0 x1 (fun y0 y1 => (m88_2 N y0 y1 Kr)))
theorem e88_0 (N : Nat) (k : Kn R) (x0 x1 : D) : runC PHI Tb87 N vc88_0 (s88_0 x0 x1) k = m88_0 N x0 x1 (fun x4 x5 => k .ret (s88_3 x4 x5)) := by
  have h2 := e88_1 N (kseq PHI Tb87 N vc88_2 k) x0 x1
  have h3 := (funext fun y0 => funext fun y1 => (e88_2 N k y0 y1) : (fun (y0 y1 : D) => (kseq PHI Tb87 N vc88_2 k) .normal (s88_0 y0 y1)) = _)
  refine Eq.trans (runC_seq _ _ _ k) (Eq.trans h2 (Eq.trans (congrArg (fun K => m88_1 N x0 x1 K) h3) (by kernel_rfl)))
theorem r88 (N : Nat) (x0 x1 : D) : runC PHI Tb87 N vf88.body (enterV vf88 [V.f x0, V.f x1] []) (finish vf88) = m88_0 N x0 x1 (fun x4 x5 => finish vf88 .ret (s88_3 x4 x5)) := 
  Eq.trans (runC_pre (s1 := (s88_0 x0 x1)) (by kernel_rfl) _ _) (Eq.trans (e88_0 N (finish vf88) x0 x1) (by kernel_rfl))
end
theorem l88 {R : Type} (N : Nat) (x0 x1 : D) (K0 : D → D → D → Option R) (Kr : D → D → Option R) : ∀ (k j : Nat) (x y n : Int), k < j → 0 ≤ y → y < 2 ^ k → y ≤ 9223372036854775808 → 0 ≤ n → n ≤ 9223372036854775808 → 0 ≤ x → (y = 0 ∨ x ≤ 9223372036854775808) → (n < x ∨ n = 0 ∨ y = 0) →
    l88_6 N j x0 x1 (.i x) (.i y) (.i n) K0 Kr = bif ltb 9223372036854775808 (n + x * y) then Kr (.i 0) (.b false) else K0 x0 x1 (.i (n + x * y))
  | _, 0, _, _, _, h, _, _, _, _, _, _, _, _ => by omega
  | k, j + 1, x, y, n, h, hy, hyk, hym, hn, hn', hx, hxy, hnx => by
    by_cases hy0 : y = 0
    · subst hy0
      simp only [l88_6, m88_7, m88_8, toI_i, Int.mul_zero, Int.add_zero]
      rw [ltb_f (show ¬ (0 : Int) < 0 by omega), ltb_f (show ¬ 9223372036854775808 < n by omega)]; rfl
    · cases k with
      | zero => simp at hyk; omega
      | succ k =>
        have hx' : x ≤ 9223372036854775808 := by omega
        have hy2 : y = 2 * (y / 2) + y % 2 := by omega
        have hm : y % 2 = 0 ∨ y % 2 = 1 := by omega
        have e1 : Int.tmod y 2 = y % 2 := Int.tmod_eq_emod_of_nonneg hy
        have e2 : Int.tdiv y 2 = y / 2 := Int.tdiv_eq_ediv_of_nonneg hy
        have e3 : IntKind.wrap IntKind.u64 (y / 2) = y / 2 := wu_id (by omega) (by omega)
        have hp : x * y = 2 * (x * (y / 2)) + x * (y % 2) := by
          have : x * y = x * (2 * (y / 2) + y % 2) := by rw [← hy2]
          rw [this, Int.mul_add, Int.mul_left_comm]
        have hpk : y / 2 < 2 ^ k := by rw [Int.pow_succ] at hyk; omega
        have hpn : 0 ≤ x * (y / 2) := Int.mul_nonneg hx (by omega)
        -- what the sum is behind the first part of a step
        have step : ∀ n' : Int, 0 ≤ n' → (n' = n + x * (y % 2)) → n' < 18446744073709551616 →
            m88_20 N x0 x1 (.i x) (.i y) (.i n') (fun y0 y1 y6 y7 y8 => l88_6 N j y0 y1 y6 y7 y8 K0 Kr) Kr = bif ltb 9223372036854775808 (n + x * y) then Kr (.i 0) (.b false) else K0 x0 x1 (.i (n + x * y)) := by
          intro n' h0 he hlt
          have hsum : n + x * y = n' + 2 * (x * (y / 2)) := by rw [hp, he]; omega
          have hn1 : n' ≤ n + x := by
            rcases hm with hm | hm <;> rw [hm] at he <;> simp at he <;> omega
          simp only [m88_20, toI_i, show (!eqb 2 0) = true from rfl, cond_true]
          by_cases hb : 9223372036854775808 < n'
          · rw [ltb_t hb, ltb_t (show 9223372036854775808 < n + x * y by omega)]; rfl
          · rw [ltb_f hb]
            simp only [cond_false]
            have e4 : ∀ (X : Int), l88_6 N j x0 x1 (.i X) (.i (IntKind.wrap IntKind.u64 (Int.tdiv y 2))) (.i n') K0 Kr = l88_6 N j x0 x1 (.i X) (.i (y / 2)) (.i n') K0 Kr := fun X => by rw [e2, e3]
            by_cases h1 : 1 < y
            · rw [ltb_t h1]
              simp only [cond_true]
              have hxp : x * 1 ≤ x * (y / 2) := Int.mul_le_mul_of_nonneg_left (by omega) hx
              by_cases hq : 4611686018427387904 < x
              · rw [ltb_t hq, ltb_t (show 9223372036854775808 < n + x * y by omega)]; rfl
              · rw [ltb_f hq]
                simp only [cond_false]
                have e5 : IntKind.wrap IntKind.u64 (x * 2) = x * 2 := wu_id (by omega) (by omega)
                rw [e5, e4]
                rw [l88 N x0 x1 K0 Kr k j (x * 2) (y / 2) n' (by omega) (by omega) hpk (by omega) h0 (by omega) (by omega) (.inr (by omega)) (by omega)]
                rw [show n' + x * 2 * (y / 2) = n + x * y by rw [hsum, Int.mul_comm x 2, Int.mul_assoc]]
            · rw [ltb_f h1]
              simp only [cond_false]
              have hz : y / 2 = 0 := by omega
              have hw := (show 0 ≤ wu (x * 2) by rw [wrapu]; omega)
              rw [e4, hz]
              rw [show IntKind.wrap IntKind.u64 (x * 2) = wu (x * 2) from rfl]
              rw [l88 N x0 x1 K0 Kr k j (wu (x * 2)) 0 n' (by omega) (by omega) (by have := hpk; rw [hz] at this; exact this) (by omega) h0 (by omega) hw (.inl rfl) (.inr (.inr rfl))]
              rw [hz] at hsum
              simp only [Int.mul_zero, Int.add_zero] at hsum ⊢
              rw [hsum]
        simp only [l88_6, m88_7, m88_8, m88_13, m88_14, m88_15, toI_i, show (!eqb 2 0) = true from rfl, cond_true, e1]
        rw [ltb_t (show 0 < y by omega)]
        simp only [cond_true]
        rcases hm with hm | hm
        · rw [eqb_f (show ¬ y % 2 = 1 by omega)]
          simp only [cond_false]
          exact step n hn (by rw [hm]; simp) (by omega)
        · rw [eqb_t hm]
          simp only [cond_true]
          have hlt : n + x < 18446744073709551616 := by omega
          have e6 : IntKind.wrap IntKind.u64 (n + x) = n + x := wu_id (by omega) hlt
          rw [e6]
          exact step (n + x) (by omega) (by rw [hm]; simp) hlt
def Tb88 : CallF := extend Tb87 88 (fn2 (fun _ _ => true) fun x y => .t [.f (.i (sp88_0 x y)), .f (.b (sp88_1 x y))])
theorem ok88 : FnOk Try.prog PHI Tb88 := FnOk.add2 hPHI ok87 (by kernel_rfl) fun x y ha _ => ⟨70, (r88 70 x y).trans (by
  have hx := ((ha.is 0 rfl rfl).i64 (by kernel_rfl)).2
  have hy := ((ha.is 1 rfl rfl).i64 (by kernel_rfl)).2
  have ax := sp99_abs hx
  have ay := sp99_abs hy
  simp only [m88_0, m88_1, m88_2, m88_3, m88_4, m88_5, m88_6, m88_29]
  have hxr : 0 ≤ sp99 x ∧ sp99 x ≤ 9223372036854775808 := by rw [ax]; split <;> omega
  have hyr : 0 ≤ sp99 y ∧ sp99 y ≤ 9223372036854775808 := by rw [ay]; split <;> omega
  rw [l88 70 x y _ _ 64 70 (sp99 x) (sp99 y) 0 (by omega) hyr.1 (by omega) hyr.2 (by omega) (by omega) hxr.1 (.inr hxr.2) (.inr (.inl rfl))]
  rw [Int.zero_add]
  unfold sp88_0 sp88_1 mulS
  cases ltb 9223372036854775808 (sp99 x * sp99 y) <;> rfl)⟩
def sp59 (o x y : D) : D := bif !eqb ((sp30 x).at 0).toI ((sp30 y).at 0).toI || eqb ((sp30 x).at 0).toI 0 then z0 else cmA o (sp29 (sp30 x) (sp30 y))
theorem three_29 (a b : D) : sp29 a b = -1 ∨ sp29 a b = 0 ∨ sp29 a b = 1 := by
  unfold sp29
  cases less (sp30 a) (sp30 b) <;> cases more (sp30 a) (sp30 b) <;> simp
section
variable {R : Type}
def m59_1 (N : Nat) (x0 x1 x2 : D) (K : D → D → D → Option R) : Option R :=
  K x0 x1 x2
def s59_0 (x0 x1 x2 : D) : St := sts 54 [(0, V.f x0), (1, V.f x1), (2, V.f x2)] [V.u, V.u, V.u]
def s59_1 (x0 h0 h1 : D) : St := sts 54 [(0, V.f x0), (4, V.m 0 []), (5, V.m 1 []), (6, V.a)] [V.f h0, V.f h1, V.u]
theorem e59_1 (N : Nat) (k : Kn R) (x0 x1 x2 : D) : runC PHI Tb88 N vc59_1 (s59_0 x0 x1 x2) k = m59_1 N x0 x1 x2 (fun x0 h0 h1 => k .normal (s59_1 x0 h0 h1)) := by
  refine Eq.trans (runC_post _ _ _ k) (Eq.trans (ops_run _ _ _ _) (by kernel_rfl))
def m59_3 (N : Nat) (x0 h0 h1 : D) (K : D → D → D → Option R) : Option R :=
  K x0 (sp30 h0) (sp30 h1)
theorem e59_3 (N : Nat) (k : Kn R) (x0 h0 h1 : D) : runC PHI Tb88 N vc59_3 (s59_1 x0 h0 h1) k = m59_3 N x0 h0 h1 (fun x0 h0 h1 => k .normal (s59_1 x0 h0 h1)) := by
  refine Eq.trans (runC_post _ _ _ k) (Eq.trans (ops_run _ _ _ _) (by kernel_rfl))
def m59_5 (N : Nat) (x0 h0 h1 : D) (K : D → D → D → Option R) (Kr : D → D → D → Option R) : Option R :=
  (bif (!eqb (h0.at 0).toI (h1.at 0).toI) then (bif true then Kr (D.p (D.ag [(D.i 0), (D.i 0), (D.f 0), (D.s [])])) h0 h1 else K x0 h0 h1) else (bif (eqb (h0.at 0).toI 0) then Kr (D.p (D.ag [(D.i 0), (D.i 0), (D.f 0), (D.s [])])) h0 h1 else K x0 h0 h1))
def s59_2 (x6 h0 h1 : D) : St := sts 54 [(6, V.f x6)] [V.f h0, V.f h1, V.u]
theorem e59_5 (N : Nat) (k : Kn R) (x0 h0 h1 : D) : runC PHI Tb88 N vc59_5 (s59_1 x0 h0 h1) k = m59_5 N x0 h0 h1 (fun x0 h0 h1 => k .normal (s59_1 x0 h0 h1)) (fun x6 h0 h1 => k .ret (s59_2 x6 h0 h1)) := by kernel_rfl
def m59_12 (N : Nat) (x0 h0 h1 : D) (Kr : D → D → D → Option R) : Option R :=
  (bif (eqL x0.toS [61]) then (bif (inb 1 3) then (bif (inb (IntKind.wrap IntKind.i64 (1 + (sp29 h0 h1))) 3) then Kr (D.p (sp61 ((D.setP [1] (D.ag [(D.b false), (D.b false), (D.b false)]) (D.b true)).at ((IntKind.wrap IntKind.i64 (1 + (sp29 h0 h1))) : Int).toNat))) h0 h1 else none) else none) else (bif (eqL x0.toS [60, 62]) then (bif (inb 0 3) then (bif (inb 2 3) then (bif (inb (IntKind.wrap IntKind.i64 (1 + (sp29 h0 h1))) 3) then Kr (D.p (sp61 ((D.setP [2] (D.setP [0] (D.ag [(D.b false), (D.b false), (D.b false)]) (D.b true)) (D.b true)).at ((IntKind.wrap IntKind.i64 (1 + (sp29 h0 h1))) : Int).toNat))) h0 h1 else none) else none) else none) else (bif (eqL x0.toS [60]) then (bif (inb 0 3) then (bif (inb (IntKind.wrap IntKind.i64 (1 + (sp29 h0 h1))) 3) then Kr (D.p (sp61 ((D.setP [0] (D.ag [(D.b false), (D.b false), (D.b false)]) (D.b true)).at ((IntKind.wrap IntKind.i64 (1 + (sp29 h0 h1))) : Int).toNat))) h0 h1 else none) else none) else (bif (eqL x0.toS [60, 61]) then (bif (inb 0 3) then (bif (inb 1 3) then (bif (inb (IntKind.wrap IntKind.i64 (1 + (sp29 h0 h1))) 3) then Kr (D.p (sp61 ((D.setP [1] (D.setP [0] (D.ag [(D.b false), (D.b false), (D.b false)]) (D.b true)) (D.b true)).at ((IntKind.wrap IntKind.i64 (1 + (sp29 h0 h1))) : Int).toNat))) h0 h1 else none) else none) else none) else (bif (eqL x0.toS [62]) then (bif (inb 2 3) then (bif (inb (IntKind.wrap IntKind.i64 (1 + (sp29 h0 h1))) 3) then Kr (D.p (sp61 ((D.setP [2] (D.ag [(D.b false), (D.b false), (D.b false)]) (D.b true)).at ((IntKind.wrap IntKind.i64 (1 + (sp29 h0 h1))) : Int).toNat))) h0 h1 else none) else none) else (bif (eqL x0.toS [62, 61]) then (bif (inb 1 3) then (bif (inb 2 3) then (bif (inb (IntKind.wrap IntKind.i64 (1 + (sp29 h0 h1))) 3) then Kr (D.p (sp61 ((D.setP [2] (D.setP [1] (D.ag [(D.b false), (D.b false), (D.b false)]) (D.b true)) (D.b true)).at ((IntKind.wrap IntKind.i64 (1 + (sp29 h0 h1))) : Int).toNat))) h0 h1 else none) else none) else none) else Kr (D.p (D.ag [(D.i 0), (D.i 0), (D.f 0), (D.s [])])) h0 h1))))))
theorem e59_12 (N : Nat) (k : Kn R) (x0 h0 h1 : D) : runC PHI Tb88 N vc59_12 (s59_1 x0 h0 h1) k = m59_12 N x0 h0 h1 (fun x6 h0 h1 => k .ret (s59_2 x6 h0 h1)) := by kernel_rfl
def m59_4 (N : Nat) (x0 h0 h1 : D) (Kr : D → D → D → Option R) : Option R :=
  (m59_5 N x0 h0 h1 (fun y0 h0 h1 => (m59_12 N y0 h0 h1 Kr)) Kr)
theorem e59_4 (N : Nat) (k : Kn R) (x0 h0 h1 : D) : runC PHI Tb88 N vc59_4 (s59_1 x0 h0 h1) k = m59_4 N x0 h0 h1 (fun x6 h0 h1 => k .ret (s59_2 x6 h0 h1)) := by
  have h2 := e59_5 N (kseq PHI Tb88 N vc59_12 k) x0 h0 h1
  have h3 := (funext fun y0 => funext fun h0 => funext fun h1 => (e59_12 N k y0 h0 h1) : (fun (y0 h0 h1 : D) => (kseq PHI Tb88 N vc59_12 k) .normal (s59_1 y0 h0 h1)) = _)
  refine Eq.trans (runC_seq _ _ _ k) (Eq.trans h2 (Eq.trans (congrArg (fun K => m59_5 N x0 h0 h1 K (fun x6 h0 h1 => (kseq PHI Tb88 N vc59_12 k) .ret (s59_2 x6 h0 h1))) h3) (by kernel_rfl)))
def m59_2 (N : Nat) (x0 h0 h1 : D) (Kr : D → D → D → Option R) : Option R :=
  (m59_3 N x0 h0 h1 (fun y0 h0 h1 => (m59_4 N y0 h0 h1 Kr)))
theorem e59_2 (N : Nat) (k : Kn R) (x0 h0 h1 : D) : runC PHI Tb88 N vc59_2 (s59_1 x0 h0 h1) k = m59_2 N x0 h0 h1 (fun x6 h0 h1 => k .ret (s59_2 x6 h0 h1)) := by
  have h2 := e59_3 N (kseq PHI Tb88 N vc59_4 k) x0 h0 h1
  have h3 := (funext fun y0 => funext fun h0 => funext fun h1 => (e59_4 N k y0 h0 h1) : (fun (y0 h0 h1 : D) => (kseq PHI Tb88 N vc59_4 k) .normal (s59_1 y0 h0 h1)) = _)
  refine Eq.trans (runC_seq _ _ _ k) (Eq.trans h2 (Eq.trans (congrArg (fun K => m59_3 N x0 h0 h1 K) h3) (by kernel_rfl)))
def m59_0 (N : Nat) (x0 x1 x2 : D) (Kr : D → D → D → Option R) : Option R :=
  (m59_1 N x0 x1 x2 (fun y0 h0 h1 => (m59_2 N y0 h0 h1 Kr)))
theorem e59_0 (N : Nat) (k : Kn R) (x0 x1 x2 : D) : runC PHI Tb88 N vc59_0 (s59_0 x0 x1 x2) k = m59_0 N x0 x1 x2 (fun x6 h0 h1 => k .ret (s59_2 x6 h0 h1)) := by
  have h2 := e59_1 N (kseq PHI Tb88 N vc59_2 k) x0 x1 x2
  have h3 := (funext fun y0 => funext fun h0 => funext fun h1 => (e59_2 N k y0 h0 h1) : (fun (y0 h0 h1 : D) => (kseq PHI Tb88 N vc59_2 k) .normal (s59_1 y0 h0 h1)) = _)
  refine Eq.trans (runC_seq _ _ _ k) (Eq.trans h2 (Eq.trans (congrArg (fun K => m59_1 N x0 x1 x2 K) h3) (by kernel_rfl)))
theorem r59 (N : Nat) (x0 x1 x2 : D) : runC PHI Tb88 N vf59.body (enterV vf59 [V.f x0, V.f x1, V.f x2] []) (finish vf59) = m59_0 N x0 x1 x2 (fun x6 h0 h1 => finish vf59 .ret (s59_2 x6 h0 h1)) := 
  Eq.trans (runC_pre (s1 := (s59_0 x0 x1 x2)) (by kernel_rfl) _ _) (Eq.trans (e59_0 N (finish vf59) x0 x1 x2) (by kernel_rfl))
end
def Tb59 : CallF := extend Tb88 59 (fn3 (fun _ _ _ => true) fun o x y => .f (sp59 o x y))
theorem ok59 : FnOk Try.prog PHI Tb59 := FnOk.add3 hPHI ok88 (by kernel_rfl) fun o x y _ _ => ⟨0, (r59 0 o x y).trans (by
  simp only [m59_1, m59_3, m59_5, m59_12, m59_4, m59_2, m59_0, sp59, cmA]
  have hc := three_29 (sp30 x) (sp30 y)
  generalize sp29 (sp30 x) (sp30 y) = c at hc ⊢
  generalize sp30 x = a
  generalize sp30 y = b
  cases eqb (a.at 0).toI (b.at 0).toI
  · rfl
  · cases eqb (a.at 0).toI 0
    · simp only [cond_true, cond_false, Bool.not_true, Bool.or_self]
      rcases hc with rfl | rfl | rfl
      all_goals (
        cases eqL o.toS [61]
        · cases eqL o.toS [60, 62]
          · cases eqL o.toS [60]
            · cases eqL o.toS [60, 61]
              · cases eqL o.toS [62]
                · cases eqL o.toS [62, 61] <;> rfl
                · rfl
              · rfl
            · rfl
          · rfl
        · rfl)
    · rfl)⟩
def mx : D := .i 9223372036854775807
def sub0 (x y : D) : Int := bif eqb y.toI (-9223372036854775808) then (bif sp87_1 x mx then sp87_0 (.i (sp87_0 x mx)) (.i 1) else sp87_0 x mx) else sp87_0 x (.i (w64 (0 - y.toI)))
def sub1 (x y : D) : Bool := bif eqb y.toI (-9223372036854775808) then (bif sp87_1 x mx then sp87_1 (.i (sp87_0 x mx)) (.i 1) else (bif ltb x.toI 0 then false else sp87_1 x mx)) else sp87_1 x (.i (w64 (0 - y.toI)))
def ari0 (o x y : D) : Int := bif eqL o.toS [43] then sp87_0 x y else bif eqL o.toS [45] then sub0 x y else bif eqL o.toS [42] then sp88_0 x y else 0
def ari1 (o x y : D) : Bool := bif eqL o.toS [43] then sp87_1 x y else bif eqL o.toS [45] then sub1 x y else bif eqL o.toS [42] then sp88_1 x y else false
def rl (f : D) : D := sp30 (.ag [.i 2, .i 0, f, .s []])
def arG (o a b : D) : D := bif eqL o.toS [43] then rl (F2.ev .fadd a b) else bif eqL o.toS [45] then rl (F2.ev .fsub a b) else bif eqL o.toS [42] then rl (F2.ev .fmul a b) else z0
def arB (o a b : D) : D := bif eqb (a.at 0).toI 1 && eqb (b.at 0).toI 1 then (bif ari1 o (a.at 1) (b.at 1) then sp74 (.i (ari0 o (a.at 1) (b.at 1))) else z0) else bif eqb (a.at 0).toI 2 && eqb (b.at 0).toI 2 then arG o (a.at 2) (b.at 2) else z0
def sp60 (o x y : D) : D := arB o (sp30 x) (sp30 y)
section
variable {R : Type}
def m60_1 (N : Nat) (x0 x1 x2 : D) (K : D → D → D → Option R) : Option R :=
  K x0 x1 x2
def s60_0 (x0 x1 x2 : D) : St := sts 113 [(0, V.f x0), (1, V.f x1), (2, V.f x2)] [V.u, V.u]
def s60_1 (x0 h0 h1 : D) : St := sts 113 [(0, V.f x0), (4, V.m 0 []), (5, V.m 1 []), (6, V.a)] [V.f h0, V.f h1]
theorem e60_1 (N : Nat) (k : Kn R) (x0 x1 x2 : D) : runC PHI Tb59 N vc60_1 (s60_0 x0 x1 x2) k = m60_1 N x0 x1 x2 (fun x0 h0 h1 => k .normal (s60_1 x0 h0 h1)) := by
  refine Eq.trans (runC_post _ _ _ k) (Eq.trans (ops_run _ _ _ _) (by kernel_rfl))
def m60_3 (N : Nat) (x0 h0 h1 : D) (K : D → D → D → Option R) : Option R :=
  K x0 (sp30 h0) (sp30 h1)
theorem e60_3 (N : Nat) (k : Kn R) (x0 h0 h1 : D) : runC PHI Tb59 N vc60_3 (s60_1 x0 h0 h1) k = m60_3 N x0 h0 h1 (fun x0 h0 h1 => k .normal (s60_1 x0 h0 h1)) := by
  refine Eq.trans (runC_post _ _ _ k) (Eq.trans (ops_run _ _ _ _) (by kernel_rfl))
def m60_6 (N : Nat) (x0 h0 h1 : D) (K : D → D → D → D → Option R) : Option R :=
  (bif (eqb (h0.at 0).toI 1) then K x0 (D.b (eqb (h1.at 0).toI 1)) h0 h1 else K x0 (D.b false) h0 h1)
def s60_2 (x0 x20 h0 h1 : D) : St := sts 113 [(0, V.f x0), (4, V.m 0 []), (5, V.m 1 []), (6, V.a), (20, V.f x20)] [V.f h0, V.f h1]
theorem e60_6 (N : Nat) (k : Kn R) (x0 h0 h1 : D) : runC PHI Tb59 N vc60_6 (s60_1 x0 h0 h1) k = m60_6 N x0 h0 h1 (fun x0 x20 h0 h1 => k .normal (s60_2 x0 x20 h0 h1)) := by
  refine Eq.trans (runC_post _ _ _ k) (Eq.trans (ops_run _ _ _ _) (by kernel_rfl))
def m60_9 (N : Nat) (x0 h0 h1 : D) (K : D → D → D → D → D → Option R) : Option R :=
  K x0 (D.i 0) (D.b false) h0 h1
def s60_3 (x0 x7 x8 h0 h1 : D) : St := sts 113 [(0, V.f x0), (4, V.m 0 []), (5, V.m 1 []), (6, V.a), (7, V.f x7), (8, V.f x8)] [V.f h0, V.f h1]
theorem e60_9 (N : Nat) (k : Kn R) (x0 h0 h1 : D) : runC PHI Tb59 N vc60_9 (s60_1 x0 h0 h1) k = m60_9 N x0 h0 h1 (fun x0 x7 x8 h0 h1 => k .normal (s60_3 x0 x7 x8 h0 h1)) := by
  refine Eq.trans (runC_post _ _ _ k) (Eq.trans (ops_run _ _ _ _) (by kernel_rfl))
def m60_11 (N : Nat) (x0 x7 x8 h0 h1 : D) (K : D → D → D → D → Option R) : Option R :=
  (bif (eqL x0.toS [43]) then K (D.i (sp87_0 (h0.at 1) (h1.at 1))) (D.b (sp87_1 (h0.at 1) (h1.at 1))) h0 h1 else (bif (eqL x0.toS [45]) then (bif (eqb (h1.at 1).toI (-9223372036854775808)) then (bif (sp87_1 (h0.at 1) (D.i 9223372036854775807)) then K (D.i (sp87_0 (D.i (sp87_0 (h0.at 1) (D.i 9223372036854775807))) (D.i 1))) (D.b (sp87_1 (D.i (sp87_0 (h0.at 1) (D.i 9223372036854775807))) (D.i 1))) h0 h1 else (bif (ltb (h0.at 1).toI 0) then K (D.i (sp87_0 (h0.at 1) (D.i 9223372036854775807))) (D.b false) h0 h1 else K (D.i (sp87_0 (h0.at 1) (D.i 9223372036854775807))) (D.b (sp87_1 (h0.at 1) (D.i 9223372036854775807))) h0 h1)) else K (D.i (sp87_0 (h0.at 1) (D.i (IntKind.wrap IntKind.i64 (0 - (h1.at 1).toI))))) (D.b (sp87_1 (h0.at 1) (D.i (IntKind.wrap IntKind.i64 (0 - (h1.at 1).toI))))) h0 h1) else (bif (eqL x0.toS [42]) then K (D.i (sp88_0 (h0.at 1) (h1.at 1))) (D.b (sp88_1 (h0.at 1) (h1.at 1))) h0 h1 else K x7 x8 h0 h1)))
def s60_4 (x7 x8 h0 h1 : D) : St := sts 113 [(6, V.a), (7, V.f x7), (8, V.f x8)] [V.f h0, V.f h1]
theorem e60_11 (N : Nat) (k : Kn R) (x0 x7 x8 h0 h1 : D) : runC PHI Tb59 N vc60_11 (s60_3 x0 x7 x8 h0 h1) k = m60_11 N x0 x7 x8 h0 h1 (fun x7 x8 h0 h1 => k .normal (s60_4 x7 x8 h0 h1)) := by kernel_rfl
def m60_41 (N : Nat) (x7 x8 h0 h1 : D) (Kr : D → D → D → Option R) : Option R :=
  (bif (!x8.toB) then Kr (D.p (D.ag [(D.i 0), (D.i 0), (D.f 0), (D.s [])])) h0 h1 else Kr (D.p (D.ag [(D.i 1), x7, (D.f 0), (D.s [])])) h0 h1)
def s60_5 (x6 h0 h1 : D) : St := sts 113 [(6, V.f x6)] [V.f h0, V.f h1]
theorem e60_41 (N : Nat) (k : Kn R) (x7 x8 h0 h1 : D) : runC PHI Tb59 N vc60_41 (s60_4 x7 x8 h0 h1) k = m60_41 N x7 x8 h0 h1 (fun x6 h0 h1 => k .ret (s60_5 x6 h0 h1)) := by kernel_rfl
def m60_10 (N : Nat) (x0 x7 x8 h0 h1 : D) (Kr : D → D → D → Option R) : Option R :=
  (m60_11 N x0 x7 x8 h0 h1 (fun y7 y8 h0 h1 => (m60_41 N y7 y8 h0 h1 Kr)))
theorem e60_10 (N : Nat) (k : Kn R) (x0 x7 x8 h0 h1 : D) : runC PHI Tb59 N vc60_10 (s60_3 x0 x7 x8 h0 h1) k = m60_10 N x0 x7 x8 h0 h1 (fun x6 h0 h1 => k .ret (s60_5 x6 h0 h1)) := by
  have h2 := e60_11 N (kseq PHI Tb59 N vc60_41 k) x0 x7 x8 h0 h1
  have h3 := (funext fun y7 => funext fun y8 => funext fun h0 => funext fun h1 => (e60_41 N k y7 y8 h0 h1) : (fun (y7 y8 h0 h1 : D) => (kseq PHI Tb59 N vc60_41 k) .normal (s60_4 y7 y8 h0 h1)) = _)
  refine Eq.trans (runC_seq _ _ _ k) (Eq.trans h2 (Eq.trans (congrArg (fun K => m60_11 N x0 x7 x8 h0 h1 K) h3) (by kernel_rfl)))
def m60_8 (N : Nat) (x0 h0 h1 : D) (Kr : D → D → D → Option R) : Option R :=
  (m60_9 N x0 h0 h1 (fun y0 y7 y8 h0 h1 => (m60_10 N y0 y7 y8 h0 h1 Kr)))
theorem e60_8 (N : Nat) (k : Kn R) (x0 h0 h1 : D) : runC PHI Tb59 N vc60_8 (s60_1 x0 h0 h1) k = m60_8 N x0 h0 h1 (fun x6 h0 h1 => k .ret (s60_5 x6 h0 h1)) := by
  have h2 := e60_9 N (kseq PHI Tb59 N vc60_10 k) x0 h0 h1
  have h3 := (funext fun y0 => funext fun y7 => funext fun y8 => funext fun h0 => funext fun h1 => (e60_10 N k y0 y7 y8 h0 h1) : (fun (y0 y7 y8 h0 h1 : D) => (kseq PHI Tb59 N vc60_10 k) .normal (s60_3 y0 y7 y8 h0 h1)) = _)
  refine Eq.trans (runC_seq _ _ _ k) (Eq.trans h2 (Eq.trans (congrArg (fun K => m60_9 N x0 h0 h1 K) h3) (by kernel_rfl)))
def m60_52 (N : Nat) (x0 h0 h1 : D) (K : D → D → D → Option R) : Option R :=
  K x0 h0 h1
theorem e60_52 (N : Nat) (k : Kn R) (x0 h0 h1 : D) : runC PHI Tb59 N vc60_52 (s60_1 x0 h0 h1) k = m60_52 N x0 h0 h1 (fun x0 h0 h1 => k .normal (s60_1 x0 h0 h1)) := by kernel_rfl
def m60_7 (N : Nat) (x0 x20 h0 h1 : D) (K : D → D → D → Option R) (Kr : D → D → D → Option R) : Option R :=
  (bif x20.toB then (m60_8 N x0 h0 h1 Kr) else (m60_52 N x0 h0 h1 (fun y0 h0 h1 => K y0 h0 h1)))
theorem e60_7 (N : Nat) (k : Kn R) (x0 x20 h0 h1 : D) : runC PHI Tb59 N vc60_7 (s60_2 x0 x20 h0 h1) k = m60_7 N x0 x20 h0 h1 (fun x0 h0 h1 => k .normal (s60_1 x0 h0 h1)) (fun x6 h0 h1 => k .ret (s60_5 x6 h0 h1)) := by
  refine Eq.trans (runC_cond (s1 := (s60_1 x0 h0 h1)) (s2 := (s60_1 x0 h0 h1)) (d := x20) _ _ k (by kernel_rfl) (by kernel_rfl) (by kernel_rfl)) (Eq.trans (congr (congrArg (cond x20.toB) ((e60_8 N k x0 h0 h1))) ((e60_52 N k x0 h0 h1))) (by kernel_rfl))
def m60_5 (N : Nat) (x0 h0 h1 : D) (K : D → D → D → Option R) (Kr : D → D → D → Option R) : Option R :=
  (m60_6 N x0 h0 h1 (fun y0 y20 h0 h1 => (m60_7 N y0 y20 h0 h1 (fun y0 h0 h1 => K y0 h0 h1) Kr)))
theorem e60_5 (N : Nat) (k : Kn R) (x0 h0 h1 : D) : runC PHI Tb59 N vc60_5 (s60_1 x0 h0 h1) k = m60_5 N x0 h0 h1 (fun x0 h0 h1 => k .normal (s60_1 x0 h0 h1)) (fun x6 h0 h1 => k .ret (s60_5 x6 h0 h1)) := by
  have h2 := e60_6 N (kseq PHI Tb59 N vc60_7 k) x0 h0 h1
  have h3 := (funext fun y0 => funext fun y20 => funext fun h0 => funext fun h1 => (e60_7 N k y0 y20 h0 h1) : (fun (y0 y20 h0 h1 : D) => (kseq PHI Tb59 N vc60_7 k) .normal (s60_2 y0 y20 h0 h1)) = _)
  refine Eq.trans (runC_seq _ _ _ k) (Eq.trans h2 (Eq.trans (congrArg (fun K => m60_6 N x0 h0 h1 K) h3) (by kernel_rfl)))
def m60_55 (N : Nat) (x0 h0 h1 : D) (K : D → D → D → D → Option R) : Option R :=
  (bif (eqb (h0.at 0).toI 2) then K x0 (D.b (eqb (h1.at 0).toI 2)) h0 h1 else K x0 (D.b false) h0 h1)
def s60_6 (x0 x83 h0 h1 : D) : St := sts 113 [(0, V.f x0), (4, V.m 0 []), (5, V.m 1 []), (6, V.a), (83, V.f x83)] [V.f h0, V.f h1]
theorem e60_55 (N : Nat) (k : Kn R) (x0 h0 h1 : D) : runC PHI Tb59 N vc60_55 (s60_1 x0 h0 h1) k = m60_55 N x0 h0 h1 (fun x0 x83 h0 h1 => k .normal (s60_6 x0 x83 h0 h1)) := by
  refine Eq.trans (runC_post _ _ _ k) (Eq.trans (ops_run _ _ _ _) (by kernel_rfl))
def m60_56 (N : Nat) (x0 x83 h0 h1 : D) (K : D → D → Option R) (Kr : D → D → D → Option R) : Option R :=
  (bif x83.toB then (bif (eqL x0.toS [43]) then Kr (D.p (sp30 (D.ag [(D.i 2), (D.i 0), (F2.ev .fadd (h0.at 2) (h1.at 2)), (D.s [])]))) h0 h1 else (bif (eqL x0.toS [45]) then Kr (D.p (sp30 (D.ag [(D.i 2), (D.i 0), (F2.ev .fsub (h0.at 2) (h1.at 2)), (D.s [])]))) h0 h1 else (bif (eqL x0.toS [42]) then Kr (D.p (sp30 (D.ag [(D.i 2), (D.i 0), (F2.ev .fmul (h0.at 2) (h1.at 2)), (D.s [])]))) h0 h1 else K h0 h1))) else K h0 h1)
def s60_7 (h0 h1 : D) : St := sts 113 [(6, V.a)] [V.f h0, V.f h1]
theorem e60_56 (N : Nat) (k : Kn R) (x0 x83 h0 h1 : D) : runC PHI Tb59 N vc60_56 (s60_6 x0 x83 h0 h1) k = m60_56 N x0 x83 h0 h1 (fun h0 h1 => k .normal (s60_7 h0 h1)) (fun x6 h0 h1 => k .ret (s60_5 x6 h0 h1)) := by kernel_rfl
def m60_54 (N : Nat) (x0 h0 h1 : D) (K : D → D → Option R) (Kr : D → D → D → Option R) : Option R :=
  (m60_55 N x0 h0 h1 (fun y0 y83 h0 h1 => (m60_56 N y0 y83 h0 h1 (fun h0 h1 => K h0 h1) Kr)))
theorem e60_54 (N : Nat) (k : Kn R) (x0 h0 h1 : D) : runC PHI Tb59 N vc60_54 (s60_1 x0 h0 h1) k = m60_54 N x0 h0 h1 (fun h0 h1 => k .normal (s60_7 h0 h1)) (fun x6 h0 h1 => k .ret (s60_5 x6 h0 h1)) := by
  have h2 := e60_55 N (kseq PHI Tb59 N vc60_56 k) x0 h0 h1
  have h3 := (funext fun y0 => funext fun y83 => funext fun h0 => funext fun h1 => (e60_56 N k y0 y83 h0 h1) : (fun (y0 y83 h0 h1 : D) => (kseq PHI Tb59 N vc60_56 k) .normal (s60_6 y0 y83 h0 h1)) = _)
  refine Eq.trans (runC_seq _ _ _ k) (Eq.trans h2 (Eq.trans (congrArg (fun K => m60_55 N x0 h0 h1 K) h3) (by kernel_rfl)))
def m60_80 (N : Nat) (h0 h1 : D) (Kr : D → D → D → Option R) : Option R :=
  Kr (D.p (D.ag [(D.i 0), (D.i 0), (D.f 0), (D.s [])])) h0 h1
theorem e60_80 (N : Nat) (k : Kn R) (h0 h1 : D) : runC PHI Tb59 N vc60_80 (s60_7 h0 h1) k = m60_80 N h0 h1 (fun x6 h0 h1 => k .ret (s60_5 x6 h0 h1)) := by kernel_rfl
def m60_53 (N : Nat) (x0 h0 h1 : D) (Kr : D → D → D → Option R) : Option R :=
  (m60_54 N x0 h0 h1 (fun h0 h1 => (m60_80 N h0 h1 Kr)) Kr)
theorem e60_53 (N : Nat) (k : Kn R) (x0 h0 h1 : D) : runC PHI Tb59 N vc60_53 (s60_1 x0 h0 h1) k = m60_53 N x0 h0 h1 (fun x6 h0 h1 => k .ret (s60_5 x6 h0 h1)) := by
  have h2 := e60_54 N (kseq PHI Tb59 N vc60_80 k) x0 h0 h1
  have h3 := (funext fun h0 => funext fun h1 => (e60_80 N k h0 h1) : (fun (h0 h1 : D) => (kseq PHI Tb59 N vc60_80 k) .normal (s60_7 h0 h1)) = _)
  refine Eq.trans (runC_seq _ _ _ k) (Eq.trans h2 (Eq.trans (congrArg (fun K => m60_54 N x0 h0 h1 K (fun x6 h0 h1 => (kseq PHI Tb59 N vc60_80 k) .ret (s60_5 x6 h0 h1))) h3) (by kernel_rfl)))
def m60_4 (N : Nat) (x0 h0 h1 : D) (Kr : D → D → D → Option R) : Option R :=
  (m60_5 N x0 h0 h1 (fun y0 h0 h1 => (m60_53 N y0 h0 h1 Kr)) Kr)
theorem e60_4 (N : Nat) (k : Kn R) (x0 h0 h1 : D) : runC PHI Tb59 N vc60_4 (s60_1 x0 h0 h1) k = m60_4 N x0 h0 h1 (fun x6 h0 h1 => k .ret (s60_5 x6 h0 h1)) := by
  have h2 := e60_5 N (kseq PHI Tb59 N vc60_53 k) x0 h0 h1
  have h3 := (funext fun y0 => funext fun h0 => funext fun h1 => (e60_53 N k y0 h0 h1) : (fun (y0 h0 h1 : D) => (kseq PHI Tb59 N vc60_53 k) .normal (s60_1 y0 h0 h1)) = _)
  refine Eq.trans (runC_seq _ _ _ k) (Eq.trans h2 (Eq.trans (congrArg (fun K => m60_5 N x0 h0 h1 K (fun x6 h0 h1 => (kseq PHI Tb59 N vc60_53 k) .ret (s60_5 x6 h0 h1))) h3) (by kernel_rfl)))
def m60_2 (N : Nat) (x0 h0 h1 : D) (Kr : D → D → D → Option R) : Option R :=
  (m60_3 N x0 h0 h1 (fun y0 h0 h1 => (m60_4 N y0 h0 h1 Kr)))
theorem e60_2 (N : Nat) (k : Kn R) (x0 h0 h1 : D) : runC PHI Tb59 N vc60_2 (s60_1 x0 h0 h1) k = m60_2 N x0 h0 h1 (fun x6 h0 h1 => k .ret (s60_5 x6 h0 h1)) := by
  have h2 := e60_3 N (kseq PHI Tb59 N vc60_4 k) x0 h0 h1
  have h3 := (funext fun y0 => funext fun h0 => funext fun h1 => (e60_4 N k y0 h0 h1) : (fun (y0 h0 h1 : D) => (kseq PHI Tb59 N vc60_4 k) .normal (s60_1 y0 h0 h1)) = _)
  refine Eq.trans (runC_seq _ _ _ k) (Eq.trans h2 (Eq.trans (congrArg (fun K => m60_3 N x0 h0 h1 K) h3) (by kernel_rfl)))
def m60_0 (N : Nat) (x0 x1 x2 : D) (Kr : D → D → D → Option R) : Option R :=
  (m60_1 N x0 x1 x2 (fun y0 h0 h1 => (m60_2 N y0 h0 h1 Kr)))
theorem e60_0 (N : Nat) (k : Kn R) (x0 x1 x2 : D) : runC PHI Tb59 N vc60_0 (s60_0 x0 x1 x2) k = m60_0 N x0 x1 x2 (fun x6 h0 h1 => k .ret (s60_5 x6 h0 h1)) := by
  have h2 := e60_1 N (kseq PHI Tb59 N vc60_2 k) x0 x1 x2
  have h3 := (funext fun y0 => funext fun h0 => funext fun h1 => (e60_2 N k y0 h0 h1) : (fun (y0 h0 h1 : D) => (kseq PHI Tb59 N vc60_2 k) .normal (s60_1 y0 h0 h1)) = _)
  refine Eq.trans (runC_seq _ _ _ k) (Eq.trans h2 (Eq.trans (congrArg (fun K => m60_1 N x0 x1 x2 K) h3) (by kernel_rfl)))
theorem r60 (N : Nat) (x0 x1 x2 : D) : runC PHI Tb59 N vf60.body (enterV vf60 [V.f x0, V.f x1, V.f x2] []) (finish vf60) = m60_0 N x0 x1 x2 (fun x6 h0 h1 => finish vf60 .ret (s60_5 x6 h0 h1)) := 
  Eq.trans (runC_pre (s1 := (s60_0 x0 x1 x2)) (by kernel_rfl) _ _) (Eq.trans (e60_0 N (finish vf60) x0 x1 x2) (by kernel_rfl))
end
def Tb60 : CallF := extend Tb59 60 (fn3 (fun _ _ _ => true) fun o x y => .f (sp60 o x y))
theorem ok60 : FnOk Try.prog PHI Tb60 := FnOk.add3 hPHI ok59 (by kernel_rfl) fun o x y _ _ => ⟨0, (r60 0 o x y).trans (by
  simp only [m60_1, m60_3, m60_6, m60_9, m60_11, m60_41, m60_10, m60_8, m60_52, m60_7, m60_5, m60_55, m60_56, m60_54, m60_80, m60_53, m60_4, m60_2, m60_0, toB_b, sp60]
  generalize sp30 x = a
  generalize sp30 y = b
  unfold arB arG ari0 ari1 sub0 sub1 mx w64 rl
  by_cases h1 : (a.at 0).toI = 1
  · have h2 : ¬ (a.at 0).toI = 2 := by omega
    rw [eqb_t h1, eqb_f h2]
    cases eqb (b.at 0).toI 1
    · rfl
    · simp only [cond_true, Bool.and_self]
      cases eqL o.toS [43]
      · cases eqL o.toS [45]
        · cases eqL o.toS [42]
          · rfl
          · simp only [cond_true, cond_false]
            cases sp88_1 (a.at 1) (b.at 1) <;> rfl
        · simp only [cond_true, cond_false]
          cases eqb (b.at 1).toI (-9223372036854775808)
          · simp only [cond_false, toB_b]
            cases sp87_1 (a.at 1) (.i (IntKind.wrap IntKind.i64 (0 - (b.at 1).toI))) <;> rfl
          · simp only [cond_true]
            cases h5 : sp87_1 (a.at 1) (.i 9223372036854775807)
            · simp only [cond_false]
              cases ltb (a.at 1).toI 0
              · simp only [cond_false, toB_b]; rfl
              · rfl
            · simp only [cond_true, toB_b]
              cases sp87_1 (.i (sp87_0 (a.at 1) (.i 9223372036854775807))) (.i 1) <;> rfl
      · simp only [cond_true, toB_b]
        cases sp87_1 (a.at 1) (b.at 1) <;> rfl
  · rw [eqb_f h1]
    cases eqb (a.at 0).toI 2
    · rfl
    · cases eqb (b.at 0).toI 2
      · rfl
      · simp only [cond_true, cond_false, Bool.and_self, Bool.false_and, toB_b]
        cases eqL o.toS [43]
        · cases eqL o.toS [45]
          · cases eqL o.toS [42] <;> rfl
          · rfl
        · rfl)⟩

end Go.Vam.C14
namespace Go.Vam.C14
open Go.Proofs
/-! ### Two values that are one, up to which NaN it is -/
structure Q (x y : D) : Prop where
  k : (x.at 0).toI = (y.at 0).toI
  n : (x.at 1).toI = (y.at 1).toI
  f : FEq (x.at 2).toF (y.at 2).toF
  s : (x.at 3).toS = (y.at 3).toS
  r : -9223372036854775808 ≤ (x.at 1).toI ∧ (x.at 1).toI ≤ 9223372036854775807
theorem FEq.rfl' (n : Nat) : FEq n n := .inl rfl
theorem Q_z : Q z0 z0 := ⟨rfl, rfl, .inl rfl, rfl, by decide⟩
theorem Q_b (b : Bool) : Q (sp53 (.b b)) (sp61 (.b b)) := ⟨rfl, rfl, .inl rfl, rfl, by cases b <;> decide⟩
theorem Q_b' (b : Bool) : Q (sp53 (.b b)) (sp53 (.b b)) := Q_b b
theorem nan_feq {x y : D} (h : FEq x.toF y.toF) : nan x = nan y := by
  unfold nan
  rcases h with h | ⟨h1, h2⟩
  · rw [h]
  · rw [h1, h2]
theorem fe_feq {x y : D} (h : FEq x.toF y.toF) : Fe x y := ⟨nan_feq h, fun c => (FEq.order h (.inl rfl)).symm, fun c => (FEq.order (.inl rfl) h).symm⟩
theorem canon_cl {x y : D} (h : FEq x.toF y.toF) : FEq (canon x).toF (cl y).toF := by
  have hf := fe_feq h
  unfold canon cl
  rw [s64, feq_o, fne_o, ← hf.l]
  cases hn : nan x
  · simp only [cond_false]
    cases (oo x (.f 0) == some .eq)
    · exact h
    · exact .inl rfl
  · simp only [cond_true]
    rw [(oo_none x (.f 0)).2 (.inl hn)]
    exact .inr ⟨nan98, (hf.n ▸ hn : nan y = true)⟩
theorem Q.clean {x y : D} (h : Q x y) : Q (sp46 x) (sp30 y) := by
  rcases five x with (hk | hk | hk | hk) | hk
  · have e : sp46 x = sp74 (x.at 1) := by unfold sp46; rw [hk]; rfl
    have hk' : (y.at 0).toI = 1 := h.k ▸ hk
    have e' : sp30 y = .ag [y.at 0, y.at 1, .f 0, .s []] := by unfold sp30; rw [hk']; rfl
    rw [e, e']
    exact ⟨hk'.symm, h.n, .inl rfl, rfl, h.r⟩
  · have e : sp46 x = sp81 (x.at 2) := by unfold sp46; rw [hk]; rfl
    have hk' : (y.at 0).toI = 2 := h.k ▸ hk
    have e' : sp30 y = .ag [y.at 0, .i 0, cl (y.at 2), .s []] := by unfold sp30 cl; rw [hk']; rfl
    rw [e, e']
    exact ⟨hk'.symm, rfl, canon_cl h.f, rfl, show (-9223372036854775808 : Int) ≤ 0 ∧ (0 : Int) ≤ 9223372036854775807 by decide⟩
  · have e : sp46 x = sp82 (x.at 3) := by unfold sp46; rw [hk]; rfl
    have hk' : (y.at 0).toI = 3 := h.k ▸ hk
    have e' : sp30 y = .ag [y.at 0, .i 0, .f 0, y.at 3] := by unfold sp30; rw [hk']; rfl
    rw [e, e']
    exact ⟨hk'.symm, rfl, .inl rfl, h.s, show (-9223372036854775808 : Int) ≤ 0 ∧ (0 : Int) ≤ 9223372036854775807 by decide⟩
  · have e : sp46 x = sp53 (.b (!eqb (x.at 1).toI 0)) := by unfold sp46; rw [hk]; rfl
    have hk' : (y.at 0).toI = 4 := h.k ▸ hk
    have e' : sp30 y = .ag [y.at 0, .i (bif !eqb (y.at 1).toI 0 then 1 else 0), .f 0, .s []] := by unfold sp30; rw [hk']; rfl
    rw [e, e', h.n]
    exact ⟨hk'.symm, rfl, .inl rfl, rfl, by
      show -9223372036854775808 ≤ (bif !eqb (y.at 1).toI 0 then (1 : Int) else 0) ∧ (bif !eqb (y.at 1).toI 0 then (1 : Int) else 0) ≤ 9223372036854775807
      cases eqb (y.at 1).toI 0 <;> decide⟩
  · have e : sp46 x = z0 := by unfold sp46; rw [eqb_f hk.1, eqb_f hk.2.1, eqb_f hk.2.2.1, eqb_f hk.2.2.2]; rfl
    rw [e]
    have hk2 := hk
    rw [h.k] at hk2
    by_cases h0 : (y.at 0).toI = 0
    · have e' : sp30 y = .ag [y.at 0, .i 0, .f 0, .s []] := by unfold sp30; rw [h0]; rfl
      rw [e']
      exact ⟨h0.symm, rfl, .inl rfl, rfl, by decide⟩
    · have e' : sp30 y = z0 := by
        unfold sp30
        by_cases h1 : (y.at 0).toI < 0
        · rw [ltb_t h1]; rfl
        · rw [ltb_f h1, ltb_t (show 4 < (y.at 0).toI by omega)]; rfl
      rw [e']
      exact Q_z
theorem T_Q {x y u v : D} (h : Q x y) (h' : Q u v) : T x u = T y v := by
  have k1 : kd x = kd y := by unfold kd; rw [h.k]
  have k2 : kd u = kd v := by unfold kd; rw [h'.k]
  have n1 : num x = num y := by unfold num; rw [h.k, h.n]
  have n2 : num u = num v := by unfold num; rw [h'.k, h'.n]
  unfold T
  rw [k1, k2, n1, n2, h.s, h'.s, G_fe (fe_feq h.f) (fe_feq h'.f)]
/-! ### Truths -/
theorem Q_not {x y : D} (h : Q x y) : Q (sp48 x) (sp56 y) := by
  unfold sp48 sp56 sp83 sp63
  rw [← h.k, ← h.n]
  cases eqb (x.at 0).toI 4
  · exact Q_z
  · cases eqb (x.at 1).toI 0
    · exact Q_b false
    · exact Q_b true
theorem Q_and {x y u v : D} (h : Q x y) (h' : Q u v) : Q (sp49 x u) (sp57 y v) := by
  unfold sp49 sp57 sp83 sp63
  rw [← h.k, ← h.n, ← h'.k, ← h'.n]
  cases eqb (x.at 0).toI 4 <;> cases eqb (u.at 0).toI 4 <;> cases eqb (x.at 1).toI 0 <;> cases eqb (u.at 1).toI 0 <;> first | exact Q_z | exact Q_b false | exact Q_b true
theorem t48 (x : D) : sp83 (sp48 x) = bif eqb (x.at 0).toI 4 then (bif eqb (x.at 1).toI 0 then 1 else 0) else -1 := by
  unfold sp48
  have : sp83 x = bif !eqb (x.at 0).toI 4 then -1 else bif !eqb (x.at 1).toI 0 then 1 else 0 := rfl
  rw [this]
  cases eqb (x.at 0).toI 4 <;> cases eqb (x.at 1).toI 0 <;> rfl
theorem Q_or {x y u v : D} (h : Q x y) (h' : Q u v) : Q (sp50 x u) (sp58 y v) := by
  unfold sp50 sp58
  have e : sp49 (sp48 x) (sp48 u) = bif eqb (sp83 (sp48 x)) 0 || eqb (sp83 (sp48 u)) 0 then sp84 (.i 0) else bif ltb (sp83 (sp48 x)) 0 || ltb (sp83 (sp48 u)) 0 then sp84 (.i (-1)) else sp84 (.i 1) := rfl
  rw [e, t48, t48]
  unfold sp63
  rw [← h.k, ← h.n, ← h'.k, ← h'.n]
  cases eqb (x.at 0).toI 4 <;> cases eqb (u.at 0).toI 4 <;> cases eqb (x.at 1).toI 0 <;> cases eqb (u.at 1).toI 0 <;> first | exact Q_z | exact Q_b false | exact Q_b true
theorem Q_cm (o : D) (c : Int) : Q (cmA o c) (cmA o c) := by
  unfold cmA
  cases eqL o.toS [61]
  · cases eqL o.toS [60, 62]
    · cases eqL o.toS [60]
      · cases eqL o.toS [60, 61]
        · cases eqL o.toS [62]
          · cases eqL o.toS [62, 61]
            · exact Q_z
            · exact Q_b' _
          · exact Q_b' _
        · exact Q_b' _
      · exact Q_b' _
    · exact Q_b' _
  · exact Q_b' _
theorem Q_cmp (o : D) {x y u v : D} (h : Q x y) (h' : Q u v) : Q (sp51 o x u) (sp59 o y v) := by
  unfold sp51 sp59
  rw [t27, t29, T_Q h h', h.clean.k, h'.clean.k, Bool.or_comm]
  cases (!eqb ((sp30 y).at 0).toI ((sp30 v).at 0).toI || eqb ((sp30 y).at 0).toI 0)
  · exact Q_cm _ _
  · exact Q_z
/-! ### Whole numbers -/
def inR (z : Int) : Bool := leb (-9223372036854775808) z && leb z 9223372036854775807
def rs (z : Int) : D := bif inR z then sp74 (.i z) else z0
theorem inR_t {z : Int} (h : -9223372036854775808 ≤ z) (h' : z ≤ 9223372036854775807) : inR z = true := by unfold inR; rw [leb_t h, leb_t h']; rfl
theorem inR_f {z : Int} (h : z < -9223372036854775808 ∨ 9223372036854775807 < z) : inR z = false := by
  unfold inR
  rcases h with h | h
  · rw [leb_f (by omega)]; rfl
  · rw [leb_f (show ¬ z ≤ 9223372036854775807 by omega), Bool.and_false]
theorem w64e (n : Int) : w64 n = (n + 9223372036854775808) % 18446744073709551616 - 9223372036854775808 := wrap64 n
theorem add85 {a b : Int} (ha : -9223372036854775808 ≤ a ∧ a ≤ 9223372036854775807) (hb : -9223372036854775808 ≤ b ∧ b ≤ 9223372036854775807) :
    (bif (ltb a (w64 (a + b)) == ltb 0 b) then sp74 (.i (w64 (a + b))) else z0) = rs (a + b) := by
  unfold rs
  by_cases hin : -9223372036854775808 ≤ a + b ∧ a + b ≤ 9223372036854775807
  · rw [inR_t hin.1 hin.2]
    have e : w64 (a + b) = a + b := wrap64_id hin.1 hin.2
    rw [e]
    by_cases h0 : 0 < b
    · rw [ltb_t h0, ltb_t (show a < a + b by omega)]; rfl
    · rw [ltb_f h0, ltb_f (show ¬ a < a + b by omega)]; rfl
  · rw [inR_f (by omega)]
    have e := w64e (a + b)
    by_cases h0 : 0 < b
    · rw [ltb_t h0, ltb_f (show ¬ a < w64 (a + b) by omega)]; rfl
    · rw [ltb_f h0, ltb_t (show a < w64 (a + b) by omega)]; rfl
theorem sub85 {a b : Int} (ha : -9223372036854775808 ≤ a ∧ a ≤ 9223372036854775807) (hb : -9223372036854775808 ≤ b ∧ b ≤ 9223372036854775807) :
    (bif (ltb (w64 (a - b)) a == ltb 0 b) then sp74 (.i (w64 (a - b))) else z0) = rs (a - b) := by
  unfold rs
  by_cases hin : -9223372036854775808 ≤ a - b ∧ a - b ≤ 9223372036854775807
  · rw [inR_t hin.1 hin.2]
    have e : w64 (a - b) = a - b := wrap64_id hin.1 hin.2
    rw [e]
    by_cases h0 : 0 < b
    · rw [ltb_t h0, ltb_t (show a - b < a by omega)]; rfl
    · rw [ltb_f h0, ltb_f (show ¬ a - b < a by omega)]; rfl
  · rw [inR_f (by omega)]
    have e := w64e (a - b)
    by_cases h0 : 0 < b
    · rw [ltb_t h0, ltb_f (show ¬ w64 (a - b) < a by omega)]; rfl
    · rw [ltb_f h0, ltb_t (show w64 (a - b) < a by omega)]; rfl
theorem mul_big {a b : Int} (hb : b ≠ 0) {n : Int} (h : Int.tdiv n b = a) (hr : -9223372036854775808 ≤ n ∧ n ≤ 9223372036854775807) : (n - a * b).natAbs < b.natAbs := by
  have e : n - a * b = Int.tmod n b := by
    have := Int.tmod_add_mul_tdiv n b
    rw [h, Int.mul_comm] at this
    omega
  rw [e, Int.natAbs_tmod]
  exact Nat.mod_lt _ (by omega)
theorem mul85 {a b : Int} (ha : -9223372036854775808 ≤ a ∧ a ≤ 9223372036854775807) (hb : -9223372036854775808 ≤ b ∧ b ≤ 9223372036854775807) :
    (bif (bif eqb a 0 || eqb b 0 then true else mulOk a b) then sp74 (.i (bif eqb a 0 || eqb b 0 then 0 else w64 (a * b))) else z0) = rs (a * b) := by
  by_cases ha0 : a = 0
  · subst ha0; rw [Int.zero_mul]; rfl
  by_cases hb0 : b = 0
  · subst hb0; rw [Int.mul_zero, Bool.or_comm]; rfl
  rw [eqb_f ha0, eqb_f hb0]
  simp only [Bool.or_self, cond_false]
  unfold rs mulOk
  have hw := w64e (a * b)
  by_cases hin : -9223372036854775808 ≤ a * b ∧ a * b ≤ 9223372036854775807
  · rw [inR_t hin.1 hin.2]
    have e : w64 (a * b) = a * b := wrap64_id hin.1 hin.2
    have e2 : Int.tdiv (a * b) b = a := Int.mul_tdiv_cancel a hb0
    have e3 : w64 a = a := wrap64_id ha.1 ha.2
    rw [e, e2, e3, eqb_t rfl]
    have h1 : (eqb a (-1) && eqb b (-9223372036854775808)) = false := by
      by_cases h : a = -1
      · subst h
        rw [eqb_f (show ¬ b = -9223372036854775808 by omega), Bool.and_false]
      · rw [eqb_f h]; rfl
    have h2 : (eqb b (-1) && eqb a (-9223372036854775808)) = false := by
      by_cases h : b = -1
      · subst h
        rw [eqb_f (show ¬ a = -9223372036854775808 by omega), Bool.and_false]
      · rw [eqb_f h]; rfl
    rw [h1, h2]; rfl
  · rw [inR_f (by omega)]
    have hn : -9223372036854775808 ≤ w64 (a * b) ∧ w64 (a * b) ≤ 9223372036854775807 := by omega
    by_cases h1 : a = -1 ∧ b = -9223372036854775808
    · obtain ⟨rfl, rfl⟩ := h1; rfl
    by_cases h2 : b = -1 ∧ a = -9223372036854775808
    · obtain ⟨rfl, rfl⟩ := h2; rfl
    have hdiv : eqb (w64 (Int.tdiv (w64 (a * b)) b)) a = false := by
      refine eqb_f fun he => ?_
      -- the quotient is in range, so it is not wrapped, but for one that is told
      have hq : w64 (Int.tdiv (w64 (a * b)) b) = Int.tdiv (w64 (a * b)) b ∨ (w64 (a * b) = -9223372036854775808 ∧ b = -1) := by
        by_cases hx : w64 (a * b) = -9223372036854775808 ∧ b = -1
        · exact .inr hx
        · refine .inl (wrap64_id ?_ ?_)
          all_goals (
            have hna : (Int.tdiv (w64 (a * b)) b).natAbs = (w64 (a * b)).natAbs / b.natAbs := Int.natAbs_tdiv _ _
            have hle : (w64 (a * b)).natAbs / b.natAbs ≤ (w64 (a * b)).natAbs := Nat.div_le_self _ _
            by_cases hb1 : b.natAbs = 1
            · have hbb : b = 1 ∨ b = -1 := by omega
              rcases hbb with rfl | rfl
              · rw [Int.tdiv_one]; omega
              · have : Int.tdiv (w64 (a * -1)) (-1) = - w64 (a * -1) := by rw [Int.tdiv_neg, Int.tdiv_one]
                omega
            · have hb2 : 2 ≤ b.natAbs := by omega
              have : (w64 (a * b)).natAbs / b.natAbs ≤ (w64 (a * b)).natAbs / 2 := Nat.div_le_div_left hb2 (by omega)
              omega)
      rcases hq with hq | ⟨hq1, hq2⟩
      · rw [hq] at he
        have := mul_big hb0 he hn
        omega
      · subst hq2
        have : a * -1 = -a := by omega
        rw [this] at hq1 hin hw
        omega
    rw [hdiv]; rfl
/-! ### .. the document's -/
theorem wh_rs (below : Bool) (z : Int) (h0 : 0 ≤ z) (h1 : z ≤ 9223372036854775808) : (bif wh1 (some (below, z)) then sp74 (.i (wh0 (some (below, z)))) else z0) = rs (bif below then -z else z) := by
  show (bif sp100_1 (.b below) (.i z) then sp74 (.i (sp100_0 (.b below) (.i z))) else z0) = _
  unfold sp100_1 sp100_0 rs
  simp only [toB_b, toI_i]
  cases below
  · simp only [Bool.false_and, cond_false]
    by_cases h : z < 9223372036854775808
    · rw [ltb_t h, inR_t (by omega) (by omega)]
      have e : w64 z = z := wrap64_id (by omega) (by omega)
      rw [e]
    · rw [ltb_f h, inR_f (by omega)]; rfl
  · simp only [Bool.true_and, cond_true]
    rw [inR_t (by omega) (by omega)]
    by_cases hz : 0 < z
    · rw [ltb_t hz]
      simp only [cond_true]
      rw [leb_t h1, wu_id (by omega) (by omega)]
      have e1 : w64 (z - 1) = z - 1 := wrap64_id (by omega) (by omega)
      have e2 : w64 (0 - (z - 1)) = 0 - (z - 1) := wrap64_id (by omega) (by omega)
      have e3 : w64 (0 - (z - 1) - 1) = 0 - (z - 1) - 1 := wrap64_id (by omega) (by omega)
      rw [e1, e2, e3, show 0 - (z - 1) - 1 = -z by omega]; rfl
    · have : z = 0 := by omega
      subst this; rfl
theorem add87 {x y : D} (ha : -9223372036854775808 ≤ x.toI ∧ x.toI ≤ 9223372036854775807) (hb : -9223372036854775808 ≤ y.toI ∧ y.toI ≤ 9223372036854775807) :
    (bif sp87_1 x y then sp74 (.i (sp87_0 x y)) else z0) = rs (x.toI + y.toI) := by
  unfold sp87_1 sp87_0 addS
  rw [sp99_abs ha, sp99_abs hb]
  generalize x.toI = a at *
  generalize y.toI = b at *
  by_cases h1 : a < 0
  · rw [ltb_t h1, if_pos h1]
    by_cases h2 : b < 0
    · rw [ltb_t h2, if_pos h2]
      simp only [beq_self_eq_true, cond_true]
      rw [wu_id (n := 9223372036854775808 - -b) (by omega) (by omega)]
      by_cases h3 : 9223372036854775808 - -b < -a
      · rw [ltb_t h3]; unfold rs; rw [inR_f (by omega)]; rfl
      · rw [ltb_f h3]
        simp only [cond_false]
        rw [wu_id (by omega) (by omega), wh_rs true _ (by omega) (by omega)]
        simp only [cond_true]
        congr 1; omega
    · rw [ltb_f h2, if_neg h2]
      simp only [show (true == false) = false from rfl, cond_false]
      by_cases h3 : b ≤ -a
      · rw [leb_t h3]
        simp only [cond_true]
        rw [wu_id (by omega) (by omega), wh_rs true _ (by omega) (by omega)]
        simp only [cond_true]
        congr 1; omega
      · rw [leb_f h3]
        simp only [cond_false]
        rw [wu_id (by omega) (by omega), wh_rs false _ (by omega) (by omega)]
        simp only [cond_false]
        congr 1; omega
  · rw [ltb_f h1, if_neg h1]
    by_cases h2 : b < 0
    · rw [ltb_t h2, if_pos h2]
      simp only [show (false == true) = false from rfl, cond_false]
      by_cases h3 : -b ≤ a
      · rw [leb_t h3]
        simp only [cond_true]
        rw [wu_id (by omega) (by omega), wh_rs false _ (by omega) (by omega)]
        simp only [cond_false]
        congr 1; omega
      · rw [leb_f h3]
        simp only [cond_false]
        rw [wu_id (by omega) (by omega), wh_rs true _ (by omega) (by omega)]
        simp only [cond_true]
        congr 1; omega
    · rw [ltb_f h2, if_neg h2]
      simp only [beq_self_eq_true, cond_true]
      rw [wu_id (n := 9223372036854775808 - b) (by omega) (by omega)]
      by_cases h3 : 9223372036854775808 - b < a
      · rw [ltb_t h3]; unfold rs; rw [inR_f (by omega)]; rfl
      · rw [ltb_f h3]
        simp only [cond_false]
        rw [wu_id (by omega) (by omega), wh_rs false _ (by omega) (by omega)]
        simp only [cond_false]
/-- Whether it fits, and what it is then. -/
theorem rs_inv {c : Bool} {n z : Int} (h : (bif c then sp74 (.i n) else z0) = rs z) : c = inR z ∧ (c = true → n = z) := by
  unfold rs at h
  cases c <;> cases hz : inR z <;> rw [hz] at h
  · exact ⟨rfl, fun h => by cases h⟩
  · exfalso
    have := congrArg (fun d => (d.at 0).toI) h
    exact absurd this (show ¬ (0 : Int) = 1 by decide)
  · exfalso
    have := congrArg (fun d => (d.at 0).toI) h
    exact absurd this (show ¬ (1 : Int) = 0 by decide)
  · exact ⟨rfl, fun _ => congrArg (fun d => (d.at 1).toI) h⟩
theorem mx_i : mx.toI = 9223372036854775807 := rfl
theorem sub60 {x y : D} (ha : -9223372036854775808 ≤ x.toI ∧ x.toI ≤ 9223372036854775807) (hb : -9223372036854775808 ≤ y.toI ∧ y.toI ≤ 9223372036854775807) :
    (bif sub1 x y then sp74 (.i (sub0 x y)) else z0) = rs (x.toI - y.toI) := by
  unfold sub1 sub0
  by_cases h : y.toI = -9223372036854775808
  · rw [eqb_t h]
    simp only [cond_true]
    obtain ⟨h1, h2⟩ := rs_inv (add87 (x := x) (y := mx) ha (by rw [mx_i]; omega))
    rw [mx_i] at h1 h2
    by_cases hx : x.toI < 0
    · rw [ltb_t hx]
      have hi : inR (x.toI + 9223372036854775807) = true := inR_t (by omega) (by omega)
      rw [hi] at h1
      have h3 := h2 h1
      rw [h1]
      simp only [cond_true]
      rw [add87 (x := .i (sp87_0 x mx)) (y := .i 1) (by rw [toI_i, h3]; omega) (by rw [toI_i]; omega), toI_i, toI_i, h3, h]
      congr 1; omega
    · rw [ltb_f hx]
      by_cases hx0 : x.toI = 0
      · have hi : inR (x.toI + 9223372036854775807) = true := inR_t (by omega) (by omega)
        rw [hi] at h1
        have h3 := h2 h1
        rw [h1]
        simp only [cond_true]
        rw [add87 (x := .i (sp87_0 x mx)) (y := .i 1) (by rw [toI_i, h3]; omega) (by rw [toI_i]; omega), toI_i, toI_i, h3, h]
        congr 1; omega
      · have hi : inR (x.toI + 9223372036854775807) = false := inR_f (by omega)
        rw [hi] at h1
        rw [h1]
        unfold rs
        rw [inR_f (by omega)]; rfl
  · rw [eqb_f h]
    simp only [cond_false]
    have e : w64 (0 - y.toI) = 0 - y.toI := wrap64_id (by omega) (by omega)
    rw [add87 ha (by rw [toI_i, e]; omega), toI_i, e]
    congr 1; omega
theorem mul88 {x y : D} (ha : -9223372036854775808 ≤ x.toI ∧ x.toI ≤ 9223372036854775807) (hb : -9223372036854775808 ≤ y.toI ∧ y.toI ≤ 9223372036854775807) :
    (bif sp88_1 x y then sp74 (.i (sp88_0 x y)) else z0) = rs (x.toI * y.toI) := by
  unfold sp88_1 sp88_0 mulS
  rw [sp99_abs ha, sp99_abs hb]
  generalize x.toI = a at *
  generalize y.toI = b at *
  have hA : ∃ u, u = (if a < 0 then -a else a) := ⟨_, rfl⟩
  have hB : ∃ u, u = (if b < 0 then -b else b) := ⟨_, rfl⟩
  obtain ⟨u, hu⟩ := hA
  obtain ⟨v, hv⟩ := hB
  rw [← hu, ← hv]
  have hu0 : 0 ≤ u := by rw [hu]; split <;> omega
  have hv0 : 0 ≤ v := by rw [hv]; split <;> omega
  have huv : 0 ≤ u * v := Int.mul_nonneg hu0 hv0
  have key : a * b = bif (ltb a 0 != ltb b 0) then -(u * v) else u * v := by
    rw [hu, hv]
    by_cases h1 : a < 0 <;> by_cases h2 : b < 0
    · rw [ltb_t h1, ltb_t h2, if_pos h1, if_pos h2]; simp [Int.neg_mul, Int.mul_neg]
    · rw [ltb_t h1, ltb_f h2, if_pos h1, if_neg h2]; simp [Int.neg_mul, Int.mul_neg]
    · rw [ltb_f h1, ltb_t h2, if_neg h1, if_pos h2]; simp [Int.neg_mul, Int.mul_neg]
    · rw [ltb_f h1, ltb_f h2, if_neg h1, if_neg h2]; simp
  rw [key]
  generalize u * v = p at *
  by_cases h : 9223372036854775808 < p
  · rw [ltb_t h]
    unfold rs
    rw [inR_f (by cases (ltb a 0 != ltb b 0) <;> simp only [cond_true, cond_false] <;> omega)]; rfl
  · rw [ltb_f h]
    exact wh_rs _ p huv (by omega)
theorem ari_eq (o : D) {x y u v : D} (hx : x.toI = u.toI) (hy : y.toI = v.toI) (ha : -9223372036854775808 ≤ x.toI ∧ x.toI ≤ 9223372036854775807) (hb : -9223372036854775808 ≤ y.toI ∧ y.toI ≤ 9223372036854775807) :
    (bif sp85_1 o x y then sp74 (.i (sp85_0 o x y)) else z0) = (bif ari1 o u v then sp74 (.i (ari0 o u v)) else z0) := by
  unfold sp85_1 sp85_0 ari1 ari0
  cases eqL o.toS [43]
  · cases eqL o.toS [45]
    · cases eqL o.toS [42]
      · rfl
      · simp only [cond_true, cond_false]
        rw [mul85 ha hb, mul88 (by rw [← hx]; exact ha) (by rw [← hy]; exact hb), hx, hy]
    · simp only [cond_true, cond_false]
      rw [sub85 ha hb, sub60 (by rw [← hx]; exact ha) (by rw [← hy]; exact hb), hx, hy]
  · simp only [cond_true]
    rw [add85 ha hb, add87 (by rw [← hx]; exact ha) (by rw [← hy]; exact hb), hx, hy]
theorem Q_rs (z : Int) : Q (rs z) (rs z) := by
  unfold rs
  cases h : inR z
  · exact Q_z
  · unfold inR at h
    rw [Bool.and_eq_true] at h
    exact ⟨rfl, rfl, .inl rfl, rfl, of_decide_eq_true h.1, of_decide_eq_true h.2⟩
theorem Q_real {x y : D} (h : FEq x.toF y.toF) : Q (sp81 x) (rl y) := by
  have e : rl y = .ag [.i 2, .i 0, cl y, .s []] := rfl
  rw [e]
  exact ⟨rfl, rfl, canon_cl h, rfl, show (-9223372036854775808 : Int) ≤ 0 ∧ (0 : Int) ≤ 9223372036854775807 by decide⟩
theorem Q_arF (o : D) {x y u v : D} (h : FEq x.toF y.toF) (h' : FEq u.toF v.toF) : Q (arF o x u) (arG o y v) := by
  unfold arF arG
  cases eqL o.toS [43]
  · cases eqL o.toS [45]
    · cases eqL o.toS [42]
      · exact Q_z
      · refine Q_real (.inl ?_)
        show ((Ieee.double.mul x.toF u.toF).getD nanW) = ((Ieee.double.mul y.toF v.toF).getD nanW)
        rw [FEq.mul h h']
    · refine Q_real (.inl ?_)
      show ((Ieee.double.sub x.toF u.toF).getD nanW) = ((Ieee.double.sub y.toF v.toF).getD nanW)
      rw [FEq.sub h h']
  · refine Q_real (.inl ?_)
    show ((Ieee.double.add x.toF u.toF).getD nanW) = ((Ieee.double.add y.toF v.toF).getD nanW)
    rw [FEq.add h h']
theorem Q_int (o : D) {a u : D} (ha : -9223372036854775808 ≤ a.toI ∧ a.toI ≤ 9223372036854775807) (hu : -9223372036854775808 ≤ u.toI ∧ u.toI ≤ 9223372036854775807) : Q (bif sp85_1 o a u then sp74 (.i (sp85_0 o a u)) else z0) (bif sp85_1 o a u then sp74 (.i (sp85_0 o a u)) else z0) := by
  unfold sp85_1 sp85_0
  cases eqL o.toS [43]
  · cases eqL o.toS [45]
    · cases eqL o.toS [42]
      · exact Q_z
      · simp only [cond_true, cond_false]; rw [mul85 ha hu]; exact Q_rs _
    · simp only [cond_true, cond_false]; rw [sub85 ha hu]; exact Q_rs _
  · simp only [cond_true]; rw [add85 ha hu]; exact Q_rs _
theorem Q_ari' (o : D) {a b u v : D} (h : Q a b) (h' : Q u v) : Q (arA o a u) (arB o b v) := by
  unfold arA arB
  rw [← h.k, ← h'.k]
  cases (eqb (a.at 0).toI 1 && eqb (u.at 0).toI 1)
  · simp only [cond_false]
    cases (eqb (a.at 0).toI 2 && eqb (u.at 0).toI 2)
    · exact Q_z
    · exact Q_arF o h.f h'.f
  · simp only [cond_true]
    rw [← ari_eq o h.n h'.n h.r h'.r]
    exact Q_int o h.r h'.r
theorem Q_ari (o : D) {x y u v : D} (h : Q x y) (h' : Q u v) : Q (sp52 o x u) (sp60 o y v) := Q_ari' o h.clean h'.clean
theorem Q_neg {x y : D} (h : Q x y) : Q (sp47 x) (sp54 y) := by
  have c := h.clean
  have hkd := (cl46 x).k
  unfold sp47 sp54
  generalize ha : sp46 x = a at *
  generalize sp30 y = b at *
  rw [← c.k]
  by_cases h2 : (a.at 0).toI = 2
  · rw [eqb_t h2]
    exact Q_real c.f.neg
  · rw [eqb_f h2]
    simp only [cond_false]
    unfold sp52
    have ek : ((sp46 a).at 0).toI = (a.at 0).toI := by
      rw [(cl46 a).k, ← ha, kd_46, ← hkd, ha]
    by_cases h1 : (a.at 0).toI = 1
    · have e : sp46 a = sp74 (a.at 1) := by unfold sp46; rw [h1]; rfl
      rw [e, eqb_t h1]
      have e2 : arA (.s [45]) (sp46 (sp74 (.i 0))) (sp74 (a.at 1)) = rs (0 - (a.at 1).toI) := by
        have : arA (.s [45]) (sp46 (sp74 (.i 0))) (sp74 (a.at 1)) = (bif (ltb (w64 (0 - (a.at 1).toI)) 0 == ltb 0 (a.at 1).toI) then sp74 (.i (w64 (0 - (a.at 1).toI))) else z0) := rfl
        rw [this]
        exact sub85 (by decide) c.r
      rw [e2, ← c.n]
      by_cases hm : (a.at 1).toI = -9223372036854775808
      · rw [hm]; exact Q_z
      · rw [eqb_f hm]
        have hr := c.r
        have e3 : w64 (0 - (a.at 1).toI) = 0 - (a.at 1).toI := wrap64_id (by omega) (by omega)
        rw [e3]
        unfold rs
        rw [inR_t (by omega) (by omega)]
        exact ⟨rfl, rfl, .inl rfl, rfl, show -9223372036854775808 ≤ 0 - (a.at 1).toI ∧ 0 - (a.at 1).toI ≤ 9223372036854775807 by omega⟩
    · rw [eqb_f h1]
      have e : arA (.s [45]) (sp46 (sp74 (.i 0))) (sp46 a) = z0 := by
        unfold arA
        rw [ek, eqb_f h1, Bool.and_false]
        rfl
      rw [e]
      exact Q_z
theorem Q_null {x y : D} (h : Q x y) (b : Bool) : Q (sp53 (.b (eqb (x.at 0).toI 0 != b))) (bif b then sp61 (.b (!eqb (y.at 0).toI 0)) else sp61 (.b (eqb (y.at 0).toI 0))) := by
  rw [← h.k]
  cases b
  · rw [Bool.bne_false]; exact Q_b _
  · rw [Bool.bne_true]; exact Q_b _
theorem Q_lit {v : D} (h : Is Try.prog 32 v) : Q (sp46 v) (sp30 v) :=
  Q.clean ⟨rfl, rfl, .inl rfl, rfl, ((h.fld (k := 1) (ft := 2) (off := 1) (by kernel_rfl)).i64 (by kernel_rfl)).2⟩

end Go.Vam.C14
