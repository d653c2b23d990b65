/- Chapter 15: what functions come to, part 3. No conditions. -/
import Derived.Test.YtdnhajjjaldhkaaP2
import Derived.KernelRfl
set_option linter.unusedVariables false
set_option linter.unusedSimpArgs false
set_option maxRecDepth 100000
namespace Go.Vam.C15
open Go.Proofs
theorem wrapu (n : Int) : wu n = n % 18446744073709551616 := by
  unfold wu
  simp only [IntKind.wrap, IntKind.bits, IntKind.signed]
  simp
theorem wu_id {n : Int} (h : 0 ≤ n) (h' : n < 18446744073709551616) : wu n = n := by rw [wrapu]; omega
def mulS (x y : D) : Option (Bool × Int) := bif ltb 9223372036854775808 (sp103 x * sp103 y) then none else some ((ltb x.toI 0 != ltb y.toI 0), sp103 x * sp103 y)
def sp95_0 (x y : D) : Int := wh0 (mulS x y)
def sp95_1 (x y : D) : Bool := wh1 (mulS x y)
theorem sp99_r (x : D) : 0 ≤ sp103 x ∧ sp103 x < 18446744073709551616 := by
  unfold sp103
  cases ltb x.toI 0 <;> simp only [cond_true, cond_false] <;> rw [wrapu] <;> omega
theorem sp99_abs {x : D} (h : -9223372036854775808 ≤ x.toI ∧ x.toI ≤ 9223372036854775807) : sp103 x = (if x.toI < 0 then -x.toI else x.toI) := by
  unfold sp103
  by_cases hx : x.toI < 0
  · rw [ltb_t hx, if_pos hx]
    simp only [cond_true]
    have e1 : w64 (x.toI + 1) = x.toI + 1 := wrap64_id (by omega) (by omega)
    rw [e1]
    have e2 : w64 (0 - (x.toI + 1)) = 0 - (x.toI + 1) := wrap64_id (by omega) (by omega)
    rw [e2, wu_id (n := 0 - (x.toI + 1)) (by omega) (by omega), wu_id (by omega) (by omega)]
    omega
  · rw [ltb_f hx, if_neg hx]
    simp only [cond_false]
    exact wu_id (by omega) (by omega)
section
variable {R : Type}
def m95_1 (N : Nat) (x0 x1 : D) (K : D → D → Option R) : Option R :=
  K x0 x1
def s95_0 (x0 x1 : D) : St := sts 44 [(0, V.f x0), (1, V.f x1)] []
theorem e95_1 (N : Nat) (k : Kn R) (x0 x1 : D) : runC PHI Tb94 N vc95_1 (s95_0 x0 x1) k = m95_1 N x0 x1 (fun x0 x1 => k .normal (s95_0 x0 x1)) := by
  refine Eq.trans (runC_post _ _ _ k) (Eq.trans (ops_run _ _ _ _) (by kernel_rfl))
def m95_3 (N : Nat) (x0 x1 : D) (K : D → D → D → D → D → Option R) : Option R :=
  K x0 x1 (D.i (sp103 x0)) (D.i (sp103 x1)) (D.i 0)
def s95_1 (x0 x1 x6 x7 x8 : D) : St := sts 44 [(0, V.f x0), (1, V.f x1), (6, V.f x6), (7, V.f x7), (8, V.f x8)] []
theorem e95_3 (N : Nat) (k : Kn R) (x0 x1 : D) : runC PHI Tb94 N vc95_3 (s95_0 x0 x1) k = m95_3 N x0 x1 (fun x0 x1 x6 x7 x8 => k .normal (s95_1 x0 x1 x6 x7 x8)) := by
  refine Eq.trans (runC_post _ _ _ k) (Eq.trans (ops_run _ _ _ _) (by kernel_rfl))
def m95_8 (N : Nat) (x0 x1 x6 x7 x8 : D) (K : D → D → D → D → D → Option R) (K0 : D → D → D → Option R) : Option R :=
  (bif (ltb 0 x7.toI) then K x0 x1 x6 x7 x8 else K0 x0 x1 x8)
def s95_2 (x0 x1 x8 : D) : St := sts 44 [(0, V.f x0), (1, V.f x1), (8, V.f x8)] []
theorem e95_8 (N : Nat) (k : Kn R) (x0 x1 x6 x7 x8 : D) : runC PHI Tb94 N vc95_8 (s95_1 x0 x1 x6 x7 x8) k = m95_8 N x0 x1 x6 x7 x8 (fun x0 x1 x6 x7 x8 => k .normal (s95_1 x0 x1 x6 x7 x8)) (fun x0 x1 x8 => k (.exit 0) (s95_2 x0 x1 x8)) := by kernel_rfl
def m95_15 (N : Nat) (x0 x1 x6 x7 x8 : D) (K : D → D → D → D → D → Option R) : Option R :=
  (bif (!eqb 2 0) then (bif (eqb (Int.tmod x7.toI 2) 1) then K x0 x1 x6 x7 (D.i (IntKind.wrap IntKind.u64 (x8.toI + x6.toI))) else K x0 x1 x6 x7 x8) else none)
theorem e95_15 (N : Nat) (k : Kn R) (x0 x1 x6 x7 x8 : D) : runC PHI Tb94 N vc95_15 (s95_1 x0 x1 x6 x7 x8) k = m95_15 N x0 x1 x6 x7 x8 (fun x0 x1 x6 x7 x8 => k .normal (s95_1 x0 x1 x6 x7 x8)) := by kernel_rfl
def m95_20 (N : Nat) (x0 x1 x6 x7 x8 : D) (K : D → D → D → D → D → Option R) (Kr : D → D → Option R) : Option R :=
  (bif (ltb 9223372036854775808 x8.toI) then (bif true then Kr (D.i 0) (D.b false) else (bif (!eqb 2 0) then K x0 x1 (D.i (IntKind.wrap IntKind.u64 (x6.toI * 2))) (D.i (IntKind.wrap IntKind.u64 (Int.tdiv x7.toI 2))) x8 else none)) else (bif (ltb 1 x7.toI) then (bif (ltb 4611686018427387904 x6.toI) then Kr (D.i 0) (D.b false) else (bif (!eqb 2 0) then K x0 x1 (D.i (IntKind.wrap IntKind.u64 (x6.toI * 2))) (D.i (IntKind.wrap IntKind.u64 (Int.tdiv x7.toI 2))) x8 else none)) else (bif false then Kr (D.i 0) (D.b false) else (bif (!eqb 2 0) then K x0 x1 (D.i (IntKind.wrap IntKind.u64 (x6.toI * 2))) (D.i (IntKind.wrap IntKind.u64 (Int.tdiv x7.toI 2))) x8 else none))))
def s95_3 (x4 x5 : D) : St := sts 44 [(4, V.f x4), (5, V.f x5)] []
theorem e95_20 (N : Nat) (k : Kn R) (x0 x1 x6 x7 x8 : D) : runC PHI Tb94 N vc95_20 (s95_1 x0 x1 x6 x7 x8) k = m95_20 N x0 x1 x6 x7 x8 (fun x0 x1 x6 x7 x8 => k .normal (s95_1 x0 x1 x6 x7 x8)) (fun x4 x5 => k .ret (s95_3 x4 x5)) := by kernel_rfl
def m95_14 (N : Nat) (x0 x1 x6 x7 x8 : D) (K : D → D → D → D → D → Option R) (Kr : D → D → Option R) : Option R :=
  (m95_15 N x0 x1 x6 x7 x8 (fun y0 y1 y6 y7 y8 => (m95_20 N y0 y1 y6 y7 y8 (fun y0 y1 y6 y7 y8 => K y0 y1 y6 y7 y8) Kr)))
theorem e95_14 (N : Nat) (k : Kn R) (x0 x1 x6 x7 x8 : D) : runC PHI Tb94 N vc95_14 (s95_1 x0 x1 x6 x7 x8) k = m95_14 N x0 x1 x6 x7 x8 (fun x0 x1 x6 x7 x8 => k .normal (s95_1 x0 x1 x6 x7 x8)) (fun x4 x5 => k .ret (s95_3 x4 x5)) := by
  have h2 := e95_15 N (kseq PHI Tb94 N vc95_20 k) x0 x1 x6 x7 x8
  have h3 := (funext fun y0 => funext fun y1 => funext fun y6 => funext fun y7 => funext fun y8 => (e95_20 N k y0 y1 y6 y7 y8) : (fun (y0 y1 y6 y7 y8 : D) => (kseq PHI Tb94 N vc95_20 k) .normal (s95_1 y0 y1 y6 y7 y8)) = _)
  refine Eq.trans (runC_seq _ _ _ k) (Eq.trans h2 (Eq.trans (congrArg (fun K => m95_15 N x0 x1 x6 x7 x8 K) h3) (by kernel_rfl)))
def m95_13 (N : Nat) (x0 x1 x6 x7 x8 : D) (K : D → D → D → D → D → Option R) (Kr : D → D → Option R) : Option R :=
  (m95_14 N x0 x1 x6 x7 x8 (fun y0 y1 y6 y7 y8 => K y0 y1 y6 y7 y8) Kr)
theorem e95_13 (N : Nat) (k : Kn R) (x0 x1 x6 x7 x8 : D) : runC PHI Tb94 N vc95_13 (s95_1 x0 x1 x6 x7 x8) k = m95_13 N x0 x1 x6 x7 x8 (fun x0 x1 x6 x7 x8 => k .normal (s95_1 x0 x1 x6 x7 x8)) (fun x4 x5 => k .ret (s95_3 x4 x5)) := by
  refine Eq.trans (runC_block _ _ _ k) (Eq.trans (e95_14 N (kblk 1 k) x0 x1 x6 x7 x8) (by kernel_rfl))
def m95_7 (N : Nat) (x0 x1 x6 x7 x8 : D) (K : D → D → D → D → D → Option R) (K0 : D → D → D → Option R) (Kr : D → D → Option R) : Option R :=
  (m95_8 N x0 x1 x6 x7 x8 (fun y0 y1 y6 y7 y8 => (m95_13 N y0 y1 y6 y7 y8 (fun y0 y1 y6 y7 y8 => K y0 y1 y6 y7 y8) Kr)) K0)
theorem e95_7 (N : Nat) (k : Kn R) (x0 x1 x6 x7 x8 : D) : runC PHI Tb94 N vc95_7 (s95_1 x0 x1 x6 x7 x8) k = m95_7 N x0 x1 x6 x7 x8 (fun x0 x1 x6 x7 x8 => k .normal (s95_1 x0 x1 x6 x7 x8)) (fun x0 x1 x8 => k (.exit 0) (s95_2 x0 x1 x8)) (fun x4 x5 => k .ret (s95_3 x4 x5)) := by
  have h2 := e95_8 N (kseq PHI Tb94 N vc95_13 k) x0 x1 x6 x7 x8
  have h3 := (funext fun y0 => funext fun y1 => funext fun y6 => funext fun y7 => funext fun y8 => (e95_13 N k y0 y1 y6 y7 y8) : (fun (y0 y1 y6 y7 y8 : D) => (kseq PHI Tb94 N vc95_13 k) .normal (s95_1 y0 y1 y6 y7 y8)) = _)
  refine Eq.trans (runC_seq _ _ _ k) (Eq.trans h2 (Eq.trans (congrArg (fun K => m95_8 N x0 x1 x6 x7 x8 K (fun x0 x1 x8 => (kseq PHI Tb94 N vc95_13 k) (.exit 0) (s95_2 x0 x1 x8))) h3) (by kernel_rfl)))
def l95_6 (N : Nat) (j : Nat) (x0 x1 x6 x7 x8 : D) (K0 : D → D → D → Option R) (Kr : D → D → Option R) : Option R :=
  match j with
  | 0 => none
  | j + 1 => (m95_7 N x0 x1 x6 x7 x8 (fun y0 y1 y6 y7 y8 => l95_6 N j y0 y1 y6 y7 y8 K0 Kr) K0 Kr)
def m95_6 (N : Nat) (x0 x1 x6 x7 x8 : D) (K0 : D → D → D → Option R) (Kr : D → D → Option R) : Option R :=
  l95_6 N N x0 x1 x6 x7 x8 K0 Kr
theorem el95_6 (N : Nat) (k : Kn R) : ∀ (j : Nat) (x0 x1 x6 x7 x8 : D), loopGo (runC PHI Tb94 N vc95_7) j (s95_1 x0 x1 x6 x7 x8) k = l95_6 N j x0 x1 x6 x7 x8 (fun x0 x1 x8 => k (.exit 0) (s95_2 x0 x1 x8)) (fun x4 x5 => k .ret (s95_3 x4 x5))
  | 0, _, _, _, _, _ => by kernel_rfl
  | j + 1, x0, x1, x6, x7, x8 => by
    have h2 := e95_7 N (kloop PHI Tb94 N vc95_7 j k) x0 x1 x6 x7 x8
    have h3 : (fun (y0 y1 y6 y7 y8 : D) => (kloop PHI Tb94 N vc95_7 j k) .normal (s95_1 y0 y1 y6 y7 y8)) = (fun (y0 y1 y6 y7 y8 : D) => l95_6 N j y0 y1 y6 y7 y8 (fun x0 x1 x8 => k (.exit 0) (s95_2 x0 x1 x8)) (fun x4 x5 => k .ret (s95_3 x4 x5))) := funext fun y0 => funext fun y1 => funext fun y6 => funext fun y7 => funext fun y8 => (el95_6 N k j y0 y1 y6 y7 y8)
    refine Eq.trans (loop_succ _ j _ k) (Eq.trans h2 (Eq.trans (congrArg (fun K => m95_7 N x0 x1 x6 x7 x8 K (fun x0 x1 x8 => (kloop PHI Tb94 N vc95_7 j k) (.exit 0) (s95_2 x0 x1 x8)) (fun x4 x5 => (kloop PHI Tb94 N vc95_7 j k) .ret (s95_3 x4 x5))) h3) (by kernel_rfl)))
theorem e95_6 (N : Nat) (k : Kn R) (x0 x1 x6 x7 x8 : D) : runC PHI Tb94 N vc95_6 (s95_1 x0 x1 x6 x7 x8) k = m95_6 N x0 x1 x6 x7 x8 (fun x0 x1 x8 => k (.exit 0) (s95_2 x0 x1 x8)) (fun x4 x5 => k .ret (s95_3 x4 x5)) := by
  refine Eq.trans (runC_loop _ _ k) (Eq.trans (el95_6 N k N x0 x1 x6 x7 x8) (by kernel_rfl))
def m95_5 (N : Nat) (x0 x1 x6 x7 x8 : D) (K : D → D → D → Option R) (Kr : D → D → Option R) : Option R :=
  (m95_6 N x0 x1 x6 x7 x8 (fun y0 y1 y8 => K y0 y1 y8) Kr)
theorem e95_5 (N : Nat) (k : Kn R) (x0 x1 x6 x7 x8 : D) : runC PHI Tb94 N vc95_5 (s95_1 x0 x1 x6 x7 x8) k = m95_5 N x0 x1 x6 x7 x8 (fun x0 x1 x8 => k .normal (s95_2 x0 x1 x8)) (fun x4 x5 => k .ret (s95_3 x4 x5)) := by
  refine Eq.trans (runC_block _ _ _ k) (Eq.trans (e95_6 N (kblk 0 k) x0 x1 x6 x7 x8) (by kernel_rfl))
def m95_29 (N : Nat) (x0 x1 x8 : D) (Kr : D → D → Option R) : Option R :=
  Kr (D.i (sp104_0 (D.b ((ltb x0.toI 0) != (ltb x1.toI 0))) x8)) (D.b (sp104_1 (D.b ((ltb x0.toI 0) != (ltb x1.toI 0))) x8))
theorem e95_29 (N : Nat) (k : Kn R) (x0 x1 x8 : D) : runC PHI Tb94 N vc95_29 (s95_2 x0 x1 x8) k = m95_29 N x0 x1 x8 (fun x4 x5 => k .ret (s95_3 x4 x5)) := by kernel_rfl
def m95_4 (N : Nat) (x0 x1 x6 x7 x8 : D) (Kr : D → D → Option R) : Option R :=
  (m95_5 N x0 x1 x6 x7 x8 (fun y0 y1 y8 => (m95_29 N y0 y1 y8 Kr)) Kr)
theorem e95_4 (N : Nat) (k : Kn R) (x0 x1 x6 x7 x8 : D) : runC PHI Tb94 N vc95_4 (s95_1 x0 x1 x6 x7 x8) k = m95_4 N x0 x1 x6 x7 x8 (fun x4 x5 => k .ret (s95_3 x4 x5)) := by
  have h2 := e95_5 N (kseq PHI Tb94 N vc95_29 k) x0 x1 x6 x7 x8
  have h3 := (funext fun y0 => funext fun y1 => funext fun y8 => (e95_29 N k y0 y1 y8) : (fun (y0 y1 y8 : D) => (kseq PHI Tb94 N vc95_29 k) .normal (s95_2 y0 y1 y8)) = _)
  refine Eq.trans (runC_seq _ _ _ k) (Eq.trans h2 (Eq.trans (congrArg (fun K => m95_5 N x0 x1 x6 x7 x8 K (fun x4 x5 => (kseq PHI Tb94 N vc95_29 k) .ret (s95_3 x4 x5))) h3) (by kernel_rfl)))
def m95_2 (N : Nat) (x0 x1 : D) (Kr : D → D → Option R) : Option R :=
  (m95_3 N x0 x1 (fun y0 y1 y6 y7 y8 => (m95_4 N y0 y1 y6 y7 y8 Kr)))
theorem e95_2 (N : Nat) (k : Kn R) (x0 x1 : D) : runC PHI Tb94 N vc95_2 (s95_0 x0 x1) k = m95_2 N x0 x1 (fun x4 x5 => k .ret (s95_3 x4 x5)) := by
  have h2 := e95_3 N (kseq PHI Tb94 N vc95_4 k) x0 x1
  have h3 := (funext fun y0 => funext fun y1 => funext fun y6 => funext fun y7 => funext fun y8 => (e95_4 N k y0 y1 y6 y7 y8) : (fun (y0 y1 y6 y7 y8 : D) => (kseq PHI Tb94 N vc95_4 k) .normal (s95_1 y0 y1 y6 y7 y8)) = _)
  refine Eq.trans (runC_seq _ _ _ k) (Eq.trans h2 (Eq.trans (congrArg (fun K => m95_3 N x0 x1 K) h3) (by kernel_rfl)))
def m95_0 (N : Nat) (x0 x1 : D) (Kr : D → D → Option R) : Option R :=
  (m95_1 N x0 x1 (fun y0 y1 => (m95_2 N y0 y1 Kr)))
theorem e95_0 (N : Nat) (k : Kn R) (x0 x1 : D) : runC PHI Tb94 N vc95_0 (s95_0 x0 x1) k = m95_0 N x0 x1 (fun x4 x5 => k .ret (s95_3 x4 x5)) := by
  have h2 := e95_1 N (kseq PHI Tb94 N vc95_2 k) x0 x1
  have h3 := (funext fun y0 => funext fun y1 => (e95_2 N k y0 y1) : (fun (y0 y1 : D) => (kseq PHI Tb94 N vc95_2 k) .normal (s95_0 y0 y1)) = _)
  refine Eq.trans (runC_seq _ _ _ k) (Eq.trans h2 (Eq.trans (congrArg (fun K => m95_1 N x0 x1 K) h3) (by kernel_rfl)))
theorem r95 (N : Nat) (x0 x1 : D) : runC PHI Tb94 N vf95.body (enterV vf95 [V.f x0, V.f x1] []) (finish vf95) = m95_0 N x0 x1 (fun x4 x5 => finish vf95 .ret (s95_3 x4 x5)) := 
  Eq.trans (runC_pre (s1 := (s95_0 x0 x1)) (by kernel_rfl) _ _) (Eq.trans (e95_0 N (finish vf95) x0 x1) (by kernel_rfl))
end
theorem l88 {R : Type} (N : Nat) (x0 x1 : D) (K0 : D → D → D → Option R) (Kr : D → D → Option R) : ∀ (k j : Nat) (x y n : Int), k < j → 0 ≤ y → y < 2 ^ k → y ≤ 9223372036854775808 → 0 ≤ n → n ≤ 9223372036854775808 → 0 ≤ x → (y = 0 ∨ x ≤ 9223372036854775808) → (n < x ∨ n = 0 ∨ y = 0) →
    l95_6 N j x0 x1 (.i x) (.i y) (.i n) K0 Kr = bif ltb 9223372036854775808 (n + x * y) then Kr (.i 0) (.b false) else K0 x0 x1 (.i (n + x * y))
  | _, 0, _, _, _, h, _, _, _, _, _, _, _, _ => by omega
  | k, j + 1, x, y, n, h, hy, hyk, hym, hn, hn', hx, hxy, hnx => by
    by_cases hy0 : y = 0
    · subst hy0
      simp only [l95_6, m95_7, m95_8, toI_i, Int.mul_zero, Int.add_zero]
      rw [ltb_f (show ¬ (0 : Int) < 0 by omega), ltb_f (show ¬ 9223372036854775808 < n by omega)]; rfl
    · cases k with
      | zero => simp at hyk; omega
      | succ k =>
        have hx' : x ≤ 9223372036854775808 := by omega
        have hy2 : y = 2 * (y / 2) + y % 2 := by omega
        have hm : y % 2 = 0 ∨ y % 2 = 1 := by omega
        have e1 : Int.tmod y 2 = y % 2 := Int.tmod_eq_emod_of_nonneg hy
        have e2 : Int.tdiv y 2 = y / 2 := Int.tdiv_eq_ediv_of_nonneg hy
        have e3 : IntKind.wrap IntKind.u64 (y / 2) = y / 2 := wu_id (by omega) (by omega)
        have hp : x * y = 2 * (x * (y / 2)) + x * (y % 2) := by
          have : x * y = x * (2 * (y / 2) + y % 2) := by rw [← hy2]
          rw [this, Int.mul_add, Int.mul_left_comm]
        have hpk : y / 2 < 2 ^ k := by rw [Int.pow_succ] at hyk; omega
        have hpn : 0 ≤ x * (y / 2) := Int.mul_nonneg hx (by omega)
        -- what the sum is behind the first part of a step
        have step : ∀ n' : Int, 0 ≤ n' → (n' = n + x * (y % 2)) → n' < 18446744073709551616 →
            m95_20 N x0 x1 (.i x) (.i y) (.i n') (fun y0 y1 y6 y7 y8 => l95_6 N j y0 y1 y6 y7 y8 K0 Kr) Kr = bif ltb 9223372036854775808 (n + x * y) then Kr (.i 0) (.b false) else K0 x0 x1 (.i (n + x * y)) := by
          intro n' h0 he hlt
          have hsum : n + x * y = n' + 2 * (x * (y / 2)) := by rw [hp, he]; omega
          have hn1 : n' ≤ n + x := by
            rcases hm with hm | hm <;> rw [hm] at he <;> simp at he <;> omega
          simp only [m95_20, toI_i, show (!eqb 2 0) = true from rfl, cond_true]
          by_cases hb : 9223372036854775808 < n'
          · rw [ltb_t hb, ltb_t (show 9223372036854775808 < n + x * y by omega)]; rfl
          · rw [ltb_f hb]
            simp only [cond_false]
            have e4 : ∀ (X : Int), l95_6 N j x0 x1 (.i X) (.i (IntKind.wrap IntKind.u64 (Int.tdiv y 2))) (.i n') K0 Kr = l95_6 N j x0 x1 (.i X) (.i (y / 2)) (.i n') K0 Kr := fun X => by rw [e2, e3]
            by_cases h1 : 1 < y
            · rw [ltb_t h1]
              simp only [cond_true]
              have hxp : x * 1 ≤ x * (y / 2) := Int.mul_le_mul_of_nonneg_left (by omega) hx
              by_cases hq : 4611686018427387904 < x
              · rw [ltb_t hq, ltb_t (show 9223372036854775808 < n + x * y by omega)]; rfl
              · rw [ltb_f hq]
                simp only [cond_false]
                have e5 : IntKind.wrap IntKind.u64 (x * 2) = x * 2 := wu_id (by omega) (by omega)
                rw [e5, e4]
                rw [l88 N x0 x1 K0 Kr k j (x * 2) (y / 2) n' (by omega) (by omega) hpk (by omega) h0 (by omega) (by omega) (.inr (by omega)) (by omega)]
                rw [show n' + x * 2 * (y / 2) = n + x * y by rw [hsum, Int.mul_comm x 2, Int.mul_assoc]]
            · rw [ltb_f h1]
              simp only [cond_false]
              have hz : y / 2 = 0 := by omega
              have hw := (show 0 ≤ wu (x * 2) by rw [wrapu]; omega)
              rw [e4, hz]
              rw [show IntKind.wrap IntKind.u64 (x * 2) = wu (x * 2) from rfl]
              rw [l88 N x0 x1 K0 Kr k j (wu (x * 2)) 0 n' (by omega) (by omega) (by have := hpk; rw [hz] at this; exact this) (by omega) h0 (by omega) hw (.inl rfl) (.inr (.inr rfl))]
              rw [hz] at hsum
              simp only [Int.mul_zero, Int.add_zero] at hsum ⊢
              rw [hsum]
        simp only [l95_6, m95_7, m95_8, m95_13, m95_14, m95_15, toI_i, show (!eqb 2 0) = true from rfl, cond_true, e1]
        rw [ltb_t (show 0 < y by omega)]
        simp only [cond_true]
        rcases hm with hm | hm
        · rw [eqb_f (show ¬ y % 2 = 1 by omega)]
          simp only [cond_false]
          exact step n hn (by rw [hm]; simp) (by omega)
        · rw [eqb_t hm]
          simp only [cond_true]
          have hlt : n + x < 18446744073709551616 := by omega
          have e6 : IntKind.wrap IntKind.u64 (n + x) = n + x := wu_id (by omega) hlt
          rw [e6]
          exact step (n + x) (by omega) (by rw [hm]; simp) hlt
def Tb95 : CallF := extend Tb94 95 (fn2 (fun _ _ => true) fun x y => .t [.f (.i (sp95_0 x y)), .f (.b (sp95_1 x y))])
theorem ok95 : FnOk Try.prog PHI Tb95 := FnOk.add2 hPHI ok94 (by kernel_rfl) fun x y ha _ => ⟨70, (r95 70 x y).trans (by
  have hx := ((ha.is 0 rfl rfl).i64 (by kernel_rfl)).2
  have hy := ((ha.is 1 rfl rfl).i64 (by kernel_rfl)).2
  have ax := sp99_abs hx
  have ay := sp99_abs hy
  simp only [m95_0, m95_1, m95_2, m95_3, m95_4, m95_5, m95_6, m95_29]
  have hxr : 0 ≤ sp103 x ∧ sp103 x ≤ 9223372036854775808 := by rw [ax]; split <;> omega
  have hyr : 0 ≤ sp103 y ∧ sp103 y ≤ 9223372036854775808 := by rw [ay]; split <;> omega
  rw [l88 70 x y _ _ 64 70 (sp103 x) (sp103 y) 0 (by omega) hyr.1 (by omega) hyr.2 (by omega) (by omega) hxr.1 (.inr hxr.2) (.inr (.inl rfl))]
  rw [Int.zero_add]
  unfold sp95_0 sp95_1 mulS
  cases ltb 9223372036854775808 (sp103 x * sp103 y) <;> rfl)⟩
def sp37 (o x y : D) : D := bif !eqb ((sp10 x).at 0).toI ((sp10 y).at 0).toI || eqb ((sp10 x).at 0).toI 0 then z0 else cmA o (sp64 (sp10 x) (sp10 y))
theorem three_29 (a b : D) : sp64 a b = -1 ∨ sp64 a b = 0 ∨ sp64 a b = 1 := by
  unfold sp64
  cases less (sp10 a) (sp10 b) <;> cases more (sp10 a) (sp10 b) <;> simp
section
variable {R : Type}
def m37_1 (N : Nat) (x0 x1 x2 : D) (K : D → D → D → Option R) : Option R :=
  K x0 x1 x2
def s37_0 (x0 x1 x2 : D) : St := sts 54 [(0, V.f x0), (1, V.f x1), (2, V.f x2)] [V.u, V.u, V.u]
def s37_1 (x0 h0 h1 : D) : St := sts 54 [(0, V.f x0), (4, V.m 0 []), (5, V.m 1 []), (6, V.a)] [V.f h0, V.f h1, V.u]
theorem e37_1 (N : Nat) (k : Kn R) (x0 x1 x2 : D) : runC PHI Tb95 N vc37_1 (s37_0 x0 x1 x2) k = m37_1 N x0 x1 x2 (fun x0 h0 h1 => k .normal (s37_1 x0 h0 h1)) := by
  refine Eq.trans (runC_post _ _ _ k) (Eq.trans (ops_run _ _ _ _) (by kernel_rfl))
def m37_3 (N : Nat) (x0 h0 h1 : D) (K : D → D → D → Option R) : Option R :=
  K x0 (sp10 h0) (sp10 h1)
theorem e37_3 (N : Nat) (k : Kn R) (x0 h0 h1 : D) : runC PHI Tb95 N vc37_3 (s37_1 x0 h0 h1) k = m37_3 N x0 h0 h1 (fun x0 h0 h1 => k .normal (s37_1 x0 h0 h1)) := by
  refine Eq.trans (runC_post _ _ _ k) (Eq.trans (ops_run _ _ _ _) (by kernel_rfl))
def m37_5 (N : Nat) (x0 h0 h1 : D) (K : D → D → D → Option R) (Kr : D → D → D → Option R) : Option R :=
  (bif (!eqb (h0.at 0).toI (h1.at 0).toI) then (bif true then Kr (D.p (D.ag [(D.i 0), (D.i 0), (D.f 0), (D.s [])])) h0 h1 else K x0 h0 h1) else (bif (eqb (h0.at 0).toI 0) then Kr (D.p (D.ag [(D.i 0), (D.i 0), (D.f 0), (D.s [])])) h0 h1 else K x0 h0 h1))
def s37_2 (x6 h0 h1 : D) : St := sts 54 [(6, V.f x6)] [V.f h0, V.f h1, V.u]
theorem e37_5 (N : Nat) (k : Kn R) (x0 h0 h1 : D) : runC PHI Tb95 N vc37_5 (s37_1 x0 h0 h1) k = m37_5 N x0 h0 h1 (fun x0 h0 h1 => k .normal (s37_1 x0 h0 h1)) (fun x6 h0 h1 => k .ret (s37_2 x6 h0 h1)) := by kernel_rfl
def m37_12 (N : Nat) (x0 h0 h1 : D) (Kr : D → D → D → Option R) : Option R :=
  (bif (eqL x0.toS [61]) then (bif (inb 1 3) then (bif (inb (IntKind.wrap IntKind.i64 (1 + (sp64 h0 h1))) 3) then Kr (D.p (sp63 ((D.setP [1] (D.ag [(D.b false), (D.b false), (D.b false)]) (D.b true)).at ((IntKind.wrap IntKind.i64 (1 + (sp64 h0 h1))) : Int).toNat))) h0 h1 else none) else none) else (bif (eqL x0.toS [60, 62]) then (bif (inb 0 3) then (bif (inb 2 3) then (bif (inb (IntKind.wrap IntKind.i64 (1 + (sp64 h0 h1))) 3) then Kr (D.p (sp63 ((D.setP [2] (D.setP [0] (D.ag [(D.b false), (D.b false), (D.b false)]) (D.b true)) (D.b true)).at ((IntKind.wrap IntKind.i64 (1 + (sp64 h0 h1))) : Int).toNat))) h0 h1 else none) else none) else none) else (bif (eqL x0.toS [60]) then (bif (inb 0 3) then (bif (inb (IntKind.wrap IntKind.i64 (1 + (sp64 h0 h1))) 3) then Kr (D.p (sp63 ((D.setP [0] (D.ag [(D.b false), (D.b false), (D.b false)]) (D.b true)).at ((IntKind.wrap IntKind.i64 (1 + (sp64 h0 h1))) : Int).toNat))) h0 h1 else none) else none) else (bif (eqL x0.toS [60, 61]) then (bif (inb 0 3) then (bif (inb 1 3) then (bif (inb (IntKind.wrap IntKind.i64 (1 + (sp64 h0 h1))) 3) then Kr (D.p (sp63 ((D.setP [1] (D.setP [0] (D.ag [(D.b false), (D.b false), (D.b false)]) (D.b true)) (D.b true)).at ((IntKind.wrap IntKind.i64 (1 + (sp64 h0 h1))) : Int).toNat))) h0 h1 else none) else none) else none) else (bif (eqL x0.toS [62]) then (bif (inb 2 3) then (bif (inb (IntKind.wrap IntKind.i64 (1 + (sp64 h0 h1))) 3) then Kr (D.p (sp63 ((D.setP [2] (D.ag [(D.b false), (D.b false), (D.b false)]) (D.b true)).at ((IntKind.wrap IntKind.i64 (1 + (sp64 h0 h1))) : Int).toNat))) h0 h1 else none) else none) else (bif (eqL x0.toS [62, 61]) then (bif (inb 1 3) then (bif (inb 2 3) then (bif (inb (IntKind.wrap IntKind.i64 (1 + (sp64 h0 h1))) 3) then Kr (D.p (sp63 ((D.setP [2] (D.setP [1] (D.ag [(D.b false), (D.b false), (D.b false)]) (D.b true)) (D.b true)).at ((IntKind.wrap IntKind.i64 (1 + (sp64 h0 h1))) : Int).toNat))) h0 h1 else none) else none) else none) else Kr (D.p (D.ag [(D.i 0), (D.i 0), (D.f 0), (D.s [])])) h0 h1))))))
theorem e37_12 (N : Nat) (k : Kn R) (x0 h0 h1 : D) : runC PHI Tb95 N vc37_12 (s37_1 x0 h0 h1) k = m37_12 N x0 h0 h1 (fun x6 h0 h1 => k .ret (s37_2 x6 h0 h1)) := by kernel_rfl
def m37_4 (N : Nat) (x0 h0 h1 : D) (Kr : D → D → D → Option R) : Option R :=
  (m37_5 N x0 h0 h1 (fun y0 h0 h1 => (m37_12 N y0 h0 h1 Kr)) Kr)
theorem e37_4 (N : Nat) (k : Kn R) (x0 h0 h1 : D) : runC PHI Tb95 N vc37_4 (s37_1 x0 h0 h1) k = m37_4 N x0 h0 h1 (fun x6 h0 h1 => k .ret (s37_2 x6 h0 h1)) := by
  have h2 := e37_5 N (kseq PHI Tb95 N vc37_12 k) x0 h0 h1
  have h3 := (funext fun y0 => funext fun h0 => funext fun h1 => (e37_12 N k y0 h0 h1) : (fun (y0 h0 h1 : D) => (kseq PHI Tb95 N vc37_12 k) .normal (s37_1 y0 h0 h1)) = _)
  refine Eq.trans (runC_seq _ _ _ k) (Eq.trans h2 (Eq.trans (congrArg (fun K => m37_5 N x0 h0 h1 K (fun x6 h0 h1 => (kseq PHI Tb95 N vc37_12 k) .ret (s37_2 x6 h0 h1))) h3) (by kernel_rfl)))
def m37_2 (N : Nat) (x0 h0 h1 : D) (Kr : D → D → D → Option R) : Option R :=
  (m37_3 N x0 h0 h1 (fun y0 h0 h1 => (m37_4 N y0 h0 h1 Kr)))
theorem e37_2 (N : Nat) (k : Kn R) (x0 h0 h1 : D) : runC PHI Tb95 N vc37_2 (s37_1 x0 h0 h1) k = m37_2 N x0 h0 h1 (fun x6 h0 h1 => k .ret (s37_2 x6 h0 h1)) := by
  have h2 := e37_3 N (kseq PHI Tb95 N vc37_4 k) x0 h0 h1
  have h3 := (funext fun y0 => funext fun h0 => funext fun h1 => (e37_4 N k y0 h0 h1) : (fun (y0 h0 h1 : D) => (kseq PHI Tb95 N vc37_4 k) .normal (s37_1 y0 h0 h1)) = _)
  refine Eq.trans (runC_seq _ _ _ k) (Eq.trans h2 (Eq.trans (congrArg (fun K => m37_3 N x0 h0 h1 K) h3) (by kernel_rfl)))
def m37_0 (N : Nat) (x0 x1 x2 : D) (Kr : D → D → D → Option R) : Option R :=
  (m37_1 N x0 x1 x2 (fun y0 h0 h1 => (m37_2 N y0 h0 h1 Kr)))
theorem e37_0 (N : Nat) (k : Kn R) (x0 x1 x2 : D) : runC PHI Tb95 N vc37_0 (s37_0 x0 x1 x2) k = m37_0 N x0 x1 x2 (fun x6 h0 h1 => k .ret (s37_2 x6 h0 h1)) := by
  have h2 := e37_1 N (kseq PHI Tb95 N vc37_2 k) x0 x1 x2
  have h3 := (funext fun y0 => funext fun h0 => funext fun h1 => (e37_2 N k y0 h0 h1) : (fun (y0 h0 h1 : D) => (kseq PHI Tb95 N vc37_2 k) .normal (s37_1 y0 h0 h1)) = _)
  refine Eq.trans (runC_seq _ _ _ k) (Eq.trans h2 (Eq.trans (congrArg (fun K => m37_1 N x0 x1 x2 K) h3) (by kernel_rfl)))
theorem r37 (N : Nat) (x0 x1 x2 : D) : runC PHI Tb95 N vf37.body (enterV vf37 [V.f x0, V.f x1, V.f x2] []) (finish vf37) = m37_0 N x0 x1 x2 (fun x6 h0 h1 => finish vf37 .ret (s37_2 x6 h0 h1)) := 
  Eq.trans (runC_pre (s1 := (s37_0 x0 x1 x2)) (by kernel_rfl) _ _) (Eq.trans (e37_0 N (finish vf37) x0 x1 x2) (by kernel_rfl))
end
def Tb37 : CallF := extend Tb95 37 (fn3 (fun _ _ _ => true) fun o x y => .f (sp37 o x y))
theorem ok37 : FnOk Try.prog PHI Tb37 := FnOk.add3 hPHI ok95 (by kernel_rfl) fun o x y _ _ => ⟨0, (r37 0 o x y).trans (by
  simp only [m37_1, m37_3, m37_5, m37_12, m37_4, m37_2, m37_0, sp37, cmA]
  have hc := three_29 (sp10 x) (sp10 y)
  generalize sp64 (sp10 x) (sp10 y) = c at hc ⊢
  generalize sp10 x = a
  generalize sp10 y = b
  cases eqb (a.at 0).toI (b.at 0).toI
  · rfl
  · cases eqb (a.at 0).toI 0
    · simp only [cond_true, cond_false, Bool.not_true, Bool.or_self]
      rcases hc with rfl | rfl | rfl
      all_goals (
        cases eqL o.toS [61]
        · cases eqL o.toS [60, 62]
          · cases eqL o.toS [60]
            · cases eqL o.toS [60, 61]
              · cases eqL o.toS [62]
                · cases eqL o.toS [62, 61] <;> rfl
                · rfl
              · rfl
            · rfl
          · rfl
        · rfl)
    · rfl)⟩
def mx : D := .i 9223372036854775807
def sub0 (x y : D) : Int := bif eqb y.toI (-9223372036854775808) then (bif sp94_1 x mx then sp94_0 (.i (sp94_0 x mx)) (.i 1) else sp94_0 x mx) else sp94_0 x (.i (w64 (0 - y.toI)))
def sub1 (x y : D) : Bool := bif eqb y.toI (-9223372036854775808) then (bif sp94_1 x mx then sp94_1 (.i (sp94_0 x mx)) (.i 1) else (bif ltb x.toI 0 then false else sp94_1 x mx)) else sp94_1 x (.i (w64 (0 - y.toI)))
def ari0 (o x y : D) : Int := bif eqL o.toS [43] then sp94_0 x y else bif eqL o.toS [45] then sub0 x y else bif eqL o.toS [42] then sp95_0 x y else 0
def ari1 (o x y : D) : Bool := bif eqL o.toS [43] then sp94_1 x y else bif eqL o.toS [45] then sub1 x y else bif eqL o.toS [42] then sp95_1 x y else false
def rl (f : D) : D := sp10 (.ag [.i 2, .i 0, f, .s []])
def arG (o a b : D) : D := bif eqL o.toS [43] then rl (F2.ev .fadd a b) else bif eqL o.toS [45] then rl (F2.ev .fsub a b) else bif eqL o.toS [42] then rl (F2.ev .fmul a b) else z0
def arB (o a b : D) : D := bif eqb (a.at 0).toI 1 && eqb (b.at 0).toI 1 then (bif ari1 o (a.at 1) (b.at 1) then sp60 (.i (ari0 o (a.at 1) (b.at 1))) else z0) else bif eqb (a.at 0).toI 2 && eqb (b.at 0).toI 2 then arG o (a.at 2) (b.at 2) else z0
def sp71 (o x y : D) : D := arB o (sp10 x) (sp10 y)
section
variable {R : Type}
def m71_1 (N : Nat) (x0 x1 x2 : D) (K : D → D → D → Option R) : Option R :=
  K x0 x1 x2
def s71_0 (x0 x1 x2 : D) : St := sts 113 [(0, V.f x0), (1, V.f x1), (2, V.f x2)] [V.u, V.u]
def s71_1 (x0 h0 h1 : D) : St := sts 113 [(0, V.f x0), (4, V.m 0 []), (5, V.m 1 []), (6, V.a)] [V.f h0, V.f h1]
theorem e71_1 (N : Nat) (k : Kn R) (x0 x1 x2 : D) : runC PHI Tb37 N vc71_1 (s71_0 x0 x1 x2) k = m71_1 N x0 x1 x2 (fun x0 h0 h1 => k .normal (s71_1 x0 h0 h1)) := by
  refine Eq.trans (runC_post _ _ _ k) (Eq.trans (ops_run _ _ _ _) (by kernel_rfl))
def m71_3 (N : Nat) (x0 h0 h1 : D) (K : D → D → D → Option R) : Option R :=
  K x0 (sp10 h0) (sp10 h1)
theorem e71_3 (N : Nat) (k : Kn R) (x0 h0 h1 : D) : runC PHI Tb37 N vc71_3 (s71_1 x0 h0 h1) k = m71_3 N x0 h0 h1 (fun x0 h0 h1 => k .normal (s71_1 x0 h0 h1)) := by
  refine Eq.trans (runC_post _ _ _ k) (Eq.trans (ops_run _ _ _ _) (by kernel_rfl))
def m71_6 (N : Nat) (x0 h0 h1 : D) (K : D → D → D → D → Option R) : Option R :=
  (bif (eqb (h0.at 0).toI 1) then K x0 (D.b (eqb (h1.at 0).toI 1)) h0 h1 else K x0 (D.b false) h0 h1)
def s71_2 (x0 x20 h0 h1 : D) : St := sts 113 [(0, V.f x0), (4, V.m 0 []), (5, V.m 1 []), (6, V.a), (20, V.f x20)] [V.f h0, V.f h1]
theorem e71_6 (N : Nat) (k : Kn R) (x0 h0 h1 : D) : runC PHI Tb37 N vc71_6 (s71_1 x0 h0 h1) k = m71_6 N x0 h0 h1 (fun x0 x20 h0 h1 => k .normal (s71_2 x0 x20 h0 h1)) := by
  refine Eq.trans (runC_post _ _ _ k) (Eq.trans (ops_run _ _ _ _) (by kernel_rfl))
def m71_9 (N : Nat) (x0 h0 h1 : D) (K : D → D → D → D → D → Option R) : Option R :=
  K x0 (D.i 0) (D.b false) h0 h1
def s71_3 (x0 x7 x8 h0 h1 : D) : St := sts 113 [(0, V.f x0), (4, V.m 0 []), (5, V.m 1 []), (6, V.a), (7, V.f x7), (8, V.f x8)] [V.f h0, V.f h1]
theorem e71_9 (N : Nat) (k : Kn R) (x0 h0 h1 : D) : runC PHI Tb37 N vc71_9 (s71_1 x0 h0 h1) k = m71_9 N x0 h0 h1 (fun x0 x7 x8 h0 h1 => k .normal (s71_3 x0 x7 x8 h0 h1)) := by
  refine Eq.trans (runC_post _ _ _ k) (Eq.trans (ops_run _ _ _ _) (by kernel_rfl))
def m71_11 (N : Nat) (x0 x7 x8 h0 h1 : D) (K : D → D → D → D → Option R) : Option R :=
  (bif (eqL x0.toS [43]) then K (D.i (sp94_0 (h0.at 1) (h1.at 1))) (D.b (sp94_1 (h0.at 1) (h1.at 1))) h0 h1 else (bif (eqL x0.toS [45]) then (bif (eqb (h1.at 1).toI (-9223372036854775808)) then (bif (sp94_1 (h0.at 1) (D.i 9223372036854775807)) then K (D.i (sp94_0 (D.i (sp94_0 (h0.at 1) (D.i 9223372036854775807))) (D.i 1))) (D.b (sp94_1 (D.i (sp94_0 (h0.at 1) (D.i 9223372036854775807))) (D.i 1))) h0 h1 else (bif (ltb (h0.at 1).toI 0) then K (D.i (sp94_0 (h0.at 1) (D.i 9223372036854775807))) (D.b false) h0 h1 else K (D.i (sp94_0 (h0.at 1) (D.i 9223372036854775807))) (D.b (sp94_1 (h0.at 1) (D.i 9223372036854775807))) h0 h1)) else K (D.i (sp94_0 (h0.at 1) (D.i (IntKind.wrap IntKind.i64 (0 - (h1.at 1).toI))))) (D.b (sp94_1 (h0.at 1) (D.i (IntKind.wrap IntKind.i64 (0 - (h1.at 1).toI))))) h0 h1) else (bif (eqL x0.toS [42]) then K (D.i (sp95_0 (h0.at 1) (h1.at 1))) (D.b (sp95_1 (h0.at 1) (h1.at 1))) h0 h1 else K x7 x8 h0 h1)))
def s71_4 (x7 x8 h0 h1 : D) : St := sts 113 [(6, V.a), (7, V.f x7), (8, V.f x8)] [V.f h0, V.f h1]
theorem e71_11 (N : Nat) (k : Kn R) (x0 x7 x8 h0 h1 : D) : runC PHI Tb37 N vc71_11 (s71_3 x0 x7 x8 h0 h1) k = m71_11 N x0 x7 x8 h0 h1 (fun x7 x8 h0 h1 => k .normal (s71_4 x7 x8 h0 h1)) := by kernel_rfl
def m71_41 (N : Nat) (x7 x8 h0 h1 : D) (Kr : D → D → D → Option R) : Option R :=
  (bif (!x8.toB) then Kr (D.p (D.ag [(D.i 0), (D.i 0), (D.f 0), (D.s [])])) h0 h1 else Kr (D.p (D.ag [(D.i 1), x7, (D.f 0), (D.s [])])) h0 h1)
def s71_5 (x6 h0 h1 : D) : St := sts 113 [(6, V.f x6)] [V.f h0, V.f h1]
theorem e71_41 (N : Nat) (k : Kn R) (x7 x8 h0 h1 : D) : runC PHI Tb37 N vc71_41 (s71_4 x7 x8 h0 h1) k = m71_41 N x7 x8 h0 h1 (fun x6 h0 h1 => k .ret (s71_5 x6 h0 h1)) := by kernel_rfl
def m71_10 (N : Nat) (x0 x7 x8 h0 h1 : D) (Kr : D → D → D → Option R) : Option R :=
  (m71_11 N x0 x7 x8 h0 h1 (fun y7 y8 h0 h1 => (m71_41 N y7 y8 h0 h1 Kr)))
theorem e71_10 (N : Nat) (k : Kn R) (x0 x7 x8 h0 h1 : D) : runC PHI Tb37 N vc71_10 (s71_3 x0 x7 x8 h0 h1) k = m71_10 N x0 x7 x8 h0 h1 (fun x6 h0 h1 => k .ret (s71_5 x6 h0 h1)) := by
  have h2 := e71_11 N (kseq PHI Tb37 N vc71_41 k) x0 x7 x8 h0 h1
  have h3 := (funext fun y7 => funext fun y8 => funext fun h0 => funext fun h1 => (e71_41 N k y7 y8 h0 h1) : (fun (y7 y8 h0 h1 : D) => (kseq PHI Tb37 N vc71_41 k) .normal (s71_4 y7 y8 h0 h1)) = _)
  refine Eq.trans (runC_seq _ _ _ k) (Eq.trans h2 (Eq.trans (congrArg (fun K => m71_11 N x0 x7 x8 h0 h1 K) h3) (by kernel_rfl)))
def m71_8 (N : Nat) (x0 h0 h1 : D) (Kr : D → D → D → Option R) : Option R :=
  (m71_9 N x0 h0 h1 (fun y0 y7 y8 h0 h1 => (m71_10 N y0 y7 y8 h0 h1 Kr)))
theorem e71_8 (N : Nat) (k : Kn R) (x0 h0 h1 : D) : runC PHI Tb37 N vc71_8 (s71_1 x0 h0 h1) k = m71_8 N x0 h0 h1 (fun x6 h0 h1 => k .ret (s71_5 x6 h0 h1)) := by
  have h2 := e71_9 N (kseq PHI Tb37 N vc71_10 k) x0 h0 h1
  have h3 := (funext fun y0 => funext fun y7 => funext fun y8 => funext fun h0 => funext fun h1 => (e71_10 N k y0 y7 y8 h0 h1) : (fun (y0 y7 y8 h0 h1 : D) => (kseq PHI Tb37 N vc71_10 k) .normal (s71_3 y0 y7 y8 h0 h1)) = _)
  refine Eq.trans (runC_seq _ _ _ k) (Eq.trans h2 (Eq.trans (congrArg (fun K => m71_9 N x0 h0 h1 K) h3) (by kernel_rfl)))
def m71_52 (N : Nat) (x0 h0 h1 : D) (K : D → D → D → Option R) : Option R :=
  K x0 h0 h1
theorem e71_52 (N : Nat) (k : Kn R) (x0 h0 h1 : D) : runC PHI Tb37 N vc71_52 (s71_1 x0 h0 h1) k = m71_52 N x0 h0 h1 (fun x0 h0 h1 => k .normal (s71_1 x0 h0 h1)) := by kernel_rfl
def m71_7 (N : Nat) (x0 x20 h0 h1 : D) (K : D → D → D → Option R) (Kr : D → D → D → Option R) : Option R :=
  (bif x20.toB then (m71_8 N x0 h0 h1 Kr) else (m71_52 N x0 h0 h1 (fun y0 h0 h1 => K y0 h0 h1)))
theorem e71_7 (N : Nat) (k : Kn R) (x0 x20 h0 h1 : D) : runC PHI Tb37 N vc71_7 (s71_2 x0 x20 h0 h1) k = m71_7 N x0 x20 h0 h1 (fun x0 h0 h1 => k .normal (s71_1 x0 h0 h1)) (fun x6 h0 h1 => k .ret (s71_5 x6 h0 h1)) := by
  refine Eq.trans (runC_cond (s1 := (s71_1 x0 h0 h1)) (s2 := (s71_1 x0 h0 h1)) (d := x20) _ _ k (by kernel_rfl) (by kernel_rfl) (by kernel_rfl)) (Eq.trans (congr (congrArg (cond x20.toB) ((e71_8 N k x0 h0 h1))) ((e71_52 N k x0 h0 h1))) (by kernel_rfl))
def m71_5 (N : Nat) (x0 h0 h1 : D) (K : D → D → D → Option R) (Kr : D → D → D → Option R) : Option R :=
  (m71_6 N x0 h0 h1 (fun y0 y20 h0 h1 => (m71_7 N y0 y20 h0 h1 (fun y0 h0 h1 => K y0 h0 h1) Kr)))
theorem e71_5 (N : Nat) (k : Kn R) (x0 h0 h1 : D) : runC PHI Tb37 N vc71_5 (s71_1 x0 h0 h1) k = m71_5 N x0 h0 h1 (fun x0 h0 h1 => k .normal (s71_1 x0 h0 h1)) (fun x6 h0 h1 => k .ret (s71_5 x6 h0 h1)) := by
  have h2 := e71_6 N (kseq PHI Tb37 N vc71_7 k) x0 h0 h1
  have h3 := (funext fun y0 => funext fun y20 => funext fun h0 => funext fun h1 => (e71_7 N k y0 y20 h0 h1) : (fun (y0 y20 h0 h1 : D) => (kseq PHI Tb37 N vc71_7 k) .normal (s71_2 y0 y20 h0 h1)) = _)
  refine Eq.trans (runC_seq _ _ _ k) (Eq.trans h2 (Eq.trans (congrArg (fun K => m71_6 N x0 h0 h1 K) h3) (by kernel_rfl)))
def m71_55 (N : Nat) (x0 h0 h1 : D) (K : D → D → D → D → Option R) : Option R :=
  (bif (eqb (h0.at 0).toI 2) then K x0 (D.b (eqb (h1.at 0).toI 2)) h0 h1 else K x0 (D.b false) h0 h1)
def s71_6 (x0 x83 h0 h1 : D) : St := sts 113 [(0, V.f x0), (4, V.m 0 []), (5, V.m 1 []), (6, V.a), (83, V.f x83)] [V.f h0, V.f h1]
theorem e71_55 (N : Nat) (k : Kn R) (x0 h0 h1 : D) : runC PHI Tb37 N vc71_55 (s71_1 x0 h0 h1) k = m71_55 N x0 h0 h1 (fun x0 x83 h0 h1 => k .normal (s71_6 x0 x83 h0 h1)) := by
  refine Eq.trans (runC_post _ _ _ k) (Eq.trans (ops_run _ _ _ _) (by kernel_rfl))
def m71_56 (N : Nat) (x0 x83 h0 h1 : D) (K : D → D → Option R) (Kr : D → D → D → Option R) : Option R :=
  (bif x83.toB then (bif (eqL x0.toS [43]) then Kr (D.p (sp10 (D.ag [(D.i 2), (D.i 0), (F2.ev .fadd (h0.at 2) (h1.at 2)), (D.s [])]))) h0 h1 else (bif (eqL x0.toS [45]) then Kr (D.p (sp10 (D.ag [(D.i 2), (D.i 0), (F2.ev .fsub (h0.at 2) (h1.at 2)), (D.s [])]))) h0 h1 else (bif (eqL x0.toS [42]) then Kr (D.p (sp10 (D.ag [(D.i 2), (D.i 0), (F2.ev .fmul (h0.at 2) (h1.at 2)), (D.s [])]))) h0 h1 else K h0 h1))) else K h0 h1)
def s71_7 (h0 h1 : D) : St := sts 113 [(6, V.a)] [V.f h0, V.f h1]
theorem e71_56 (N : Nat) (k : Kn R) (x0 x83 h0 h1 : D) : runC PHI Tb37 N vc71_56 (s71_6 x0 x83 h0 h1) k = m71_56 N x0 x83 h0 h1 (fun h0 h1 => k .normal (s71_7 h0 h1)) (fun x6 h0 h1 => k .ret (s71_5 x6 h0 h1)) := by kernel_rfl
def m71_54 (N : Nat) (x0 h0 h1 : D) (K : D → D → Option R) (Kr : D → D → D → Option R) : Option R :=
  (m71_55 N x0 h0 h1 (fun y0 y83 h0 h1 => (m71_56 N y0 y83 h0 h1 (fun h0 h1 => K h0 h1) Kr)))
theorem e71_54 (N : Nat) (k : Kn R) (x0 h0 h1 : D) : runC PHI Tb37 N vc71_54 (s71_1 x0 h0 h1) k = m71_54 N x0 h0 h1 (fun h0 h1 => k .normal (s71_7 h0 h1)) (fun x6 h0 h1 => k .ret (s71_5 x6 h0 h1)) := by
  have h2 := e71_55 N (kseq PHI Tb37 N vc71_56 k) x0 h0 h1
  have h3 := (funext fun y0 => funext fun y83 => funext fun h0 => funext fun h1 => (e71_56 N k y0 y83 h0 h1) : (fun (y0 y83 h0 h1 : D) => (kseq PHI Tb37 N vc71_56 k) .normal (s71_6 y0 y83 h0 h1)) = _)
  refine Eq.trans (runC_seq _ _ _ k) (Eq.trans h2 (Eq.trans (congrArg (fun K => m71_55 N x0 h0 h1 K) h3) (by kernel_rfl)))
def m71_80 (N : Nat) (h0 h1 : D) (Kr : D → D → D → Option R) : Option R :=
  Kr (D.p (D.ag [(D.i 0), (D.i 0), (D.f 0), (D.s [])])) h0 h1
theorem e71_80 (N : Nat) (k : Kn R) (h0 h1 : D) : runC PHI Tb37 N vc71_80 (s71_7 h0 h1) k = m71_80 N h0 h1 (fun x6 h0 h1 => k .ret (s71_5 x6 h0 h1)) := by kernel_rfl
def m71_53 (N : Nat) (x0 h0 h1 : D) (Kr : D → D → D → Option R) : Option R :=
  (m71_54 N x0 h0 h1 (fun h0 h1 => (m71_80 N h0 h1 Kr)) Kr)
theorem e71_53 (N : Nat) (k : Kn R) (x0 h0 h1 : D) : runC PHI Tb37 N vc71_53 (s71_1 x0 h0 h1) k = m71_53 N x0 h0 h1 (fun x6 h0 h1 => k .ret (s71_5 x6 h0 h1)) := by
  have h2 := e71_54 N (kseq PHI Tb37 N vc71_80 k) x0 h0 h1
  have h3 := (funext fun h0 => funext fun h1 => (e71_80 N k h0 h1) : (fun (h0 h1 : D) => (kseq PHI Tb37 N vc71_80 k) .normal (s71_7 h0 h1)) = _)
  refine Eq.trans (runC_seq _ _ _ k) (Eq.trans h2 (Eq.trans (congrArg (fun K => m71_54 N x0 h0 h1 K (fun x6 h0 h1 => (kseq PHI Tb37 N vc71_80 k) .ret (s71_5 x6 h0 h1))) h3) (by kernel_rfl)))
def m71_4 (N : Nat) (x0 h0 h1 : D) (Kr : D → D → D → Option R) : Option R :=
  (m71_5 N x0 h0 h1 (fun y0 h0 h1 => (m71_53 N y0 h0 h1 Kr)) Kr)
theorem e71_4 (N : Nat) (k : Kn R) (x0 h0 h1 : D) : runC PHI Tb37 N vc71_4 (s71_1 x0 h0 h1) k = m71_4 N x0 h0 h1 (fun x6 h0 h1 => k .ret (s71_5 x6 h0 h1)) := by
  have h2 := e71_5 N (kseq PHI Tb37 N vc71_53 k) x0 h0 h1
  have h3 := (funext fun y0 => funext fun h0 => funext fun h1 => (e71_53 N k y0 h0 h1) : (fun (y0 h0 h1 : D) => (kseq PHI Tb37 N vc71_53 k) .normal (s71_1 y0 h0 h1)) = _)
  refine Eq.trans (runC_seq _ _ _ k) (Eq.trans h2 (Eq.trans (congrArg (fun K => m71_5 N x0 h0 h1 K (fun x6 h0 h1 => (kseq PHI Tb37 N vc71_53 k) .ret (s71_5 x6 h0 h1))) h3) (by kernel_rfl)))
def m71_2 (N : Nat) (x0 h0 h1 : D) (Kr : D → D → D → Option R) : Option R :=
  (m71_3 N x0 h0 h1 (fun y0 h0 h1 => (m71_4 N y0 h0 h1 Kr)))
theorem e71_2 (N : Nat) (k : Kn R) (x0 h0 h1 : D) : runC PHI Tb37 N vc71_2 (s71_1 x0 h0 h1) k = m71_2 N x0 h0 h1 (fun x6 h0 h1 => k .ret (s71_5 x6 h0 h1)) := by
  have h2 := e71_3 N (kseq PHI Tb37 N vc71_4 k) x0 h0 h1
  have h3 := (funext fun y0 => funext fun h0 => funext fun h1 => (e71_4 N k y0 h0 h1) : (fun (y0 h0 h1 : D) => (kseq PHI Tb37 N vc71_4 k) .normal (s71_1 y0 h0 h1)) = _)
  refine Eq.trans (runC_seq _ _ _ k) (Eq.trans h2 (Eq.trans (congrArg (fun K => m71_3 N x0 h0 h1 K) h3) (by kernel_rfl)))
def m71_0 (N : Nat) (x0 x1 x2 : D) (Kr : D → D → D → Option R) : Option R :=
  (m71_1 N x0 x1 x2 (fun y0 h0 h1 => (m71_2 N y0 h0 h1 Kr)))
theorem e71_0 (N : Nat) (k : Kn R) (x0 x1 x2 : D) : runC PHI Tb37 N vc71_0 (s71_0 x0 x1 x2) k = m71_0 N x0 x1 x2 (fun x6 h0 h1 => k .ret (s71_5 x6 h0 h1)) := by
  have h2 := e71_1 N (kseq PHI Tb37 N vc71_2 k) x0 x1 x2
  have h3 := (funext fun y0 => funext fun h0 => funext fun h1 => (e71_2 N k y0 h0 h1) : (fun (y0 h0 h1 : D) => (kseq PHI Tb37 N vc71_2 k) .normal (s71_1 y0 h0 h1)) = _)
  refine Eq.trans (runC_seq _ _ _ k) (Eq.trans h2 (Eq.trans (congrArg (fun K => m71_1 N x0 x1 x2 K) h3) (by kernel_rfl)))
theorem r71 (N : Nat) (x0 x1 x2 : D) : runC PHI Tb37 N vf71.body (enterV vf71 [V.f x0, V.f x1, V.f x2] []) (finish vf71) = m71_0 N x0 x1 x2 (fun x6 h0 h1 => finish vf71 .ret (s71_5 x6 h0 h1)) := 
  Eq.trans (runC_pre (s1 := (s71_0 x0 x1 x2)) (by kernel_rfl) _ _) (Eq.trans (e71_0 N (finish vf71) x0 x1 x2) (by kernel_rfl))
end
def Tb71 : CallF := extend Tb37 71 (fn3 (fun _ _ _ => true) fun o x y => .f (sp71 o x y))
theorem ok71 : FnOk Try.prog PHI Tb71 := FnOk.add3 hPHI ok37 (by kernel_rfl) fun o x y _ _ => ⟨0, (r71 0 o x y).trans (by
  simp only [m71_1, m71_3, m71_6, m71_9, m71_11, m71_41, m71_10, m71_8, m71_52, m71_7, m71_5, m71_55, m71_56, m71_54, m71_80, m71_53, m71_4, m71_2, m71_0, toB_b, sp71]
  generalize sp10 x = a
  generalize sp10 y = b
  unfold arB arG ari0 ari1 sub0 sub1 mx w64 rl
  by_cases h1 : (a.at 0).toI = 1
  · have h2 : ¬ (a.at 0).toI = 2 := by omega
    rw [eqb_t h1, eqb_f h2]
    cases eqb (b.at 0).toI 1
    · rfl
    · simp only [cond_true, Bool.and_self]
      cases eqL o.toS [43]
      · cases eqL o.toS [45]
        · cases eqL o.toS [42]
          · rfl
          · simp only [cond_true, cond_false]
            cases sp95_1 (a.at 1) (b.at 1) <;> rfl
        · simp only [cond_true, cond_false]
          cases eqb (b.at 1).toI (-9223372036854775808)
          · simp only [cond_false, toB_b]
            cases sp94_1 (a.at 1) (.i (IntKind.wrap IntKind.i64 (0 - (b.at 1).toI))) <;> rfl
          · simp only [cond_true]
            cases h5 : sp94_1 (a.at 1) (.i 9223372036854775807)
            · simp only [cond_false]
              cases ltb (a.at 1).toI 0
              · simp only [cond_false, toB_b]; rfl
              · rfl
            · simp only [cond_true, toB_b]
              cases sp94_1 (.i (sp94_0 (a.at 1) (.i 9223372036854775807))) (.i 1) <;> rfl
      · simp only [cond_true, toB_b]
        cases sp94_1 (a.at 1) (b.at 1) <;> rfl
  · rw [eqb_f h1]
    cases eqb (a.at 0).toI 2
    · rfl
    · cases eqb (b.at 0).toI 2
      · rfl
      · simp only [cond_true, cond_false, Bool.and_self, Bool.false_and, toB_b]
        cases eqL o.toS [43]
        · cases eqL o.toS [45]
          · cases eqL o.toS [42] <;> rfl
          · rfl
        · rfl)⟩

end Go.Vam.C15
namespace Go.Vam.C15
open Go.Proofs
/-! ### Two values that are one, up to which NaN it is -/
structure Q (x y : D) : Prop where
  k : (x.at 0).toI = (y.at 0).toI
  n : (x.at 1).toI = (y.at 1).toI
  f : FEq (x.at 2).toF (y.at 2).toF
  s : (x.at 3).toS = (y.at 3).toS
  r : -9223372036854775808 ≤ (x.at 1).toI ∧ (x.at 1).toI ≤ 9223372036854775807
theorem FEq.rfl' (n : Nat) : FEq n n := .inl rfl
theorem Q_z : Q z0 z0 := ⟨rfl, rfl, .inl rfl, rfl, by decide⟩
theorem Q_b (b : Bool) : Q (sp51 (.b b)) (sp63 (.b b)) := ⟨rfl, rfl, .inl rfl, rfl, by cases b <;> decide⟩
theorem Q_b' (b : Bool) : Q (sp51 (.b b)) (sp51 (.b b)) := Q_b b
theorem nan_feq {x y : D} (h : FEq x.toF y.toF) : nan x = nan y := by
  unfold nan
  rcases h with h | ⟨h1, h2⟩
  · rw [h]
  · rw [h1, h2]
theorem fe_feq {x y : D} (h : FEq x.toF y.toF) : Fe x y := ⟨nan_feq h, fun c => (FEq.order h (.inl rfl)).symm, fun c => (FEq.order (.inl rfl) h).symm⟩
theorem canon_cl {x y : D} (h : FEq x.toF y.toF) : FEq (canon x).toF (cl y).toF := by
  have hf := fe_feq h
  unfold canon cl
  rw [s64, feq_o, fne_o, ← hf.l]
  cases hn : nan x
  · simp only [cond_false]
    cases (oo x (.f 0) == some .eq)
    · exact h
    · exact .inl rfl
  · simp only [cond_true]
    rw [(oo_none x (.f 0)).2 (.inl hn)]
    exact .inr ⟨nan98, (hf.n ▸ hn : nan y = true)⟩
theorem Q.clean {x y : D} (h : Q x y) : Q (sp30 x) (sp10 y) := by
  rcases five x with (hk | hk | hk | hk) | hk
  · have e : sp30 x = sp60 (x.at 1) := by unfold sp30; rw [hk]; rfl
    have hk' : (y.at 0).toI = 1 := h.k ▸ hk
    have e' : sp10 y = .ag [y.at 0, y.at 1, .f 0, .s []] := by unfold sp10; rw [hk']; rfl
    rw [e, e']
    exact ⟨hk'.symm, h.n, .inl rfl, rfl, h.r⟩
  · have e : sp30 x = sp61 (x.at 2) := by unfold sp30; rw [hk]; rfl
    have hk' : (y.at 0).toI = 2 := h.k ▸ hk
    have e' : sp10 y = .ag [y.at 0, .i 0, cl (y.at 2), .s []] := by unfold sp10 cl; rw [hk']; rfl
    rw [e, e']
    exact ⟨hk'.symm, rfl, canon_cl h.f, rfl, show (-9223372036854775808 : Int) ≤ 0 ∧ (0 : Int) ≤ 9223372036854775807 by decide⟩
  · have e : sp30 x = sp62 (x.at 3) := by unfold sp30; rw [hk]; rfl
    have hk' : (y.at 0).toI = 3 := h.k ▸ hk
    have e' : sp10 y = .ag [y.at 0, .i 0, .f 0, y.at 3] := by unfold sp10; rw [hk']; rfl
    rw [e, e']
    exact ⟨hk'.symm, rfl, .inl rfl, h.s, show (-9223372036854775808 : Int) ≤ 0 ∧ (0 : Int) ≤ 9223372036854775807 by decide⟩
  · have e : sp30 x = sp51 (.b (!eqb (x.at 1).toI 0)) := by unfold sp30; rw [hk]; rfl
    have hk' : (y.at 0).toI = 4 := h.k ▸ hk
    have e' : sp10 y = .ag [y.at 0, .i (bif !eqb (y.at 1).toI 0 then 1 else 0), .f 0, .s []] := by unfold sp10; rw [hk']; rfl
    rw [e, e', h.n]
    exact ⟨hk'.symm, rfl, .inl rfl, rfl, by
      show -9223372036854775808 ≤ (bif !eqb (y.at 1).toI 0 then (1 : Int) else 0) ∧ (bif !eqb (y.at 1).toI 0 then (1 : Int) else 0) ≤ 9223372036854775807
      cases eqb (y.at 1).toI 0 <;> decide⟩
  · have e : sp30 x = z0 := by unfold sp30; rw [eqb_f hk.1, eqb_f hk.2.1, eqb_f hk.2.2.1, eqb_f hk.2.2.2]; rfl
    rw [e]
    have hk2 := hk
    rw [h.k] at hk2
    by_cases h0 : (y.at 0).toI = 0
    · have e' : sp10 y = .ag [y.at 0, .i 0, .f 0, .s []] := by unfold sp10; rw [h0]; rfl
      rw [e']
      exact ⟨h0.symm, rfl, .inl rfl, rfl, by decide⟩
    · have e' : sp10 y = z0 := by
        unfold sp10
        by_cases h1 : (y.at 0).toI < 0
        · rw [ltb_t h1]; rfl
        · rw [ltb_f h1, ltb_t (show 4 < (y.at 0).toI by omega)]; rfl
      rw [e']
      exact Q_z
theorem T_Q {x y u v : D} (h : Q x y) (h' : Q u v) : T x u = T y v := by
  have k1 : kd x = kd y := by unfold kd; rw [h.k]
  have k2 : kd u = kd v := by unfold kd; rw [h'.k]
  have n1 : num x = num y := by unfold num; rw [h.k, h.n]
  have n2 : num u = num v := by unfold num; rw [h'.k, h'.n]
  unfold T
  rw [k1, k2, n1, n2, h.s, h'.s, G_fe (fe_feq h.f) (fe_feq h'.f)]
/-! ### Truths -/
theorem Q_not {x y : D} (h : Q x y) : Q (sp46 x) (sp68 y) := by
  unfold sp46 sp68 sp74 sp93
  rw [← h.k, ← h.n]
  cases eqb (x.at 0).toI 4
  · exact Q_z
  · cases eqb (x.at 1).toI 0
    · exact Q_b false
    · exact Q_b true
theorem Q_and {x y u v : D} (h : Q x y) (h' : Q u v) : Q (sp47 x u) (sp69 y v) := by
  unfold sp47 sp69 sp74 sp93
  rw [← h.k, ← h.n, ← h'.k, ← h'.n]
  cases eqb (x.at 0).toI 4 <;> cases eqb (u.at 0).toI 4 <;> cases eqb (x.at 1).toI 0 <;> cases eqb (u.at 1).toI 0 <;> first | exact Q_z | exact Q_b false | exact Q_b true
theorem t48 (x : D) : sp74 (sp46 x) = bif eqb (x.at 0).toI 4 then (bif eqb (x.at 1).toI 0 then 1 else 0) else -1 := by
  unfold sp46
  have : sp74 x = bif !eqb (x.at 0).toI 4 then -1 else bif !eqb (x.at 1).toI 0 then 1 else 0 := rfl
  rw [this]
  cases eqb (x.at 0).toI 4 <;> cases eqb (x.at 1).toI 0 <;> rfl
theorem Q_or {x y u v : D} (h : Q x y) (h' : Q u v) : Q (sp48 x u) (sp70 y v) := by
  unfold sp48 sp70
  have e : sp47 (sp46 x) (sp46 u) = bif eqb (sp74 (sp46 x)) 0 || eqb (sp74 (sp46 u)) 0 then sp75 (.i 0) else bif ltb (sp74 (sp46 x)) 0 || ltb (sp74 (sp46 u)) 0 then sp75 (.i (-1)) else sp75 (.i 1) := rfl
  rw [e, t48, t48]
  unfold sp93
  rw [← h.k, ← h.n, ← h'.k, ← h'.n]
  cases eqb (x.at 0).toI 4 <;> cases eqb (u.at 0).toI 4 <;> cases eqb (x.at 1).toI 0 <;> cases eqb (u.at 1).toI 0 <;> first | exact Q_z | exact Q_b false | exact Q_b true
theorem Q_cm (o : D) (c : Int) : Q (cmA o c) (cmA o c) := by
  unfold cmA
  cases eqL o.toS [61]
  · cases eqL o.toS [60, 62]
    · cases eqL o.toS [60]
      · cases eqL o.toS [60, 61]
        · cases eqL o.toS [62]
          · cases eqL o.toS [62, 61]
            · exact Q_z
            · exact Q_b' _
          · exact Q_b' _
        · exact Q_b' _
      · exact Q_b' _
    · exact Q_b' _
  · exact Q_b' _
theorem Q_cmp (o : D) {x y u v : D} (h : Q x y) (h' : Q u v) : Q (sp49 o x u) (sp37 o y v) := by
  unfold sp49 sp37
  rw [t27, t29, T_Q h h', h.clean.k, h'.clean.k, Bool.or_comm]
  cases (!eqb ((sp10 y).at 0).toI ((sp10 v).at 0).toI || eqb ((sp10 y).at 0).toI 0)
  · exact Q_cm _ _
  · exact Q_z
/-! ### Whole numbers -/
def inR (z : Int) : Bool := leb (-9223372036854775808) z && leb z 9223372036854775807
def rs (z : Int) : D := bif inR z then sp60 (.i z) else z0
theorem inR_t {z : Int} (h : -9223372036854775808 ≤ z) (h' : z ≤ 9223372036854775807) : inR z = true := by unfold inR; rw [leb_t h, leb_t h']; rfl
theorem inR_f {z : Int} (h : z < -9223372036854775808 ∨ 9223372036854775807 < z) : inR z = false := by
  unfold inR
  rcases h with h | h
  · rw [leb_f (by omega)]; rfl
  · rw [leb_f (show ¬ z ≤ 9223372036854775807 by omega), Bool.and_false]
theorem w64e (n : Int) : w64 n = (n + 9223372036854775808) % 18446744073709551616 - 9223372036854775808 := wrap64 n
theorem add85 {a b : Int} (ha : -9223372036854775808 ≤ a ∧ a ≤ 9223372036854775807) (hb : -9223372036854775808 ≤ b ∧ b ≤ 9223372036854775807) :
    (bif (ltb a (w64 (a + b)) == ltb 0 b) then sp60 (.i (w64 (a + b))) else z0) = rs (a + b) := by
  unfold rs
  by_cases hin : -9223372036854775808 ≤ a + b ∧ a + b ≤ 9223372036854775807
  · rw [inR_t hin.1 hin.2]
    have e : w64 (a + b) = a + b := wrap64_id hin.1 hin.2
    rw [e]
    by_cases h0 : 0 < b
    · rw [ltb_t h0, ltb_t (show a < a + b by omega)]; rfl
    · rw [ltb_f h0, ltb_f (show ¬ a < a + b by omega)]; rfl
  · rw [inR_f (by omega)]
    have e := w64e (a + b)
    by_cases h0 : 0 < b
    · rw [ltb_t h0, ltb_f (show ¬ a < w64 (a + b) by omega)]; rfl
    · rw [ltb_f h0, ltb_t (show a < w64 (a + b) by omega)]; rfl
theorem sub85 {a b : Int} (ha : -9223372036854775808 ≤ a ∧ a ≤ 9223372036854775807) (hb : -9223372036854775808 ≤ b ∧ b ≤ 9223372036854775807) :
    (bif (ltb (w64 (a - b)) a == ltb 0 b) then sp60 (.i (w64 (a - b))) else z0) = rs (a - b) := by
  unfold rs
  by_cases hin : -9223372036854775808 ≤ a - b ∧ a - b ≤ 9223372036854775807
  · rw [inR_t hin.1 hin.2]
    have e : w64 (a - b) = a - b := wrap64_id hin.1 hin.2
    rw [e]
    by_cases h0 : 0 < b
    · rw [ltb_t h0, ltb_t (show a - b < a by omega)]; rfl
    · rw [ltb_f h0, ltb_f (show ¬ a - b < a by omega)]; rfl
  · rw [inR_f (by omega)]
    have e := w64e (a - b)
    by_cases h0 : 0 < b
    · rw [ltb_t h0, ltb_f (show ¬ w64 (a - b) < a by omega)]; rfl
    · rw [ltb_f h0, ltb_t (show w64 (a - b) < a by omega)]; rfl
theorem mul_big {a b : Int} (hb : b ≠ 0) {n : Int} (h : Int.tdiv n b = a) (hr : -9223372036854775808 ≤ n ∧ n ≤ 9223372036854775807) : (n - a * b).natAbs < b.natAbs := by
  have e : n - a * b = Int.tmod n b := by
    have := Int.tmod_add_mul_tdiv n b
    rw [h, Int.mul_comm] at this
    omega
  rw [e, Int.natAbs_tmod]
  exact Nat.mod_lt _ (by omega)
theorem mul85 {a b : Int} (ha : -9223372036854775808 ≤ a ∧ a ≤ 9223372036854775807) (hb : -9223372036854775808 ≤ b ∧ b ≤ 9223372036854775807) :
    (bif (bif eqb a 0 || eqb b 0 then true else mulOk a b) then sp60 (.i (bif eqb a 0 || eqb b 0 then 0 else w64 (a * b))) else z0) = rs (a * b) := by
  by_cases ha0 : a = 0
  · subst ha0; rw [Int.zero_mul]; rfl
  by_cases hb0 : b = 0
  · subst hb0; rw [Int.mul_zero, Bool.or_comm]; rfl
  rw [eqb_f ha0, eqb_f hb0]
  simp only [Bool.or_self, cond_false]
  unfold rs mulOk
  have hw := w64e (a * b)
  by_cases hin : -9223372036854775808 ≤ a * b ∧ a * b ≤ 9223372036854775807
  · rw [inR_t hin.1 hin.2]
    have e : w64 (a * b) = a * b := wrap64_id hin.1 hin.2
    have e2 : Int.tdiv (a * b) b = a := Int.mul_tdiv_cancel a hb0
    have e3 : w64 a = a := wrap64_id ha.1 ha.2
    rw [e, e2, e3, eqb_t rfl]
    have h1 : (eqb a (-1) && eqb b (-9223372036854775808)) = false := by
      by_cases h : a = -1
      · subst h
        rw [eqb_f (show ¬ b = -9223372036854775808 by omega), Bool.and_false]
      · rw [eqb_f h]; rfl
    have h2 : (eqb b (-1) && eqb a (-9223372036854775808)) = false := by
      by_cases h : b = -1
      · subst h
        rw [eqb_f (show ¬ a = -9223372036854775808 by omega), Bool.and_false]
      · rw [eqb_f h]; rfl
    rw [h1, h2]; rfl
  · rw [inR_f (by omega)]
    have hn : -9223372036854775808 ≤ w64 (a * b) ∧ w64 (a * b) ≤ 9223372036854775807 := by omega
    by_cases h1 : a = -1 ∧ b = -9223372036854775808
    · obtain ⟨rfl, rfl⟩ := h1; rfl
    by_cases h2 : b = -1 ∧ a = -9223372036854775808
    · obtain ⟨rfl, rfl⟩ := h2; rfl
    have hdiv : eqb (w64 (Int.tdiv (w64 (a * b)) b)) a = false := by
      refine eqb_f fun he => ?_
      -- the quotient is in range, so it is not wrapped, but for one that is told
      have hq : w64 (Int.tdiv (w64 (a * b)) b) = Int.tdiv (w64 (a * b)) b ∨ (w64 (a * b) = -9223372036854775808 ∧ b = -1) := by
        by_cases hx : w64 (a * b) = -9223372036854775808 ∧ b = -1
        · exact .inr hx
        · refine .inl (wrap64_id ?_ ?_)
          all_goals (
            have hna : (Int.tdiv (w64 (a * b)) b).natAbs = (w64 (a * b)).natAbs / b.natAbs := Int.natAbs_tdiv _ _
            have hle : (w64 (a * b)).natAbs / b.natAbs ≤ (w64 (a * b)).natAbs := Nat.div_le_self _ _
            by_cases hb1 : b.natAbs = 1
            · have hbb : b = 1 ∨ b = -1 := by omega
              rcases hbb with rfl | rfl
              · rw [Int.tdiv_one]; omega
              · have : Int.tdiv (w64 (a * -1)) (-1) = - w64 (a * -1) := by rw [Int.tdiv_neg, Int.tdiv_one]
                omega
            · have hb2 : 2 ≤ b.natAbs := by omega
              have : (w64 (a * b)).natAbs / b.natAbs ≤ (w64 (a * b)).natAbs / 2 := Nat.div_le_div_left hb2 (by omega)
              omega)
      rcases hq with hq | ⟨hq1, hq2⟩
      · rw [hq] at he
        have := mul_big hb0 he hn
        omega
      · subst hq2
        have : a * -1 = -a := by omega
        rw [this] at hq1 hin hw
        omega
    rw [hdiv]; rfl
/-! ### .. the document's -/
theorem wh_rs (below : Bool) (z : Int) (h0 : 0 ≤ z) (h1 : z ≤ 9223372036854775808) : (bif wh1 (some (below, z)) then sp60 (.i (wh0 (some (below, z)))) else z0) = rs (bif below then -z else z) := by
  show (bif sp104_1 (.b below) (.i z) then sp60 (.i (sp104_0 (.b below) (.i z))) else z0) = _
  unfold sp104_1 sp104_0 rs
  simp only [toB_b, toI_i]
  cases below
  · simp only [Bool.false_and, cond_false]
    by_cases h : z < 9223372036854775808
    · rw [ltb_t h, inR_t (by omega) (by omega)]
      have e : w64 z = z := wrap64_id (by omega) (by omega)
      rw [e]
    · rw [ltb_f h, inR_f (by omega)]; rfl
  · simp only [Bool.true_and, cond_true]
    rw [inR_t (by omega) (by omega)]
    by_cases hz : 0 < z
    · rw [ltb_t hz]
      simp only [cond_true]
      rw [leb_t h1, wu_id (by omega) (by omega)]
      have e1 : w64 (z - 1) = z - 1 := wrap64_id (by omega) (by omega)
      have e2 : w64 (0 - (z - 1)) = 0 - (z - 1) := wrap64_id (by omega) (by omega)
      have e3 : w64 (0 - (z - 1) - 1) = 0 - (z - 1) - 1 := wrap64_id (by omega) (by omega)
      rw [e1, e2, e3, show 0 - (z - 1) - 1 = -z by omega]; rfl
    · have : z = 0 := by omega
      subst this; rfl
theorem add87 {x y : D} (ha : -9223372036854775808 ≤ x.toI ∧ x.toI ≤ 9223372036854775807) (hb : -9223372036854775808 ≤ y.toI ∧ y.toI ≤ 9223372036854775807) :
    (bif sp94_1 x y then sp60 (.i (sp94_0 x y)) else z0) = rs (x.toI + y.toI) := by
  unfold sp94_1 sp94_0 addS
  rw [sp99_abs ha, sp99_abs hb]
  generalize x.toI = a at *
  generalize y.toI = b at *
  by_cases h1 : a < 0
  · rw [ltb_t h1, if_pos h1]
    by_cases h2 : b < 0
    · rw [ltb_t h2, if_pos h2]
      simp only [beq_self_eq_true, cond_true]
      rw [wu_id (n := 9223372036854775808 - -b) (by omega) (by omega)]
      by_cases h3 : 9223372036854775808 - -b < -a
      · rw [ltb_t h3]; unfold rs; rw [inR_f (by omega)]; rfl
      · rw [ltb_f h3]
        simp only [cond_false]
        rw [wu_id (by omega) (by omega), wh_rs true _ (by omega) (by omega)]
        simp only [cond_true]
        congr 1; omega
    · rw [ltb_f h2, if_neg h2]
      simp only [show (true == false) = false from rfl, cond_false]
      by_cases h3 : b ≤ -a
      · rw [leb_t h3]
        simp only [cond_true]
        rw [wu_id (by omega) (by omega), wh_rs true _ (by omega) (by omega)]
        simp only [cond_true]
        congr 1; omega
      · rw [leb_f h3]
        simp only [cond_false]
        rw [wu_id (by omega) (by omega), wh_rs false _ (by omega) (by omega)]
        simp only [cond_false]
        congr 1; omega
  · rw [ltb_f h1, if_neg h1]
    by_cases h2 : b < 0
    · rw [ltb_t h2, if_pos h2]
      simp only [show (false == true) = false from rfl, cond_false]
      by_cases h3 : -b ≤ a
      · rw [leb_t h3]
        simp only [cond_true]
        rw [wu_id (by omega) (by omega), wh_rs false _ (by omega) (by omega)]
        simp only [cond_false]
        congr 1; omega
      · rw [leb_f h3]
        simp only [cond_false]
        rw [wu_id (by omega) (by omega), wh_rs true _ (by omega) (by omega)]
        simp only [cond_true]
        congr 1; omega
    · rw [ltb_f h2, if_neg h2]
      simp only [beq_self_eq_true, cond_true]
      rw [wu_id (n := 9223372036854775808 - b) (by omega) (by omega)]
      by_cases h3 : 9223372036854775808 - b < a
      · rw [ltb_t h3]; unfold rs; rw [inR_f (by omega)]; rfl
      · rw [ltb_f h3]
        simp only [cond_false]
        rw [wu_id (by omega) (by omega), wh_rs false _ (by omega) (by omega)]
        simp only [cond_false]
/-- Whether it fits, and what it is then. -/
theorem rs_inv {c : Bool} {n z : Int} (h : (bif c then sp60 (.i n) else z0) = rs z) : c = inR z ∧ (c = true → n = z) := by
  unfold rs at h
  cases c <;> cases hz : inR z <;> rw [hz] at h
  · exact ⟨rfl, fun h => by cases h⟩
  · exfalso
    have := congrArg (fun d => (d.at 0).toI) h
    exact absurd this (show ¬ (0 : Int) = 1 by decide)
  · exfalso
    have := congrArg (fun d => (d.at 0).toI) h
    exact absurd this (show ¬ (1 : Int) = 0 by decide)
  · exact ⟨rfl, fun _ => congrArg (fun d => (d.at 1).toI) h⟩
theorem mx_i : mx.toI = 9223372036854775807 := rfl
theorem sub60 {x y : D} (ha : -9223372036854775808 ≤ x.toI ∧ x.toI ≤ 9223372036854775807) (hb : -9223372036854775808 ≤ y.toI ∧ y.toI ≤ 9223372036854775807) :
    (bif sub1 x y then sp60 (.i (sub0 x y)) else z0) = rs (x.toI - y.toI) := by
  unfold sub1 sub0
  by_cases h : y.toI = -9223372036854775808
  · rw [eqb_t h]
    simp only [cond_true]
    obtain ⟨h1, h2⟩ := rs_inv (add87 (x := x) (y := mx) ha (by rw [mx_i]; omega))
    rw [mx_i] at h1 h2
    by_cases hx : x.toI < 0
    · rw [ltb_t hx]
      have hi : inR (x.toI + 9223372036854775807) = true := inR_t (by omega) (by omega)
      rw [hi] at h1
      have h3 := h2 h1
      rw [h1]
      simp only [cond_true]
      rw [add87 (x := .i (sp94_0 x mx)) (y := .i 1) (by rw [toI_i, h3]; omega) (by rw [toI_i]; omega), toI_i, toI_i, h3, h]
      congr 1; omega
    · rw [ltb_f hx]
      by_cases hx0 : x.toI = 0
      · have hi : inR (x.toI + 9223372036854775807) = true := inR_t (by omega) (by omega)
        rw [hi] at h1
        have h3 := h2 h1
        rw [h1]
        simp only [cond_true]
        rw [add87 (x := .i (sp94_0 x mx)) (y := .i 1) (by rw [toI_i, h3]; omega) (by rw [toI_i]; omega), toI_i, toI_i, h3, h]
        congr 1; omega
      · have hi : inR (x.toI + 9223372036854775807) = false := inR_f (by omega)
        rw [hi] at h1
        rw [h1]
        unfold rs
        rw [inR_f (by omega)]; rfl
  · rw [eqb_f h]
    simp only [cond_false]
    have e : w64 (0 - y.toI) = 0 - y.toI := wrap64_id (by omega) (by omega)
    rw [add87 ha (by rw [toI_i, e]; omega), toI_i, e]
    congr 1; omega
theorem mul88 {x y : D} (ha : -9223372036854775808 ≤ x.toI ∧ x.toI ≤ 9223372036854775807) (hb : -9223372036854775808 ≤ y.toI ∧ y.toI ≤ 9223372036854775807) :
    (bif sp95_1 x y then sp60 (.i (sp95_0 x y)) else z0) = rs (x.toI * y.toI) := by
  unfold sp95_1 sp95_0 mulS
  rw [sp99_abs ha, sp99_abs hb]
  generalize x.toI = a at *
  generalize y.toI = b at *
  have hA : ∃ u, u = (if a < 0 then -a else a) := ⟨_, rfl⟩
  have hB : ∃ u, u = (if b < 0 then -b else b) := ⟨_, rfl⟩
  obtain ⟨u, hu⟩ := hA
  obtain ⟨v, hv⟩ := hB
  rw [← hu, ← hv]
  have hu0 : 0 ≤ u := by rw [hu]; split <;> omega
  have hv0 : 0 ≤ v := by rw [hv]; split <;> omega
  have huv : 0 ≤ u * v := Int.mul_nonneg hu0 hv0
  have key : a * b = bif (ltb a 0 != ltb b 0) then -(u * v) else u * v := by
    rw [hu, hv]
    by_cases h1 : a < 0 <;> by_cases h2 : b < 0
    · rw [ltb_t h1, ltb_t h2, if_pos h1, if_pos h2]; simp [Int.neg_mul, Int.mul_neg]
    · rw [ltb_t h1, ltb_f h2, if_pos h1, if_neg h2]; simp [Int.neg_mul, Int.mul_neg]
    · rw [ltb_f h1, ltb_t h2, if_neg h1, if_pos h2]; simp [Int.neg_mul, Int.mul_neg]
    · rw [ltb_f h1, ltb_f h2, if_neg h1, if_neg h2]; simp
  rw [key]
  generalize u * v = p at *
  by_cases h : 9223372036854775808 < p
  · rw [ltb_t h]
    unfold rs
    rw [inR_f (by cases (ltb a 0 != ltb b 0) <;> simp only [cond_true, cond_false] <;> omega)]; rfl
  · rw [ltb_f h]
    exact wh_rs _ p huv (by omega)
theorem ari_eq (o : D) {x y u v : D} (hx : x.toI = u.toI) (hy : y.toI = v.toI) (ha : -9223372036854775808 ≤ x.toI ∧ x.toI ≤ 9223372036854775807) (hb : -9223372036854775808 ≤ y.toI ∧ y.toI ≤ 9223372036854775807) :
    (bif sp76_1 o x y then sp60 (.i (sp76_0 o x y)) else z0) = (bif ari1 o u v then sp60 (.i (ari0 o u v)) else z0) := by
  unfold sp76_1 sp76_0 ari1 ari0
  cases eqL o.toS [43]
  · cases eqL o.toS [45]
    · cases eqL o.toS [42]
      · rfl
      · simp only [cond_true, cond_false]
        rw [mul85 ha hb, mul88 (by rw [← hx]; exact ha) (by rw [← hy]; exact hb), hx, hy]
    · simp only [cond_true, cond_false]
      rw [sub85 ha hb, sub60 (by rw [← hx]; exact ha) (by rw [← hy]; exact hb), hx, hy]
  · simp only [cond_true]
    rw [add85 ha hb, add87 (by rw [← hx]; exact ha) (by rw [← hy]; exact hb), hx, hy]
theorem Q_rs (z : Int) : Q (rs z) (rs z) := by
  unfold rs
  cases h : inR z
  · exact Q_z
  · unfold inR at h
    rw [Bool.and_eq_true] at h
    exact ⟨rfl, rfl, .inl rfl, rfl, of_decide_eq_true h.1, of_decide_eq_true h.2⟩
theorem Q_real {x y : D} (h : FEq x.toF y.toF) : Q (sp61 x) (rl y) := by
  have e : rl y = .ag [.i 2, .i 0, cl y, .s []] := rfl
  rw [e]
  exact ⟨rfl, rfl, canon_cl h, rfl, show (-9223372036854775808 : Int) ≤ 0 ∧ (0 : Int) ≤ 9223372036854775807 by decide⟩
theorem Q_arF (o : D) {x y u v : D} (h : FEq x.toF y.toF) (h' : FEq u.toF v.toF) : Q (arF o x u) (arG o y v) := by
  unfold arF arG
  cases eqL o.toS [43]
  · cases eqL o.toS [45]
    · cases eqL o.toS [42]
      · exact Q_z
      · refine Q_real (.inl ?_)
        show ((Ieee.double.mul x.toF u.toF).getD nanW) = ((Ieee.double.mul y.toF v.toF).getD nanW)
        rw [FEq.mul h h']
    · refine Q_real (.inl ?_)
      show ((Ieee.double.sub x.toF u.toF).getD nanW) = ((Ieee.double.sub y.toF v.toF).getD nanW)
      rw [FEq.sub h h']
  · refine Q_real (.inl ?_)
    show ((Ieee.double.add x.toF u.toF).getD nanW) = ((Ieee.double.add y.toF v.toF).getD nanW)
    rw [FEq.add h h']
theorem Q_int (o : D) {a u : D} (ha : -9223372036854775808 ≤ a.toI ∧ a.toI ≤ 9223372036854775807) (hu : -9223372036854775808 ≤ u.toI ∧ u.toI ≤ 9223372036854775807) : Q (bif sp76_1 o a u then sp60 (.i (sp76_0 o a u)) else z0) (bif sp76_1 o a u then sp60 (.i (sp76_0 o a u)) else z0) := by
  unfold sp76_1 sp76_0
  cases eqL o.toS [43]
  · cases eqL o.toS [45]
    · cases eqL o.toS [42]
      · exact Q_z
      · simp only [cond_true, cond_false]; rw [mul85 ha hu]; exact Q_rs _
    · simp only [cond_true, cond_false]; rw [sub85 ha hu]; exact Q_rs _
  · simp only [cond_true]; rw [add85 ha hu]; exact Q_rs _
theorem Q_ari' (o : D) {a b u v : D} (h : Q a b) (h' : Q u v) : Q (arA o a u) (arB o b v) := by
  unfold arA arB
  rw [← h.k, ← h'.k]
  cases (eqb (a.at 0).toI 1 && eqb (u.at 0).toI 1)
  · simp only [cond_false]
    cases (eqb (a.at 0).toI 2 && eqb (u.at 0).toI 2)
    · exact Q_z
    · exact Q_arF o h.f h'.f
  · simp only [cond_true]
    rw [← ari_eq o h.n h'.n h.r h'.r]
    exact Q_int o h.r h'.r
theorem Q_ari (o : D) {x y u v : D} (h : Q x y) (h' : Q u v) : Q (sp50 o x u) (sp71 o y v) := Q_ari' o h.clean h'.clean
theorem Q_neg {x y : D} (h : Q x y) : Q (sp45 x) (sp66 y) := by
  have c := h.clean
  have hkd := (cl46 x).k
  unfold sp45 sp66
  generalize ha : sp30 x = a at *
  generalize sp10 y = b at *
  rw [← c.k]
  by_cases h2 : (a.at 0).toI = 2
  · rw [eqb_t h2]
    exact Q_real c.f.neg
  · rw [eqb_f h2]
    simp only [cond_false]
    unfold sp50
    have ek : ((sp30 a).at 0).toI = (a.at 0).toI := by
      rw [(cl46 a).k, ← ha, kd_46, ← hkd, ha]
    by_cases h1 : (a.at 0).toI = 1
    · have e : sp30 a = sp60 (a.at 1) := by unfold sp30; rw [h1]; rfl
      rw [e, eqb_t h1]
      have e2 : arA (.s [45]) (sp30 (sp60 (.i 0))) (sp60 (a.at 1)) = rs (0 - (a.at 1).toI) := by
        have : arA (.s [45]) (sp30 (sp60 (.i 0))) (sp60 (a.at 1)) = (bif (ltb (w64 (0 - (a.at 1).toI)) 0 == ltb 0 (a.at 1).toI) then sp60 (.i (w64 (0 - (a.at 1).toI))) else z0) := rfl
        rw [this]
        exact sub85 (by decide) c.r
      rw [e2, ← c.n]
      by_cases hm : (a.at 1).toI = -9223372036854775808
      · rw [hm]; exact Q_z
      · rw [eqb_f hm]
        have hr := c.r
        have e3 : w64 (0 - (a.at 1).toI) = 0 - (a.at 1).toI := wrap64_id (by omega) (by omega)
        rw [e3]
        unfold rs
        rw [inR_t (by omega) (by omega)]
        exact ⟨rfl, rfl, .inl rfl, rfl, show -9223372036854775808 ≤ 0 - (a.at 1).toI ∧ 0 - (a.at 1).toI ≤ 9223372036854775807 by omega⟩
    · rw [eqb_f h1]
      have e : arA (.s [45]) (sp30 (sp60 (.i 0))) (sp30 a) = z0 := by
        unfold arA
        rw [ek, eqb_f h1, Bool.and_false]
        rfl
      rw [e]
      exact Q_z
theorem Q_null {x y : D} (h : Q x y) (b : Bool) : Q (sp51 (.b (eqb (x.at 0).toI 0 != b))) (bif b then sp63 (.b (!eqb (y.at 0).toI 0)) else sp63 (.b (eqb (y.at 0).toI 0))) := by
  rw [← h.k]
  cases b
  · rw [Bool.bne_false]; exact Q_b _
  · rw [Bool.bne_true]; exact Q_b _
theorem Q_lit {v : D} (h : Is Try.prog 35 v) : Q (sp30 v) (sp10 v) :=
  Q.clean ⟨rfl, rfl, .inl rfl, rfl, ((h.fld (k := 1) (ft := 2) (off := 1) (by kernel_rfl)).i64 (by kernel_rfl)).2⟩

end Go.Vam.C15
