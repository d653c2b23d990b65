/- Chapter 14: what functions come to, part 7. No conditions. -/
import Derived.Test.YtcpbgimpopcfoaaP6
import Derived.KernelRfl
set_option linter.unusedVariables false
set_option linter.unusedSimpArgs false
set_option maxRecDepth 100000
namespace Go.Vam.C14
open Go.Proofs
theorem sp102_e {a b q : D} {A B : Nat} (ha : a.toI = (A : Int)) (hb : b.toI = (B : Int)) {xs : List D} (hl : xs.length ≤ 1000000) (hq : isPtrD q = true) (h1 : A ≤ B) (h2 : B ≤ xs.length) : sp102_70_h0 a b q (.sl xs) = .sl (srtSeg (c70 q) xs A B) ∧ pr102_70 a b q (.sl xs) = true := by
  unfold sp102_70_h0 pr102_70 okA
  rw [ha, hb]
  simp only [Int.toNat_natCast, toL_sl, isSl, Bool.true_and]
  refine ⟨trivial, ?_⟩
  rw [leb_t (by omega), leb_t (by omega), leb_t (by omega), leb_t (by omega), hq]; rfl
theorem sp103_f {a m b q : D} {A M B : Nat} (ha : a.toI = (A : Int)) (hm : m.toI = (M : Int)) (hb : b.toI = (B : Int)) {xs : List D} (hl : xs.length ≤ 1000000) (hq : isPtrD q = true) (h1 : A < M) (h2 : M < B) (h3 : B ≤ xs.length) (hA : SrtOn (c70 q) xs A M) (hB : SrtOn (c70 q) xs M B) : sp103_70_h0 a m b q (.sl xs) = .sl (srtSeg (c70 q) xs A B) ∧ pr103_70 a m b q (.sl xs) = true :=
  ⟨sp103_v ha hb xs, pr103_i (n := B + 1) ⟨A, M, B, xs, ha, hm, hb, rfl, hl, hq, h1, h2, h3, hA, hB, by omega⟩⟩
def pr92_70 (n q h : D) : Bool := okA h && (isPtrD q && eqb n.toI (h.toL.length : Int))
def sp92_70_h0 (_n q h : D) : D := .sl (stb (c70 q) h.toL)
noncomputable section
section
variable {R : Type}
def m92_1 (N : Nat) (x0n : Bool) (x1 x2_0 h0 : D) (K : Bool → D → D → D → D → Option R) : Option R :=
  K x0n x1 x2_0 (D.i 20) h0
def s92_0 (x0n : Bool) (x1 x2_0 h0 : D) : St := sts 63 [(0, V.ms 0 x0n), (1, V.f x1), (2, V.fn 70 [V.f x2_0] [Ty.p 22])] [V.f h0]
def s92_1 (x0n : Bool) (x1 x2_0 x6 h0 : D) : St := sts 63 [(0, V.ms 0 x0n), (1, V.f x1), (2, V.fn 70 [V.f x2_0] [Ty.p 22]), (6, V.f x6)] [V.f h0]
theorem e92_1 (N : Nat) (k : Kn R) (x0n : Bool) (x1 x2_0 h0 : D) : runC PHI Tb103 N vc92_1 (s92_0 x0n x1 x2_0 h0) k = m92_1 N x0n x1 x2_0 h0 (fun x0n x1 x2_0 x6 h0 => k .normal (s92_1 x0n x1 x2_0 x6 h0)) := by
  refine Eq.trans (runC_post _ _ _ k) (Eq.trans (ops_run _ _ _ _) (by kernel_rfl))
def m92_3 (N : Nat) (x0n : Bool) (x1 x2_0 x6 h0 : D) (K : Bool → D → D → D → D → D → D → Option R) : Option R :=
  K x0n x1 x2_0 x6 (D.i 0) x6 h0
def s92_2 (x0n : Bool) (x1 x2_0 x6 x7 x8 h0 : D) : St := sts 63 [(0, V.ms 0 x0n), (1, V.f x1), (2, V.fn 70 [V.f x2_0] [Ty.p 22]), (6, V.f x6), (7, V.f x7), (8, V.f x8)] [V.f h0]
theorem e92_3 (N : Nat) (k : Kn R) (x0n : Bool) (x1 x2_0 x6 h0 : D) : runC PHI Tb103 N vc92_3 (s92_1 x0n x1 x2_0 x6 h0) k = m92_3 N x0n x1 x2_0 x6 h0 (fun x0n x1 x2_0 x6 x7 x8 h0 => k .normal (s92_2 x0n x1 x2_0 x6 x7 x8 h0)) := by
  refine Eq.trans (runC_post _ _ _ k) (Eq.trans (ops_run _ _ _ _) (by kernel_rfl))
def m92_7 (N : Nat) (x0n : Bool) (x1 x2_0 x6 x7 x8 h0 : D) (K : Bool → D → D → D → D → D → D → Option R) (K0 : Bool → D → D → D → D → D → Option R) : Option R :=
  (bif (leb x8.toI x1.toI) then (bif ((pr102_70 x7 x8 x2_0 h0) && (Nat.beq h0.toL.length (sp102_70_h0 x7 x8 x2_0 h0).toL.length && true)) then K x0n x1 x2_0 x6 x8 (D.i (IntKind.i64.wrap (x8.toI + x6.toI))) (sp102_70_h0 x7 x8 x2_0 h0) else none) else K0 x0n x1 x2_0 x6 x7 h0)
def s92_3 (x0n : Bool) (x1 x2_0 x6 x7 h0 : D) : St := sts 63 [(0, V.ms 0 x0n), (1, V.f x1), (2, V.fn 70 [V.f x2_0] [Ty.p 22]), (6, V.f x6), (7, V.f x7)] [V.f h0]
theorem e92_7 (N : Nat) (k : Kn R) (x0n : Bool) (x1 x2_0 x6 x7 x8 h0 : D) : runC PHI Tb103 N vc92_7 (s92_2 x0n x1 x2_0 x6 x7 x8 h0) k = m92_7 N x0n x1 x2_0 x6 x7 x8 h0 (fun x0n x1 x2_0 x6 x7 x8 h0 => k .normal (s92_2 x0n x1 x2_0 x6 x7 x8 h0)) (fun x0n x1 x2_0 x6 x7 h0 => k (.exit 0) (s92_3 x0n x1 x2_0 x6 x7 h0)) := by kernel_rfl
def l92_6 (N : Nat) (j : Nat) (x0n : Bool) (x1 x2_0 x6 x7 x8 h0 : D) (K0 : Bool → D → D → D → D → D → Option R) : Option R :=
  match j with
  | 0 => none
  | j + 1 => (m92_7 N x0n x1 x2_0 x6 x7 x8 h0 (fun y0n y1 y2_0 y6 y7 y8 h0 => l92_6 N j y0n y1 y2_0 y6 y7 y8 h0 K0) K0)
def m92_6 (N : Nat) (x0n : Bool) (x1 x2_0 x6 x7 x8 h0 : D) (K0 : Bool → D → D → D → D → D → Option R) : Option R :=
  l92_6 N N x0n x1 x2_0 x6 x7 x8 h0 K0
theorem el92_6 (N : Nat) (k : Kn R) : ∀ (j : Nat) (x0n : Bool) (x1 x2_0 x6 x7 x8 h0 : D), loopGo (runC PHI Tb103 N vc92_7) j (s92_2 x0n x1 x2_0 x6 x7 x8 h0) k = l92_6 N j x0n x1 x2_0 x6 x7 x8 h0 (fun x0n x1 x2_0 x6 x7 h0 => k (.exit 0) (s92_3 x0n x1 x2_0 x6 x7 h0))
  | 0, _, _, _, _, _, _, _ => by kernel_rfl
  | j + 1, x0n, x1, x2_0, x6, x7, x8, h0 => by
    have h2 := e92_7 N (kloop PHI Tb103 N vc92_7 j k) x0n x1 x2_0 x6 x7 x8 h0
    have h3 : (fun (y0n : Bool) (y1 y2_0 y6 y7 y8 h0 : D) => (kloop PHI Tb103 N vc92_7 j k) .normal (s92_2 y0n y1 y2_0 y6 y7 y8 h0)) = (fun (y0n : Bool) (y1 y2_0 y6 y7 y8 h0 : D) => l92_6 N j y0n y1 y2_0 y6 y7 y8 h0 (fun x0n x1 x2_0 x6 x7 h0 => k (.exit 0) (s92_3 x0n x1 x2_0 x6 x7 h0))) := funext fun y0n => funext fun y1 => funext fun y2_0 => funext fun y6 => funext fun y7 => funext fun y8 => funext fun h0 => (el92_6 N k j y0n y1 y2_0 y6 y7 y8 h0)
    refine Eq.trans (loop_succ _ j _ k) (Eq.trans h2 (Eq.trans (congrArg (fun K => m92_7 N x0n x1 x2_0 x6 x7 x8 h0 K (fun x0n x1 x2_0 x6 x7 h0 => (kloop PHI Tb103 N vc92_7 j k) (.exit 0) (s92_3 x0n x1 x2_0 x6 x7 h0))) h3) (by kernel_rfl)))
theorem e92_6 (N : Nat) (k : Kn R) (x0n : Bool) (x1 x2_0 x6 x7 x8 h0 : D) : runC PHI Tb103 N vc92_6 (s92_2 x0n x1 x2_0 x6 x7 x8 h0) k = m92_6 N x0n x1 x2_0 x6 x7 x8 h0 (fun x0n x1 x2_0 x6 x7 h0 => k (.exit 0) (s92_3 x0n x1 x2_0 x6 x7 h0)) := by
  refine Eq.trans (runC_loop _ _ k) (Eq.trans (el92_6 N k N x0n x1 x2_0 x6 x7 x8 h0) (by kernel_rfl))
def m92_5 (N : Nat) (x0n : Bool) (x1 x2_0 x6 x7 x8 h0 : D) (K : Bool → D → D → D → D → D → Option R) : Option R :=
  (m92_6 N x0n x1 x2_0 x6 x7 x8 h0 (fun y0n y1 y2_0 y6 y7 h0 => K y0n y1 y2_0 y6 y7 h0))
theorem e92_5 (N : Nat) (k : Kn R) (x0n : Bool) (x1 x2_0 x6 x7 x8 h0 : D) : runC PHI Tb103 N vc92_5 (s92_2 x0n x1 x2_0 x6 x7 x8 h0) k = m92_5 N x0n x1 x2_0 x6 x7 x8 h0 (fun x0n x1 x2_0 x6 x7 h0 => k .normal (s92_3 x0n x1 x2_0 x6 x7 h0)) := by
  refine Eq.trans (runC_block _ _ _ k) (Eq.trans (e92_6 N (kblk 0 k) x0n x1 x2_0 x6 x7 x8 h0) (by kernel_rfl))
def m92_20 (N : Nat) (x0n : Bool) (x1 x2_0 x6 x7 h0 : D) (K : Bool → D → D → D → D → Option R) : Option R :=
  (bif ((pr102_70 x7 x1 x2_0 h0) && (Nat.beq h0.toL.length (sp102_70_h0 x7 x1 x2_0 h0).toL.length && true)) then K x0n x1 x2_0 x6 (sp102_70_h0 x7 x1 x2_0 h0) else none)
theorem e92_20 (N : Nat) (k : Kn R) (x0n : Bool) (x1 x2_0 x6 x7 h0 : D) : runC PHI Tb103 N vc92_20 (s92_3 x0n x1 x2_0 x6 x7 h0) k = m92_20 N x0n x1 x2_0 x6 x7 h0 (fun x0n x1 x2_0 x6 h0 => k .normal (s92_1 x0n x1 x2_0 x6 h0)) := by
  refine Eq.trans (runC_post _ _ _ k) (Eq.trans (ops_run _ _ _ _) (by kernel_rfl))
def m92_24 (N : Nat) (x0n : Bool) (x1 x2_0 x6 h0 : D) (K : Bool → D → D → D → D → Option R) (K2 : D → Option R) : Option R :=
  (bif (ltb x6.toI x1.toI) then K x0n x1 x2_0 x6 h0 else K2 h0)
def s92_4 (h0 : D) : St := sts 63 [] [V.f h0]
theorem e92_24 (N : Nat) (k : Kn R) (x0n : Bool) (x1 x2_0 x6 h0 : D) : runC PHI Tb103 N vc92_24 (s92_1 x0n x1 x2_0 x6 h0) k = m92_24 N x0n x1 x2_0 x6 h0 (fun x0n x1 x2_0 x6 h0 => k .normal (s92_1 x0n x1 x2_0 x6 h0)) (fun h0 => k (.exit 2) (s92_4 h0)) := by kernel_rfl
def m92_31 (N : Nat) (x0n : Bool) (x1 x2_0 x6 h0 : D) (K : Bool → D → D → D → D → D → D → Option R) : Option R :=
  K x0n x1 x2_0 x6 (D.i 0) (D.i (IntKind.i64.wrap (2 * x6.toI))) h0
theorem e92_31 (N : Nat) (k : Kn R) (x0n : Bool) (x1 x2_0 x6 h0 : D) : runC PHI Tb103 N vc92_31 (s92_1 x0n x1 x2_0 x6 h0) k = m92_31 N x0n x1 x2_0 x6 h0 (fun x0n x1 x2_0 x6 x7 x8 h0 => k .normal (s92_2 x0n x1 x2_0 x6 x7 x8 h0)) := by
  refine Eq.trans (runC_post _ _ _ k) (Eq.trans (ops_run _ _ _ _) (by kernel_rfl))
def m92_35 (N : Nat) (x0n : Bool) (x1 x2_0 x6 x7 x8 h0 : D) (K : Bool → D → D → D → D → D → D → Option R) (K4 : Bool → D → D → D → D → D → Option R) : Option R :=
  (bif (leb x8.toI x1.toI) then (bif ((pr103_70 x7 (D.i (IntKind.i64.wrap (x7.toI + x6.toI))) x8 x2_0 h0) && (Nat.beq h0.toL.length (sp103_70_h0 x7 (D.i (IntKind.i64.wrap (x7.toI + x6.toI))) x8 x2_0 h0).toL.length && true)) then K x0n x1 x2_0 x6 x8 (D.i (IntKind.i64.wrap (x8.toI + (IntKind.i64.wrap (2 * x6.toI))))) (sp103_70_h0 x7 (D.i (IntKind.i64.wrap (x7.toI + x6.toI))) x8 x2_0 h0) else none) else K4 x0n x1 x2_0 x6 x7 h0)
theorem e92_35 (N : Nat) (k : Kn R) (x0n : Bool) (x1 x2_0 x6 x7 x8 h0 : D) : runC PHI Tb103 N vc92_35 (s92_2 x0n x1 x2_0 x6 x7 x8 h0) k = m92_35 N x0n x1 x2_0 x6 x7 x8 h0 (fun x0n x1 x2_0 x6 x7 x8 h0 => k .normal (s92_2 x0n x1 x2_0 x6 x7 x8 h0)) (fun x0n x1 x2_0 x6 x7 h0 => k (.exit 4) (s92_3 x0n x1 x2_0 x6 x7 h0)) := by kernel_rfl
def l92_34 (N : Nat) (j : Nat) (x0n : Bool) (x1 x2_0 x6 x7 x8 h0 : D) (K4 : Bool → D → D → D → D → D → Option R) : Option R :=
  match j with
  | 0 => none
  | j + 1 => (m92_35 N x0n x1 x2_0 x6 x7 x8 h0 (fun y0n y1 y2_0 y6 y7 y8 h0 => l92_34 N j y0n y1 y2_0 y6 y7 y8 h0 K4) K4)
def m92_34 (N : Nat) (x0n : Bool) (x1 x2_0 x6 x7 x8 h0 : D) (K4 : Bool → D → D → D → D → D → Option R) : Option R :=
  l92_34 N N x0n x1 x2_0 x6 x7 x8 h0 K4
theorem el92_34 (N : Nat) (k : Kn R) : ∀ (j : Nat) (x0n : Bool) (x1 x2_0 x6 x7 x8 h0 : D), loopGo (runC PHI Tb103 N vc92_35) j (s92_2 x0n x1 x2_0 x6 x7 x8 h0) k = l92_34 N j x0n x1 x2_0 x6 x7 x8 h0 (fun x0n x1 x2_0 x6 x7 h0 => k (.exit 4) (s92_3 x0n x1 x2_0 x6 x7 h0))
  | 0, _, _, _, _, _, _, _ => by kernel_rfl
  | j + 1, x0n, x1, x2_0, x6, x7, x8, h0 => by
    have h2 := e92_35 N (kloop PHI Tb103 N vc92_35 j k) x0n x1 x2_0 x6 x7 x8 h0
    have h3 : (fun (y0n : Bool) (y1 y2_0 y6 y7 y8 h0 : D) => (kloop PHI Tb103 N vc92_35 j k) .normal (s92_2 y0n y1 y2_0 y6 y7 y8 h0)) = (fun (y0n : Bool) (y1 y2_0 y6 y7 y8 h0 : D) => l92_34 N j y0n y1 y2_0 y6 y7 y8 h0 (fun x0n x1 x2_0 x6 x7 h0 => k (.exit 4) (s92_3 x0n x1 x2_0 x6 x7 h0))) := funext fun y0n => funext fun y1 => funext fun y2_0 => funext fun y6 => funext fun y7 => funext fun y8 => funext fun h0 => (el92_34 N k j y0n y1 y2_0 y6 y7 y8 h0)
    refine Eq.trans (loop_succ _ j _ k) (Eq.trans h2 (Eq.trans (congrArg (fun K => m92_35 N x0n x1 x2_0 x6 x7 x8 h0 K (fun x0n x1 x2_0 x6 x7 h0 => (kloop PHI Tb103 N vc92_35 j k) (.exit 4) (s92_3 x0n x1 x2_0 x6 x7 h0))) h3) (by kernel_rfl)))
theorem e92_34 (N : Nat) (k : Kn R) (x0n : Bool) (x1 x2_0 x6 x7 x8 h0 : D) : runC PHI Tb103 N vc92_34 (s92_2 x0n x1 x2_0 x6 x7 x8 h0) k = m92_34 N x0n x1 x2_0 x6 x7 x8 h0 (fun x0n x1 x2_0 x6 x7 h0 => k (.exit 4) (s92_3 x0n x1 x2_0 x6 x7 h0)) := by
  refine Eq.trans (runC_loop _ _ k) (Eq.trans (el92_34 N k N x0n x1 x2_0 x6 x7 x8 h0) (by kernel_rfl))
def m92_33 (N : Nat) (x0n : Bool) (x1 x2_0 x6 x7 x8 h0 : D) (K : Bool → D → D → D → D → D → Option R) : Option R :=
  (m92_34 N x0n x1 x2_0 x6 x7 x8 h0 (fun y0n y1 y2_0 y6 y7 h0 => K y0n y1 y2_0 y6 y7 h0))
theorem e92_33 (N : Nat) (k : Kn R) (x0n : Bool) (x1 x2_0 x6 x7 x8 h0 : D) : runC PHI Tb103 N vc92_33 (s92_2 x0n x1 x2_0 x6 x7 x8 h0) k = m92_33 N x0n x1 x2_0 x6 x7 x8 h0 (fun x0n x1 x2_0 x6 x7 h0 => k .normal (s92_3 x0n x1 x2_0 x6 x7 h0)) := by
  refine Eq.trans (runC_block _ _ _ k) (Eq.trans (e92_34 N (kblk 4 k) x0n x1 x2_0 x6 x7 x8 h0) (by kernel_rfl))
def m92_47 (N : Nat) (x0n : Bool) (x1 x2_0 x6 x7 h0 : D) (K : Bool → D → D → D → D → Option R) : Option R :=
  (bif (ltb (IntKind.i64.wrap (x7.toI + x6.toI)) x1.toI) then (bif ((pr103_70 x7 (D.i (IntKind.i64.wrap (x7.toI + x6.toI))) x1 x2_0 h0) && (Nat.beq h0.toL.length (sp103_70_h0 x7 (D.i (IntKind.i64.wrap (x7.toI + x6.toI))) x1 x2_0 h0).toL.length && true)) then K x0n x1 x2_0 (D.i (IntKind.i64.wrap (x6.toI * 2))) (sp103_70_h0 x7 (D.i (IntKind.i64.wrap (x7.toI + x6.toI))) x1 x2_0 h0) else none) else K x0n x1 x2_0 (D.i (IntKind.i64.wrap (x6.toI * 2))) h0)
theorem e92_47 (N : Nat) (k : Kn R) (x0n : Bool) (x1 x2_0 x6 x7 h0 : D) : runC PHI Tb103 N vc92_47 (s92_3 x0n x1 x2_0 x6 x7 h0) k = m92_47 N x0n x1 x2_0 x6 x7 h0 (fun x0n x1 x2_0 x6 h0 => k .normal (s92_1 x0n x1 x2_0 x6 h0)) := by kernel_rfl
def m92_32 (N : Nat) (x0n : Bool) (x1 x2_0 x6 x7 x8 h0 : D) (K : Bool → D → D → D → D → Option R) : Option R :=
  (m92_33 N x0n x1 x2_0 x6 x7 x8 h0 (fun y0n y1 y2_0 y6 y7 h0 => (m92_47 N y0n y1 y2_0 y6 y7 h0 (fun y0n y1 y2_0 y6 h0 => K y0n y1 y2_0 y6 h0))))
theorem e92_32 (N : Nat) (k : Kn R) (x0n : Bool) (x1 x2_0 x6 x7 x8 h0 : D) : runC PHI Tb103 N vc92_32 (s92_2 x0n x1 x2_0 x6 x7 x8 h0) k = m92_32 N x0n x1 x2_0 x6 x7 x8 h0 (fun x0n x1 x2_0 x6 h0 => k .normal (s92_1 x0n x1 x2_0 x6 h0)) := by
  have h2 := e92_33 N (kseq PHI Tb103 N vc92_47 k) x0n x1 x2_0 x6 x7 x8 h0
  have h3 := (funext fun y0n => funext fun y1 => funext fun y2_0 => funext fun y6 => funext fun y7 => funext fun h0 => (e92_47 N k y0n y1 y2_0 y6 y7 h0) : (fun (y0n : Bool) (y1 y2_0 y6 y7 h0 : D) => (kseq PHI Tb103 N vc92_47 k) .normal (s92_3 y0n y1 y2_0 y6 y7 h0)) = _)
  refine Eq.trans (runC_seq _ _ _ k) (Eq.trans h2 (Eq.trans (congrArg (fun K => m92_33 N x0n x1 x2_0 x6 x7 x8 h0 K) h3) (by kernel_rfl)))
def m92_30 (N : Nat) (x0n : Bool) (x1 x2_0 x6 h0 : D) (K : Bool → D → D → D → D → Option R) : Option R :=
  (m92_31 N x0n x1 x2_0 x6 h0 (fun y0n y1 y2_0 y6 y7 y8 h0 => (m92_32 N y0n y1 y2_0 y6 y7 y8 h0 (fun y0n y1 y2_0 y6 h0 => K y0n y1 y2_0 y6 h0))))
theorem e92_30 (N : Nat) (k : Kn R) (x0n : Bool) (x1 x2_0 x6 h0 : D) : runC PHI Tb103 N vc92_30 (s92_1 x0n x1 x2_0 x6 h0) k = m92_30 N x0n x1 x2_0 x6 h0 (fun x0n x1 x2_0 x6 h0 => k .normal (s92_1 x0n x1 x2_0 x6 h0)) := by
  have h2 := e92_31 N (kseq PHI Tb103 N vc92_32 k) x0n x1 x2_0 x6 h0
  have h3 := (funext fun y0n => funext fun y1 => funext fun y2_0 => funext fun y6 => funext fun y7 => funext fun y8 => funext fun h0 => (e92_32 N k y0n y1 y2_0 y6 y7 y8 h0) : (fun (y0n : Bool) (y1 y2_0 y6 y7 y8 h0 : D) => (kseq PHI Tb103 N vc92_32 k) .normal (s92_2 y0n y1 y2_0 y6 y7 y8 h0)) = _)
  refine Eq.trans (runC_seq _ _ _ k) (Eq.trans h2 (Eq.trans (congrArg (fun K => m92_31 N x0n x1 x2_0 x6 h0 K) h3) (by kernel_rfl)))
def m92_29 (N : Nat) (x0n : Bool) (x1 x2_0 x6 h0 : D) (K : Bool → D → D → D → D → Option R) : Option R :=
  (m92_30 N x0n x1 x2_0 x6 h0 (fun y0n y1 y2_0 y6 h0 => K y0n y1 y2_0 y6 h0))
theorem e92_29 (N : Nat) (k : Kn R) (x0n : Bool) (x1 x2_0 x6 h0 : D) : runC PHI Tb103 N vc92_29 (s92_1 x0n x1 x2_0 x6 h0) k = m92_29 N x0n x1 x2_0 x6 h0 (fun x0n x1 x2_0 x6 h0 => k .normal (s92_1 x0n x1 x2_0 x6 h0)) := by
  refine Eq.trans (runC_block _ _ _ k) (Eq.trans (e92_30 N (kblk 3 k) x0n x1 x2_0 x6 h0) (by kernel_rfl))
def m92_23 (N : Nat) (x0n : Bool) (x1 x2_0 x6 h0 : D) (K : Bool → D → D → D → D → Option R) (K2 : D → Option R) : Option R :=
  (m92_24 N x0n x1 x2_0 x6 h0 (fun y0n y1 y2_0 y6 h0 => (m92_29 N y0n y1 y2_0 y6 h0 (fun y0n y1 y2_0 y6 h0 => K y0n y1 y2_0 y6 h0))) K2)
theorem e92_23 (N : Nat) (k : Kn R) (x0n : Bool) (x1 x2_0 x6 h0 : D) : runC PHI Tb103 N vc92_23 (s92_1 x0n x1 x2_0 x6 h0) k = m92_23 N x0n x1 x2_0 x6 h0 (fun x0n x1 x2_0 x6 h0 => k .normal (s92_1 x0n x1 x2_0 x6 h0)) (fun h0 => k (.exit 2) (s92_4 h0)) := by
  have h2 := e92_24 N (kseq PHI Tb103 N vc92_29 k) x0n x1 x2_0 x6 h0
  have h3 := (funext fun y0n => funext fun y1 => funext fun y2_0 => funext fun y6 => funext fun h0 => (e92_29 N k y0n y1 y2_0 y6 h0) : (fun (y0n : Bool) (y1 y2_0 y6 h0 : D) => (kseq PHI Tb103 N vc92_29 k) .normal (s92_1 y0n y1 y2_0 y6 h0)) = _)
  refine Eq.trans (runC_seq _ _ _ k) (Eq.trans h2 (Eq.trans (congrArg (fun K => m92_24 N x0n x1 x2_0 x6 h0 K (fun h0 => (kseq PHI Tb103 N vc92_29 k) (.exit 2) (s92_4 h0))) h3) (by kernel_rfl)))
def l92_22 (N : Nat) (j : Nat) (x0n : Bool) (x1 x2_0 x6 h0 : D) (K2 : D → Option R) : Option R :=
  match j with
  | 0 => none
  | j + 1 => (m92_23 N x0n x1 x2_0 x6 h0 (fun y0n y1 y2_0 y6 h0 => l92_22 N j y0n y1 y2_0 y6 h0 K2) K2)
def m92_22 (N : Nat) (x0n : Bool) (x1 x2_0 x6 h0 : D) (K2 : D → Option R) : Option R :=
  l92_22 N N x0n x1 x2_0 x6 h0 K2
theorem el92_22 (N : Nat) (k : Kn R) : ∀ (j : Nat) (x0n : Bool) (x1 x2_0 x6 h0 : D), loopGo (runC PHI Tb103 N vc92_23) j (s92_1 x0n x1 x2_0 x6 h0) k = l92_22 N j x0n x1 x2_0 x6 h0 (fun h0 => k (.exit 2) (s92_4 h0))
  | 0, _, _, _, _, _ => by kernel_rfl
  | j + 1, x0n, x1, x2_0, x6, h0 => by
    have h2 := e92_23 N (kloop PHI Tb103 N vc92_23 j k) x0n x1 x2_0 x6 h0
    have h3 : (fun (y0n : Bool) (y1 y2_0 y6 h0 : D) => (kloop PHI Tb103 N vc92_23 j k) .normal (s92_1 y0n y1 y2_0 y6 h0)) = (fun (y0n : Bool) (y1 y2_0 y6 h0 : D) => l92_22 N j y0n y1 y2_0 y6 h0 (fun h0 => k (.exit 2) (s92_4 h0))) := funext fun y0n => funext fun y1 => funext fun y2_0 => funext fun y6 => funext fun h0 => (el92_22 N k j y0n y1 y2_0 y6 h0)
    refine Eq.trans (loop_succ _ j _ k) (Eq.trans h2 (Eq.trans (congrArg (fun K => m92_23 N x0n x1 x2_0 x6 h0 K (fun h0 => (kloop PHI Tb103 N vc92_23 j k) (.exit 2) (s92_4 h0))) h3) (by kernel_rfl)))
theorem e92_22 (N : Nat) (k : Kn R) (x0n : Bool) (x1 x2_0 x6 h0 : D) : runC PHI Tb103 N vc92_22 (s92_1 x0n x1 x2_0 x6 h0) k = m92_22 N x0n x1 x2_0 x6 h0 (fun h0 => k (.exit 2) (s92_4 h0)) := by
  refine Eq.trans (runC_loop _ _ k) (Eq.trans (el92_22 N k N x0n x1 x2_0 x6 h0) (by kernel_rfl))
def m92_21 (N : Nat) (x0n : Bool) (x1 x2_0 x6 h0 : D) (K : D → Option R) : Option R :=
  (m92_22 N x0n x1 x2_0 x6 h0 (fun h0 => K h0))
theorem e92_21 (N : Nat) (k : Kn R) (x0n : Bool) (x1 x2_0 x6 h0 : D) : runC PHI Tb103 N vc92_21 (s92_1 x0n x1 x2_0 x6 h0) k = m92_21 N x0n x1 x2_0 x6 h0 (fun h0 => k .normal (s92_4 h0)) := by
  refine Eq.trans (runC_block _ _ _ k) (Eq.trans (e92_22 N (kblk 2 k) x0n x1 x2_0 x6 h0) (by kernel_rfl))
def m92_19 (N : Nat) (x0n : Bool) (x1 x2_0 x6 x7 h0 : D) (K : D → Option R) : Option R :=
  (m92_20 N x0n x1 x2_0 x6 x7 h0 (fun y0n y1 y2_0 y6 h0 => (m92_21 N y0n y1 y2_0 y6 h0 (fun h0 => K h0))))
theorem e92_19 (N : Nat) (k : Kn R) (x0n : Bool) (x1 x2_0 x6 x7 h0 : D) : runC PHI Tb103 N vc92_19 (s92_3 x0n x1 x2_0 x6 x7 h0) k = m92_19 N x0n x1 x2_0 x6 x7 h0 (fun h0 => k .normal (s92_4 h0)) := by
  have h2 := e92_20 N (kseq PHI Tb103 N vc92_21 k) x0n x1 x2_0 x6 x7 h0
  have h3 := (funext fun y0n => funext fun y1 => funext fun y2_0 => funext fun y6 => funext fun h0 => (e92_21 N k y0n y1 y2_0 y6 h0) : (fun (y0n : Bool) (y1 y2_0 y6 h0 : D) => (kseq PHI Tb103 N vc92_21 k) .normal (s92_1 y0n y1 y2_0 y6 h0)) = _)
  refine Eq.trans (runC_seq _ _ _ k) (Eq.trans h2 (Eq.trans (congrArg (fun K => m92_20 N x0n x1 x2_0 x6 x7 h0 K) h3) (by kernel_rfl)))
def m92_4 (N : Nat) (x0n : Bool) (x1 x2_0 x6 x7 x8 h0 : D) (K : D → Option R) : Option R :=
  (m92_5 N x0n x1 x2_0 x6 x7 x8 h0 (fun y0n y1 y2_0 y6 y7 h0 => (m92_19 N y0n y1 y2_0 y6 y7 h0 (fun h0 => K h0))))
theorem e92_4 (N : Nat) (k : Kn R) (x0n : Bool) (x1 x2_0 x6 x7 x8 h0 : D) : runC PHI Tb103 N vc92_4 (s92_2 x0n x1 x2_0 x6 x7 x8 h0) k = m92_4 N x0n x1 x2_0 x6 x7 x8 h0 (fun h0 => k .normal (s92_4 h0)) := by
  have h2 := e92_5 N (kseq PHI Tb103 N vc92_19 k) x0n x1 x2_0 x6 x7 x8 h0
  have h3 := (funext fun y0n => funext fun y1 => funext fun y2_0 => funext fun y6 => funext fun y7 => funext fun h0 => (e92_19 N k y0n y1 y2_0 y6 y7 h0) : (fun (y0n : Bool) (y1 y2_0 y6 y7 h0 : D) => (kseq PHI Tb103 N vc92_19 k) .normal (s92_3 y0n y1 y2_0 y6 y7 h0)) = _)
  refine Eq.trans (runC_seq _ _ _ k) (Eq.trans h2 (Eq.trans (congrArg (fun K => m92_5 N x0n x1 x2_0 x6 x7 x8 h0 K) h3) (by kernel_rfl)))
def m92_2 (N : Nat) (x0n : Bool) (x1 x2_0 x6 h0 : D) (K : D → Option R) : Option R :=
  (m92_3 N x0n x1 x2_0 x6 h0 (fun y0n y1 y2_0 y6 y7 y8 h0 => (m92_4 N y0n y1 y2_0 y6 y7 y8 h0 (fun h0 => K h0))))
theorem e92_2 (N : Nat) (k : Kn R) (x0n : Bool) (x1 x2_0 x6 h0 : D) : runC PHI Tb103 N vc92_2 (s92_1 x0n x1 x2_0 x6 h0) k = m92_2 N x0n x1 x2_0 x6 h0 (fun h0 => k .normal (s92_4 h0)) := by
  have h2 := e92_3 N (kseq PHI Tb103 N vc92_4 k) x0n x1 x2_0 x6 h0
  have h3 := (funext fun y0n => funext fun y1 => funext fun y2_0 => funext fun y6 => funext fun y7 => funext fun y8 => funext fun h0 => (e92_4 N k y0n y1 y2_0 y6 y7 y8 h0) : (fun (y0n : Bool) (y1 y2_0 y6 y7 y8 h0 : D) => (kseq PHI Tb103 N vc92_4 k) .normal (s92_2 y0n y1 y2_0 y6 y7 y8 h0)) = _)
  refine Eq.trans (runC_seq _ _ _ k) (Eq.trans h2 (Eq.trans (congrArg (fun K => m92_3 N x0n x1 x2_0 x6 h0 K) h3) (by kernel_rfl)))
def m92_0 (N : Nat) (x0n : Bool) (x1 x2_0 h0 : D) (K : D → Option R) : Option R :=
  (m92_1 N x0n x1 x2_0 h0 (fun y0n y1 y2_0 y6 h0 => (m92_2 N y0n y1 y2_0 y6 h0 (fun h0 => K h0))))
theorem e92_0 (N : Nat) (k : Kn R) (x0n : Bool) (x1 x2_0 h0 : D) : runC PHI Tb103 N vc92_0 (s92_0 x0n x1 x2_0 h0) k = m92_0 N x0n x1 x2_0 h0 (fun h0 => k .normal (s92_4 h0)) := by
  have h2 := e92_1 N (kseq PHI Tb103 N vc92_2 k) x0n x1 x2_0 h0
  have h3 := (funext fun y0n => funext fun y1 => funext fun y2_0 => funext fun y6 => funext fun h0 => (e92_2 N k y0n y1 y2_0 y6 h0) : (fun (y0n : Bool) (y1 y2_0 y6 h0 : D) => (kseq PHI Tb103 N vc92_2 k) .normal (s92_1 y0n y1 y2_0 y6 h0)) = _)
  refine Eq.trans (runC_seq _ _ _ k) (Eq.trans h2 (Eq.trans (congrArg (fun K => m92_1 N x0n x1 x2_0 h0 K) h3) (by kernel_rfl)))
theorem r92 (N : Nat) (x0n : Bool) (x1 x2_0 h0 : D) : runC PHI Tb103 N vf92.body (enterV vf92 [V.ms 0 x0n, V.f x1, V.fn 70 [V.f x2_0] [Ty.p 22]] [V.f h0]) (finish vf92) = m92_0 N x0n x1 x2_0 h0 (fun h0 => finish vf92 .normal (s92_4 h0)) := 
  Eq.trans (runC_pre (s1 := (s92_0 x0n x1 x2_0 h0)) (by kernel_rfl) _ _) (Eq.trans (e92_0 N (finish vf92) x0n x1 x2_0 h0) (by kernel_rfl))
end
end
noncomputable def Tb92 : CallF := extendR Tb103 92 (fm1 70 [Ty.p 22] pr92_70 sp92_70_h0)
theorem i92 {R : Type} (N : Nat) (nn : Bool) (n q s : D) (hq : isPtrD q = true) (L : Nat) (hn : n.toI = (L : Int)) (hs' : s.toI = 20) (xs : List D) (hl : L ≤ 1000000) (K0 : Bool → D → D → D → D → D → Option R) : ∀ J (x y : D) (l : List D) (a : Nat), x.toI = (a : Int) → y.toI = ((a + 20 : Nat) : Int) → l.length = L → Stab (c70 q) l xs → Fw (c70 q) l 20 a → a ≤ L → L < J + a →
    ∃ (z : D) (l' : List D) (a' : Nat), z.toI = (a' : Int) ∧ l'.length = L ∧ Stab (c70 q) l' xs ∧ Fw (c70 q) l' 20 a' ∧ a' ≤ L ∧ L < a' + 20 ∧ l92_6 N J nn n q s x y (.sl l) K0 = K0 nn n q s z (.sl l')
  | 0, x, y, l, a, _, _, _, _, _, _, _ => by omega
  | J + 1, x, y, l, a, hx, hy, h1, h2, h3, h4, h5 => by
    rcases Nat.lt_or_ge L (a + 20) with h | h
    · have hlt : leb ((a + 20 : Nat) : Int) (L : Int) = false := leb_f (by omega)
      refine ⟨x, l, a, hx, h1, h2, h3, h4, h, ?_⟩
      simp only [l92_6, m92_7, hy, hn, hlt, cond_false]
    · have hlt : leb ((a + 20 : Nat) : Int) (L : Int) = true := leb_t (by omega)
      have e1 : IntKind.i64.wrap (((a + 20 : Nat) : Int) + 20) = ((a + 20 + 20 : Nat) : Int) := w64n (by omega) (by omega)
      obtain ⟨s1, s2⟩ := sp102_e hx hy (q := q) (xs := l) (by omega) hq (by omega) (by omega)
      have hlen : (srtSeg (c70 q) l a (a + 20)).length = l.length := srtSeg_len (c70_c q) (by omega) (by omega)
      obtain ⟨z, l', a', r⟩ := i92 N nn n q s hq L hn hs' xs hl K0 J y (.i ((a + 20 + 20 : Nat) : Int)) (srtSeg (c70 q) l a (a + 20)) (a + 20) hy rfl (by omega) ((srtSeg_stab (c70_c q) (by omega) (by omega)).trans h2)
        (.snoc a (h3.same fun k hk => srtSeg_other (c70_c q) (by omega) (by omega) (Or.inl hk)) (srtSeg_srt (c70_c q) (by omega) (by omega))) (by omega) (by omega)
      obtain ⟨r1, r2, r3, r4, r5, r6, r7⟩ := r
      refine ⟨z, l', a', r1, r2, r3, r4, r5, r6, ?_⟩
      simp only [l92_6, m92_7, hy, hn, hs', hlt, cond_true, s1, s2, toL_sl, hlen, beq_same, Bool.and_self, e1]
      exact r7
theorem j92 {R : Type} (N : Nat) (nn : Bool) (n q s : D) (hq : isPtrD q = true) (L S : Nat) (hn : n.toI = (L : Int)) (hs' : s.toI = (S : Int)) (hS : 0 < S) (hSL : S < L) (xs : List D) (hl : L ≤ 1000000) (K0 : Bool → D → D → D → D → D → Option R) : ∀ J (x y : D) (l : List D) (a : Nat), x.toI = (a : Int) → y.toI = ((a + S + S : Nat) : Int) → l.length = L → Stab (c70 q) l xs → Fw (c70 q) l (S + S) a → Bl (c70 q) l S L a → a ≤ L → L < J + a →
    ∃ (z : D) (l' : List D) (a' : Nat), z.toI = (a' : Int) ∧ l'.length = L ∧ Stab (c70 q) l' xs ∧ Fw (c70 q) l' (S + S) a' ∧ Bl (c70 q) l' S L a' ∧ a' ≤ L ∧ L < a' + S + S ∧ l92_34 N J nn n q s x y (.sl l) K0 = K0 nn n q s z (.sl l')
  | 0, x, y, l, a, _, _, _, _, _, _, _, _ => by omega
  | J + 1, x, y, l, a, hx, hy, h1, h2, h3, h4, h5, h6 => by
    rcases Nat.lt_or_ge L (a + S + S) with h | h
    · have hlt : leb ((a + S + S : Nat) : Int) (L : Int) = false := leb_f (by omega)
      refine ⟨x, l, a, hx, h1, h2, h3, h4, h5, h, ?_⟩
      simp only [l92_34, m92_35, hy, hn, hlt, cond_false]
    · have hlt : leb ((a + S + S : Nat) : Int) (L : Int) = true := leb_t (by omega)
      have e0 : IntKind.i64.wrap (2 * (S : Int)) = ((S + S : Nat) : Int) := w64n (by omega) (by omega)
      have e1 : IntKind.i64.wrap (((a + S + S : Nat) : Int) + ((S + S : Nat) : Int)) = ((a + S + S + S + S : Nat) : Int) := w64n (by omega) (by omega)
      have e2 : IntKind.i64.wrap ((a : Int) + (S : Int)) = ((a + S : Nat) : Int) := w64n (by omega) (by omega)
      obtain ⟨b1, b2, b3⟩ := h4.two hS h
      obtain ⟨s1, s2⟩ := sp103_f (m := .i ((a + S : Nat) : Int)) hx rfl hy (q := q) (xs := l) (by omega) hq (by omega) (by omega) (by omega) b1 b2
      have hlen : (srtSeg (c70 q) l a (a + S + S)).length = l.length := srtSeg_len (c70_c q) (by omega) (by omega)
      have hsrt : SrtOn (c70 q) (srtSeg (c70 q) l a (a + S + S)) a (a + S + S) := srtSeg_srt (c70_c q) (by omega) (by omega)
      have hFw : Fw (c70 q) (srtSeg (c70 q) l a (a + S + S)) (S + S) (a + (S + S)) := .snoc a (h3.same fun k hk => srtSeg_other (c70_c q) (by omega) (by omega) (Or.inl hk)) (by rw [← Nat.add_assoc]; exact hsrt)
      rw [← Nat.add_assoc] at hFw
      obtain ⟨z, l', a', r⟩ := j92 N nn n q s hq L S hn hs' hS hSL xs hl K0 J y (.i ((a + S + S + S + S : Nat) : Int)) (srtSeg (c70 q) l a (a + S + S)) (a + S + S) hy rfl (by omega) ((srtSeg_stab (c70_c q) (by omega) (by omega)).trans h2)
        hFw (b3.same fun k hk => srtSeg_other (c70_c q) (by omega) (by omega) (Or.inr hk)) (by omega) (by omega)
      obtain ⟨r1, r2, r3, r4, r5, r6, r7, r8⟩ := r
      refine ⟨z, l', a', r1, r2, r3, r4, r5, r6, r7, ?_⟩
      simp only [l92_34, m92_35, hx, hy, hn, hs', hlt, cond_true, e0, e2, s1, s2, toL_sl, hlen, beq_same, Bool.and_self, e1]
      exact r8
theorem k92 {R : Type} (N : Nat) (nn : Bool) (n q s x : D) (hq : isPtrD q = true) (L S a : Nat) (hn : n.toI = (L : Int)) (hs' : s.toI = (S : Int)) (hS : 0 < S) (hSL : S < L) (xs : List D) (hl : L ≤ 1000000) (K : Bool → D → D → D → D → Option R) (l : List D) (hx : x.toI = (a : Int)) (h1 : l.length = L) (h2 : Stab (c70 q) l xs) (h3 : Fw (c70 q) l (S + S) a) (h4 : Bl (c70 q) l S L a) (h5 : a ≤ L) (h6 : L < a + S + S) :
    ∃ l' : List D, l'.length = L ∧ Stab (c70 q) l' xs ∧ Bl (c70 q) l' (S + S) L 0 ∧ m92_47 N nn n q s x (.sl l) K = K nn n q (.i ((S + S : Nat) : Int)) (.sl l') := by
  have e0 : IntKind.i64.wrap ((S : Int) * 2) = ((S + S : Nat) : Int) := w64n (by omega) (by omega)
  have e2 : IntKind.i64.wrap ((a : Int) + (S : Int)) = ((a + S : Nat) : Int) := w64n (by omega) (by omega)
  unfold m92_47
  rw [hx, hn, hs', e2, e0]
  rcases Nat.lt_or_ge (a + S) L with h | h
  · obtain ⟨b1, b2⟩ := h4.rest h h6
    obtain ⟨s1, s2⟩ := sp103_f (m := .i ((a + S : Nat) : Int)) hx rfl hn (q := q) (xs := l) (by omega) hq (by omega) h (by omega) b1 b2
    have hlen : (srtSeg (c70 q) l a L).length = l.length := srtSeg_len (c70_c q) (by omega) (by omega)
    refine ⟨srtSeg (c70 q) l a L, by omega, (srtSeg_stab (c70_c q) (by omega) (by omega)).trans h2, ?_, ?_⟩
    · exact (h3.same fun k hk => srtSeg_other (c70_c q) (by omega) (by omega) (Or.inl hk)).bl (.last a h5 (by omega) (srtSeg_srt (c70_c q) (by omega) (by omega))) h5
    · simp only [ltb_n h, cond_true, s1, s2, toL_sl, hlen, beq_same, Bool.and_self]
  · have hlt : ltb ((a + S : Nat) : Int) (L : Int) = false := ltb_f (by omega)
    refine ⟨l, h1, h2, h3.bl (.last a h5 (by omega) (h4.one hS h)) h5, ?_⟩
    simp only [hlt, cond_false]
theorem o92 {R : Type} (N : Nat) (nn : Bool) (n q : D) (hq : isPtrD q = true) (L : Nat) (hn : n.toI = (L : Int)) (xs : List D) (hl : L ≤ 1000000) (hN : L < N) (K2 : D → Option R) : ∀ J (s : D) (l : List D) (S : Nat), s.toI = (S : Int) → 0 < S → l.length = L → Stab (c70 q) l xs → Bl (c70 q) l S L 0 → 0 < J → L < J + S →
    l92_22 N J nn n q s (.sl l) K2 = K2 (.sl (stb (c70 q) xs))
  | 0, s, l, S, _, _, _, _, _, h, _ => by omega
  | J + 1, s, l, S, hs', hS, h1, h2, h3, _, h4 => by
    rcases Nat.lt_or_ge S L with h | h
    · have e0 : IntKind.i64.wrap (2 * (S : Int)) = ((0 + S + S : Nat) : Int) := w64n (by omega) (by omega)
      obtain ⟨z, l', a', r1, r2, r3, r4, r5, r6, r7, r8⟩ := j92 N nn n q s hq L S hn hs' hS h xs hl (fun y0n y1 y2_0 y6 y7 h0 => m92_47 N y0n y1 y2_0 y6 y7 h0 (fun y0n y1 y2_0 y6 h0 => l92_22 N J y0n y1 y2_0 y6 h0 K2)) N (.i 0) (.i ((0 + S + S : Nat) : Int)) l 0 rfl rfl h1 h2 .zero h3 (by omega) (by omega)
      obtain ⟨l2, t1, t2, t3, t4⟩ := k92 N nn n q s z hq L S a' hn hs' hS h xs hl (fun y0n y1 y2_0 y6 h0 => l92_22 N J y0n y1 y2_0 y6 h0 K2) l' r1 r2 r3 r4 r5 r6 r7
      simp only [l92_22, m92_23, m92_24, hs', hn, ltb_n h, cond_true, m92_29, m92_30, m92_31, m92_32, m92_33, m92_34, e0]
      refine Eq.trans r8 (Eq.trans t4 ?_)
      exact o92 N nn n q hq L hn xs hl hN K2 J (.i ((S + S : Nat) : Int)) l2 (S + S) rfl (by omega) t1 t2 t3 (by omega) (by omega)
    · have hlt : ltb (S : Int) (L : Int) = false := ltb_f (by omega)
      simp only [l92_22, m92_23, m92_24, hs', hn, hlt, cond_false]
      rw [stb_all (c70_c q) h2 (by rw [h1]; exact h3.one hS (by omega))]
theorem fn92 (z : D) : finish vf92 .normal (s92_4 z) = some (.t [], [.f z]) := by kernel_rfl
theorem ok92 : FnOk Try.prog PHI Tb92 := FnOk.addm1 hPHI ok103 (by kernel_rfl) fun nn n q h hp => by
  unfold pr92_70 at hp
  simp only [Bool.and_eq_true] at hp
  obtain ⟨h0, hq, h1⟩ := hp
  obtain ⟨xs, rfl, hl⟩ := okA_eq h0
  have h1 : n.toI = (xs.length : Int) := of_decide_eq_true h1
  refine ⟨xs.length + 1, (r92 _ nn n q _).trans ?_⟩
  obtain ⟨z, l', a', r1, r2, r3, r4, r5, r6, r7⟩ := i92 (xs.length + 1) nn n q (.i 20) hq xs.length h1 rfl xs hl (fun y0n y1 y2_0 y6 y7 h0 => m92_19 (xs.length + 1) y0n y1 y2_0 y6 y7 h0 (fun h0 => finish vf92 .normal (s92_4 h0))) (xs.length + 1) (.i 0) (.i 20) xs 0 rfl rfl rfl (Stab.refl _) .zero (by omega) (by omega)
  obtain ⟨s1, s2⟩ := sp102_e r1 h1 (q := q) (xs := l') (by omega) hq r5 (by omega)
  have hlen : (srtSeg (c70 q) l' a' xs.length).length = l'.length := srtSeg_len (c70_c q) r5 (by omega)
  simp only [m92_0, m92_1, m92_2, m92_3, m92_4, m92_5, m92_6]
  refine Eq.trans r7 ?_
  simp only [m92_19, m92_20, s1, s2, toL_sl, hlen, beq_same, Bool.and_self, cond_true, m92_21, m92_22]
  refine Eq.trans (o92 (xs.length + 1) nn n q hq xs.length h1 xs hl (by omega) (fun h0 => finish vf92 .normal (s92_4 h0)) (xs.length + 1) (.i 20) (srtSeg (c70 q) l' a' xs.length) 20 rfl (by omega) (by omega) ((srtSeg_stab (c70_c q) r5 (by omega)).trans r3)
    ((r4.same fun k hk => srtSeg_other (c70_c q) r5 (by omega) (Or.inl hk)).bl (.last a' r5 (by omega) (srtSeg_srt (c70_c q) r5 (by omega))) r5) (by omega) (by omega)) ?_
  exact fn92 _
def pr69_70 (q h : D) : Bool := okA h && isPtrD q
def sp69_70_h0 (q h : D) : D := .sl (stb (c70 q) h.toL)
section
variable {R : Type}
def m69_0 (N : Nat) (x0n : Bool) (x1_0 h0 : D) (K : D → Option R) : Option R :=
  (bif ((pr92_70 (D.i (h0.toL.length : Int)) x1_0 h0) && (Nat.beq h0.toL.length (sp92_70_h0 (D.i (h0.toL.length : Int)) x1_0 h0).toL.length && true)) then K (sp92_70_h0 (D.i (h0.toL.length : Int)) x1_0 h0) else none)
def s69_0 (x0n : Bool) (x1_0 h0 : D) : St := sts 9 [(0, V.ms 0 x0n), (1, V.fn 70 [V.f x1_0] [Ty.p 22])] [V.f h0]
def s69_1 (h0 : D) : St := sts 9 [] [V.f h0]
theorem e69_0 (N : Nat) (k : Kn R) (x0n : Bool) (x1_0 h0 : D) : runC PHI Tb92 N vc69_0 (s69_0 x0n x1_0 h0) k = m69_0 N x0n x1_0 h0 (fun h0 => k .normal (s69_1 h0)) := by
  refine Eq.trans (runC_post _ _ _ k) (Eq.trans (ops_run _ _ _ _) (by kernel_rfl))
theorem r69 (N : Nat) (x0n : Bool) (x1_0 h0 : D) : runC PHI Tb92 N vf69.body (enterV vf69 [V.ms 0 x0n, V.fn 70 [V.f x1_0] [Ty.p 22]] [V.f h0]) (finish vf69) = m69_0 N x0n x1_0 h0 (fun h0 => finish vf69 .normal (s69_1 h0)) := 
  Eq.trans (runC_pre (s1 := (s69_0 x0n x1_0 h0)) (by kernel_rfl) _ _) (Eq.trans (e69_0 N (finish vf69) x0n x1_0 h0) (by kernel_rfl))
end
noncomputable def Tb69 : CallF := extendR Tb92 69 (fm0 70 [Ty.p 22] pr69_70 sp69_70_h0)
theorem fn69 (z : D) : finish vf69 .normal (s69_1 z) = some (.t [], [.f z]) := by kernel_rfl
theorem ok69 : FnOk Try.prog PHI Tb69 := FnOk.addm0 hPHI ok92 (by kernel_rfl) fun nn q h hp => by
  unfold pr69_70 at hp
  simp only [Bool.and_eq_true] at hp
  obtain ⟨h0, hq⟩ := hp
  obtain ⟨xs, rfl, hl⟩ := okA_eq h0
  refine ⟨1, (r69 _ nn q _).trans ?_⟩
  have s2 : pr92_70 (.i (xs.length : Int)) q (.sl xs) = true := by
    unfold pr92_70
    rw [h0, hq, eqb_t (show (D.i (xs.length : Int)).toI = ((D.sl xs).toL.length : Int) from rfl)]; rfl
  simp only [m69_0, toL_sl, s2, sp92_70_h0, stb_len (c70_c q), beq_same, Bool.and_self, cond_true]
  exact fn69 _
end Go.Vam.C14
namespace Go.Vam.C14
open Go.Proofs
theorem frzD_toL (nn : Bool) (xs : List D) : (frzD nn xs).toL = xs := by
  unfold frzD mkD
  cases nn <;> cases xs <;> rfl
def pr68 (x : D) : Bool := F1.ok .isN x && leN x.toL.length 1000000
def sp68n (x : D) : Bool := !x.isN
def sp68 (x : D) : List D := x.toL
section
variable {R : Type}
def m68_0 (N : Nat) (x0 : D) (Kr : Bool → List D → Option R) : Option R :=
  (bif (F1.ok .isN x0) then (bif (F1.ev .isN x0).toB then Kr false ([] : List D) else (bif (leN (([] : List D).length + x0.toL.length) 5864062014805) then Kr true (([] : List D) ++ x0.toL) else none)) else none)
def s68_0 (x0 : D) : St := sts 8 [(0, V.f x0)] []
def s68_1 (x2n : Bool) (x2 : List D) : St := sts 8 [(2, V.w x2n x2)] []
theorem e68_0 (N : Nat) (k : Kn R) (x0 : D) : runC PHI Tb69 N vc68_0 (s68_0 x0) k = m68_0 N x0 (fun x2n x2 => k .ret (s68_1 x2n x2)) := by kernel_rfl
theorem r68 (N : Nat) (x0 : D) : runC PHI Tb69 N vf68.body (enterV vf68 [V.f x0] []) (finish vf68) = m68_0 N x0 (fun x2n x2 => finish vf68 .ret (s68_1 x2n x2)) := 
  Eq.trans (runC_pre (s1 := (s68_0 x0)) (by kernel_rfl) _ _) (Eq.trans (e68_0 N (finish vf68) x0) (by kernel_rfl))
end
noncomputable def Tb68 : CallF := extend Tb69 68 (fn1 pr68 fun x => .w (sp68n x) (sp68 x))
theorem isN_nil {x : D} (h : x.isN = true) : x.toL = [] := by
  unfold D.isN at h
  split at h
  all_goals first
    | rfl
    | cases h
    | (rename_i xs; cases xs <;> first | rfl | cases h)
theorem ok68 : FnOk Try.prog PHI Tb68 := FnOk.add1 hPHI ok69 (by kernel_rfl) fun x ha hp => ⟨0, (r68 _ x).trans (by
  unfold pr68 at hp
  rw [Bool.and_eq_true] at hp
  have h2 : x.toL.length ≤ 1000000 := by simpa [leN] using hp.2
  have e : (F1.ev F1.isN x).toB = x.isN := rfl
  simp only [m68_0, hp.1, cond_true, e, sp68n, sp68]
  cases h : x.isN
  · simp only [cond_false, Bool.not_false, List.length_nil, Nat.zero_add, List.nil_append, leN_t (show x.toL.length ≤ 5864062014805 by omega), cond_true]
    rfl
  · simp only [cond_true, Bool.not_true, isN_nil h]
    rfl)⟩
def sp71 (x : D) : List D := x.toL
section
variable {R : Type}
def m71_0 (N : Nat) (x0 : D) (Kr : List D → Option R) : Option R :=
  (bif (leb 0 (x0.toL.length : Int) && (leb (x0.toL.length : Int) (x0.toL.length : Int) && eqb (x0.toL.length : Int) (x0.toL.length : Int))) then Kr (x0.toL.take ((x0.toL.length : Int) : Int).toNat) else none)
def s71_0 (x0 : D) : St := sts 9 [(0, V.f x0)] []
def s71_1 (x2 : List D) : St := sts 9 [(2, V.c x2)] []
theorem e71_0 (N : Nat) (k : Kn R) (x0 : D) : runC PHI Tb68 N vc71_0 (s71_0 x0) k = m71_0 N x0 (fun x2 => k .ret (s71_1 x2)) := by kernel_rfl
theorem r71 (N : Nat) (x0 : D) : runC PHI Tb68 N vf71.body (enterV vf71 [V.f x0] []) (finish vf71) = m71_0 N x0 (fun x2 => finish vf71 .ret (s71_1 x2)) := 
  Eq.trans (runC_pre (s1 := (s71_0 x0)) (by kernel_rfl) _ _) (Eq.trans (e71_0 N (finish vf71) x0) (by kernel_rfl))
end
noncomputable def Tb71 : CallF := extend Tb68 71 (fn1 (fun _ => true) fun x => .c (sp71 x))
theorem ok71 : FnOk Try.prog PHI Tb71 := FnOk.add1 hPHI ok68 (by kernel_rfl) fun x ha hp => ⟨0, (r71 _ x).trans (by
  have e1 : leb 0 (x.toL.length : Int) = true := leb_t (by omega)
  have e2 : leb (x.toL.length : Int) (x.toL.length : Int) = true := leb_t (by omega)
  have e3 : eqb (x.toL.length : Int) (x.toL.length : Int) = true := eqb_t rfl
  simp only [m71_0, e1, e2, e3, Bool.and_self, cond_true, Int.toNat_natCast, List.take_length, sp71]
  rfl)⟩
def runsF (c : D → D → Int) : List D → D → List D → List (List D)
  | g, _, [] => [g]
  | g, p, x :: l => bif eqb (c p x) 0 then runsF c (g ++ [x]) x l else g :: runsF c [x] x l
def runs (c : D → D → Int) : List D → List (List D)
  | [] => []
  | x :: l => runsF c [x] x l
def grpD (g : List D) : D := .ag [.sl g]
def byL (l : List D) : List D := l.map fun i => .ag [i, .b false]
def sp31n (q _rows : D) : Bool := eqb ((q.at 4).toL.length : Int) 0
def keyP (q : D) : D := .p (.sz (byL (q.at 4).toL))
def sp31 (q rows : D) : List D := bif eqb ((q.at 4).toL.length : Int) 0 then [.ag [rows]] else (runs (c70 (keyP q)) (stb (c70 (keyP q)) rows.toL)).map grpD
def pr31 (q rows : D) : Bool := pr68 rows && leN (q.at 4).toL.length 1000000
section
variable {R : Type}
def m31_1 (N : Nat) (x0 x1 : D) (K : D → D → Option R) : Option R :=
  K x1 (D.p x0)
def s31_0 (x0 x1 : D) : St := sts 82 [(0, V.f x0), (1, V.f x1)] [V.u, V.u, V.u]
def s31_1 (x1 x2 : D) : St := sts 82 [(1, V.f x1), (2, V.f x2)] [V.u, V.u, V.u]
theorem e31_1 (N : Nat) (k : Kn R) (x0 x1 : D) : runC PHI Tb71 N vc31_1 (s31_0 x0 x1) k = m31_1 N x0 x1 (fun x1 x2 => k .normal (s31_1 x1 x2)) := by
  refine Eq.trans (runC_post _ _ _ k) (Eq.trans (ops_run _ _ _ _) (by kernel_rfl))
def m31_3 (N : Nat) (x1 x2 : D) (K : D → D → Option R) (Kr : Bool → List D → Option R) : Option R :=
  (bif (isPtrD x2) then (bif (eqb ((x2.deref.at 4).toL.length : Int) 0) then Kr true ([(D.ag [x1])] : List D) else K x1 x2) else none)
def s31_2 (x4n : Bool) (x4 : List D) : St := sts 82 [(4, V.w x4n x4)] [V.u, V.u, V.u]
theorem e31_3 (N : Nat) (k : Kn R) (x1 x2 : D) : runC PHI Tb71 N vc31_3 (s31_1 x1 x2) k = m31_3 N x1 x2 (fun x1 x2 => k .normal (s31_1 x1 x2)) (fun x4n x4 => k .ret (s31_2 x4n x4)) := by kernel_rfl
def m31_11 (N : Nat) (x1 x2 : D) (K : D → D → Bool → List D → Option R) : Option R :=
  K x1 x2 false ([] : List D)
def s31_3 (x1 x2 : D) (h0n : Bool) (h0 : List D) : St := sts 82 [(1, V.f x1), (2, V.f x2), (5, V.m 0 [])] [V.o h0n h0, V.u, V.u]
theorem e31_11 (N : Nat) (k : Kn R) (x1 x2 : D) : runC PHI Tb71 N vc31_11 (s31_1 x1 x2) k = m31_11 N x1 x2 (fun x1 x2 h0n h0 => k .normal (s31_3 x1 x2 h0n h0)) := by
  refine Eq.trans (runC_post _ _ _ k) (Eq.trans (runC_post _ _ _ _) <| Eq.trans (ops_run _ _ _ _) (by kernel_rfl))
def m31_14 (N : Nat) (x1 x2 : D) (h0n : Bool) (h0 : List D) (K : D → D → D → D → Bool → List D → Option R) : Option R :=
  (bif (isPtrD x2) then K x1 (x2.deref.at 4) (D.i ((x2.deref.at 4).toL.length : Int)) (D.i 0) h0n h0 else none)
def s31_4 (x1 x21 x22 x23 : D) (h0n : Bool) (h0 : List D) : St := sts 82 [(1, V.f x1), (5, V.m 0 []), (21, V.f x21), (22, V.f x22), (23, V.f x23)] [V.o h0n h0, V.u, V.u]
theorem e31_14 (N : Nat) (k : Kn R) (x1 x2 : D) (h0n : Bool) (h0 : List D) : runC PHI Tb71 N vc31_14 (s31_3 x1 x2 h0n h0) k = m31_14 N x1 x2 h0n h0 (fun x1 x21 x22 x23 h0n h0 => k .normal (s31_4 x1 x21 x22 x23 h0n h0)) := by
  refine Eq.trans (runC_post _ _ _ k) (Eq.trans (ops_run _ _ _ _) (by kernel_rfl))
def m31_17 (N : Nat) (x1 x21 x22 x23 : D) (h0n : Bool) (h0 : List D) (K : D → D → D → D → Bool → List D → Option R) (K0 : D → Bool → List D → Option R) : Option R :=
  (bif (ltb x23.toI x22.toI) then (bif (inb x23.toI x21.toL.length) then (bif (leN (h0.length + ([(D.ag [(x21.at (x23.toI : Int).toNat), (D.b false)])] : List D).length) 8796093022208) then K x1 x21 x22 (D.i (IntKind.i64.wrap (x23.toI + 1))) h0n (h0 ++ ([(D.ag [(x21.at (x23.toI : Int).toNat), (D.b false)])] : List D)) else none) else none) else K0 x1 h0n h0)
def s31_5 (x1 : D) (h0n : Bool) (h0 : List D) : St := sts 82 [(1, V.f x1), (5, V.m 0 [])] [V.o h0n h0, V.u, V.u]
theorem e31_17 (N : Nat) (k : Kn R) (x1 x21 x22 x23 : D) (h0n : Bool) (h0 : List D) : runC PHI Tb71 N vc31_17 (s31_4 x1 x21 x22 x23 h0n h0) k = m31_17 N x1 x21 x22 x23 h0n h0 (fun x1 x21 x22 x23 h0n h0 => k .normal (s31_4 x1 x21 x22 x23 h0n h0)) (fun x1 h0n h0 => k (.exit 0) (s31_5 x1 h0n h0)) := by kernel_rfl
def l31_16 (N : Nat) (j : Nat) (x1 x21 x22 x23 : D) (h0n : Bool) (h0 : List D) (K0 : D → Bool → List D → Option R) : Option R :=
  match j with
  | 0 => none
  | j + 1 => (m31_17 N x1 x21 x22 x23 h0n h0 (fun y1 y21 y22 y23 h0n h0 => l31_16 N j y1 y21 y22 y23 h0n h0 K0) K0)
def m31_16 (N : Nat) (x1 x21 x22 x23 : D) (h0n : Bool) (h0 : List D) (K0 : D → Bool → List D → Option R) : Option R :=
  l31_16 N N x1 x21 x22 x23 h0n h0 K0
theorem el31_16 (N : Nat) (k : Kn R) : ∀ (j : Nat) (x1 x21 x22 x23 : D) (h0n : Bool) (h0 : List D), loopGo (runC PHI Tb71 N vc31_17) j (s31_4 x1 x21 x22 x23 h0n h0) k = l31_16 N j x1 x21 x22 x23 h0n h0 (fun x1 h0n h0 => k (.exit 0) (s31_5 x1 h0n h0))
  | 0, _, _, _, _, _, _ => by kernel_rfl
  | j + 1, x1, x21, x22, x23, h0n, h0 => by
    have h2 := e31_17 N (kloop PHI Tb71 N vc31_17 j k) x1 x21 x22 x23 h0n h0
    have h3 : (fun (y1 y21 y22 y23 : D) (h0n : Bool) (h0 : List D) => (kloop PHI Tb71 N vc31_17 j k) .normal (s31_4 y1 y21 y22 y23 h0n h0)) = (fun (y1 y21 y22 y23 : D) (h0n : Bool) (h0 : List D) => l31_16 N j y1 y21 y22 y23 h0n h0 (fun x1 h0n h0 => k (.exit 0) (s31_5 x1 h0n h0))) := funext fun y1 => funext fun y21 => funext fun y22 => funext fun y23 => funext fun h0n => funext fun h0 => (el31_16 N k j y1 y21 y22 y23 h0n h0)
    refine Eq.trans (loop_succ _ j _ k) (Eq.trans h2 (Eq.trans (congrArg (fun K => m31_17 N x1 x21 x22 x23 h0n h0 K (fun x1 h0n h0 => (kloop PHI Tb71 N vc31_17 j k) (.exit 0) (s31_5 x1 h0n h0))) h3) (by kernel_rfl)))
theorem e31_16 (N : Nat) (k : Kn R) (x1 x21 x22 x23 : D) (h0n : Bool) (h0 : List D) : runC PHI Tb71 N vc31_16 (s31_4 x1 x21 x22 x23 h0n h0) k = m31_16 N x1 x21 x22 x23 h0n h0 (fun x1 h0n h0 => k (.exit 0) (s31_5 x1 h0n h0)) := by
  refine Eq.trans (runC_loop _ _ k) (Eq.trans (el31_16 N k N x1 x21 x22 x23 h0n h0) (by kernel_rfl))
def m31_15 (N : Nat) (x1 x21 x22 x23 : D) (h0n : Bool) (h0 : List D) (K : D → Bool → List D → Option R) : Option R :=
  (m31_16 N x1 x21 x22 x23 h0n h0 (fun y1 h0n h0 => K y1 h0n h0))
theorem e31_15 (N : Nat) (k : Kn R) (x1 x21 x22 x23 : D) (h0n : Bool) (h0 : List D) : runC PHI Tb71 N vc31_15 (s31_4 x1 x21 x22 x23 h0n h0) k = m31_15 N x1 x21 x22 x23 h0n h0 (fun x1 h0n h0 => k .normal (s31_5 x1 h0n h0)) := by
  refine Eq.trans (runC_block _ _ _ k) (Eq.trans (e31_16 N (kblk 0 k) x1 x21 x22 x23 h0n h0) (by kernel_rfl))
def m31_13 (N : Nat) (x1 x2 : D) (h0n : Bool) (h0 : List D) (K : D → Bool → List D → Option R) : Option R :=
  (m31_14 N x1 x2 h0n h0 (fun y1 y21 y22 y23 h0n h0 => (m31_15 N y1 y21 y22 y23 h0n h0 (fun y1 h0n h0 => K y1 h0n h0))))
theorem e31_13 (N : Nat) (k : Kn R) (x1 x2 : D) (h0n : Bool) (h0 : List D) : runC PHI Tb71 N vc31_13 (s31_3 x1 x2 h0n h0) k = m31_13 N x1 x2 h0n h0 (fun x1 h0n h0 => k .normal (s31_5 x1 h0n h0)) := by
  have h2 := e31_14 N (kseq PHI Tb71 N vc31_15 k) x1 x2 h0n h0
  have h3 := (funext fun y1 => funext fun y21 => funext fun y22 => funext fun y23 => funext fun h0n => funext fun h0 => (e31_15 N k y1 y21 y22 y23 h0n h0) : (fun (y1 y21 y22 y23 : D) (h0n : Bool) (h0 : List D) => (kseq PHI Tb71 N vc31_15 k) .normal (s31_4 y1 y21 y22 y23 h0n h0)) = _)
  refine Eq.trans (runC_seq _ _ _ k) (Eq.trans h2 (Eq.trans (congrArg (fun K => m31_14 N x1 x2 h0n h0 K) h3) (by kernel_rfl)))
def m31_30 (N : Nat) (x1 : D) (h0n : Bool) (h0 : List D) (K : D → Bool → List D → Option R) : Option R :=
  (bif (pr68 x1) then K (D.p (mkD h0n h0)) (sp68n x1) (sp68 x1) else none)
def s31_6 (x1 h0 : D) : St := sts 82 [(1, V.f x1), (5, V.m 0 [])] [V.f h0, V.u, V.u]
def s31_7 (x1 x5 : D) : St := sts 82 [(1, V.f x1), (5, V.f x5)] [V.u, V.u, V.u]
def s31_8 (x5 : D) (x8n : Bool) (x8 : List D) : St := sts 82 [(5, V.f x5), (8, V.w x8n x8)] [V.u, V.u, V.u]
theorem e31_30 (N : Nat) (k : Kn R) (x1 : D) (h0n : Bool) (h0 : List D) : runC PHI Tb71 N vc31_30 (s31_5 x1 h0n h0) k = m31_30 N x1 h0n h0 (fun x5 x8n x8 => k .normal (s31_8 x5 x8n x8)) := by
  refine Eq.trans (runC_pre (s1 := (s31_6 x1 (mkD h0n h0))) (by kernel_rfl) _ _) <| Eq.trans (runC_pre (s1 := (s31_7 x1 (D.p (mkD h0n h0)))) (by kernel_rfl) _ _) <| Eq.trans (runC_post _ _ _ k) (Eq.trans (ops_run _ _ _ _) (by kernel_rfl))
def m31_32 (N : Nat) (x5 : D) (x8n : Bool) (x8 : List D) (K : D → Bool → D → Option R) : Option R :=
  (bif ((pr69_70 x5 (D.sl x8)) && (Nat.beq x8.length (sp69_70_h0 x5 (D.sl x8)).toL.length && true)) then K x5 x8n (sp69_70_h0 x5 (D.sl x8)) else none)
def s31_9 (x5 : D) (x8n : Bool) (h1 : D) : St := sts 82 [(5, V.f x5), (8, V.ms 1 x8n)] [V.u, V.f h1, V.u]
theorem e31_32 (N : Nat) (k : Kn R) (x5 : D) (x8n : Bool) (x8 : List D) : runC PHI Tb71 N vc31_32 (s31_8 x5 x8n x8) k = m31_32 N x5 x8n x8 (fun x5 x8n h1 => k .normal (s31_9 x5 x8n h1)) := by
  refine Eq.trans (runC_pre (s1 := (s31_9 x5 x8n (D.sl x8))) (by kernel_rfl) _ _) <| Eq.trans (runC_post _ _ _ k) (Eq.trans (ops_run _ _ _ _) (by kernel_rfl))
def m31_34 (N : Nat) (x5 : D) (x8n : Bool) (h1 : D) (K : D → D → List D → Option R) : Option R :=
  K x5 (frzD x8n h1.toL) ([] : List D)
def s31_10 (x5 x8 : D) : St := sts 82 [(5, V.f x5), (8, V.f x8)] [V.u, V.u, V.u]
def s31_11 (x5 x8 : D) (x9 : List D) : St := sts 82 [(5, V.f x5), (8, V.f x8), (9, V.w false x9)] [V.u, V.u, V.u]
theorem e31_34 (N : Nat) (k : Kn R) (x5 : D) (x8n : Bool) (h1 : D) : runC PHI Tb71 N vc31_34 (s31_9 x5 x8n h1) k = m31_34 N x5 x8n h1 (fun x5 x8 x9 => k .normal (s31_11 x5 x8 x9)) := by
  refine Eq.trans (runC_pre (s1 := (s31_10 x5 (frzD x8n h1.toL))) (by kernel_rfl) _ _) <| Eq.trans (runC_post _ _ _ k) (Eq.trans (ops_run _ _ _ _) (by kernel_rfl))
def m31_37 (N : Nat) (x5 x8 : D) (x9 : List D) (K : D → D → List D → D → D → D → Option R) : Option R :=
  K x5 x8 x9 x8 (D.i (x8.toL.length : Int)) (D.i 0)
def s31_12 (x5 x8 : D) (x9 : List D) (x38 x39 x40 : D) : St := sts 82 [(5, V.f x5), (8, V.f x8), (9, V.w false x9), (38, V.f x38), (39, V.f x39), (40, V.f x40)] [V.u, V.u, V.u]
theorem e31_37 (N : Nat) (k : Kn R) (x5 x8 : D) (x9 : List D) : runC PHI Tb71 N vc31_37 (s31_11 x5 x8 x9) k = m31_37 N x5 x8 x9 (fun x5 x8 x9 x38 x39 x40 => k .normal (s31_12 x5 x8 x9 x38 x39 x40)) := by
  refine Eq.trans (runC_post _ _ _ k) (Eq.trans (ops_run _ _ _ _) (by kernel_rfl))
def m31_40 (N : Nat) (x5 x8 : D) (x9 : List D) (x38 x39 x40 : D) (K : D → D → List D → D → D → D → Option R) (K2 : List D → Option R) : Option R :=
  (bif (ltb x40.toI x39.toI) then (bif (inb x40.toI x38.toL.length) then (bif (ltb 0 x40.toI) then (bif (isPtrD x5) then (bif (inb (IntKind.i64.wrap (x40.toI - 1)) x8.toL.length) then (bif (eqb (sp11 x5.deref (x8.at ((IntKind.i64.wrap (x40.toI - 1)) : Int).toNat) (x38.at (x40.toI : Int).toNat)) 0) then (bif (inb (IntKind.i64.wrap ((x9.length : Int) - 1)) x9.length) then (bif (leN ((sp71 (((D.sl x9).at ((IntKind.i64.wrap ((x9.length : Int) - 1)) : Int).toNat).at 0)).length + ([(x38.at (x40.toI : Int).toNat)] : List D).length) 5864062014805) then (bif (inb (IntKind.i64.wrap ((x9.length : Int) - 1)) x9.length) then (bif (!(D.setP [((IntKind.i64.wrap ((x9.length : Int) - 1)) : Int).toNat, 0] (D.sl x9) (D.sl ((sp71 (((D.sl x9).at ((IntKind.i64.wrap ((x9.length : Int) - 1)) : Int).toNat).at 0)) ++ ([(x38.at (x40.toI : Int).toNat)] : List D)))).toL.isEmpty) then K x5 x8 (D.setP [((IntKind.i64.wrap ((x9.length : Int) - 1)) : Int).toNat, 0] (D.sl x9) (D.sl ((sp71 (((D.sl x9).at ((IntKind.i64.wrap ((x9.length : Int) - 1)) : Int).toNat).at 0)) ++ ([(x38.at (x40.toI : Int).toNat)] : List D)))).toL x38 x39 (D.i (IntKind.i64.wrap (x40.toI + 1))) else none) else none) else none) else none) else (bif (leN (x9.length + ([(D.ag [(D.sl ([(x38.at (x40.toI : Int).toNat)] : List D))])] : List D).length) 5864062014805) then K x5 x8 (x9 ++ ([(D.ag [(D.sl ([(x38.at (x40.toI : Int).toNat)] : List D))])] : List D)) x38 x39 (D.i (IntKind.i64.wrap (x40.toI + 1))) else none)) else none) else none) else (bif false then (bif (inb (IntKind.i64.wrap ((x9.length : Int) - 1)) x9.length) then (bif (leN ((sp71 (((D.sl x9).at ((IntKind.i64.wrap ((x9.length : Int) - 1)) : Int).toNat).at 0)).length + ([(x38.at (x40.toI : Int).toNat)] : List D).length) 5864062014805) then (bif (inb (IntKind.i64.wrap ((x9.length : Int) - 1)) x9.length) then (bif (!(D.setP [((IntKind.i64.wrap ((x9.length : Int) - 1)) : Int).toNat, 0] (D.sl x9) (D.sl ((sp71 (((D.sl x9).at ((IntKind.i64.wrap ((x9.length : Int) - 1)) : Int).toNat).at 0)) ++ ([(x38.at (x40.toI : Int).toNat)] : List D)))).toL.isEmpty) then K x5 x8 (D.setP [((IntKind.i64.wrap ((x9.length : Int) - 1)) : Int).toNat, 0] (D.sl x9) (D.sl ((sp71 (((D.sl x9).at ((IntKind.i64.wrap ((x9.length : Int) - 1)) : Int).toNat).at 0)) ++ ([(x38.at (x40.toI : Int).toNat)] : List D)))).toL x38 x39 (D.i (IntKind.i64.wrap (x40.toI + 1))) else none) else none) else none) else none) else (bif (leN (x9.length + ([(D.ag [(D.sl ([(x38.at (x40.toI : Int).toNat)] : List D))])] : List D).length) 5864062014805) then K x5 x8 (x9 ++ ([(D.ag [(D.sl ([(x38.at (x40.toI : Int).toNat)] : List D))])] : List D)) x38 x39 (D.i (IntKind.i64.wrap (x40.toI + 1))) else none))) else none) else K2 x9)
def s31_13 (x9 : List D) : St := sts 82 [(9, V.w false x9)] [V.u, V.u, V.u]
theorem e31_40 (N : Nat) (k : Kn R) (x5 x8 : D) (x9 : List D) (x38 x39 x40 : D) : runC PHI Tb71 N vc31_40 (s31_12 x5 x8 x9 x38 x39 x40) k = m31_40 N x5 x8 x9 x38 x39 x40 (fun x5 x8 x9 x38 x39 x40 => k .normal (s31_12 x5 x8 x9 x38 x39 x40)) (fun x9 => k (.exit 2) (s31_13 x9)) := by kernel_rfl
def l31_39 (N : Nat) (j : Nat) (x5 x8 : D) (x9 : List D) (x38 x39 x40 : D) (K2 : List D → Option R) : Option R :=
  match j with
  | 0 => none
  | j + 1 => (m31_40 N x5 x8 x9 x38 x39 x40 (fun y5 y8 y9 y38 y39 y40 => l31_39 N j y5 y8 y9 y38 y39 y40 K2) K2)
def m31_39 (N : Nat) (x5 x8 : D) (x9 : List D) (x38 x39 x40 : D) (K2 : List D → Option R) : Option R :=
  l31_39 N N x5 x8 x9 x38 x39 x40 K2
theorem el31_39 (N : Nat) (k : Kn R) : ∀ (j : Nat) (x5 x8 : D) (x9 : List D) (x38 x39 x40 : D), loopGo (runC PHI Tb71 N vc31_40) j (s31_12 x5 x8 x9 x38 x39 x40) k = l31_39 N j x5 x8 x9 x38 x39 x40 (fun x9 => k (.exit 2) (s31_13 x9))
  | 0, _, _, _, _, _, _ => by kernel_rfl
  | j + 1, x5, x8, x9, x38, x39, x40 => by
    have h2 := e31_40 N (kloop PHI Tb71 N vc31_40 j k) x5 x8 x9 x38 x39 x40
    have h3 : (fun (y5 y8 : D) (y9 : List D) (y38 y39 y40 : D) => (kloop PHI Tb71 N vc31_40 j k) .normal (s31_12 y5 y8 y9 y38 y39 y40)) = (fun (y5 y8 : D) (y9 : List D) (y38 y39 y40 : D) => l31_39 N j y5 y8 y9 y38 y39 y40 (fun x9 => k (.exit 2) (s31_13 x9))) := funext fun y5 => funext fun y8 => funext fun y9 => funext fun y38 => funext fun y39 => funext fun y40 => (el31_39 N k j y5 y8 y9 y38 y39 y40)
    refine Eq.trans (loop_succ _ j _ k) (Eq.trans h2 (Eq.trans (congrArg (fun K => m31_40 N x5 x8 x9 x38 x39 x40 K (fun x9 => (kloop PHI Tb71 N vc31_40 j k) (.exit 2) (s31_13 x9))) h3) (by kernel_rfl)))
theorem e31_39 (N : Nat) (k : Kn R) (x5 x8 : D) (x9 : List D) (x38 x39 x40 : D) : runC PHI Tb71 N vc31_39 (s31_12 x5 x8 x9 x38 x39 x40) k = m31_39 N x5 x8 x9 x38 x39 x40 (fun x9 => k (.exit 2) (s31_13 x9)) := by
  refine Eq.trans (runC_loop _ _ k) (Eq.trans (el31_39 N k N x5 x8 x9 x38 x39 x40) (by kernel_rfl))
def m31_38 (N : Nat) (x5 x8 : D) (x9 : List D) (x38 x39 x40 : D) (K : List D → Option R) : Option R :=
  (m31_39 N x5 x8 x9 x38 x39 x40 (fun y9 => K y9))
theorem e31_38 (N : Nat) (k : Kn R) (x5 x8 : D) (x9 : List D) (x38 x39 x40 : D) : runC PHI Tb71 N vc31_38 (s31_12 x5 x8 x9 x38 x39 x40) k = m31_38 N x5 x8 x9 x38 x39 x40 (fun x9 => k .normal (s31_13 x9)) := by
  refine Eq.trans (runC_block _ _ _ k) (Eq.trans (e31_39 N (kblk 2 k) x5 x8 x9 x38 x39 x40) (by kernel_rfl))
def m31_36 (N : Nat) (x5 x8 : D) (x9 : List D) (K : List D → Option R) : Option R :=
  (m31_37 N x5 x8 x9 (fun y5 y8 y9 y38 y39 y40 => (m31_38 N y5 y8 y9 y38 y39 y40 (fun y9 => K y9))))
theorem e31_36 (N : Nat) (k : Kn R) (x5 x8 : D) (x9 : List D) : runC PHI Tb71 N vc31_36 (s31_11 x5 x8 x9) k = m31_36 N x5 x8 x9 (fun x9 => k .normal (s31_13 x9)) := by
  have h2 := e31_37 N (kseq PHI Tb71 N vc31_38 k) x5 x8 x9
  have h3 := (funext fun y5 => funext fun y8 => funext fun y9 => funext fun y38 => funext fun y39 => funext fun y40 => (e31_38 N k y5 y8 y9 y38 y39 y40) : (fun (y5 y8 : D) (y9 : List D) (y38 y39 y40 : D) => (kseq PHI Tb71 N vc31_38 k) .normal (s31_12 y5 y8 y9 y38 y39 y40)) = _)
  refine Eq.trans (runC_seq _ _ _ k) (Eq.trans h2 (Eq.trans (congrArg (fun K => m31_37 N x5 x8 x9 K) h3) (by kernel_rfl)))
def m31_62 (N : Nat) (x9 : List D) (Kr : Bool → List D → Option R) : Option R :=
  Kr false x9
theorem e31_62 (N : Nat) (k : Kn R) (x9 : List D) : runC PHI Tb71 N vc31_62 (s31_13 x9) k = m31_62 N x9 (fun x4n x4 => k .ret (s31_2 x4n x4)) := by kernel_rfl
def m31_35 (N : Nat) (x5 x8 : D) (x9 : List D) (Kr : Bool → List D → Option R) : Option R :=
  (m31_36 N x5 x8 x9 (fun y9 => (m31_62 N y9 Kr)))
theorem e31_35 (N : Nat) (k : Kn R) (x5 x8 : D) (x9 : List D) : runC PHI Tb71 N vc31_35 (s31_11 x5 x8 x9) k = m31_35 N x5 x8 x9 (fun x4n x4 => k .ret (s31_2 x4n x4)) := by
  have h2 := e31_36 N (kseq PHI Tb71 N vc31_62 k) x5 x8 x9
  have h3 := (funext fun y9 => (e31_62 N k y9) : (fun (y9 : List D) => (kseq PHI Tb71 N vc31_62 k) .normal (s31_13 y9)) = _)
  refine Eq.trans (runC_seq _ _ _ k) (Eq.trans h2 (Eq.trans (congrArg (fun K => m31_36 N x5 x8 x9 K) h3) (by kernel_rfl)))
def m31_33 (N : Nat) (x5 : D) (x8n : Bool) (h1 : D) (Kr : Bool → List D → Option R) : Option R :=
  (m31_34 N x5 x8n h1 (fun y5 y8 y9 => (m31_35 N y5 y8 y9 Kr)))
theorem e31_33 (N : Nat) (k : Kn R) (x5 : D) (x8n : Bool) (h1 : D) : runC PHI Tb71 N vc31_33 (s31_9 x5 x8n h1) k = m31_33 N x5 x8n h1 (fun x4n x4 => k .ret (s31_2 x4n x4)) := by
  have h2 := e31_34 N (kseq PHI Tb71 N vc31_35 k) x5 x8n h1
  have h3 := (funext fun y5 => funext fun y8 => funext fun y9 => (e31_35 N k y5 y8 y9) : (fun (y5 y8 : D) (y9 : List D) => (kseq PHI Tb71 N vc31_35 k) .normal (s31_11 y5 y8 y9)) = _)
  refine Eq.trans (runC_seq _ _ _ k) (Eq.trans h2 (Eq.trans (congrArg (fun K => m31_34 N x5 x8n h1 K) h3) (by kernel_rfl)))
def m31_31 (N : Nat) (x5 : D) (x8n : Bool) (x8 : List D) (Kr : Bool → List D → Option R) : Option R :=
  (m31_32 N x5 x8n x8 (fun y5 y8n h1 => (m31_33 N y5 y8n h1 Kr)))
theorem e31_31 (N : Nat) (k : Kn R) (x5 : D) (x8n : Bool) (x8 : List D) : runC PHI Tb71 N vc31_31 (s31_8 x5 x8n x8) k = m31_31 N x5 x8n x8 (fun x4n x4 => k .ret (s31_2 x4n x4)) := by
  have h2 := e31_32 N (kseq PHI Tb71 N vc31_33 k) x5 x8n x8
  have h3 := (funext fun y5 => funext fun y8n => funext fun h1 => (e31_33 N k y5 y8n h1) : (fun (y5 : D) (y8n : Bool) (h1 : D) => (kseq PHI Tb71 N vc31_33 k) .normal (s31_9 y5 y8n h1)) = _)
  refine Eq.trans (runC_seq _ _ _ k) (Eq.trans h2 (Eq.trans (congrArg (fun K => m31_32 N x5 x8n x8 K) h3) (by kernel_rfl)))
def m31_29 (N : Nat) (x1 : D) (h0n : Bool) (h0 : List D) (Kr : Bool → List D → Option R) : Option R :=
  (m31_30 N x1 h0n h0 (fun y5 y8n y8 => (m31_31 N y5 y8n y8 Kr)))
theorem e31_29 (N : Nat) (k : Kn R) (x1 : D) (h0n : Bool) (h0 : List D) : runC PHI Tb71 N vc31_29 (s31_5 x1 h0n h0) k = m31_29 N x1 h0n h0 (fun x4n x4 => k .ret (s31_2 x4n x4)) := by
  have h2 := e31_30 N (kseq PHI Tb71 N vc31_31 k) x1 h0n h0
  have h3 := (funext fun y5 => funext fun y8n => funext fun y8 => (e31_31 N k y5 y8n y8) : (fun (y5 : D) (y8n : Bool) (y8 : List D) => (kseq PHI Tb71 N vc31_31 k) .normal (s31_8 y5 y8n y8)) = _)
  refine Eq.trans (runC_seq _ _ _ k) (Eq.trans h2 (Eq.trans (congrArg (fun K => m31_30 N x1 h0n h0 K) h3) (by kernel_rfl)))
def m31_12 (N : Nat) (x1 x2 : D) (h0n : Bool) (h0 : List D) (Kr : Bool → List D → Option R) : Option R :=
  (m31_13 N x1 x2 h0n h0 (fun y1 h0n h0 => (m31_29 N y1 h0n h0 Kr)))
theorem e31_12 (N : Nat) (k : Kn R) (x1 x2 : D) (h0n : Bool) (h0 : List D) : runC PHI Tb71 N vc31_12 (s31_3 x1 x2 h0n h0) k = m31_12 N x1 x2 h0n h0 (fun x4n x4 => k .ret (s31_2 x4n x4)) := by
  have h2 := e31_13 N (kseq PHI Tb71 N vc31_29 k) x1 x2 h0n h0
  have h3 := (funext fun y1 => funext fun h0n => funext fun h0 => (e31_29 N k y1 h0n h0) : (fun (y1 : D) (h0n : Bool) (h0 : List D) => (kseq PHI Tb71 N vc31_29 k) .normal (s31_5 y1 h0n h0)) = _)
  refine Eq.trans (runC_seq _ _ _ k) (Eq.trans h2 (Eq.trans (congrArg (fun K => m31_13 N x1 x2 h0n h0 K) h3) (by kernel_rfl)))
def m31_10 (N : Nat) (x1 x2 : D) (Kr : Bool → List D → Option R) : Option R :=
  (m31_11 N x1 x2 (fun y1 y2 h0n h0 => (m31_12 N y1 y2 h0n h0 Kr)))
theorem e31_10 (N : Nat) (k : Kn R) (x1 x2 : D) : runC PHI Tb71 N vc31_10 (s31_1 x1 x2) k = m31_10 N x1 x2 (fun x4n x4 => k .ret (s31_2 x4n x4)) := by
  have h2 := e31_11 N (kseq PHI Tb71 N vc31_12 k) x1 x2
  have h3 := (funext fun y1 => funext fun y2 => funext fun h0n => funext fun h0 => (e31_12 N k y1 y2 h0n h0) : (fun (y1 y2 : D) (h0n : Bool) (h0 : List D) => (kseq PHI Tb71 N vc31_12 k) .normal (s31_3 y1 y2 h0n h0)) = _)
  refine Eq.trans (runC_seq _ _ _ k) (Eq.trans h2 (Eq.trans (congrArg (fun K => m31_11 N x1 x2 K) h3) (by kernel_rfl)))
def m31_2 (N : Nat) (x1 x2 : D) (Kr : Bool → List D → Option R) : Option R :=
  (m31_3 N x1 x2 (fun y1 y2 => (m31_10 N y1 y2 Kr)) Kr)
theorem e31_2 (N : Nat) (k : Kn R) (x1 x2 : D) : runC PHI Tb71 N vc31_2 (s31_1 x1 x2) k = m31_2 N x1 x2 (fun x4n x4 => k .ret (s31_2 x4n x4)) := by
  have h2 := e31_3 N (kseq PHI Tb71 N vc31_10 k) x1 x2
  have h3 := (funext fun y1 => funext fun y2 => (e31_10 N k y1 y2) : (fun (y1 y2 : D) => (kseq PHI Tb71 N vc31_10 k) .normal (s31_1 y1 y2)) = _)
  refine Eq.trans (runC_seq _ _ _ k) (Eq.trans h2 (Eq.trans (congrArg (fun K => m31_3 N x1 x2 K (fun x4n x4 => (kseq PHI Tb71 N vc31_10 k) .ret (s31_2 x4n x4))) h3) (by kernel_rfl)))
def m31_0 (N : Nat) (x0 x1 : D) (Kr : Bool → List D → Option R) : Option R :=
  (m31_1 N x0 x1 (fun y1 y2 => (m31_2 N y1 y2 Kr)))
theorem e31_0 (N : Nat) (k : Kn R) (x0 x1 : D) : runC PHI Tb71 N vc31_0 (s31_0 x0 x1) k = m31_0 N x0 x1 (fun x4n x4 => k .ret (s31_2 x4n x4)) := by
  have h2 := e31_1 N (kseq PHI Tb71 N vc31_2 k) x0 x1
  have h3 := (funext fun y1 => funext fun y2 => (e31_2 N k y1 y2) : (fun (y1 y2 : D) => (kseq PHI Tb71 N vc31_2 k) .normal (s31_1 y1 y2)) = _)
  refine Eq.trans (runC_seq _ _ _ k) (Eq.trans h2 (Eq.trans (congrArg (fun K => m31_1 N x0 x1 K) h3) (by kernel_rfl)))
theorem r31 (N : Nat) (x0 x1 : D) : runC PHI Tb71 N vf31.body (enterV vf31 [V.f x0, V.f x1] []) (finish vf31) = m31_0 N x0 x1 (fun x4n x4 => finish vf31 .ret (s31_2 x4n x4)) := 
  Eq.trans (runC_pre (s1 := (s31_0 x0 x1)) (by kernel_rfl) _ _) (Eq.trans (e31_0 N (finish vf31) x0 x1) (by kernel_rfl))
end
noncomputable def Tb31 : CallF := extend Tb71 31 (fn2 pr31 fun q r => .w (sp31n q r) (sp31 q r))
theorem b31 {R : Type} (N : Nat) (rows l : D) (hl : l.toL.length ≤ 1000000) (K0 : D → Bool → List D → Option R) : ∀ k i J, i + k = l.toL.length → k < J →
    l31_16 N J rows l (.i (l.toL.length : Int)) (.i (i : Int)) false (byL (l.toL.take i)) K0 = K0 rows false (byL l.toL)
  | _, _, 0, _, h => by omega
  | 0, i, J + 1, h, _ => by
    have : i = l.toL.length := by omega
    subst this
    simp only [l31_16, m31_17, toI_i, ltb_self, cond_false, List.take_length]
  | k + 1, i, J + 1, h, h' => by
    have hi : i < l.toL.length := by omega
    have e : byL (l.toL.take i) ++ [.ag [l.toL.getD i .nil, .b false]] = byL (l.toL.take (i + 1)) := by
      unfold byL
      rw [List.take_add_one, List.map_append, List.getD_eq_getElem?_getD, List.getElem?_eq_getElem hi]
      rfl
    have e2 : leN ((byL (l.toL.take i)).length + ([(D.ag [l.toL.getD i .nil, .b false])] : List D).length) 8796093022208 = true := leN_t (by
      unfold byL
      rw [List.length_map, List.length_take, List.length_singleton]
      omega)
    simp only [l31_16, m31_17, toI_i, ltb_n hi, cond_true, inb_t hi, at_nat, e2, e, succ_n hi (show l.toL.length ≤ 9223372036854775807 by omega)]
    exact b31 N rows l hl K0 k (i + 1) J (by omega) (by omega)
theorem set_last {α : Type} (acc : List α) (x y : α) : (acc ++ [x]).set acc.length y = acc ++ [y] := by
  rw [List.set_append_right _ _ (Nat.le_refl _)]
  simp
theorem getD_last (acc : List D) (x : D) : (acc ++ [x]).getD acc.length .nil = x := by
  rw [List.getD_eq_getElem?_getD, List.getElem?_append_right (Nat.le_refl _)]
  simp
theorem setP2 (acc : List D) (a v : D) : D.setP [acc.length, 0] (.sl (acc ++ [.ag [a]])) v = .sl (acc ++ [.ag [v]]) := by
  have e : D.setP [acc.length, 0] (.sl (acc ++ [.ag [a]])) v = .sl ((acc ++ [D.ag [a]]).set acc.length (D.setP [0] ((acc ++ [D.ag [a]]).getD acc.length .nil) v)) := rfl
  rw [e, getD_last, set_last]
  rfl
theorem g31 {R : Type} (N : Nat) (q d : D) (hq : isPtrD q = true) (hl : d.toL.length ≤ 1000000) (K2 : List D → Option R) : ∀ k i J (acc g : List D), i + k = d.toL.length → 0 < i → k < J → acc.length < i → g.length ≤ i →
    l31_39 N J q d (acc ++ [grpD g]) d (.i (d.toL.length : Int)) (.i (i : Int)) K2 = K2 (acc ++ (runsF (c70 q) g (gt d.toL (i - 1)) (d.toL.drop i)).map grpD)
  | _, _, 0, _, _, _, _, h, _, _ => by omega
  | 0, i, J + 1, acc, g, h, _, _, _, _ => by
    have : i = d.toL.length := by omega
    subst this
    simp only [l31_39, m31_40, toI_i, ltb_self, cond_false]
    rw [List.drop_eq_nil_of_le (Nat.le_refl _)]
    rfl
  | k + 1, i, J + 1, acc, g, h, h0, h', ha, hg => by
    have hi : i < d.toL.length := by omega
    have e1 : IntKind.i64.wrap ((i : Int) - 1) = ((i - 1 : Nat) : Int) := w64n (by omega) (by omega)
    have i1 : inb ((i - 1 : Nat) : Int) d.toL.length = true := inb_t (by omega)
    have hlen : (acc ++ [grpD g]).length = acc.length + 1 := by simp
    have e2 : IntKind.i64.wrap (((acc ++ [grpD g]).length : Int) - 1) = (acc.length : Int) := w64n (by omega) (by omega)
    have i2 : inb (acc.length : Int) (acc ++ [grpD g]).length = true := inb_t (by omega)
    have ha2 : ((D.sl (acc ++ [grpD g])).at acc.length).at 0 = .sl g := by
      rw [at_sl]; unfold gt; rw [getD_last]; rfl
    have hs : ∀ v, D.setP [acc.length, 0] (.sl (acc ++ [grpD g])) v = .sl (acc ++ [.ag [v]]) := fun v => setP2 acc (.sl g) v
    have hd : d.toL.drop i = gt d.toL i :: d.toL.drop (i + 1) := by rw [List.drop_eq_getElem_cons hi, gt_at hi]
    have hat : ∀ n : Nat, d.at n = gt d.toL n := fun _ => rfl
    have hi0 : ltb 0 (i : Int) = true := ltb_t (by omega)
    have hne : ∀ v : D, (!(acc ++ [v]).isEmpty) = true := fun v => by cases acc <;> rfl
    rw [hd, runsF]
    simp only [l31_39, m31_40, toI_i, ltb_n hi, cond_true, inb_t hi, hi0, hq, e1, i1, hat, Int.toNat_natCast, succ_n hi (show d.toL.length ≤ 9223372036854775807 by omega)]
    show (bif eqb (c70 q (gt d.toL (i - 1)) (gt d.toL i)) 0 then _ else _) = _
    cases hc : eqb (c70 q (gt d.toL (i - 1)) (gt d.toL i)) 0
    · have l1 : leN ((acc ++ [grpD g]).length + ([(D.ag [(D.sl ([gt d.toL i] : List D))])] : List D).length) 5864062014805 = true := leN_t (by rw [hlen, List.length_singleton]; omega)
      simp only [cond_false, l1, cond_true]
      have r := g31 N q d hq hl K2 k (i + 1) J (acc ++ [grpD g]) [gt d.toL i] (by omega) (by omega) (by omega) (by omega) (by simp)
      rw [show i + 1 - 1 = i by omega] at r
      refine Eq.trans r ?_
      rw [List.map_cons, List.append_assoc]
      rfl
    · have l1 : leN (g.length + ([gt d.toL i] : List D).length) 5864062014805 = true := leN_t (by rw [List.length_singleton]; omega)
      simp only [cond_true, e2, i2, Int.toNat_natCast, ha2, sp71, toL_sl, l1, hs, hne]
      have r := g31 N q d hq hl K2 k (i + 1) J acc (g ++ [gt d.toL i]) (by omega) (by omega) (by omega) (by omega) (by simp; omega)
      rw [show i + 1 - 1 = i by omega] at r
      exact r
theorem h31 {R : Type} (N : Nat) (q d : D) (hq : isPtrD q = true) (hl : d.toL.length ≤ 1000000) (hN : d.toL.length < N) (K2 : List D → Option R) :
    l31_39 N N q d [] d (.i (d.toL.length : Int)) (.i 0) K2 = K2 ((runs (c70 q) d.toL).map grpD) := by
  cases hs : d.toL with
  | nil =>
    cases N with
    | zero => rw [hs] at hN; cases hN
    | succ J =>
      rw [← hs]
      have hlt : ltb 0 (d.toL.length : Int) = false := by rw [hs]; rfl
      simp only [l31_39, m31_40, toI_i, hlt, cond_false]
      rw [hs]; rfl
  | cons x l =>
    cases N with
    | zero => omega
    | succ J =>
      have hpos : 0 < d.toL.length := by rw [hs]; simp
      have hlt : ltb 0 (d.toL.length : Int) = true := ltb_t (by omega)
      have i1 : inb 0 d.toL.length = true := inb_t hpos
      have hat : d.at (0 : Int).toNat = x := by show gt d.toL 0 = x; rw [hs]; rfl
      have e1 : IntKind.i64.wrap ((0 : Int) + 1) = ((1 : Nat) : Int) := w64n (by omega) (by omega)
      have l1 : leN (([] : List D).length + ([(D.ag [(D.sl ([x] : List D))])] : List D).length) 5864062014805 = true := rfl
      have r := g31 (J + 1) q d hq hl K2 (d.toL.length - 1) 1 J [] [x] (by omega) (by omega) (by omega) (by simp) (by simp)
      have e2 : gt d.toL (1 - 1) = x := hat
      have e3 : d.toL.drop 1 = l := by rw [hs]; rfl
      rw [e2, e3] at r
      have hl0 : ltb (0 : Int) 0 = false := rfl
      rw [← hs]
      simp only [l31_39, m31_40, toI_i, hlt, cond_true, cond_false, i1, hat, hl0, l1, e1]
      refine Eq.trans r ?_
      rw [hs]; rfl
theorem ok31 : FnOk Try.prog PHI Tb31 := FnOk.add2 hPHI ok71 (by kernel_rfl) fun q rows ha hp => by
  unfold pr31 at hp
  rw [Bool.and_eq_true] at hp
  have hl : rows.toL.length ≤ 1000000 := by
    have := hp.1
    unfold pr68 at this
    rw [Bool.and_eq_true] at this
    exact of_decide_eq_true this.2
  have hg : (q.at 4).toL.length ≤ 1000000 := of_decide_eq_true hp.2
  refine ⟨(q.at 4).toL.length + rows.toL.length + 1, (r31 _ q rows).trans ?_⟩
  generalize hN : (q.at 4).toL.length + rows.toL.length + 1 = N
  unfold sp31n sp31
  simp only [m31_0, m31_1, m31_2, m31_3, isPtr_p, deref_p, cond_true]
  cases he : eqb ((q.at 4).toL.length : Int) 0
  · simp only [cond_false, m31_10, m31_11, m31_12, m31_13, m31_14, isPtr_p, deref_p, cond_true, m31_15, m31_16]
    have hb := b31 N rows (q.at 4) hg (fun y1 h0n h0 => m31_29 N y1 h0n h0 (fun x4n x4 => finish vf31 .ret (s31_2 x4n x4))) (q.at 4).toL.length 0 N (by omega) (by omega)
    refine Eq.trans hb ?_
    have hk : D.p (mkD false (byL (q.at 4).toL)) = keyP q := rfl
    have hpt : isPtrD (keyP q) = true := rfl
    have hsl : (stb (c70 (keyP q)) rows.toL).length = rows.toL.length := stb_len (c70_c _) _
    have p69 : pr69_70 (keyP q) (D.sl rows.toL) = true := by
      unfold pr69_70 okA
      rw [toL_sl, leb_t (show (rows.toL.length : Int) ≤ 1000000 by omega), hpt]; rfl
    have s69 : sp69_70_h0 (keyP q) (D.sl rows.toL) = .sl (stb (c70 (keyP q)) rows.toL) := rfl
    simp only [m31_29, m31_30, hp.1, cond_true, hk, m31_31, m31_32, sp68, p69, s69, toL_sl, hsl, beq_same, Bool.and_self, m31_33, m31_34, m31_35, m31_36, m31_37, m31_38, m31_39]
    have hd : (frzD (sp68n rows) (stb (c70 (keyP q)) rows.toL)).toL = stb (c70 (keyP q)) rows.toL := frzD_toL _ _
    have h3 := h31 N (keyP q) (frzD (sp68n rows) (stb (c70 (keyP q)) rows.toL)) hpt (by rw [hd, hsl]; exact hl) (by rw [hd, hsl]; omega) (fun y9 => m31_62 N y9 (fun x4n x4 => finish vf31 .ret (s31_2 x4n x4)))
    refine Eq.trans h3 ?_
    rw [hd]
    simp only [m31_62]
    rfl
  · simp only [cond_true]
    rfl
end Go.Vam.C14
namespace Go.Vam.C14
open Go.Proofs
def fp1 (s : D → D → D) : List V → List V → CRes
  | [.m 0 [], .f a], [.f h] => (true, .t [], [.f (s a h)])
  | _, _ => (false, .u, [])
def fp0 (s : D → D) : List V → List V → CRes
  | [.m 0 []], [.f h] => (true, .f (s h), [.f h])
  | _, _ => (false, .u, [])
theorem toO_t {v r : V} {H H' : List V} (h : toO (true, v, H) = some (r, H')) : r = v ∧ H' = H := by
  have h' : some (v, H) = some (r, H') := h
  injection h' with h'
  injection h' with h1 h2
  exact ⟨h1.symm, h2.symm⟩
theorem addp1 {F : CallF} {g : Nat} {vf : VFunc} (hF : FnOk Try.prog PHI F) (hvf : PHI g = some vf) {s : D → D → D}
    (hg : ∀ a h, ∃ N, runC PHI F N vf.body (enterV vf [.m 0 [], .f a] [.f h]) (finish vf) = some (.t [], [.f (s a h)])) : FnOk Try.prog PHI (extendR F g (fp1 s)) := by
  refine FnOk.addR Try.prog PHI hPHI hF hvf _ fun args Hin r H' ha hr => ?_
  unfold fp1 at hr
  split at hr
  · obtain ⟨h1, h2⟩ := toO_t hr
    subst h1; subst h2
    exact hg _ _
  · cases hr
theorem addp0 {F : CallF} {g : Nat} {vf : VFunc} (hF : FnOk Try.prog PHI F) (hvf : PHI g = some vf) {s : D → D}
    (hg : ∀ h, ∃ N, runC PHI F N vf.body (enterV vf [.m 0 []] [.f h]) (finish vf) = some (.f (s h), [.f h])) : FnOk Try.prog PHI (extendR F g (fp0 s)) := by
  refine FnOk.addR Try.prog PHI hPHI hF hvf _ fun args Hin r H' ha hr => ?_
  unfold fp0 at hr
  split at hr
  · obtain ⟨h1, h2⟩ := toO_t hr
    subst h1; subst h2
    exact hg _
  · cases hr
def sp75_h0 (n h : D) : D := D.setP [0] (D.setP [2] (D.setP [1] h (D.i (((h.at 1).toI + (IntKind.u64.wrap n.toI) + 0) % 18446744073709551616))) (D.b true)) (D.i (IntKind.i64.wrap (((D.setP [2] (D.setP [1] h (D.i (((h.at 1).toI + (IntKind.u64.wrap n.toI) + 0) % 18446744073709551616))) (D.b true)).at 0).toI + (IntKind.i64.wrap ((F2.ev (.shr .i64) n (D.i 63)).toI + (IntKind.i64.wrap (((h.at 1).toI + (IntKind.u64.wrap n.toI) + 0) / 18446744073709551616)))))))
section
variable {R : Type}
def m75_0 (N : Nat) (x1 h0 : D) (K : D → Option R) : Option R :=
  (bif (leb 0 1) then (bif (F2.ok (.shr .i64) x1 (D.i 63)) then K (D.setP [0] (D.setP [2] (D.setP [1] h0 (D.i (((h0.at 1).toI + (IntKind.u64.wrap x1.toI) + 0) % 18446744073709551616))) (D.b true)) (D.i (IntKind.i64.wrap (((D.setP [2] (D.setP [1] h0 (D.i (((h0.at 1).toI + (IntKind.u64.wrap x1.toI) + 0) % 18446744073709551616))) (D.b true)).at 0).toI + (IntKind.i64.wrap ((F2.ev (.shr .i64) x1 (D.i 63)).toI + (IntKind.i64.wrap (((h0.at 1).toI + (IntKind.u64.wrap x1.toI) + 0) / 18446744073709551616)))))))) else none) else none)
def s75_0 (x1 h0 : D) : St := sts 35 [(0, V.m 0 []), (1, V.f x1)] [V.f h0]
def s75_1 (h0 : D) : St := sts 35 [] [V.f h0]
theorem e75_0 (N : Nat) (k : Kn R) (x1 h0 : D) : runC PHI Tb31 N vc75_0 (s75_0 x1 h0) k = m75_0 N x1 h0 (fun h0 => k .normal (s75_1 h0)) := by kernel_rfl
theorem r75 (N : Nat) (x1 h0 : D) : runC PHI Tb31 N vf75.body (enterV vf75 [V.m 0 [], V.f x1] [V.f h0]) (finish vf75) = m75_0 N x1 h0 (fun h0 => finish vf75 .normal (s75_1 h0)) := 
  Eq.trans (runC_pre (s1 := (s75_0 x1 h0)) (by kernel_rfl) _ _) (Eq.trans (e75_0 N (finish vf75) x1 h0) (by kernel_rfl))
end
noncomputable def Tb75 : CallF := extendR Tb31 75 (fp1 sp75_h0)
theorem ok75 : FnOk Try.prog PHI Tb75 := addp1 ok31 (by kernel_rfl) fun n h => ⟨0, (r75 _ n h).trans (by
  have e1 : leb 0 1 = true := rfl
  have e2 : F2.ok (.shr .i64) n (D.i 63) = true := rfl
  simp only [m75_0, e1, e2, cond_true]
  rfl)⟩
def nullD : D := D.ag [(D.i 0), (D.i 0), (D.f 0), (D.s [])]
def sp76 (h : D) : D := bif !(h.at 2).toB then nullD else bif !eqb (h.at 0).toI (F2.ev (.shr .i64) (D.i (IntKind.i64.wrap (h.at 1).toI)) (D.i 63)).toI then nullD else sp74 (D.i (IntKind.i64.wrap (h.at 1).toI))
section
variable {R : Type}
def m76_0 (N : Nat) (h0 : D) (Kr : D → D → Option R) : Option R :=
  (bif (!(h0.at 2).toB) then (bif true then Kr (D.p (D.ag [(D.i 0), (D.i 0), (D.f 0), (D.s [])])) h0 else Kr (D.p (sp74 (D.i (IntKind.i64.wrap (h0.at 1).toI)))) h0) else (bif (F2.ok (.shr .i64) (D.i (IntKind.i64.wrap (h0.at 1).toI)) (D.i 63)) then (bif (!eqb (h0.at 0).toI (F2.ev (.shr .i64) (D.i (IntKind.i64.wrap (h0.at 1).toI)) (D.i 63)).toI) then Kr (D.p (D.ag [(D.i 0), (D.i 0), (D.f 0), (D.s [])])) h0 else Kr (D.p (sp74 (D.i (IntKind.i64.wrap (h0.at 1).toI)))) h0) else none))
def s76_0 (h0 : D) : St := sts 26 [(0, V.m 0 [])] [V.f h0]
def s76_1 (x2 h0 : D) : St := sts 26 [(2, V.f x2)] [V.f h0]
theorem e76_0 (N : Nat) (k : Kn R) (h0 : D) : runC PHI Tb75 N vc76_0 (s76_0 h0) k = m76_0 N h0 (fun x2 h0 => k .ret (s76_1 x2 h0)) := by kernel_rfl
theorem r76 (N : Nat) (h0 : D) : runC PHI Tb75 N vf76.body (enterV vf76 [V.m 0 []] [V.f h0]) (finish vf76) = m76_0 N h0 (fun x2 h0 => finish vf76 .ret (s76_1 x2 h0)) := 
  Eq.trans (runC_pre (s1 := (s76_0 h0)) (by kernel_rfl) _ _) (Eq.trans (e76_0 N (finish vf76) h0) (by kernel_rfl))
end
noncomputable def Tb76 : CallF := extendR Tb75 76 (fp0 sp76)
theorem ok76 : FnOk Try.prog PHI Tb76 := addp0 ok75 (by kernel_rfl) fun h => ⟨0, (r76 _ h).trans (by
  have e2 : F2.ok (.shr .i64) (D.i (IntKind.i64.wrap (h.at 1).toI)) (D.i 63) = true := rfl
  simp only [m76_0, sp76, e2, cond_true]
  cases (h.at 2).toB
  · rfl
  · simp only [Bool.not_true, cond_false]
    cases eqb (h.at 0).toI (F2.ev (.shr .i64) (D.i (IntKind.i64.wrap (h.at 1).toI)) (D.i 63)).toI <;> rfl)⟩
def betD (n v c best : D) : Bool := bif !eqb (v.at 0).toI 0 then (bif eqb (best.at 0).toI 0 then true else (bif eqb (n.at 0).toI 12 then (bif ltb c.toI 0 then true else (bif eqb (n.at 0).toI 13 then ltb 0 c.toI else false)) else (bif eqb (n.at 0).toI 13 then ltb 0 c.toI else false))) else false
def fst36 (n : D) (s : D × D) (row : D) : D × D :=
  let v := sp23 ((n.at 6).at 0) row
  (bif eqb (v.at 0).toI 1 then sp75_h0 (v.at 1) s.1 else s.1, bif betD n v (.i (sp27 v s.2)) s.2 then v else s.2)
def ini36 : D × D := (D.ag [(D.i 0), (D.i 0), (D.b false)], nullD)
def acc36 (n rows : D) : D × D := bif eqb ((n.at 6).toL.length : Int) 0 then ini36 else rows.toL.foldl (fst36 n) ini36
def sp36 (n rows : D) : D := bif eqb (n.at 0).toI 10 then sp74 (D.i (mmI false (rows.toL.length : Int) [2147483647])) else bif eqb (n.at 0).toI 11 then sp76 (acc36 n rows).1 else (acc36 n rows).2
def pr36 (_ _ : D) : Bool := true
section
variable {R : Type}
def m36_1 (N : Nat) (x0 x1 : D) (K : D → D → Option R) : Option R :=
  K x1 (D.p x0)
def s36_0 (x0 x1 : D) : St := sts 76 [(0, V.f x0), (1, V.f x1)] [V.u, V.u]
def s36_1 (x1 x2 : D) : St := sts 76 [(1, V.f x1), (2, V.f x2), (4, V.a)] [V.u, V.u]
theorem e36_1 (N : Nat) (k : Kn R) (x0 x1 : D) : runC PHI Tb76 N vc36_1 (s36_0 x0 x1) k = m36_1 N x0 x1 (fun x1 x2 => k .normal (s36_1 x1 x2)) := by
  refine Eq.trans (runC_post _ _ _ k) (Eq.trans (ops_run _ _ _ _) (by kernel_rfl))
def m36_3 (N : Nat) (x1 x2 : D) (K : D → D → Option R) (Kr : D → Option R) : Option R :=
  (bif (isPtrD x2) then (bif (eqb (x2.deref.at 0).toI 10) then Kr (D.p (sp74 (D.i (mmI false (x1.toL.length : Int) [2147483647])))) else K x1 x2) else none)
def s36_2 (x4 : D) : St := sts 76 [(4, V.f x4)] [V.u, V.u]
theorem e36_3 (N : Nat) (k : Kn R) (x1 x2 : D) : runC PHI Tb76 N vc36_3 (s36_1 x1 x2) k = m36_3 N x1 x2 (fun x1 x2 => k .normal (s36_1 x1 x2)) (fun x4 => k .ret (s36_2 x4)) := by kernel_rfl
def m36_11 (N : Nat) (x1 x2 : D) (K : D → D → D → Option R) : Option R :=
  K x1 x2 (D.ag [(D.i 0), (D.i 0), (D.b false)])
def s36_3 (x1 x2 h0 : D) : St := sts 76 [(1, V.f x1), (2, V.f x2), (4, V.a), (5, V.m 0 [])] [V.f h0, V.u]
theorem e36_11 (N : Nat) (k : Kn R) (x1 x2 : D) : runC PHI Tb76 N vc36_11 (s36_1 x1 x2) k = m36_11 N x1 x2 (fun x1 x2 h0 => k .normal (s36_3 x1 x2 h0)) := by
  refine Eq.trans (runC_post _ _ _ k) (Eq.trans (ops_run _ _ _ _) (by kernel_rfl))
def m36_13 (N : Nat) (x1 x2 h0 : D) (K : D → D → D → D → Option R) : Option R :=
  K x1 x2 h0 (D.ag [(D.i 0), (D.i 0), (D.f 0), (D.s [])])
def s36_4 (x1 x2 h0 h1 : D) : St := sts 76 [(1, V.f x1), (2, V.f x2), (4, V.a), (5, V.m 0 []), (6, V.m 1 [])] [V.f h0, V.f h1]
theorem e36_13 (N : Nat) (k : Kn R) (x1 x2 h0 : D) : runC PHI Tb76 N vc36_13 (s36_3 x1 x2 h0) k = m36_13 N x1 x2 h0 (fun x1 x2 h0 h1 => k .normal (s36_4 x1 x2 h0 h1)) := by
  refine Eq.trans (runC_post _ _ _ k) (Eq.trans (ops_run _ _ _ _) (by kernel_rfl))
def m36_16 (N : Nat) (x1 x2 h0 h1 : D) (K : D → D → D → D → D → D → Option R) : Option R :=
  K x2 x1 (D.i (x1.toL.length : Int)) (D.i 0) h0 h1
def s36_5 (x2 x18 x19 x20 h0 h1 : D) : St := sts 76 [(2, V.f x2), (4, V.a), (5, V.m 0 []), (6, V.m 1 []), (18, V.f x18), (19, V.f x19), (20, V.f x20)] [V.f h0, V.f h1]
theorem e36_16 (N : Nat) (k : Kn R) (x1 x2 h0 h1 : D) : runC PHI Tb76 N vc36_16 (s36_4 x1 x2 h0 h1) k = m36_16 N x1 x2 h0 h1 (fun x2 x18 x19 x20 h0 h1 => k .normal (s36_5 x2 x18 x19 x20 h0 h1)) := by
  refine Eq.trans (runC_post _ _ _ k) (Eq.trans (ops_run _ _ _ _) (by kernel_rfl))
def m36_20 (N : Nat) (x2 x18 x19 x20 h0 h1 : D) (K : D → D → D → D → D → D → D → Option R) : Option R :=
  K x2 x18 x19 x20 (D.b (ltb x20.toI x19.toI)) h0 h1
def s36_6 (x2 x18 x19 x20 x21 h0 h1 : D) : St := sts 76 [(2, V.f x2), (4, V.a), (5, V.m 0 []), (6, V.m 1 []), (18, V.f x18), (19, V.f x19), (20, V.f x20), (21, V.f x21)] [V.f h0, V.f h1]
theorem e36_20 (N : Nat) (k : Kn R) (x2 x18 x19 x20 h0 h1 : D) : runC PHI Tb76 N vc36_20 (s36_5 x2 x18 x19 x20 h0 h1) k = m36_20 N x2 x18 x19 x20 h0 h1 (fun x2 x18 x19 x20 x21 h0 h1 => k .normal (s36_6 x2 x18 x19 x20 x21 h0 h1)) := by
  refine Eq.trans (runC_post _ _ _ k) (Eq.trans (ops_run _ _ _ _) (by kernel_rfl))
def m36_22 (N : Nat) (x2 x18 x19 x20 x21 h0 h1 : D) (K : D → D → D → D → D → D → Option R) (K0 : D → D → D → Option R) : Option R :=
  (bif x21.toB then K x2 x18 x19 x20 h0 h1 else K0 x2 h0 h1)
def s36_7 (x2 h0 h1 : D) : St := sts 76 [(2, V.f x2), (4, V.a), (5, V.m 0 []), (6, V.m 1 [])] [V.f h0, V.f h1]
theorem e36_22 (N : Nat) (k : Kn R) (x2 x18 x19 x20 x21 h0 h1 : D) : runC PHI Tb76 N vc36_22 (s36_6 x2 x18 x19 x20 x21 h0 h1) k = m36_22 N x2 x18 x19 x20 x21 h0 h1 (fun x2 x18 x19 x20 h0 h1 => k .normal (s36_5 x2 x18 x19 x20 h0 h1)) (fun x2 h0 h1 => k (.exit 0) (s36_7 x2 h0 h1)) := by kernel_rfl
def m36_28 (N : Nat) (x2 x18 x19 x20 h0 h1 : D) (K : D → D → D → D → D → D → D → Option R) : Option R :=
  (bif (inb x20.toI x18.toL.length) then K x2 (x18.at (x20.toI : Int).toNat) x18 x19 x20 h0 h1 else none)
def s36_8 (x2 x8 x18 x19 x20 h0 h1 : D) : St := sts 76 [(2, V.f x2), (4, V.a), (5, V.m 0 []), (6, V.m 1 []), (8, V.f x8), (18, V.f x18), (19, V.f x19), (20, V.f x20)] [V.f h0, V.f h1]
theorem e36_28 (N : Nat) (k : Kn R) (x2 x18 x19 x20 h0 h1 : D) : runC PHI Tb76 N vc36_28 (s36_5 x2 x18 x19 x20 h0 h1) k = m36_28 N x2 x18 x19 x20 h0 h1 (fun x2 x8 x18 x19 x20 h0 h1 => k .normal (s36_8 x2 x8 x18 x19 x20 h0 h1)) := by
  refine Eq.trans (runC_post _ _ _ k) (Eq.trans (ops_run _ _ _ _) (by kernel_rfl))
def m36_30 (N : Nat) (x2 x8 x18 x19 x20 h0 h1 : D) (K : D → D → D → D → D → D → D → Option R) (K0 : D → D → D → Option R) : Option R :=
  (bif (isPtrD x2) then (bif (eqb ((x2.deref.at 6).toL.length : Int) 0) then K0 x2 h0 h1 else K x2 x8 x18 x19 x20 h0 h1) else none)
theorem e36_30 (N : Nat) (k : Kn R) (x2 x8 x18 x19 x20 h0 h1 : D) : runC PHI Tb76 N vc36_30 (s36_8 x2 x8 x18 x19 x20 h0 h1) k = m36_30 N x2 x8 x18 x19 x20 h0 h1 (fun x2 x8 x18 x19 x20 h0 h1 => k .normal (s36_8 x2 x8 x18 x19 x20 h0 h1)) (fun x2 h0 h1 => k (.exit 0) (s36_7 x2 h0 h1)) := by kernel_rfl
def m36_36 (N : Nat) (x2 x8 x18 x19 x20 h0 h1 : D) (K : D → D → D → D → D → D → D → Option R) : Option R :=
  (bif (isPtrD x2) then (bif (inb 0 (x2.deref.at 6).toL.length) then (bif (pr23 ((x2.deref.at 6).at (0 : Int).toNat) x8) then K x2 (D.p (sp23 ((x2.deref.at 6).at (0 : Int).toNat) x8)) x18 x19 x20 h0 h1 else none) else none) else none)
def s36_9 (x2 x9 x18 x19 x20 h0 h1 : D) : St := sts 76 [(2, V.f x2), (4, V.a), (5, V.m 0 []), (6, V.m 1 []), (9, V.f x9), (18, V.f x18), (19, V.f x19), (20, V.f x20)] [V.f h0, V.f h1]
theorem e36_36 (N : Nat) (k : Kn R) (x2 x8 x18 x19 x20 h0 h1 : D) : runC PHI Tb76 N vc36_36 (s36_8 x2 x8 x18 x19 x20 h0 h1) k = m36_36 N x2 x8 x18 x19 x20 h0 h1 (fun x2 x9 x18 x19 x20 h0 h1 => k .normal (s36_9 x2 x9 x18 x19 x20 h0 h1)) := by
  refine Eq.trans (runC_post _ _ _ k) (Eq.trans (ops_run _ _ _ _) (by kernel_rfl))
def m36_38 (N : Nat) (x2 x9 x18 x19 x20 h0 h1 : D) (K : D → D → D → D → D → D → D → Option R) : Option R :=
  (bif (isPtrD x9) then (bif (eqb (x9.deref.at 0).toI 1) then (bif (isPtrD x9) then K x2 x9 x18 x19 x20 (sp75_h0 (x9.deref.at 1) h0) h1 else none) else K x2 x9 x18 x19 x20 h0 h1) else none)
theorem e36_38 (N : Nat) (k : Kn R) (x2 x9 x18 x19 x20 h0 h1 : D) : runC PHI Tb76 N vc36_38 (s36_9 x2 x9 x18 x19 x20 h0 h1) k = m36_38 N x2 x9 x18 x19 x20 h0 h1 (fun x2 x9 x18 x19 x20 h0 h1 => k .normal (s36_9 x2 x9 x18 x19 x20 h0 h1)) := by kernel_rfl
def m36_44 (N : Nat) (x2 x9 x18 x19 x20 h0 h1 : D) (K : D → D → D → D → D → D → D → D → Option R) : Option R :=
  (bif (isPtrD x9) then K x2 x9 (D.i (sp27 x9.deref h1)) x18 x19 x20 h0 h1 else none)
def s36_10 (x2 x9 x10 x18 x19 x20 h0 h1 : D) : St := sts 76 [(2, V.f x2), (4, V.a), (5, V.m 0 []), (6, V.m 1 []), (9, V.f x9), (10, V.f x10), (18, V.f x18), (19, V.f x19), (20, V.f x20)] [V.f h0, V.f h1]
theorem e36_44 (N : Nat) (k : Kn R) (x2 x9 x18 x19 x20 h0 h1 : D) : runC PHI Tb76 N vc36_44 (s36_9 x2 x9 x18 x19 x20 h0 h1) k = m36_44 N x2 x9 x18 x19 x20 h0 h1 (fun x2 x9 x10 x18 x19 x20 h0 h1 => k .normal (s36_10 x2 x9 x10 x18 x19 x20 h0 h1)) := by
  refine Eq.trans (runC_post _ _ _ k) (Eq.trans (ops_run _ _ _ _) (by kernel_rfl))
def m36_46 (N : Nat) (x2 x9 x10 x18 x19 x20 h0 h1 : D) (K : D → D → D → D → D → D → D → D → Option R) : Option R :=
  (bif (isPtrD x9) then (bif (!eqb (x9.deref.at 0).toI 0) then (bif (eqb (h1.at 0).toI 0) then K x2 x9 x18 x19 x20 (D.b true) h0 h1 else (bif (isPtrD x2) then (bif (eqb (x2.deref.at 0).toI 12) then (bif (ltb x10.toI 0) then K x2 x9 x18 x19 x20 (D.b true) h0 h1 else (bif (isPtrD x2) then (bif (eqb (x2.deref.at 0).toI 13) then K x2 x9 x18 x19 x20 (D.b (ltb 0 x10.toI)) h0 h1 else K x2 x9 x18 x19 x20 (D.b false) h0 h1) else none)) else (bif (isPtrD x2) then (bif (eqb (x2.deref.at 0).toI 13) then K x2 x9 x18 x19 x20 (D.b (ltb 0 x10.toI)) h0 h1 else K x2 x9 x18 x19 x20 (D.b false) h0 h1) else none)) else none)) else K x2 x9 x18 x19 x20 (D.b false) h0 h1) else none)
def s36_11 (x2 x9 x18 x19 x20 x68 h0 h1 : D) : St := sts 76 [(2, V.f x2), (4, V.a), (5, V.m 0 []), (6, V.m 1 []), (9, V.f x9), (18, V.f x18), (19, V.f x19), (20, V.f x20), (68, V.f x68)] [V.f h0, V.f h1]
theorem e36_46 (N : Nat) (k : Kn R) (x2 x9 x10 x18 x19 x20 h0 h1 : D) : runC PHI Tb76 N vc36_46 (s36_10 x2 x9 x10 x18 x19 x20 h0 h1) k = m36_46 N x2 x9 x10 x18 x19 x20 h0 h1 (fun x2 x9 x18 x19 x20 x68 h0 h1 => k .normal (s36_11 x2 x9 x18 x19 x20 x68 h0 h1)) := by
  refine Eq.trans (runC_post _ _ _ k) (Eq.trans (ops_run _ _ _ _) (by kernel_rfl))
def m36_47 (N : Nat) (x2 x9 x18 x19 x20 x68 h0 h1 : D) (K : D → D → D → D → D → D → Option R) : Option R :=
  (bif x68.toB then (bif (isPtrD x9) then K x2 x18 x19 x20 h0 x9.deref else none) else K x2 x18 x19 x20 h0 h1)
theorem e36_47 (N : Nat) (k : Kn R) (x2 x9 x18 x19 x20 x68 h0 h1 : D) : runC PHI Tb76 N vc36_47 (s36_11 x2 x9 x18 x19 x20 x68 h0 h1) k = m36_47 N x2 x9 x18 x19 x20 x68 h0 h1 (fun x2 x18 x19 x20 h0 h1 => k .normal (s36_5 x2 x18 x19 x20 h0 h1)) := by kernel_rfl
def m36_45 (N : Nat) (x2 x9 x10 x18 x19 x20 h0 h1 : D) (K : D → D → D → D → D → D → Option R) : Option R :=
  (m36_46 N x2 x9 x10 x18 x19 x20 h0 h1 (fun y2 y9 y18 y19 y20 y68 h0 h1 => (m36_47 N y2 y9 y18 y19 y20 y68 h0 h1 (fun y2 y18 y19 y20 h0 h1 => K y2 y18 y19 y20 h0 h1))))
theorem e36_45 (N : Nat) (k : Kn R) (x2 x9 x10 x18 x19 x20 h0 h1 : D) : runC PHI Tb76 N vc36_45 (s36_10 x2 x9 x10 x18 x19 x20 h0 h1) k = m36_45 N x2 x9 x10 x18 x19 x20 h0 h1 (fun x2 x18 x19 x20 h0 h1 => k .normal (s36_5 x2 x18 x19 x20 h0 h1)) := by
  have h2 := e36_46 N (kseq PHI Tb76 N vc36_47 k) x2 x9 x10 x18 x19 x20 h0 h1
  have h3 := (funext fun y2 => funext fun y9 => funext fun y18 => funext fun y19 => funext fun y20 => funext fun y68 => funext fun h0 => funext fun h1 => (e36_47 N k y2 y9 y18 y19 y20 y68 h0 h1) : (fun (y2 y9 y18 y19 y20 y68 h0 h1 : D) => (kseq PHI Tb76 N vc36_47 k) .normal (s36_11 y2 y9 y18 y19 y20 y68 h0 h1)) = _)
  refine Eq.trans (runC_seq _ _ _ k) (Eq.trans h2 (Eq.trans (congrArg (fun K => m36_46 N x2 x9 x10 x18 x19 x20 h0 h1 K) h3) (by kernel_rfl)))
def m36_43 (N : Nat) (x2 x9 x18 x19 x20 h0 h1 : D) (K : D → D → D → D → D → D → Option R) : Option R :=
  (m36_44 N x2 x9 x18 x19 x20 h0 h1 (fun y2 y9 y10 y18 y19 y20 h0 h1 => (m36_45 N y2 y9 y10 y18 y19 y20 h0 h1 (fun y2 y18 y19 y20 h0 h1 => K y2 y18 y19 y20 h0 h1))))
theorem e36_43 (N : Nat) (k : Kn R) (x2 x9 x18 x19 x20 h0 h1 : D) : runC PHI Tb76 N vc36_43 (s36_9 x2 x9 x18 x19 x20 h0 h1) k = m36_43 N x2 x9 x18 x19 x20 h0 h1 (fun x2 x18 x19 x20 h0 h1 => k .normal (s36_5 x2 x18 x19 x20 h0 h1)) := by
  have h2 := e36_44 N (kseq PHI Tb76 N vc36_45 k) x2 x9 x18 x19 x20 h0 h1
  have h3 := (funext fun y2 => funext fun y9 => funext fun y10 => funext fun y18 => funext fun y19 => funext fun y20 => funext fun h0 => funext fun h1 => (e36_45 N k y2 y9 y10 y18 y19 y20 h0 h1) : (fun (y2 y9 y10 y18 y19 y20 h0 h1 : D) => (kseq PHI Tb76 N vc36_45 k) .normal (s36_10 y2 y9 y10 y18 y19 y20 h0 h1)) = _)
  refine Eq.trans (runC_seq _ _ _ k) (Eq.trans h2 (Eq.trans (congrArg (fun K => m36_44 N x2 x9 x18 x19 x20 h0 h1 K) h3) (by kernel_rfl)))
def m36_37 (N : Nat) (x2 x9 x18 x19 x20 h0 h1 : D) (K : D → D → D → D → D → D → Option R) : Option R :=
  (m36_38 N x2 x9 x18 x19 x20 h0 h1 (fun y2 y9 y18 y19 y20 h0 h1 => (m36_43 N y2 y9 y18 y19 y20 h0 h1 (fun y2 y18 y19 y20 h0 h1 => K y2 y18 y19 y20 h0 h1))))
theorem e36_37 (N : Nat) (k : Kn R) (x2 x9 x18 x19 x20 h0 h1 : D) : runC PHI Tb76 N vc36_37 (s36_9 x2 x9 x18 x19 x20 h0 h1) k = m36_37 N x2 x9 x18 x19 x20 h0 h1 (fun x2 x18 x19 x20 h0 h1 => k .normal (s36_5 x2 x18 x19 x20 h0 h1)) := by
  have h2 := e36_38 N (kseq PHI Tb76 N vc36_43 k) x2 x9 x18 x19 x20 h0 h1
  have h3 := (funext fun y2 => funext fun y9 => funext fun y18 => funext fun y19 => funext fun y20 => funext fun h0 => funext fun h1 => (e36_43 N k y2 y9 y18 y19 y20 h0 h1) : (fun (y2 y9 y18 y19 y20 h0 h1 : D) => (kseq PHI Tb76 N vc36_43 k) .normal (s36_9 y2 y9 y18 y19 y20 h0 h1)) = _)
  refine Eq.trans (runC_seq _ _ _ k) (Eq.trans h2 (Eq.trans (congrArg (fun K => m36_38 N x2 x9 x18 x19 x20 h0 h1 K) h3) (by kernel_rfl)))
def m36_35 (N : Nat) (x2 x8 x18 x19 x20 h0 h1 : D) (K : D → D → D → D → D → D → Option R) : Option R :=
  (m36_36 N x2 x8 x18 x19 x20 h0 h1 (fun y2 y9 y18 y19 y20 h0 h1 => (m36_37 N y2 y9 y18 y19 y20 h0 h1 (fun y2 y18 y19 y20 h0 h1 => K y2 y18 y19 y20 h0 h1))))
theorem e36_35 (N : Nat) (k : Kn R) (x2 x8 x18 x19 x20 h0 h1 : D) : runC PHI Tb76 N vc36_35 (s36_8 x2 x8 x18 x19 x20 h0 h1) k = m36_35 N x2 x8 x18 x19 x20 h0 h1 (fun x2 x18 x19 x20 h0 h1 => k .normal (s36_5 x2 x18 x19 x20 h0 h1)) := by
  have h2 := e36_36 N (kseq PHI Tb76 N vc36_37 k) x2 x8 x18 x19 x20 h0 h1
  have h3 := (funext fun y2 => funext fun y9 => funext fun y18 => funext fun y19 => funext fun y20 => funext fun h0 => funext fun h1 => (e36_37 N k y2 y9 y18 y19 y20 h0 h1) : (fun (y2 y9 y18 y19 y20 h0 h1 : D) => (kseq PHI Tb76 N vc36_37 k) .normal (s36_9 y2 y9 y18 y19 y20 h0 h1)) = _)
  refine Eq.trans (runC_seq _ _ _ k) (Eq.trans h2 (Eq.trans (congrArg (fun K => m36_36 N x2 x8 x18 x19 x20 h0 h1 K) h3) (by kernel_rfl)))
def m36_29 (N : Nat) (x2 x8 x18 x19 x20 h0 h1 : D) (K : D → D → D → D → D → D → Option R) (K0 : D → D → D → Option R) : Option R :=
  (m36_30 N x2 x8 x18 x19 x20 h0 h1 (fun y2 y8 y18 y19 y20 h0 h1 => (m36_35 N y2 y8 y18 y19 y20 h0 h1 (fun y2 y18 y19 y20 h0 h1 => K y2 y18 y19 y20 h0 h1))) K0)
theorem e36_29 (N : Nat) (k : Kn R) (x2 x8 x18 x19 x20 h0 h1 : D) : runC PHI Tb76 N vc36_29 (s36_8 x2 x8 x18 x19 x20 h0 h1) k = m36_29 N x2 x8 x18 x19 x20 h0 h1 (fun x2 x18 x19 x20 h0 h1 => k .normal (s36_5 x2 x18 x19 x20 h0 h1)) (fun x2 h0 h1 => k (.exit 0) (s36_7 x2 h0 h1)) := by
  have h2 := e36_30 N (kseq PHI Tb76 N vc36_35 k) x2 x8 x18 x19 x20 h0 h1
  have h3 := (funext fun y2 => funext fun y8 => funext fun y18 => funext fun y19 => funext fun y20 => funext fun h0 => funext fun h1 => (e36_35 N k y2 y8 y18 y19 y20 h0 h1) : (fun (y2 y8 y18 y19 y20 h0 h1 : D) => (kseq PHI Tb76 N vc36_35 k) .normal (s36_8 y2 y8 y18 y19 y20 h0 h1)) = _)
  refine Eq.trans (runC_seq _ _ _ k) (Eq.trans h2 (Eq.trans (congrArg (fun K => m36_30 N x2 x8 x18 x19 x20 h0 h1 K (fun x2 h0 h1 => (kseq PHI Tb76 N vc36_35 k) (.exit 0) (s36_7 x2 h0 h1))) h3) (by kernel_rfl)))
def m36_27 (N : Nat) (x2 x18 x19 x20 h0 h1 : D) (K : D → D → D → D → D → D → Option R) (K0 : D → D → D → Option R) : Option R :=
  (m36_28 N x2 x18 x19 x20 h0 h1 (fun y2 y8 y18 y19 y20 h0 h1 => (m36_29 N y2 y8 y18 y19 y20 h0 h1 (fun y2 y18 y19 y20 h0 h1 => K y2 y18 y19 y20 h0 h1) K0)))
theorem e36_27 (N : Nat) (k : Kn R) (x2 x18 x19 x20 h0 h1 : D) : runC PHI Tb76 N vc36_27 (s36_5 x2 x18 x19 x20 h0 h1) k = m36_27 N x2 x18 x19 x20 h0 h1 (fun x2 x18 x19 x20 h0 h1 => k .normal (s36_5 x2 x18 x19 x20 h0 h1)) (fun x2 h0 h1 => k (.exit 0) (s36_7 x2 h0 h1)) := by
  have h2 := e36_28 N (kseq PHI Tb76 N vc36_29 k) x2 x18 x19 x20 h0 h1
  have h3 := (funext fun y2 => funext fun y8 => funext fun y18 => funext fun y19 => funext fun y20 => funext fun h0 => funext fun h1 => (e36_29 N k y2 y8 y18 y19 y20 h0 h1) : (fun (y2 y8 y18 y19 y20 h0 h1 : D) => (kseq PHI Tb76 N vc36_29 k) .normal (s36_8 y2 y8 y18 y19 y20 h0 h1)) = _)
  refine Eq.trans (runC_seq _ _ _ k) (Eq.trans h2 (Eq.trans (congrArg (fun K => m36_28 N x2 x18 x19 x20 h0 h1 K) h3) (by kernel_rfl)))
def m36_26 (N : Nat) (x2 x18 x19 x20 h0 h1 : D) (K : D → D → D → D → D → D → Option R) (K0 : D → D → D → Option R) : Option R :=
  (m36_27 N x2 x18 x19 x20 h0 h1 (fun y2 y18 y19 y20 h0 h1 => K y2 y18 y19 y20 h0 h1) K0)
theorem e36_26 (N : Nat) (k : Kn R) (x2 x18 x19 x20 h0 h1 : D) : runC PHI Tb76 N vc36_26 (s36_5 x2 x18 x19 x20 h0 h1) k = m36_26 N x2 x18 x19 x20 h0 h1 (fun x2 x18 x19 x20 h0 h1 => k .normal (s36_5 x2 x18 x19 x20 h0 h1)) (fun x2 h0 h1 => k (.exit 0) (s36_7 x2 h0 h1)) := by
  refine Eq.trans (runC_block _ _ _ k) (Eq.trans (e36_27 N (kblk 1 k) x2 x18 x19 x20 h0 h1) (by kernel_rfl))
def m36_50 (N : Nat) (x2 x18 x19 x20 h0 h1 : D) (K : D → D → D → D → D → D → Option R) : Option R :=
  K x2 x18 x19 (D.i (IntKind.i64.wrap (x20.toI + 1))) h0 h1
theorem e36_50 (N : Nat) (k : Kn R) (x2 x18 x19 x20 h0 h1 : D) : runC PHI Tb76 N vc36_50 (s36_5 x2 x18 x19 x20 h0 h1) k = m36_50 N x2 x18 x19 x20 h0 h1 (fun x2 x18 x19 x20 h0 h1 => k .normal (s36_5 x2 x18 x19 x20 h0 h1)) := by
  refine Eq.trans (runC_post _ _ _ k) (Eq.trans (ops_run _ _ _ _) (by kernel_rfl))
def m36_25 (N : Nat) (x2 x18 x19 x20 h0 h1 : D) (K : D → D → D → D → D → D → Option R) (K0 : D → D → D → Option R) : Option R :=
  (m36_26 N x2 x18 x19 x20 h0 h1 (fun y2 y18 y19 y20 h0 h1 => (m36_50 N y2 y18 y19 y20 h0 h1 (fun y2 y18 y19 y20 h0 h1 => K y2 y18 y19 y20 h0 h1))) K0)
theorem e36_25 (N : Nat) (k : Kn R) (x2 x18 x19 x20 h0 h1 : D) : runC PHI Tb76 N vc36_25 (s36_5 x2 x18 x19 x20 h0 h1) k = m36_25 N x2 x18 x19 x20 h0 h1 (fun x2 x18 x19 x20 h0 h1 => k .normal (s36_5 x2 x18 x19 x20 h0 h1)) (fun x2 h0 h1 => k (.exit 0) (s36_7 x2 h0 h1)) := by
  have h2 := e36_26 N (kseq PHI Tb76 N vc36_50 k) x2 x18 x19 x20 h0 h1
  have h3 := (funext fun y2 => funext fun y18 => funext fun y19 => funext fun y20 => funext fun h0 => funext fun h1 => (e36_50 N k y2 y18 y19 y20 h0 h1) : (fun (y2 y18 y19 y20 h0 h1 : D) => (kseq PHI Tb76 N vc36_50 k) .normal (s36_5 y2 y18 y19 y20 h0 h1)) = _)
  refine Eq.trans (runC_seq _ _ _ k) (Eq.trans h2 (Eq.trans (congrArg (fun K => m36_26 N x2 x18 x19 x20 h0 h1 K (fun x2 h0 h1 => (kseq PHI Tb76 N vc36_50 k) (.exit 0) (s36_7 x2 h0 h1))) h3) (by kernel_rfl)))
def m36_21 (N : Nat) (x2 x18 x19 x20 x21 h0 h1 : D) (K : D → D → D → D → D → D → Option R) (K0 : D → D → D → Option R) : Option R :=
  (m36_22 N x2 x18 x19 x20 x21 h0 h1 (fun y2 y18 y19 y20 h0 h1 => (m36_25 N y2 y18 y19 y20 h0 h1 (fun y2 y18 y19 y20 h0 h1 => K y2 y18 y19 y20 h0 h1) K0)) K0)
theorem e36_21 (N : Nat) (k : Kn R) (x2 x18 x19 x20 x21 h0 h1 : D) : runC PHI Tb76 N vc36_21 (s36_6 x2 x18 x19 x20 x21 h0 h1) k = m36_21 N x2 x18 x19 x20 x21 h0 h1 (fun x2 x18 x19 x20 h0 h1 => k .normal (s36_5 x2 x18 x19 x20 h0 h1)) (fun x2 h0 h1 => k (.exit 0) (s36_7 x2 h0 h1)) := by
  have h2 := e36_22 N (kseq PHI Tb76 N vc36_25 k) x2 x18 x19 x20 x21 h0 h1
  have h3 := (funext fun y2 => funext fun y18 => funext fun y19 => funext fun y20 => funext fun h0 => funext fun h1 => (e36_25 N k y2 y18 y19 y20 h0 h1) : (fun (y2 y18 y19 y20 h0 h1 : D) => (kseq PHI Tb76 N vc36_25 k) .normal (s36_5 y2 y18 y19 y20 h0 h1)) = _)
  refine Eq.trans (runC_seq _ _ _ k) (Eq.trans h2 (Eq.trans (congrArg (fun K => m36_22 N x2 x18 x19 x20 x21 h0 h1 K (fun x2 h0 h1 => (kseq PHI Tb76 N vc36_25 k) (.exit 0) (s36_7 x2 h0 h1))) h3) (by kernel_rfl)))
def m36_19 (N : Nat) (x2 x18 x19 x20 h0 h1 : D) (K : D → D → D → D → D → D → Option R) (K0 : D → D → D → Option R) : Option R :=
  (m36_20 N x2 x18 x19 x20 h0 h1 (fun y2 y18 y19 y20 y21 h0 h1 => (m36_21 N y2 y18 y19 y20 y21 h0 h1 (fun y2 y18 y19 y20 h0 h1 => K y2 y18 y19 y20 h0 h1) K0)))
theorem e36_19 (N : Nat) (k : Kn R) (x2 x18 x19 x20 h0 h1 : D) : runC PHI Tb76 N vc36_19 (s36_5 x2 x18 x19 x20 h0 h1) k = m36_19 N x2 x18 x19 x20 h0 h1 (fun x2 x18 x19 x20 h0 h1 => k .normal (s36_5 x2 x18 x19 x20 h0 h1)) (fun x2 h0 h1 => k (.exit 0) (s36_7 x2 h0 h1)) := by
  have h2 := e36_20 N (kseq PHI Tb76 N vc36_21 k) x2 x18 x19 x20 h0 h1
  have h3 := (funext fun y2 => funext fun y18 => funext fun y19 => funext fun y20 => funext fun y21 => funext fun h0 => funext fun h1 => (e36_21 N k y2 y18 y19 y20 y21 h0 h1) : (fun (y2 y18 y19 y20 y21 h0 h1 : D) => (kseq PHI Tb76 N vc36_21 k) .normal (s36_6 y2 y18 y19 y20 y21 h0 h1)) = _)
  refine Eq.trans (runC_seq _ _ _ k) (Eq.trans h2 (Eq.trans (congrArg (fun K => m36_20 N x2 x18 x19 x20 h0 h1 K) h3) (by kernel_rfl)))
def l36_18 (N : Nat) (j : Nat) (x2 x18 x19 x20 h0 h1 : D) (K0 : D → D → D → Option R) : Option R :=
  match j with
  | 0 => none
  | j + 1 => (m36_19 N x2 x18 x19 x20 h0 h1 (fun y2 y18 y19 y20 h0 h1 => l36_18 N j y2 y18 y19 y20 h0 h1 K0) K0)
def m36_18 (N : Nat) (x2 x18 x19 x20 h0 h1 : D) (K0 : D → D → D → Option R) : Option R :=
  l36_18 N N x2 x18 x19 x20 h0 h1 K0
theorem el36_18 (N : Nat) (k : Kn R) : ∀ (j : Nat) (x2 x18 x19 x20 h0 h1 : D), loopGo (runC PHI Tb76 N vc36_19) j (s36_5 x2 x18 x19 x20 h0 h1) k = l36_18 N j x2 x18 x19 x20 h0 h1 (fun x2 h0 h1 => k (.exit 0) (s36_7 x2 h0 h1))
  | 0, _, _, _, _, _, _ => by kernel_rfl
  | j + 1, x2, x18, x19, x20, h0, h1 => by
    have h2 := e36_19 N (kloop PHI Tb76 N vc36_19 j k) x2 x18 x19 x20 h0 h1
    have h3 : (fun (y2 y18 y19 y20 h0 h1 : D) => (kloop PHI Tb76 N vc36_19 j k) .normal (s36_5 y2 y18 y19 y20 h0 h1)) = (fun (y2 y18 y19 y20 h0 h1 : D) => l36_18 N j y2 y18 y19 y20 h0 h1 (fun x2 h0 h1 => k (.exit 0) (s36_7 x2 h0 h1))) := funext fun y2 => funext fun y18 => funext fun y19 => funext fun y20 => funext fun h0 => funext fun h1 => (el36_18 N k j y2 y18 y19 y20 h0 h1)
    refine Eq.trans (loop_succ _ j _ k) (Eq.trans h2 (Eq.trans (congrArg (fun K => m36_19 N x2 x18 x19 x20 h0 h1 K (fun x2 h0 h1 => (kloop PHI Tb76 N vc36_19 j k) (.exit 0) (s36_7 x2 h0 h1))) h3) (by kernel_rfl)))
theorem e36_18 (N : Nat) (k : Kn R) (x2 x18 x19 x20 h0 h1 : D) : runC PHI Tb76 N vc36_18 (s36_5 x2 x18 x19 x20 h0 h1) k = m36_18 N x2 x18 x19 x20 h0 h1 (fun x2 h0 h1 => k (.exit 0) (s36_7 x2 h0 h1)) := by
  refine Eq.trans (runC_loop _ _ k) (Eq.trans (el36_18 N k N x2 x18 x19 x20 h0 h1) (by kernel_rfl))
def m36_17 (N : Nat) (x2 x18 x19 x20 h0 h1 : D) (K : D → D → D → Option R) : Option R :=
  (m36_18 N x2 x18 x19 x20 h0 h1 (fun y2 h0 h1 => K y2 h0 h1))
theorem e36_17 (N : Nat) (k : Kn R) (x2 x18 x19 x20 h0 h1 : D) : runC PHI Tb76 N vc36_17 (s36_5 x2 x18 x19 x20 h0 h1) k = m36_17 N x2 x18 x19 x20 h0 h1 (fun x2 h0 h1 => k .normal (s36_7 x2 h0 h1)) := by
  refine Eq.trans (runC_block _ _ _ k) (Eq.trans (e36_18 N (kblk 0 k) x2 x18 x19 x20 h0 h1) (by kernel_rfl))
def m36_15 (N : Nat) (x1 x2 h0 h1 : D) (K : D → D → D → Option R) : Option R :=
  (m36_16 N x1 x2 h0 h1 (fun y2 y18 y19 y20 h0 h1 => (m36_17 N y2 y18 y19 y20 h0 h1 (fun y2 h0 h1 => K y2 h0 h1))))
theorem e36_15 (N : Nat) (k : Kn R) (x1 x2 h0 h1 : D) : runC PHI Tb76 N vc36_15 (s36_4 x1 x2 h0 h1) k = m36_15 N x1 x2 h0 h1 (fun x2 h0 h1 => k .normal (s36_7 x2 h0 h1)) := by
  have h2 := e36_16 N (kseq PHI Tb76 N vc36_17 k) x1 x2 h0 h1
  have h3 := (funext fun y2 => funext fun y18 => funext fun y19 => funext fun y20 => funext fun h0 => funext fun h1 => (e36_17 N k y2 y18 y19 y20 h0 h1) : (fun (y2 y18 y19 y20 h0 h1 : D) => (kseq PHI Tb76 N vc36_17 k) .normal (s36_5 y2 y18 y19 y20 h0 h1)) = _)
  refine Eq.trans (runC_seq _ _ _ k) (Eq.trans h2 (Eq.trans (congrArg (fun K => m36_16 N x1 x2 h0 h1 K) h3) (by kernel_rfl)))
def m36_51 (N : Nat) (x2 h0 h1 : D) (Kr : D → Option R) : Option R :=
  (bif (isPtrD x2) then (bif (eqb (x2.deref.at 0).toI 11) then Kr (D.p (sp76 h0)) else Kr (D.p h1)) else none)
theorem e36_51 (N : Nat) (k : Kn R) (x2 h0 h1 : D) : runC PHI Tb76 N vc36_51 (s36_7 x2 h0 h1) k = m36_51 N x2 h0 h1 (fun x4 => k .ret (s36_2 x4)) := by kernel_rfl
def m36_14 (N : Nat) (x1 x2 h0 h1 : D) (Kr : D → Option R) : Option R :=
  (m36_15 N x1 x2 h0 h1 (fun y2 h0 h1 => (m36_51 N y2 h0 h1 Kr)))
theorem e36_14 (N : Nat) (k : Kn R) (x1 x2 h0 h1 : D) : runC PHI Tb76 N vc36_14 (s36_4 x1 x2 h0 h1) k = m36_14 N x1 x2 h0 h1 (fun x4 => k .ret (s36_2 x4)) := by
  have h2 := e36_15 N (kseq PHI Tb76 N vc36_51 k) x1 x2 h0 h1
  have h3 := (funext fun y2 => funext fun h0 => funext fun h1 => (e36_51 N k y2 h0 h1) : (fun (y2 h0 h1 : D) => (kseq PHI Tb76 N vc36_51 k) .normal (s36_7 y2 h0 h1)) = _)
  refine Eq.trans (runC_seq _ _ _ k) (Eq.trans h2 (Eq.trans (congrArg (fun K => m36_15 N x1 x2 h0 h1 K) h3) (by kernel_rfl)))
def m36_12 (N : Nat) (x1 x2 h0 : D) (Kr : D → Option R) : Option R :=
  (m36_13 N x1 x2 h0 (fun y1 y2 h0 h1 => (m36_14 N y1 y2 h0 h1 Kr)))
theorem e36_12 (N : Nat) (k : Kn R) (x1 x2 h0 : D) : runC PHI Tb76 N vc36_12 (s36_3 x1 x2 h0) k = m36_12 N x1 x2 h0 (fun x4 => k .ret (s36_2 x4)) := by
  have h2 := e36_13 N (kseq PHI Tb76 N vc36_14 k) x1 x2 h0
  have h3 := (funext fun y1 => funext fun y2 => funext fun h0 => funext fun h1 => (e36_14 N k y1 y2 h0 h1) : (fun (y1 y2 h0 h1 : D) => (kseq PHI Tb76 N vc36_14 k) .normal (s36_4 y1 y2 h0 h1)) = _)
  refine Eq.trans (runC_seq _ _ _ k) (Eq.trans h2 (Eq.trans (congrArg (fun K => m36_13 N x1 x2 h0 K) h3) (by kernel_rfl)))
def m36_10 (N : Nat) (x1 x2 : D) (Kr : D → Option R) : Option R :=
  (m36_11 N x1 x2 (fun y1 y2 h0 => (m36_12 N y1 y2 h0 Kr)))
theorem e36_10 (N : Nat) (k : Kn R) (x1 x2 : D) : runC PHI Tb76 N vc36_10 (s36_1 x1 x2) k = m36_10 N x1 x2 (fun x4 => k .ret (s36_2 x4)) := by
  have h2 := e36_11 N (kseq PHI Tb76 N vc36_12 k) x1 x2
  have h3 := (funext fun y1 => funext fun y2 => funext fun h0 => (e36_12 N k y1 y2 h0) : (fun (y1 y2 h0 : D) => (kseq PHI Tb76 N vc36_12 k) .normal (s36_3 y1 y2 h0)) = _)
  refine Eq.trans (runC_seq _ _ _ k) (Eq.trans h2 (Eq.trans (congrArg (fun K => m36_11 N x1 x2 K) h3) (by kernel_rfl)))
def m36_2 (N : Nat) (x1 x2 : D) (Kr : D → Option R) : Option R :=
  (m36_3 N x1 x2 (fun y1 y2 => (m36_10 N y1 y2 Kr)) Kr)
theorem e36_2 (N : Nat) (k : Kn R) (x1 x2 : D) : runC PHI Tb76 N vc36_2 (s36_1 x1 x2) k = m36_2 N x1 x2 (fun x4 => k .ret (s36_2 x4)) := by
  have h2 := e36_3 N (kseq PHI Tb76 N vc36_10 k) x1 x2
  have h3 := (funext fun y1 => funext fun y2 => (e36_10 N k y1 y2) : (fun (y1 y2 : D) => (kseq PHI Tb76 N vc36_10 k) .normal (s36_1 y1 y2)) = _)
  refine Eq.trans (runC_seq _ _ _ k) (Eq.trans h2 (Eq.trans (congrArg (fun K => m36_3 N x1 x2 K (fun x4 => (kseq PHI Tb76 N vc36_10 k) .ret (s36_2 x4))) h3) (by kernel_rfl)))
def m36_0 (N : Nat) (x0 x1 : D) (Kr : D → Option R) : Option R :=
  (m36_1 N x0 x1 (fun y1 y2 => (m36_2 N y1 y2 Kr)))
theorem e36_0 (N : Nat) (k : Kn R) (x0 x1 : D) : runC PHI Tb76 N vc36_0 (s36_0 x0 x1) k = m36_0 N x0 x1 (fun x4 => k .ret (s36_2 x4)) := by
  have h2 := e36_1 N (kseq PHI Tb76 N vc36_2 k) x0 x1
  have h3 := (funext fun y1 => funext fun y2 => (e36_2 N k y1 y2) : (fun (y1 y2 : D) => (kseq PHI Tb76 N vc36_2 k) .normal (s36_1 y1 y2)) = _)
  refine Eq.trans (runC_seq _ _ _ k) (Eq.trans h2 (Eq.trans (congrArg (fun K => m36_1 N x0 x1 K) h3) (by kernel_rfl)))
theorem r36 (N : Nat) (x0 x1 : D) : runC PHI Tb76 N vf36.body (enterV vf36 [V.f x0, V.f x1] []) (finish vf36) = m36_0 N x0 x1 (fun x4 => finish vf36 .ret (s36_2 x4)) := 
  Eq.trans (runC_pre (s1 := (s36_0 x0 x1)) (by kernel_rfl) _ _) (Eq.trans (e36_0 N (finish vf36) x0 x1) (by kernel_rfl))
end
noncomputable def Tb36 : CallF := extend Tb76 36 (fn2 pr36 fun n r => .f (sp36 n r))
theorem l36 {R : Type} (N : Nat) (n rows : D) (hn : eqb ((n.at 6).toL.length : Int) 0 = false) (hl : rows.toL.length ≤ 9223372036854775807) (K0 : D → D → D → Option R) : ∀ k i J (s : D × D), i + k = rows.toL.length → k < J →
    l36_18 N J (.p n) rows (.i (rows.toL.length : Int)) (.i (i : Int)) s.1 s.2 K0 = K0 (.p n) ((rows.toL.drop i).foldl (fst36 n) s).1 ((rows.toL.drop i).foldl (fst36 n) s).2
  | _, _, 0, _, _, h => by omega
  | 0, i, J + 1, s, h, _ => by
    have : i = rows.toL.length := by omega
    subst this
    simp only [l36_18, m36_19, m36_20, m36_21, m36_22, toI_i, toB_b, ltb_self, cond_false, List.drop_length, List.foldl_nil]
  | k + 1, i, J + 1, s, h, h' => by
    have hi : i < rows.toL.length := by omega
    have hat : rows.at i = rows.toL[i] := getD_at hi
    have hp : 0 < (n.at 6).toL.length := by
      rcases Nat.eq_zero_or_pos (n.at 6).toL.length with h0 | h0
      · rw [h0] at hn; cases hn
      · exact h0
    have i0 : inb 0 (n.at 6).toL.length = true := inb_t hp
    rw [List.drop_eq_getElem_cons hi, List.foldl_cons]
    simp only [l36_18, m36_19, m36_20, m36_21, m36_22, toI_i, toB_b, ltb_n hi, cond_true, m36_25, m36_26, m36_27, m36_28, inb_t hi, m36_29, m36_30, isPtr_p, deref_p, hn, cond_false, m36_35, m36_36, i0, pr23, m36_37, m36_38, m36_43, m36_44, m36_45, m36_46, m36_47, m36_50, succ_n hi hl, Int.toNat_natCast, hat]
    have r := l36 N n rows hn hl K0 k (i + 1) J (fst36 n s rows.toL[i]) (by omega) (by omega)
    refine Eq.trans ?_ r
    have hf : fst36 n s rows.toL[i] = (bif eqb ((sp23 ((n.at 6).at 0) rows.toL[i]).at 0).toI 1 then sp75_h0 ((sp23 ((n.at 6).at 0) rows.toL[i]).at 1) s.1 else s.1, bif betD n (sp23 ((n.at 6).at 0) rows.toL[i]) (.i (sp27 (sp23 ((n.at 6).at 0) rows.toL[i]) s.2)) s.2 then sp23 ((n.at 6).at 0) rows.toL[i] else s.2) := rfl
    rw [hf]
    have z : (0 : Int).toNat = 0 := rfl
    rw [z]
    generalize sp23 ((n.at 6).at 0) rows.toL[i] = v
    simp only [betD, toI_i]
    cases eqb (v.at 0).toI 1 <;> cases eqb (v.at 0).toI 0 <;> cases eqb (s.2.at 0).toI 0 <;> cases eqb (n.at 0).toI 12 <;> cases ltb (sp27 v s.2) 0 <;> cases eqb (n.at 0).toI 13 <;> cases ltb 0 (sp27 v s.2) <;> rfl
theorem ok36 : FnOk Try.prog PHI Tb36 := FnOk.add2 hPHI ok76 (by kernel_rfl) fun n rows ha _ => ⟨rows.toL.length + 1, (r36 _ n rows).trans (by
  have hl : rows.toL.length ≤ 9223372036854775807 := (ha.is 1 rfl rfl).len' (e := 23) (by kernel_rfl)
  simp only [m36_0, m36_1, m36_2, m36_3, isPtr_p, deref_p, cond_true, sp36]
  cases eqb (n.at 0).toI 10
  · simp only [cond_false, m36_10, m36_11, m36_12, m36_13, m36_14, m36_15, m36_16, m36_17, m36_18]
    cases hn : eqb ((n.at 6).toL.length : Int) 0
    · have h := l36 (rows.toL.length + 1) n rows hn hl (fun y2 h0 h1 => m36_51 (rows.toL.length + 1) y2 h0 h1 (fun x4 => finish vf36 .ret (s36_2 x4))) rows.toL.length 0 (rows.toL.length + 1) ini36 (by omega) (by omega)
      refine Eq.trans h ?_
      simp only [m36_51, isPtr_p, deref_p, cond_true, acc36, hn, cond_false, List.drop_zero]
      cases eqb (n.at 0).toI 11 <;> rfl
    · have hr : l36_18 (rows.toL.length + 1) (rows.toL.length + 1) (D.p n) rows (D.i (rows.toL.length : Int)) (D.i 0) (D.ag [(D.i 0), (D.i 0), (D.b false)]) (D.ag [(D.i 0), (D.i 0), (D.f 0), (D.s [])]) (fun y2 h0 h1 => m36_51 (rows.toL.length + 1) y2 h0 h1 (fun x4 => finish vf36 .ret (s36_2 x4))) = m36_51 (rows.toL.length + 1) (D.p n) ini36.1 ini36.2 (fun x4 => finish vf36 .ret (s36_2 x4)) := by
        rcases Nat.eq_zero_or_pos rows.toL.length with h0 | h0
        · have hlt : ltb 0 (rows.toL.length : Int) = false := by rw [h0]; rfl
          simp only [l36_18, m36_19, m36_20, m36_21, m36_22, toI_i, toB_b, hlt, cond_false]
          rfl
        · have hlt : ltb 0 (rows.toL.length : Int) = true := ltb_t (by omega)
          have i1 : inb 0 rows.toL.length = true := inb_t h0
          simp only [l36_18, m36_19, m36_20, m36_21, m36_22, toI_i, toB_b, hlt, cond_true, m36_25, m36_26, m36_27, m36_28, i1, m36_29, m36_30, isPtr_p, deref_p, hn]
          rfl
      refine Eq.trans hr ?_
      simp only [m36_51, isPtr_p, deref_p, cond_true, acc36, hn]
      cases eqb (n.at 0).toI 11 <;> rfl
  · rfl)⟩
end Go.Vam.C14
