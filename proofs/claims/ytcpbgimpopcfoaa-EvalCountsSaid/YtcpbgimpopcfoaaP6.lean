/- Chapter 14: what functions come to, part 6. No conditions. -/
import Derived.Test.YtcpbgimpopcfoaaP5
import Derived.KernelRfl
set_option linter.unusedVariables false
set_option linter.unusedSimpArgs false
set_option maxRecDepth 100000
namespace Go.Vam.C14
open Go.Proofs
theorem sp93_e {a b q : D} {A B : Nat} (ha : a.toI = (A : Int)) (hb : b.toI = (B : Int)) {xs : List D} (hl : xs.length ≤ 1000000) (hq : isPtrD q = true) (h1 : A ≤ B) (h2 : B ≤ xs.length) : sp93_33_h0 a b q (.sl xs) = .sl (srtSeg (c33 q) xs A B) ∧ pr93_33 a b q (.sl xs) = true := by
  unfold sp93_33_h0 pr93_33 okA
  rw [ha, hb]
  simp only [Int.toNat_natCast, toL_sl, isSl, Bool.true_and]
  refine ⟨trivial, ?_⟩
  rw [leb_t (by omega), leb_t (by omega), leb_t (by omega), leb_t (by omega), hq]; rfl
theorem sp94_f {a m b q : D} {A M B : Nat} (ha : a.toI = (A : Int)) (hm : m.toI = (M : Int)) (hb : b.toI = (B : Int)) {xs : List D} (hl : xs.length ≤ 1000000) (hq : isPtrD q = true) (h1 : A < M) (h2 : M < B) (h3 : B ≤ xs.length) (hA : SrtOn (c33 q) xs A M) (hB : SrtOn (c33 q) xs M B) : sp94_33_h0 a m b q (.sl xs) = .sl (srtSeg (c33 q) xs A B) ∧ pr94_33 a m b q (.sl xs) = true :=
  ⟨sp94_v ha hb xs, pr94_i (n := B + 1) ⟨A, M, B, xs, ha, hm, hb, rfl, hl, hq, h1, h2, h3, hA, hB, by omega⟩⟩
theorem stb_all {c : D → D → Int} (hc : Cmp c) {l xs : List D} (h1 : Stab c l xs) (h2 : SrtOn c l 0 l.length) : l = stb c xs := by
  refine stb_eq hc h1 ?_
  have := (srt_seg (c := c) (l := l) (a := 0) (b := l.length) (Nat.le_refl _)).mpr h2
  rwa [seg_all] at this
def pr72_33 (n q h : D) : Bool := okA h && (isPtrD q && eqb n.toI (h.toL.length : Int))
def sp72_33_h0 (_n q h : D) : D := .sl (stb (c33 q) h.toL)
noncomputable section
section
variable {R : Type}
def m72_1 (N : Nat) (x0n : Bool) (x1 x2_0 h0 : D) (K : Bool → D → D → D → D → Option R) : Option R :=
  K x0n x1 x2_0 (D.i 20) h0
def s72_0 (x0n : Bool) (x1 x2_0 h0 : D) : St := sts 63 [(0, V.ms 0 x0n), (1, V.f x1), (2, V.fn 33 [V.f x2_0] [Ty.p 40])] [V.f h0]
def s72_1 (x0n : Bool) (x1 x2_0 x6 h0 : D) : St := sts 63 [(0, V.ms 0 x0n), (1, V.f x1), (2, V.fn 33 [V.f x2_0] [Ty.p 40]), (6, V.f x6)] [V.f h0]
theorem e72_1 (N : Nat) (k : Kn R) (x0n : Bool) (x1 x2_0 h0 : D) : runC PHI Tb94 N vc72_1 (s72_0 x0n x1 x2_0 h0) k = m72_1 N x0n x1 x2_0 h0 (fun x0n x1 x2_0 x6 h0 => k .normal (s72_1 x0n x1 x2_0 x6 h0)) := by
  refine Eq.trans (runC_post _ _ _ k) (Eq.trans (ops_run _ _ _ _) (by kernel_rfl))
def m72_3 (N : Nat) (x0n : Bool) (x1 x2_0 x6 h0 : D) (K : Bool → D → D → D → D → D → D → Option R) : Option R :=
  K x0n x1 x2_0 x6 (D.i 0) x6 h0
def s72_2 (x0n : Bool) (x1 x2_0 x6 x7 x8 h0 : D) : St := sts 63 [(0, V.ms 0 x0n), (1, V.f x1), (2, V.fn 33 [V.f x2_0] [Ty.p 40]), (6, V.f x6), (7, V.f x7), (8, V.f x8)] [V.f h0]
theorem e72_3 (N : Nat) (k : Kn R) (x0n : Bool) (x1 x2_0 x6 h0 : D) : runC PHI Tb94 N vc72_3 (s72_1 x0n x1 x2_0 x6 h0) k = m72_3 N x0n x1 x2_0 x6 h0 (fun x0n x1 x2_0 x6 x7 x8 h0 => k .normal (s72_2 x0n x1 x2_0 x6 x7 x8 h0)) := by
  refine Eq.trans (runC_post _ _ _ k) (Eq.trans (ops_run _ _ _ _) (by kernel_rfl))
def m72_7 (N : Nat) (x0n : Bool) (x1 x2_0 x6 x7 x8 h0 : D) (K : Bool → D → D → D → D → D → D → Option R) (K0 : Bool → D → D → D → D → D → Option R) : Option R :=
  (bif (leb x8.toI x1.toI) then (bif ((pr93_33 x7 x8 x2_0 h0) && (Nat.beq h0.toL.length (sp93_33_h0 x7 x8 x2_0 h0).toL.length && true)) then K x0n x1 x2_0 x6 x8 (D.i (IntKind.i64.wrap (x8.toI + x6.toI))) (sp93_33_h0 x7 x8 x2_0 h0) else none) else K0 x0n x1 x2_0 x6 x7 h0)
def s72_3 (x0n : Bool) (x1 x2_0 x6 x7 h0 : D) : St := sts 63 [(0, V.ms 0 x0n), (1, V.f x1), (2, V.fn 33 [V.f x2_0] [Ty.p 40]), (6, V.f x6), (7, V.f x7)] [V.f h0]
theorem e72_7 (N : Nat) (k : Kn R) (x0n : Bool) (x1 x2_0 x6 x7 x8 h0 : D) : runC PHI Tb94 N vc72_7 (s72_2 x0n x1 x2_0 x6 x7 x8 h0) k = m72_7 N x0n x1 x2_0 x6 x7 x8 h0 (fun x0n x1 x2_0 x6 x7 x8 h0 => k .normal (s72_2 x0n x1 x2_0 x6 x7 x8 h0)) (fun x0n x1 x2_0 x6 x7 h0 => k (.exit 0) (s72_3 x0n x1 x2_0 x6 x7 h0)) := by kernel_rfl
def l72_6 (N : Nat) (j : Nat) (x0n : Bool) (x1 x2_0 x6 x7 x8 h0 : D) (K0 : Bool → D → D → D → D → D → Option R) : Option R :=
  match j with
  | 0 => none
  | j + 1 => (m72_7 N x0n x1 x2_0 x6 x7 x8 h0 (fun y0n y1 y2_0 y6 y7 y8 h0 => l72_6 N j y0n y1 y2_0 y6 y7 y8 h0 K0) K0)
def m72_6 (N : Nat) (x0n : Bool) (x1 x2_0 x6 x7 x8 h0 : D) (K0 : Bool → D → D → D → D → D → Option R) : Option R :=
  l72_6 N N x0n x1 x2_0 x6 x7 x8 h0 K0
theorem el72_6 (N : Nat) (k : Kn R) : ∀ (j : Nat) (x0n : Bool) (x1 x2_0 x6 x7 x8 h0 : D), loopGo (runC PHI Tb94 N vc72_7) j (s72_2 x0n x1 x2_0 x6 x7 x8 h0) k = l72_6 N j x0n x1 x2_0 x6 x7 x8 h0 (fun x0n x1 x2_0 x6 x7 h0 => k (.exit 0) (s72_3 x0n x1 x2_0 x6 x7 h0))
  | 0, _, _, _, _, _, _, _ => by kernel_rfl
  | j + 1, x0n, x1, x2_0, x6, x7, x8, h0 => by
    have h2 := e72_7 N (kloop PHI Tb94 N vc72_7 j k) x0n x1 x2_0 x6 x7 x8 h0
    have h3 : (fun (y0n : Bool) (y1 y2_0 y6 y7 y8 h0 : D) => (kloop PHI Tb94 N vc72_7 j k) .normal (s72_2 y0n y1 y2_0 y6 y7 y8 h0)) = (fun (y0n : Bool) (y1 y2_0 y6 y7 y8 h0 : D) => l72_6 N j y0n y1 y2_0 y6 y7 y8 h0 (fun x0n x1 x2_0 x6 x7 h0 => k (.exit 0) (s72_3 x0n x1 x2_0 x6 x7 h0))) := funext fun y0n => funext fun y1 => funext fun y2_0 => funext fun y6 => funext fun y7 => funext fun y8 => funext fun h0 => (el72_6 N k j y0n y1 y2_0 y6 y7 y8 h0)
    refine Eq.trans (loop_succ _ j _ k) (Eq.trans h2 (Eq.trans (congrArg (fun K => m72_7 N x0n x1 x2_0 x6 x7 x8 h0 K (fun x0n x1 x2_0 x6 x7 h0 => (kloop PHI Tb94 N vc72_7 j k) (.exit 0) (s72_3 x0n x1 x2_0 x6 x7 h0))) h3) (by kernel_rfl)))
theorem e72_6 (N : Nat) (k : Kn R) (x0n : Bool) (x1 x2_0 x6 x7 x8 h0 : D) : runC PHI Tb94 N vc72_6 (s72_2 x0n x1 x2_0 x6 x7 x8 h0) k = m72_6 N x0n x1 x2_0 x6 x7 x8 h0 (fun x0n x1 x2_0 x6 x7 h0 => k (.exit 0) (s72_3 x0n x1 x2_0 x6 x7 h0)) := by
  refine Eq.trans (runC_loop _ _ k) (Eq.trans (el72_6 N k N x0n x1 x2_0 x6 x7 x8 h0) (by kernel_rfl))
def m72_5 (N : Nat) (x0n : Bool) (x1 x2_0 x6 x7 x8 h0 : D) (K : Bool → D → D → D → D → D → Option R) : Option R :=
  (m72_6 N x0n x1 x2_0 x6 x7 x8 h0 (fun y0n y1 y2_0 y6 y7 h0 => K y0n y1 y2_0 y6 y7 h0))
theorem e72_5 (N : Nat) (k : Kn R) (x0n : Bool) (x1 x2_0 x6 x7 x8 h0 : D) : runC PHI Tb94 N vc72_5 (s72_2 x0n x1 x2_0 x6 x7 x8 h0) k = m72_5 N x0n x1 x2_0 x6 x7 x8 h0 (fun x0n x1 x2_0 x6 x7 h0 => k .normal (s72_3 x0n x1 x2_0 x6 x7 h0)) := by
  refine Eq.trans (runC_block _ _ _ k) (Eq.trans (e72_6 N (kblk 0 k) x0n x1 x2_0 x6 x7 x8 h0) (by kernel_rfl))
def m72_20 (N : Nat) (x0n : Bool) (x1 x2_0 x6 x7 h0 : D) (K : Bool → D → D → D → D → Option R) : Option R :=
  (bif ((pr93_33 x7 x1 x2_0 h0) && (Nat.beq h0.toL.length (sp93_33_h0 x7 x1 x2_0 h0).toL.length && true)) then K x0n x1 x2_0 x6 (sp93_33_h0 x7 x1 x2_0 h0) else none)
theorem e72_20 (N : Nat) (k : Kn R) (x0n : Bool) (x1 x2_0 x6 x7 h0 : D) : runC PHI Tb94 N vc72_20 (s72_3 x0n x1 x2_0 x6 x7 h0) k = m72_20 N x0n x1 x2_0 x6 x7 h0 (fun x0n x1 x2_0 x6 h0 => k .normal (s72_1 x0n x1 x2_0 x6 h0)) := by
  refine Eq.trans (runC_post _ _ _ k) (Eq.trans (ops_run _ _ _ _) (by kernel_rfl))
def m72_24 (N : Nat) (x0n : Bool) (x1 x2_0 x6 h0 : D) (K : Bool → D → D → D → D → Option R) (K2 : D → Option R) : Option R :=
  (bif (ltb x6.toI x1.toI) then K x0n x1 x2_0 x6 h0 else K2 h0)
def s72_4 (h0 : D) : St := sts 63 [] [V.f h0]
theorem e72_24 (N : Nat) (k : Kn R) (x0n : Bool) (x1 x2_0 x6 h0 : D) : runC PHI Tb94 N vc72_24 (s72_1 x0n x1 x2_0 x6 h0) k = m72_24 N x0n x1 x2_0 x6 h0 (fun x0n x1 x2_0 x6 h0 => k .normal (s72_1 x0n x1 x2_0 x6 h0)) (fun h0 => k (.exit 2) (s72_4 h0)) := by kernel_rfl
def m72_31 (N : Nat) (x0n : Bool) (x1 x2_0 x6 h0 : D) (K : Bool → D → D → D → D → D → D → Option R) : Option R :=
  K x0n x1 x2_0 x6 (D.i 0) (D.i (IntKind.i64.wrap (2 * x6.toI))) h0
theorem e72_31 (N : Nat) (k : Kn R) (x0n : Bool) (x1 x2_0 x6 h0 : D) : runC PHI Tb94 N vc72_31 (s72_1 x0n x1 x2_0 x6 h0) k = m72_31 N x0n x1 x2_0 x6 h0 (fun x0n x1 x2_0 x6 x7 x8 h0 => k .normal (s72_2 x0n x1 x2_0 x6 x7 x8 h0)) := by
  refine Eq.trans (runC_post _ _ _ k) (Eq.trans (ops_run _ _ _ _) (by kernel_rfl))
def m72_35 (N : Nat) (x0n : Bool) (x1 x2_0 x6 x7 x8 h0 : D) (K : Bool → D → D → D → D → D → D → Option R) (K4 : Bool → D → D → D → D → D → Option R) : Option R :=
  (bif (leb x8.toI x1.toI) then (bif ((pr94_33 x7 (D.i (IntKind.i64.wrap (x7.toI + x6.toI))) x8 x2_0 h0) && (Nat.beq h0.toL.length (sp94_33_h0 x7 (D.i (IntKind.i64.wrap (x7.toI + x6.toI))) x8 x2_0 h0).toL.length && true)) then K x0n x1 x2_0 x6 x8 (D.i (IntKind.i64.wrap (x8.toI + (IntKind.i64.wrap (2 * x6.toI))))) (sp94_33_h0 x7 (D.i (IntKind.i64.wrap (x7.toI + x6.toI))) x8 x2_0 h0) else none) else K4 x0n x1 x2_0 x6 x7 h0)
theorem e72_35 (N : Nat) (k : Kn R) (x0n : Bool) (x1 x2_0 x6 x7 x8 h0 : D) : runC PHI Tb94 N vc72_35 (s72_2 x0n x1 x2_0 x6 x7 x8 h0) k = m72_35 N x0n x1 x2_0 x6 x7 x8 h0 (fun x0n x1 x2_0 x6 x7 x8 h0 => k .normal (s72_2 x0n x1 x2_0 x6 x7 x8 h0)) (fun x0n x1 x2_0 x6 x7 h0 => k (.exit 4) (s72_3 x0n x1 x2_0 x6 x7 h0)) := by kernel_rfl
def l72_34 (N : Nat) (j : Nat) (x0n : Bool) (x1 x2_0 x6 x7 x8 h0 : D) (K4 : Bool → D → D → D → D → D → Option R) : Option R :=
  match j with
  | 0 => none
  | j + 1 => (m72_35 N x0n x1 x2_0 x6 x7 x8 h0 (fun y0n y1 y2_0 y6 y7 y8 h0 => l72_34 N j y0n y1 y2_0 y6 y7 y8 h0 K4) K4)
def m72_34 (N : Nat) (x0n : Bool) (x1 x2_0 x6 x7 x8 h0 : D) (K4 : Bool → D → D → D → D → D → Option R) : Option R :=
  l72_34 N N x0n x1 x2_0 x6 x7 x8 h0 K4
theorem el72_34 (N : Nat) (k : Kn R) : ∀ (j : Nat) (x0n : Bool) (x1 x2_0 x6 x7 x8 h0 : D), loopGo (runC PHI Tb94 N vc72_35) j (s72_2 x0n x1 x2_0 x6 x7 x8 h0) k = l72_34 N j x0n x1 x2_0 x6 x7 x8 h0 (fun x0n x1 x2_0 x6 x7 h0 => k (.exit 4) (s72_3 x0n x1 x2_0 x6 x7 h0))
  | 0, _, _, _, _, _, _, _ => by kernel_rfl
  | j + 1, x0n, x1, x2_0, x6, x7, x8, h0 => by
    have h2 := e72_35 N (kloop PHI Tb94 N vc72_35 j k) x0n x1 x2_0 x6 x7 x8 h0
    have h3 : (fun (y0n : Bool) (y1 y2_0 y6 y7 y8 h0 : D) => (kloop PHI Tb94 N vc72_35 j k) .normal (s72_2 y0n y1 y2_0 y6 y7 y8 h0)) = (fun (y0n : Bool) (y1 y2_0 y6 y7 y8 h0 : D) => l72_34 N j y0n y1 y2_0 y6 y7 y8 h0 (fun x0n x1 x2_0 x6 x7 h0 => k (.exit 4) (s72_3 x0n x1 x2_0 x6 x7 h0))) := funext fun y0n => funext fun y1 => funext fun y2_0 => funext fun y6 => funext fun y7 => funext fun y8 => funext fun h0 => (el72_34 N k j y0n y1 y2_0 y6 y7 y8 h0)
    refine Eq.trans (loop_succ _ j _ k) (Eq.trans h2 (Eq.trans (congrArg (fun K => m72_35 N x0n x1 x2_0 x6 x7 x8 h0 K (fun x0n x1 x2_0 x6 x7 h0 => (kloop PHI Tb94 N vc72_35 j k) (.exit 4) (s72_3 x0n x1 x2_0 x6 x7 h0))) h3) (by kernel_rfl)))
theorem e72_34 (N : Nat) (k : Kn R) (x0n : Bool) (x1 x2_0 x6 x7 x8 h0 : D) : runC PHI Tb94 N vc72_34 (s72_2 x0n x1 x2_0 x6 x7 x8 h0) k = m72_34 N x0n x1 x2_0 x6 x7 x8 h0 (fun x0n x1 x2_0 x6 x7 h0 => k (.exit 4) (s72_3 x0n x1 x2_0 x6 x7 h0)) := by
  refine Eq.trans (runC_loop _ _ k) (Eq.trans (el72_34 N k N x0n x1 x2_0 x6 x7 x8 h0) (by kernel_rfl))
def m72_33 (N : Nat) (x0n : Bool) (x1 x2_0 x6 x7 x8 h0 : D) (K : Bool → D → D → D → D → D → Option R) : Option R :=
  (m72_34 N x0n x1 x2_0 x6 x7 x8 h0 (fun y0n y1 y2_0 y6 y7 h0 => K y0n y1 y2_0 y6 y7 h0))
theorem e72_33 (N : Nat) (k : Kn R) (x0n : Bool) (x1 x2_0 x6 x7 x8 h0 : D) : runC PHI Tb94 N vc72_33 (s72_2 x0n x1 x2_0 x6 x7 x8 h0) k = m72_33 N x0n x1 x2_0 x6 x7 x8 h0 (fun x0n x1 x2_0 x6 x7 h0 => k .normal (s72_3 x0n x1 x2_0 x6 x7 h0)) := by
  refine Eq.trans (runC_block _ _ _ k) (Eq.trans (e72_34 N (kblk 4 k) x0n x1 x2_0 x6 x7 x8 h0) (by kernel_rfl))
def m72_47 (N : Nat) (x0n : Bool) (x1 x2_0 x6 x7 h0 : D) (K : Bool → D → D → D → D → Option R) : Option R :=
  (bif (ltb (IntKind.i64.wrap (x7.toI + x6.toI)) x1.toI) then (bif ((pr94_33 x7 (D.i (IntKind.i64.wrap (x7.toI + x6.toI))) x1 x2_0 h0) && (Nat.beq h0.toL.length (sp94_33_h0 x7 (D.i (IntKind.i64.wrap (x7.toI + x6.toI))) x1 x2_0 h0).toL.length && true)) then K x0n x1 x2_0 (D.i (IntKind.i64.wrap (x6.toI * 2))) (sp94_33_h0 x7 (D.i (IntKind.i64.wrap (x7.toI + x6.toI))) x1 x2_0 h0) else none) else K x0n x1 x2_0 (D.i (IntKind.i64.wrap (x6.toI * 2))) h0)
theorem e72_47 (N : Nat) (k : Kn R) (x0n : Bool) (x1 x2_0 x6 x7 h0 : D) : runC PHI Tb94 N vc72_47 (s72_3 x0n x1 x2_0 x6 x7 h0) k = m72_47 N x0n x1 x2_0 x6 x7 h0 (fun x0n x1 x2_0 x6 h0 => k .normal (s72_1 x0n x1 x2_0 x6 h0)) := by kernel_rfl
def m72_32 (N : Nat) (x0n : Bool) (x1 x2_0 x6 x7 x8 h0 : D) (K : Bool → D → D → D → D → Option R) : Option R :=
  (m72_33 N x0n x1 x2_0 x6 x7 x8 h0 (fun y0n y1 y2_0 y6 y7 h0 => (m72_47 N y0n y1 y2_0 y6 y7 h0 (fun y0n y1 y2_0 y6 h0 => K y0n y1 y2_0 y6 h0))))
theorem e72_32 (N : Nat) (k : Kn R) (x0n : Bool) (x1 x2_0 x6 x7 x8 h0 : D) : runC PHI Tb94 N vc72_32 (s72_2 x0n x1 x2_0 x6 x7 x8 h0) k = m72_32 N x0n x1 x2_0 x6 x7 x8 h0 (fun x0n x1 x2_0 x6 h0 => k .normal (s72_1 x0n x1 x2_0 x6 h0)) := by
  have h2 := e72_33 N (kseq PHI Tb94 N vc72_47 k) x0n x1 x2_0 x6 x7 x8 h0
  have h3 := (funext fun y0n => funext fun y1 => funext fun y2_0 => funext fun y6 => funext fun y7 => funext fun h0 => (e72_47 N k y0n y1 y2_0 y6 y7 h0) : (fun (y0n : Bool) (y1 y2_0 y6 y7 h0 : D) => (kseq PHI Tb94 N vc72_47 k) .normal (s72_3 y0n y1 y2_0 y6 y7 h0)) = _)
  refine Eq.trans (runC_seq _ _ _ k) (Eq.trans h2 (Eq.trans (congrArg (fun K => m72_33 N x0n x1 x2_0 x6 x7 x8 h0 K) h3) (by kernel_rfl)))
def m72_30 (N : Nat) (x0n : Bool) (x1 x2_0 x6 h0 : D) (K : Bool → D → D → D → D → Option R) : Option R :=
  (m72_31 N x0n x1 x2_0 x6 h0 (fun y0n y1 y2_0 y6 y7 y8 h0 => (m72_32 N y0n y1 y2_0 y6 y7 y8 h0 (fun y0n y1 y2_0 y6 h0 => K y0n y1 y2_0 y6 h0))))
theorem e72_30 (N : Nat) (k : Kn R) (x0n : Bool) (x1 x2_0 x6 h0 : D) : runC PHI Tb94 N vc72_30 (s72_1 x0n x1 x2_0 x6 h0) k = m72_30 N x0n x1 x2_0 x6 h0 (fun x0n x1 x2_0 x6 h0 => k .normal (s72_1 x0n x1 x2_0 x6 h0)) := by
  have h2 := e72_31 N (kseq PHI Tb94 N vc72_32 k) x0n x1 x2_0 x6 h0
  have h3 := (funext fun y0n => funext fun y1 => funext fun y2_0 => funext fun y6 => funext fun y7 => funext fun y8 => funext fun h0 => (e72_32 N k y0n y1 y2_0 y6 y7 y8 h0) : (fun (y0n : Bool) (y1 y2_0 y6 y7 y8 h0 : D) => (kseq PHI Tb94 N vc72_32 k) .normal (s72_2 y0n y1 y2_0 y6 y7 y8 h0)) = _)
  refine Eq.trans (runC_seq _ _ _ k) (Eq.trans h2 (Eq.trans (congrArg (fun K => m72_31 N x0n x1 x2_0 x6 h0 K) h3) (by kernel_rfl)))
def m72_29 (N : Nat) (x0n : Bool) (x1 x2_0 x6 h0 : D) (K : Bool → D → D → D → D → Option R) : Option R :=
  (m72_30 N x0n x1 x2_0 x6 h0 (fun y0n y1 y2_0 y6 h0 => K y0n y1 y2_0 y6 h0))
theorem e72_29 (N : Nat) (k : Kn R) (x0n : Bool) (x1 x2_0 x6 h0 : D) : runC PHI Tb94 N vc72_29 (s72_1 x0n x1 x2_0 x6 h0) k = m72_29 N x0n x1 x2_0 x6 h0 (fun x0n x1 x2_0 x6 h0 => k .normal (s72_1 x0n x1 x2_0 x6 h0)) := by
  refine Eq.trans (runC_block _ _ _ k) (Eq.trans (e72_30 N (kblk 3 k) x0n x1 x2_0 x6 h0) (by kernel_rfl))
def m72_23 (N : Nat) (x0n : Bool) (x1 x2_0 x6 h0 : D) (K : Bool → D → D → D → D → Option R) (K2 : D → Option R) : Option R :=
  (m72_24 N x0n x1 x2_0 x6 h0 (fun y0n y1 y2_0 y6 h0 => (m72_29 N y0n y1 y2_0 y6 h0 (fun y0n y1 y2_0 y6 h0 => K y0n y1 y2_0 y6 h0))) K2)
theorem e72_23 (N : Nat) (k : Kn R) (x0n : Bool) (x1 x2_0 x6 h0 : D) : runC PHI Tb94 N vc72_23 (s72_1 x0n x1 x2_0 x6 h0) k = m72_23 N x0n x1 x2_0 x6 h0 (fun x0n x1 x2_0 x6 h0 => k .normal (s72_1 x0n x1 x2_0 x6 h0)) (fun h0 => k (.exit 2) (s72_4 h0)) := by
  have h2 := e72_24 N (kseq PHI Tb94 N vc72_29 k) x0n x1 x2_0 x6 h0
  have h3 := (funext fun y0n => funext fun y1 => funext fun y2_0 => funext fun y6 => funext fun h0 => (e72_29 N k y0n y1 y2_0 y6 h0) : (fun (y0n : Bool) (y1 y2_0 y6 h0 : D) => (kseq PHI Tb94 N vc72_29 k) .normal (s72_1 y0n y1 y2_0 y6 h0)) = _)
  refine Eq.trans (runC_seq _ _ _ k) (Eq.trans h2 (Eq.trans (congrArg (fun K => m72_24 N x0n x1 x2_0 x6 h0 K (fun h0 => (kseq PHI Tb94 N vc72_29 k) (.exit 2) (s72_4 h0))) h3) (by kernel_rfl)))
def l72_22 (N : Nat) (j : Nat) (x0n : Bool) (x1 x2_0 x6 h0 : D) (K2 : D → Option R) : Option R :=
  match j with
  | 0 => none
  | j + 1 => (m72_23 N x0n x1 x2_0 x6 h0 (fun y0n y1 y2_0 y6 h0 => l72_22 N j y0n y1 y2_0 y6 h0 K2) K2)
def m72_22 (N : Nat) (x0n : Bool) (x1 x2_0 x6 h0 : D) (K2 : D → Option R) : Option R :=
  l72_22 N N x0n x1 x2_0 x6 h0 K2
theorem el72_22 (N : Nat) (k : Kn R) : ∀ (j : Nat) (x0n : Bool) (x1 x2_0 x6 h0 : D), loopGo (runC PHI Tb94 N vc72_23) j (s72_1 x0n x1 x2_0 x6 h0) k = l72_22 N j x0n x1 x2_0 x6 h0 (fun h0 => k (.exit 2) (s72_4 h0))
  | 0, _, _, _, _, _ => by kernel_rfl
  | j + 1, x0n, x1, x2_0, x6, h0 => by
    have h2 := e72_23 N (kloop PHI Tb94 N vc72_23 j k) x0n x1 x2_0 x6 h0
    have h3 : (fun (y0n : Bool) (y1 y2_0 y6 h0 : D) => (kloop PHI Tb94 N vc72_23 j k) .normal (s72_1 y0n y1 y2_0 y6 h0)) = (fun (y0n : Bool) (y1 y2_0 y6 h0 : D) => l72_22 N j y0n y1 y2_0 y6 h0 (fun h0 => k (.exit 2) (s72_4 h0))) := funext fun y0n => funext fun y1 => funext fun y2_0 => funext fun y6 => funext fun h0 => (el72_22 N k j y0n y1 y2_0 y6 h0)
    refine Eq.trans (loop_succ _ j _ k) (Eq.trans h2 (Eq.trans (congrArg (fun K => m72_23 N x0n x1 x2_0 x6 h0 K (fun h0 => (kloop PHI Tb94 N vc72_23 j k) (.exit 2) (s72_4 h0))) h3) (by kernel_rfl)))
theorem e72_22 (N : Nat) (k : Kn R) (x0n : Bool) (x1 x2_0 x6 h0 : D) : runC PHI Tb94 N vc72_22 (s72_1 x0n x1 x2_0 x6 h0) k = m72_22 N x0n x1 x2_0 x6 h0 (fun h0 => k (.exit 2) (s72_4 h0)) := by
  refine Eq.trans (runC_loop _ _ k) (Eq.trans (el72_22 N k N x0n x1 x2_0 x6 h0) (by kernel_rfl))
def m72_21 (N : Nat) (x0n : Bool) (x1 x2_0 x6 h0 : D) (K : D → Option R) : Option R :=
  (m72_22 N x0n x1 x2_0 x6 h0 (fun h0 => K h0))
theorem e72_21 (N : Nat) (k : Kn R) (x0n : Bool) (x1 x2_0 x6 h0 : D) : runC PHI Tb94 N vc72_21 (s72_1 x0n x1 x2_0 x6 h0) k = m72_21 N x0n x1 x2_0 x6 h0 (fun h0 => k .normal (s72_4 h0)) := by
  refine Eq.trans (runC_block _ _ _ k) (Eq.trans (e72_22 N (kblk 2 k) x0n x1 x2_0 x6 h0) (by kernel_rfl))
def m72_19 (N : Nat) (x0n : Bool) (x1 x2_0 x6 x7 h0 : D) (K : D → Option R) : Option R :=
  (m72_20 N x0n x1 x2_0 x6 x7 h0 (fun y0n y1 y2_0 y6 h0 => (m72_21 N y0n y1 y2_0 y6 h0 (fun h0 => K h0))))
theorem e72_19 (N : Nat) (k : Kn R) (x0n : Bool) (x1 x2_0 x6 x7 h0 : D) : runC PHI Tb94 N vc72_19 (s72_3 x0n x1 x2_0 x6 x7 h0) k = m72_19 N x0n x1 x2_0 x6 x7 h0 (fun h0 => k .normal (s72_4 h0)) := by
  have h2 := e72_20 N (kseq PHI Tb94 N vc72_21 k) x0n x1 x2_0 x6 x7 h0
  have h3 := (funext fun y0n => funext fun y1 => funext fun y2_0 => funext fun y6 => funext fun h0 => (e72_21 N k y0n y1 y2_0 y6 h0) : (fun (y0n : Bool) (y1 y2_0 y6 h0 : D) => (kseq PHI Tb94 N vc72_21 k) .normal (s72_1 y0n y1 y2_0 y6 h0)) = _)
  refine Eq.trans (runC_seq _ _ _ k) (Eq.trans h2 (Eq.trans (congrArg (fun K => m72_20 N x0n x1 x2_0 x6 x7 h0 K) h3) (by kernel_rfl)))
def m72_4 (N : Nat) (x0n : Bool) (x1 x2_0 x6 x7 x8 h0 : D) (K : D → Option R) : Option R :=
  (m72_5 N x0n x1 x2_0 x6 x7 x8 h0 (fun y0n y1 y2_0 y6 y7 h0 => (m72_19 N y0n y1 y2_0 y6 y7 h0 (fun h0 => K h0))))
theorem e72_4 (N : Nat) (k : Kn R) (x0n : Bool) (x1 x2_0 x6 x7 x8 h0 : D) : runC PHI Tb94 N vc72_4 (s72_2 x0n x1 x2_0 x6 x7 x8 h0) k = m72_4 N x0n x1 x2_0 x6 x7 x8 h0 (fun h0 => k .normal (s72_4 h0)) := by
  have h2 := e72_5 N (kseq PHI Tb94 N vc72_19 k) x0n x1 x2_0 x6 x7 x8 h0
  have h3 := (funext fun y0n => funext fun y1 => funext fun y2_0 => funext fun y6 => funext fun y7 => funext fun h0 => (e72_19 N k y0n y1 y2_0 y6 y7 h0) : (fun (y0n : Bool) (y1 y2_0 y6 y7 h0 : D) => (kseq PHI Tb94 N vc72_19 k) .normal (s72_3 y0n y1 y2_0 y6 y7 h0)) = _)
  refine Eq.trans (runC_seq _ _ _ k) (Eq.trans h2 (Eq.trans (congrArg (fun K => m72_5 N x0n x1 x2_0 x6 x7 x8 h0 K) h3) (by kernel_rfl)))
def m72_2 (N : Nat) (x0n : Bool) (x1 x2_0 x6 h0 : D) (K : D → Option R) : Option R :=
  (m72_3 N x0n x1 x2_0 x6 h0 (fun y0n y1 y2_0 y6 y7 y8 h0 => (m72_4 N y0n y1 y2_0 y6 y7 y8 h0 (fun h0 => K h0))))
theorem e72_2 (N : Nat) (k : Kn R) (x0n : Bool) (x1 x2_0 x6 h0 : D) : runC PHI Tb94 N vc72_2 (s72_1 x0n x1 x2_0 x6 h0) k = m72_2 N x0n x1 x2_0 x6 h0 (fun h0 => k .normal (s72_4 h0)) := by
  have h2 := e72_3 N (kseq PHI Tb94 N vc72_4 k) x0n x1 x2_0 x6 h0
  have h3 := (funext fun y0n => funext fun y1 => funext fun y2_0 => funext fun y6 => funext fun y7 => funext fun y8 => funext fun h0 => (e72_4 N k y0n y1 y2_0 y6 y7 y8 h0) : (fun (y0n : Bool) (y1 y2_0 y6 y7 y8 h0 : D) => (kseq PHI Tb94 N vc72_4 k) .normal (s72_2 y0n y1 y2_0 y6 y7 y8 h0)) = _)
  refine Eq.trans (runC_seq _ _ _ k) (Eq.trans h2 (Eq.trans (congrArg (fun K => m72_3 N x0n x1 x2_0 x6 h0 K) h3) (by kernel_rfl)))
def m72_0 (N : Nat) (x0n : Bool) (x1 x2_0 h0 : D) (K : D → Option R) : Option R :=
  (m72_1 N x0n x1 x2_0 h0 (fun y0n y1 y2_0 y6 h0 => (m72_2 N y0n y1 y2_0 y6 h0 (fun h0 => K h0))))
theorem e72_0 (N : Nat) (k : Kn R) (x0n : Bool) (x1 x2_0 h0 : D) : runC PHI Tb94 N vc72_0 (s72_0 x0n x1 x2_0 h0) k = m72_0 N x0n x1 x2_0 h0 (fun h0 => k .normal (s72_4 h0)) := by
  have h2 := e72_1 N (kseq PHI Tb94 N vc72_2 k) x0n x1 x2_0 h0
  have h3 := (funext fun y0n => funext fun y1 => funext fun y2_0 => funext fun y6 => funext fun h0 => (e72_2 N k y0n y1 y2_0 y6 h0) : (fun (y0n : Bool) (y1 y2_0 y6 h0 : D) => (kseq PHI Tb94 N vc72_2 k) .normal (s72_1 y0n y1 y2_0 y6 h0)) = _)
  refine Eq.trans (runC_seq _ _ _ k) (Eq.trans h2 (Eq.trans (congrArg (fun K => m72_1 N x0n x1 x2_0 h0 K) h3) (by kernel_rfl)))
theorem r72 (N : Nat) (x0n : Bool) (x1 x2_0 h0 : D) : runC PHI Tb94 N vf72.body (enterV vf72 [V.ms 0 x0n, V.f x1, V.fn 33 [V.f x2_0] [Ty.p 40]] [V.f h0]) (finish vf72) = m72_0 N x0n x1 x2_0 h0 (fun h0 => finish vf72 .normal (s72_4 h0)) := 
  Eq.trans (runC_pre (s1 := (s72_0 x0n x1 x2_0 h0)) (by kernel_rfl) _ _) (Eq.trans (e72_0 N (finish vf72) x0n x1 x2_0 h0) (by kernel_rfl))
end
end
noncomputable def Tb72 : CallF := extendR Tb94 72 (fm1 33 [Ty.p 40] pr72_33 sp72_33_h0)
theorem i72 {R : Type} (N : Nat) (nn : Bool) (n q s : D) (hq : isPtrD q = true) (L : Nat) (hn : n.toI = (L : Int)) (hs' : s.toI = 20) (xs : List D) (hl : L ≤ 1000000) (K0 : Bool → D → D → D → D → D → Option R) : ∀ J (x y : D) (l : List D) (a : Nat), x.toI = (a : Int) → y.toI = ((a + 20 : Nat) : Int) → l.length = L → Stab (c33 q) l xs → Fw (c33 q) l 20 a → a ≤ L → L < J + a →
    ∃ (z : D) (l' : List D) (a' : Nat), z.toI = (a' : Int) ∧ l'.length = L ∧ Stab (c33 q) l' xs ∧ Fw (c33 q) l' 20 a' ∧ a' ≤ L ∧ L < a' + 20 ∧ l72_6 N J nn n q s x y (.sl l) K0 = K0 nn n q s z (.sl l')
  | 0, x, y, l, a, _, _, _, _, _, _, _ => by omega
  | J + 1, x, y, l, a, hx, hy, h1, h2, h3, h4, h5 => by
    rcases Nat.lt_or_ge L (a + 20) with h | h
    · have hlt : leb ((a + 20 : Nat) : Int) (L : Int) = false := leb_f (by omega)
      refine ⟨x, l, a, hx, h1, h2, h3, h4, h, ?_⟩
      simp only [l72_6, m72_7, hy, hn, hlt, cond_false]
    · have hlt : leb ((a + 20 : Nat) : Int) (L : Int) = true := leb_t (by omega)
      have e1 : IntKind.i64.wrap (((a + 20 : Nat) : Int) + 20) = ((a + 20 + 20 : Nat) : Int) := w64n (by omega) (by omega)
      obtain ⟨s1, s2⟩ := sp93_e hx hy (q := q) (xs := l) (by omega) hq (by omega) (by omega)
      have hlen : (srtSeg (c33 q) l a (a + 20)).length = l.length := srtSeg_len (c33_c q) (by omega) (by omega)
      obtain ⟨z, l', a', r⟩ := i72 N nn n q s hq L hn hs' xs hl K0 J y (.i ((a + 20 + 20 : Nat) : Int)) (srtSeg (c33 q) l a (a + 20)) (a + 20) hy rfl (by omega) ((srtSeg_stab (c33_c q) (by omega) (by omega)).trans h2)
        (.snoc a (h3.same fun k hk => srtSeg_other (c33_c q) (by omega) (by omega) (Or.inl hk)) (srtSeg_srt (c33_c q) (by omega) (by omega))) (by omega) (by omega)
      obtain ⟨r1, r2, r3, r4, r5, r6, r7⟩ := r
      refine ⟨z, l', a', r1, r2, r3, r4, r5, r6, ?_⟩
      simp only [l72_6, m72_7, hy, hn, hs', hlt, cond_true, s1, s2, toL_sl, hlen, beq_same, Bool.and_self, e1]
      exact r7
theorem j72 {R : Type} (N : Nat) (nn : Bool) (n q s : D) (hq : isPtrD q = true) (L S : Nat) (hn : n.toI = (L : Int)) (hs' : s.toI = (S : Int)) (hS : 0 < S) (hSL : S < L) (xs : List D) (hl : L ≤ 1000000) (K0 : Bool → D → D → D → D → D → Option R) : ∀ J (x y : D) (l : List D) (a : Nat), x.toI = (a : Int) → y.toI = ((a + S + S : Nat) : Int) → l.length = L → Stab (c33 q) l xs → Fw (c33 q) l (S + S) a → Bl (c33 q) l S L a → a ≤ L → L < J + a →
    ∃ (z : D) (l' : List D) (a' : Nat), z.toI = (a' : Int) ∧ l'.length = L ∧ Stab (c33 q) l' xs ∧ Fw (c33 q) l' (S + S) a' ∧ Bl (c33 q) l' S L a' ∧ a' ≤ L ∧ L < a' + S + S ∧ l72_34 N J nn n q s x y (.sl l) K0 = K0 nn n q s z (.sl l')
  | 0, x, y, l, a, _, _, _, _, _, _, _, _ => by omega
  | J + 1, x, y, l, a, hx, hy, h1, h2, h3, h4, h5, h6 => by
    rcases Nat.lt_or_ge L (a + S + S) with h | h
    · have hlt : leb ((a + S + S : Nat) : Int) (L : Int) = false := leb_f (by omega)
      refine ⟨x, l, a, hx, h1, h2, h3, h4, h5, h, ?_⟩
      simp only [l72_34, m72_35, hy, hn, hlt, cond_false]
    · have hlt : leb ((a + S + S : Nat) : Int) (L : Int) = true := leb_t (by omega)
      have e0 : IntKind.i64.wrap (2 * (S : Int)) = ((S + S : Nat) : Int) := w64n (by omega) (by omega)
      have e1 : IntKind.i64.wrap (((a + S + S : Nat) : Int) + ((S + S : Nat) : Int)) = ((a + S + S + S + S : Nat) : Int) := w64n (by omega) (by omega)
      have e2 : IntKind.i64.wrap ((a : Int) + (S : Int)) = ((a + S : Nat) : Int) := w64n (by omega) (by omega)
      obtain ⟨b1, b2, b3⟩ := h4.two hS h
      obtain ⟨s1, s2⟩ := sp94_f (m := .i ((a + S : Nat) : Int)) hx rfl hy (q := q) (xs := l) (by omega) hq (by omega) (by omega) (by omega) b1 b2
      have hlen : (srtSeg (c33 q) l a (a + S + S)).length = l.length := srtSeg_len (c33_c q) (by omega) (by omega)
      have hsrt : SrtOn (c33 q) (srtSeg (c33 q) l a (a + S + S)) a (a + S + S) := srtSeg_srt (c33_c q) (by omega) (by omega)
      have hFw : Fw (c33 q) (srtSeg (c33 q) l a (a + S + S)) (S + S) (a + (S + S)) := .snoc a (h3.same fun k hk => srtSeg_other (c33_c q) (by omega) (by omega) (Or.inl hk)) (by rw [← Nat.add_assoc]; exact hsrt)
      rw [← Nat.add_assoc] at hFw
      obtain ⟨z, l', a', r⟩ := j72 N nn n q s hq L S hn hs' hS hSL xs hl K0 J y (.i ((a + S + S + S + S : Nat) : Int)) (srtSeg (c33 q) l a (a + S + S)) (a + S + S) hy rfl (by omega) ((srtSeg_stab (c33_c q) (by omega) (by omega)).trans h2)
        hFw (b3.same fun k hk => srtSeg_other (c33_c q) (by omega) (by omega) (Or.inr hk)) (by omega) (by omega)
      obtain ⟨r1, r2, r3, r4, r5, r6, r7, r8⟩ := r
      refine ⟨z, l', a', r1, r2, r3, r4, r5, r6, r7, ?_⟩
      simp only [l72_34, m72_35, hx, hy, hn, hs', hlt, cond_true, e0, e2, s1, s2, toL_sl, hlen, beq_same, Bool.and_self, e1]
      exact r8
theorem k72 {R : Type} (N : Nat) (nn : Bool) (n q s x : D) (hq : isPtrD q = true) (L S a : Nat) (hn : n.toI = (L : Int)) (hs' : s.toI = (S : Int)) (hS : 0 < S) (hSL : S < L) (xs : List D) (hl : L ≤ 1000000) (K : Bool → D → D → D → D → Option R) (l : List D) (hx : x.toI = (a : Int)) (h1 : l.length = L) (h2 : Stab (c33 q) l xs) (h3 : Fw (c33 q) l (S + S) a) (h4 : Bl (c33 q) l S L a) (h5 : a ≤ L) (h6 : L < a + S + S) :
    ∃ l' : List D, l'.length = L ∧ Stab (c33 q) l' xs ∧ Bl (c33 q) l' (S + S) L 0 ∧ m72_47 N nn n q s x (.sl l) K = K nn n q (.i ((S + S : Nat) : Int)) (.sl l') := by
  have e0 : IntKind.i64.wrap ((S : Int) * 2) = ((S + S : Nat) : Int) := w64n (by omega) (by omega)
  have e2 : IntKind.i64.wrap ((a : Int) + (S : Int)) = ((a + S : Nat) : Int) := w64n (by omega) (by omega)
  unfold m72_47
  rw [hx, hn, hs', e2, e0]
  rcases Nat.lt_or_ge (a + S) L with h | h
  · obtain ⟨b1, b2⟩ := h4.rest h h6
    obtain ⟨s1, s2⟩ := sp94_f (m := .i ((a + S : Nat) : Int)) hx rfl hn (q := q) (xs := l) (by omega) hq (by omega) h (by omega) b1 b2
    have hlen : (srtSeg (c33 q) l a L).length = l.length := srtSeg_len (c33_c q) (by omega) (by omega)
    refine ⟨srtSeg (c33 q) l a L, by omega, (srtSeg_stab (c33_c q) (by omega) (by omega)).trans h2, ?_, ?_⟩
    · exact (h3.same fun k hk => srtSeg_other (c33_c q) (by omega) (by omega) (Or.inl hk)).bl (.last a h5 (by omega) (srtSeg_srt (c33_c q) (by omega) (by omega))) h5
    · simp only [ltb_n h, cond_true, s1, s2, toL_sl, hlen, beq_same, Bool.and_self]
  · have hlt : ltb ((a + S : Nat) : Int) (L : Int) = false := ltb_f (by omega)
    refine ⟨l, h1, h2, h3.bl (.last a h5 (by omega) (h4.one hS h)) h5, ?_⟩
    simp only [hlt, cond_false]
theorem o72 {R : Type} (N : Nat) (nn : Bool) (n q : D) (hq : isPtrD q = true) (L : Nat) (hn : n.toI = (L : Int)) (xs : List D) (hl : L ≤ 1000000) (hN : L < N) (K2 : D → Option R) : ∀ J (s : D) (l : List D) (S : Nat), s.toI = (S : Int) → 0 < S → l.length = L → Stab (c33 q) l xs → Bl (c33 q) l S L 0 → 0 < J → L < J + S →
    l72_22 N J nn n q s (.sl l) K2 = K2 (.sl (stb (c33 q) xs))
  | 0, s, l, S, _, _, _, _, _, h, _ => by omega
  | J + 1, s, l, S, hs', hS, h1, h2, h3, _, h4 => by
    rcases Nat.lt_or_ge S L with h | h
    · have e0 : IntKind.i64.wrap (2 * (S : Int)) = ((0 + S + S : Nat) : Int) := w64n (by omega) (by omega)
      obtain ⟨z, l', a', r1, r2, r3, r4, r5, r6, r7, r8⟩ := j72 N nn n q s hq L S hn hs' hS h xs hl (fun y0n y1 y2_0 y6 y7 h0 => m72_47 N y0n y1 y2_0 y6 y7 h0 (fun y0n y1 y2_0 y6 h0 => l72_22 N J y0n y1 y2_0 y6 h0 K2)) N (.i 0) (.i ((0 + S + S : Nat) : Int)) l 0 rfl rfl h1 h2 .zero h3 (by omega) (by omega)
      obtain ⟨l2, t1, t2, t3, t4⟩ := k72 N nn n q s z hq L S a' hn hs' hS h xs hl (fun y0n y1 y2_0 y6 h0 => l72_22 N J y0n y1 y2_0 y6 h0 K2) l' r1 r2 r3 r4 r5 r6 r7
      simp only [l72_22, m72_23, m72_24, hs', hn, ltb_n h, cond_true, m72_29, m72_30, m72_31, m72_32, m72_33, m72_34, e0]
      refine Eq.trans r8 (Eq.trans t4 ?_)
      exact o72 N nn n q hq L hn xs hl hN K2 J (.i ((S + S : Nat) : Int)) l2 (S + S) rfl (by omega) t1 t2 t3 (by omega) (by omega)
    · have hlt : ltb (S : Int) (L : Int) = false := ltb_f (by omega)
      simp only [l72_22, m72_23, m72_24, hs', hn, hlt, cond_false]
      rw [stb_all (c33_c q) h2 (by rw [h1]; exact h3.one hS (by omega))]
theorem fn72 (z : D) : finish vf72 .normal (s72_4 z) = some (.t [], [.f z]) := by kernel_rfl
theorem ok72 : FnOk Try.prog PHI Tb72 := FnOk.addm1 hPHI ok94 (by kernel_rfl) fun nn n q h hp => by
  unfold pr72_33 at hp
  simp only [Bool.and_eq_true] at hp
  obtain ⟨h0, hq, h1⟩ := hp
  obtain ⟨xs, rfl, hl⟩ := okA_eq h0
  have h1 : n.toI = (xs.length : Int) := of_decide_eq_true h1
  refine ⟨xs.length + 1, (r72 _ nn n q _).trans ?_⟩
  obtain ⟨z, l', a', r1, r2, r3, r4, r5, r6, r7⟩ := i72 (xs.length + 1) nn n q (.i 20) hq xs.length h1 rfl xs hl (fun y0n y1 y2_0 y6 y7 h0 => m72_19 (xs.length + 1) y0n y1 y2_0 y6 y7 h0 (fun h0 => finish vf72 .normal (s72_4 h0))) (xs.length + 1) (.i 0) (.i 20) xs 0 rfl rfl rfl (Stab.refl _) .zero (by omega) (by omega)
  obtain ⟨s1, s2⟩ := sp93_e r1 h1 (q := q) (xs := l') (by omega) hq r5 (by omega)
  have hlen : (srtSeg (c33 q) l' a' xs.length).length = l'.length := srtSeg_len (c33_c q) r5 (by omega)
  simp only [m72_0, m72_1, m72_2, m72_3, m72_4, m72_5, m72_6]
  refine Eq.trans r7 ?_
  simp only [m72_19, m72_20, s1, s2, toL_sl, hlen, beq_same, Bool.and_self, cond_true, m72_21, m72_22]
  refine Eq.trans (o72 (xs.length + 1) nn n q hq xs.length h1 xs hl (by omega) (fun h0 => finish vf72 .normal (s72_4 h0)) (xs.length + 1) (.i 20) (srtSeg (c33 q) l' a' xs.length) 20 rfl (by omega) (by omega) ((srtSeg_stab (c33_c q) r5 (by omega)).trans r3)
    ((r4.same fun k hk => srtSeg_other (c33_c q) r5 (by omega) (Or.inl hk)).bl (.last a' r5 (by omega) (srtSeg_srt (c33_c q) r5 (by omega))) r5) (by omega) (by omega)) ?_
  exact fn72 _
def pr32_33 (q h : D) : Bool := okA h && isPtrD q
def sp32_33_h0 (q h : D) : D := .sl (stb (c33 q) h.toL)
section
variable {R : Type}
def m32_0 (N : Nat) (x0n : Bool) (x1_0 h0 : D) (K : D → Option R) : Option R :=
  (bif ((pr72_33 (D.i (h0.toL.length : Int)) x1_0 h0) && (Nat.beq h0.toL.length (sp72_33_h0 (D.i (h0.toL.length : Int)) x1_0 h0).toL.length && true)) then K (sp72_33_h0 (D.i (h0.toL.length : Int)) x1_0 h0) else none)
def s32_0 (x0n : Bool) (x1_0 h0 : D) : St := sts 9 [(0, V.ms 0 x0n), (1, V.fn 33 [V.f x1_0] [Ty.p 40])] [V.f h0]
def s32_1 (h0 : D) : St := sts 9 [] [V.f h0]
theorem e32_0 (N : Nat) (k : Kn R) (x0n : Bool) (x1_0 h0 : D) : runC PHI Tb72 N vc32_0 (s32_0 x0n x1_0 h0) k = m32_0 N x0n x1_0 h0 (fun h0 => k .normal (s32_1 h0)) := by
  refine Eq.trans (runC_post _ _ _ k) (Eq.trans (ops_run _ _ _ _) (by kernel_rfl))
theorem r32 (N : Nat) (x0n : Bool) (x1_0 h0 : D) : runC PHI Tb72 N vf32.body (enterV vf32 [V.ms 0 x0n, V.fn 33 [V.f x1_0] [Ty.p 40]] [V.f h0]) (finish vf32) = m32_0 N x0n x1_0 h0 (fun h0 => finish vf32 .normal (s32_1 h0)) := 
  Eq.trans (runC_pre (s1 := (s32_0 x0n x1_0 h0)) (by kernel_rfl) _ _) (Eq.trans (e32_0 N (finish vf32) x0n x1_0 h0) (by kernel_rfl))
end
noncomputable def Tb32 : CallF := extendR Tb72 32 (fm0 33 [Ty.p 40] pr32_33 sp32_33_h0)
theorem fn32 (z : D) : finish vf32 .normal (s32_1 z) = some (.t [], [.f z]) := by kernel_rfl
theorem ok32 : FnOk Try.prog PHI Tb32 := FnOk.addm0 hPHI ok72 (by kernel_rfl) fun nn q h hp => by
  unfold pr32_33 at hp
  simp only [Bool.and_eq_true] at hp
  obtain ⟨h0, hq⟩ := hp
  obtain ⟨xs, rfl, hl⟩ := okA_eq h0
  refine ⟨1, (r32 _ nn q _).trans ?_⟩
  have s2 : pr72_33 (.i (xs.length : Int)) q (.sl xs) = true := by
    unfold pr72_33
    rw [h0, hq, eqb_t (show (D.i (xs.length : Int)).toI = ((D.sl xs).toL.length : Int) from rfl)]; rfl
  simp only [m32_0, toL_sl, s2, sp72_33_h0, stb_len (c33_c q), beq_same, Bool.and_self, cond_true]
  exact fn32 _
end Go.Vam.C14
namespace Go.Vam.C14
open Go.Proofs
def pr108_70 (a b n _q h : D) : Bool := okA h && (leb 0 a.toI && (leb 0 n.toI && (leb (a.toI + n.toI) b.toI && leb (b.toI + n.toI) (h.toL.length : Int))))
def sp108_70_h0 (a b n _q h : D) : D := .sl (swL h.toL a.toI.toNat b.toI.toNat n.toI.toNat)
section
variable {R : Type}
def m108_1 (N : Nat) (x0n : Bool) (x1 x2 x3 h0 : D) (K : Bool → D → D → D → D → D → Option R) : Option R :=
  K x0n x1 x2 x3 (D.i 0) h0
def s108_0 (x0n : Bool) (x1 x2 x3 h0 : D) : St := sts 38 [(0, V.ms 0 x0n), (1, V.f x1), (2, V.f x2), (3, V.f x3)] [V.f h0]
def s108_1 (x0n : Bool) (x1 x2 x3 x10 h0 : D) : St := sts 38 [(0, V.ms 0 x0n), (1, V.f x1), (2, V.f x2), (3, V.f x3), (10, V.f x10)] [V.f h0]
theorem e108_1 (N : Nat) (k : Kn R) (x0n : Bool) (x1 x2 x3 h0 : D) : runC PHI Tb32 N vc108_1 (s108_0 x0n x1 x2 x3 h0) k = m108_1 N x0n x1 x2 x3 h0 (fun x0n x1 x2 x3 x10 h0 => k .normal (s108_1 x0n x1 x2 x3 x10 h0)) := by
  refine Eq.trans (runC_post _ _ _ k) (Eq.trans (ops_run _ _ _ _) (by kernel_rfl))
def m108_4 (N : Nat) (x0n : Bool) (x1 x2 x3 x10 h0 : D) (K : Bool → D → D → D → D → D → Option R) (K0 : D → Option R) : Option R :=
  (bif (ltb x10.toI x3.toI) then (bif (inb (IntKind.i64.wrap (x2.toI + x10.toI)) h0.toL.length) then (bif (inb (IntKind.i64.wrap (x1.toI + x10.toI)) h0.toL.length) then (bif (inb (IntKind.i64.wrap (x1.toI + x10.toI)) h0.toL.length) then (bif (inb (IntKind.i64.wrap (x2.toI + x10.toI)) (D.setP [((IntKind.i64.wrap (x1.toI + x10.toI)) : Int).toNat] h0 (h0.at ((IntKind.i64.wrap (x2.toI + x10.toI)) : Int).toNat)).toL.length) then K x0n x1 x2 x3 (D.i (IntKind.i64.wrap (x10.toI + 1))) (D.setP [((IntKind.i64.wrap (x2.toI + x10.toI)) : Int).toNat] (D.setP [((IntKind.i64.wrap (x1.toI + x10.toI)) : Int).toNat] h0 (h0.at ((IntKind.i64.wrap (x2.toI + x10.toI)) : Int).toNat)) (h0.at ((IntKind.i64.wrap (x1.toI + x10.toI)) : Int).toNat)) else none) else none) else none) else none) else K0 h0)
def s108_2 (h0 : D) : St := sts 38 [] [V.f h0]
theorem e108_4 (N : Nat) (k : Kn R) (x0n : Bool) (x1 x2 x3 x10 h0 : D) : runC PHI Tb32 N vc108_4 (s108_1 x0n x1 x2 x3 x10 h0) k = m108_4 N x0n x1 x2 x3 x10 h0 (fun x0n x1 x2 x3 x10 h0 => k .normal (s108_1 x0n x1 x2 x3 x10 h0)) (fun h0 => k (.exit 0) (s108_2 h0)) := by kernel_rfl
def l108_3 (N : Nat) (j : Nat) (x0n : Bool) (x1 x2 x3 x10 h0 : D) (K0 : D → Option R) : Option R :=
  match j with
  | 0 => none
  | j + 1 => (m108_4 N x0n x1 x2 x3 x10 h0 (fun y0n y1 y2 y3 y10 h0 => l108_3 N j y0n y1 y2 y3 y10 h0 K0) K0)
def m108_3 (N : Nat) (x0n : Bool) (x1 x2 x3 x10 h0 : D) (K0 : D → Option R) : Option R :=
  l108_3 N N x0n x1 x2 x3 x10 h0 K0
theorem el108_3 (N : Nat) (k : Kn R) : ∀ (j : Nat) (x0n : Bool) (x1 x2 x3 x10 h0 : D), loopGo (runC PHI Tb32 N vc108_4) j (s108_1 x0n x1 x2 x3 x10 h0) k = l108_3 N j x0n x1 x2 x3 x10 h0 (fun h0 => k (.exit 0) (s108_2 h0))
  | 0, _, _, _, _, _, _ => by kernel_rfl
  | j + 1, x0n, x1, x2, x3, x10, h0 => by
    have h2 := e108_4 N (kloop PHI Tb32 N vc108_4 j k) x0n x1 x2 x3 x10 h0
    have h3 : (fun (y0n : Bool) (y1 y2 y3 y10 h0 : D) => (kloop PHI Tb32 N vc108_4 j k) .normal (s108_1 y0n y1 y2 y3 y10 h0)) = (fun (y0n : Bool) (y1 y2 y3 y10 h0 : D) => l108_3 N j y0n y1 y2 y3 y10 h0 (fun h0 => k (.exit 0) (s108_2 h0))) := funext fun y0n => funext fun y1 => funext fun y2 => funext fun y3 => funext fun y10 => funext fun h0 => (el108_3 N k j y0n y1 y2 y3 y10 h0)
    refine Eq.trans (loop_succ _ j _ k) (Eq.trans h2 (Eq.trans (congrArg (fun K => m108_4 N x0n x1 x2 x3 x10 h0 K (fun h0 => (kloop PHI Tb32 N vc108_4 j k) (.exit 0) (s108_2 h0))) h3) (by kernel_rfl)))
theorem e108_3 (N : Nat) (k : Kn R) (x0n : Bool) (x1 x2 x3 x10 h0 : D) : runC PHI Tb32 N vc108_3 (s108_1 x0n x1 x2 x3 x10 h0) k = m108_3 N x0n x1 x2 x3 x10 h0 (fun h0 => k (.exit 0) (s108_2 h0)) := by
  refine Eq.trans (runC_loop _ _ k) (Eq.trans (el108_3 N k N x0n x1 x2 x3 x10 h0) (by kernel_rfl))
def m108_2 (N : Nat) (x0n : Bool) (x1 x2 x3 x10 h0 : D) (K : D → Option R) : Option R :=
  (m108_3 N x0n x1 x2 x3 x10 h0 (fun h0 => K h0))
theorem e108_2 (N : Nat) (k : Kn R) (x0n : Bool) (x1 x2 x3 x10 h0 : D) : runC PHI Tb32 N vc108_2 (s108_1 x0n x1 x2 x3 x10 h0) k = m108_2 N x0n x1 x2 x3 x10 h0 (fun h0 => k .normal (s108_2 h0)) := by
  refine Eq.trans (runC_block _ _ _ k) (Eq.trans (e108_3 N (kblk 0 k) x0n x1 x2 x3 x10 h0) (by kernel_rfl))
def m108_0 (N : Nat) (x0n : Bool) (x1 x2 x3 h0 : D) (K : D → Option R) : Option R :=
  (m108_1 N x0n x1 x2 x3 h0 (fun y0n y1 y2 y3 y10 h0 => (m108_2 N y0n y1 y2 y3 y10 h0 (fun h0 => K h0))))
theorem e108_0 (N : Nat) (k : Kn R) (x0n : Bool) (x1 x2 x3 h0 : D) : runC PHI Tb32 N vc108_0 (s108_0 x0n x1 x2 x3 h0) k = m108_0 N x0n x1 x2 x3 h0 (fun h0 => k .normal (s108_2 h0)) := by
  have h2 := e108_1 N (kseq PHI Tb32 N vc108_2 k) x0n x1 x2 x3 h0
  have h3 := (funext fun y0n => funext fun y1 => funext fun y2 => funext fun y3 => funext fun y10 => funext fun h0 => (e108_2 N k y0n y1 y2 y3 y10 h0) : (fun (y0n : Bool) (y1 y2 y3 y10 h0 : D) => (kseq PHI Tb32 N vc108_2 k) .normal (s108_1 y0n y1 y2 y3 y10 h0)) = _)
  refine Eq.trans (runC_seq _ _ _ k) (Eq.trans h2 (Eq.trans (congrArg (fun K => m108_1 N x0n x1 x2 x3 h0 K) h3) (by kernel_rfl)))
theorem r108 (N : Nat) (x0n : Bool) (x1 x2 x3 x4_0 h0 : D) : runC PHI Tb32 N vf108.body (enterV vf108 [V.ms 0 x0n, V.f x1, V.f x2, V.f x3, V.fn 70 [V.f x4_0] [Ty.p 22]] [V.f h0]) (finish vf108) = m108_0 N x0n x1 x2 x3 h0 (fun h0 => finish vf108 .normal (s108_2 h0)) := 
  Eq.trans (runC_pre (s1 := (s108_0 x0n x1 x2 x3 h0)) (by kernel_rfl) _ _) (Eq.trans (e108_0 N (finish vf108) x0n x1 x2 x3 h0) (by kernel_rfl))
end
noncomputable def Tb108 : CallF := extendR Tb32 108 (fm3 70 [Ty.p 22] pr108_70 sp108_70_h0)
theorem l108 {R : Type} (N : Nat) (nn : Bool) (a b n : D) (A B M : Nat) (ha : a.toI = (A : Int)) (hb : b.toI = (B : Int)) (hn : n.toI = (M : Int)) (xs : List D) (hl : xs.length ≤ 1000000) (h1 : A + M ≤ B) (h2 : B + M ≤ xs.length) (K0 : D → Option R) : ∀ k i j, i + k = M → k < j → l108_3 N j nn a b n (.i (i : Int)) (.sl (swL xs A B i)) K0 = K0 (.sl (swL xs A B M))
  | _, _, 0, _, h => by omega
  | 0, i, j + 1, h, _ => by
    have : i = M := by omega
    subst this
    simp only [l108_3, m108_4, toI_i, hn, ltb_self, cond_false]
  | k + 1, i, j + 1, h, h' => by
    have hi : i < M := by omega
    have e1 : IntKind.i64.wrap (b.toI + (i : Int)) = ((B + i : Nat) : Int) := w64n (by omega) (by omega)
    have e2 : IntKind.i64.wrap (a.toI + (i : Int)) = ((A + i : Nat) : Int) := w64n (by omega) (by omega)
    have e3 : IntKind.i64.wrap ((i : Int) + 1) = ((i + 1 : Nat) : Int) := w64n (by omega) (by omega)
    have hs := sw_step (l := xs) (a := A) (b := B) (i := i) (by omega) (by omega)
    have i1 : inb ((B + i : Nat) : Int) xs.length = true := inb_t (by omega)
    have i2 : inb ((A + i : Nat) : Int) xs.length = true := inb_t (by omega)
    simp only [l108_3, m108_4, toI_i, hn, ltb_n hi, e1, e2, e3, cond_true, toL_sl, at_sl, setP_sl, List.length_set, swL_len, i1, i2, Int.toNat_natCast, hs]
    exact l108 N nn a b n A B M ha hb hn xs hl h1 h2 K0 k (i + 1) j (by omega) (by omega)
theorem ok108 : FnOk Try.prog PHI Tb108 := FnOk.addm3 hPHI ok32 (by kernel_rfl) fun nn a b n q h hp => by
  unfold pr108_70 at hp
  simp only [Bool.and_eq_true] at hp
  obtain ⟨h0, h1, h2, h3, h4⟩ := hp
  obtain ⟨xs, rfl, hl⟩ := okA_eq h0
  have h1 := leb_e h1
  have h2 := leb_e h2
  have h3 := leb_e h3
  have h4 := leb_e h4
  simp only [toL_sl] at h4
  refine ⟨n.toI.toNat + 1, (r108 _ nn a b n q _).trans ?_⟩
  have h := l108 (n.toI.toNat + 1) nn a b n a.toI.toNat b.toI.toNat n.toI.toNat (nat_of h1) (nat_of (by omega)) (nat_of h2) xs hl (by omega) (by omega) (fun h => finish vf108 .normal (s108_2 h)) n.toI.toNat 0 (n.toI.toNat + 1) (by omega) (by omega)
  rw [swL_zero] at h
  simp only [m108_0, m108_1, m108_2, m108_3]
  refine Eq.trans h ?_
  rfl
def pr106_70 (a m b _q h : D) : Bool := okA h && (leb 0 a.toI && (ltb a.toI m.toI && (ltb m.toI b.toI && leb b.toI (h.toL.length : Int))))
def sp106_70_h0 (a m b _q h : D) : D := .sl (rotL h.toL a.toI.toNat m.toI.toNat b.toI.toNat)
section
variable {R : Type}
def m106_1 (N : Nat) (x0n : Bool) (x1 x2 x3 x4_0 h0 : D) (K : Bool → D → D → D → D → D → Option R) : Option R :=
  K x0n x2 x3 x4_0 (D.i (IntKind.i64.wrap (x2.toI - x1.toI))) h0
def s106_0 (x0n : Bool) (x1 x2 x3 x4_0 h0 : D) : St := sts 58 [(0, V.ms 0 x0n), (1, V.f x1), (2, V.f x2), (3, V.f x3), (4, V.fn 70 [V.f x4_0] [Ty.p 22])] [V.f h0]
def s106_1 (x0n : Bool) (x2 x3 x4_0 x10 h0 : D) : St := sts 58 [(0, V.ms 0 x0n), (2, V.f x2), (3, V.f x3), (4, V.fn 70 [V.f x4_0] [Ty.p 22]), (10, V.f x10)] [V.f h0]
theorem e106_1 (N : Nat) (k : Kn R) (x0n : Bool) (x1 x2 x3 x4_0 h0 : D) : runC PHI Tb108 N vc106_1 (s106_0 x0n x1 x2 x3 x4_0 h0) k = m106_1 N x0n x1 x2 x3 x4_0 h0 (fun x0n x2 x3 x4_0 x10 h0 => k .normal (s106_1 x0n x2 x3 x4_0 x10 h0)) := by
  refine Eq.trans (runC_post _ _ _ k) (Eq.trans (ops_run _ _ _ _) (by kernel_rfl))
def m106_3 (N : Nat) (x0n : Bool) (x2 x3 x4_0 x10 h0 : D) (K : Bool → D → D → D → D → D → Option R) : Option R :=
  K x0n x2 x4_0 x10 (D.i (IntKind.i64.wrap (x3.toI - x2.toI))) h0
def s106_2 (x0n : Bool) (x2 x4_0 x10 x11 h0 : D) : St := sts 58 [(0, V.ms 0 x0n), (2, V.f x2), (4, V.fn 70 [V.f x4_0] [Ty.p 22]), (10, V.f x10), (11, V.f x11)] [V.f h0]
theorem e106_3 (N : Nat) (k : Kn R) (x0n : Bool) (x2 x3 x4_0 x10 h0 : D) : runC PHI Tb108 N vc106_3 (s106_1 x0n x2 x3 x4_0 x10 h0) k = m106_3 N x0n x2 x3 x4_0 x10 h0 (fun x0n x2 x4_0 x10 x11 h0 => k .normal (s106_2 x0n x2 x4_0 x10 x11 h0)) := by
  refine Eq.trans (runC_post _ _ _ k) (Eq.trans (ops_run _ _ _ _) (by kernel_rfl))
def m106_7 (N : Nat) (x0n : Bool) (x2 x4_0 x10 x11 h0 : D) (K : Bool → D → D → D → D → D → Option R) (K0 : Bool → D → D → D → D → Option R) : Option R :=
  (bif (!eqb x10.toI x11.toI) then (bif (ltb x11.toI x10.toI) then (bif ((pr108_70 (D.i (IntKind.i64.wrap (x2.toI - x10.toI))) x2 x11 x4_0 h0) && (Nat.beq h0.toL.length (sp108_70_h0 (D.i (IntKind.i64.wrap (x2.toI - x10.toI))) x2 x11 x4_0 h0).toL.length && true)) then K x0n x2 x4_0 (D.i (IntKind.i64.wrap (x10.toI - x11.toI))) x11 (sp108_70_h0 (D.i (IntKind.i64.wrap (x2.toI - x10.toI))) x2 x11 x4_0 h0) else none) else (bif ((pr108_70 (D.i (IntKind.i64.wrap (x2.toI - x10.toI))) (D.i (IntKind.i64.wrap ((IntKind.i64.wrap (x2.toI + x11.toI)) - x10.toI))) x10 x4_0 h0) && (Nat.beq h0.toL.length (sp108_70_h0 (D.i (IntKind.i64.wrap (x2.toI - x10.toI))) (D.i (IntKind.i64.wrap ((IntKind.i64.wrap (x2.toI + x11.toI)) - x10.toI))) x10 x4_0 h0).toL.length && true)) then K x0n x2 x4_0 x10 (D.i (IntKind.i64.wrap (x11.toI - x10.toI))) (sp108_70_h0 (D.i (IntKind.i64.wrap (x2.toI - x10.toI))) (D.i (IntKind.i64.wrap ((IntKind.i64.wrap (x2.toI + x11.toI)) - x10.toI))) x10 x4_0 h0) else none)) else K0 x0n x2 x4_0 x10 h0)
def s106_3 (x0n : Bool) (x2 x4_0 x10 h0 : D) : St := sts 58 [(0, V.ms 0 x0n), (2, V.f x2), (4, V.fn 70 [V.f x4_0] [Ty.p 22]), (10, V.f x10)] [V.f h0]
theorem e106_7 (N : Nat) (k : Kn R) (x0n : Bool) (x2 x4_0 x10 x11 h0 : D) : runC PHI Tb108 N vc106_7 (s106_2 x0n x2 x4_0 x10 x11 h0) k = m106_7 N x0n x2 x4_0 x10 x11 h0 (fun x0n x2 x4_0 x10 x11 h0 => k .normal (s106_2 x0n x2 x4_0 x10 x11 h0)) (fun x0n x2 x4_0 x10 h0 => k (.exit 0) (s106_3 x0n x2 x4_0 x10 h0)) := by kernel_rfl
def l106_6 (N : Nat) (j : Nat) (x0n : Bool) (x2 x4_0 x10 x11 h0 : D) (K0 : Bool → D → D → D → D → Option R) : Option R :=
  match j with
  | 0 => none
  | j + 1 => (m106_7 N x0n x2 x4_0 x10 x11 h0 (fun y0n y2 y4_0 y10 y11 h0 => l106_6 N j y0n y2 y4_0 y10 y11 h0 K0) K0)
def m106_6 (N : Nat) (x0n : Bool) (x2 x4_0 x10 x11 h0 : D) (K0 : Bool → D → D → D → D → Option R) : Option R :=
  l106_6 N N x0n x2 x4_0 x10 x11 h0 K0
theorem el106_6 (N : Nat) (k : Kn R) : ∀ (j : Nat) (x0n : Bool) (x2 x4_0 x10 x11 h0 : D), loopGo (runC PHI Tb108 N vc106_7) j (s106_2 x0n x2 x4_0 x10 x11 h0) k = l106_6 N j x0n x2 x4_0 x10 x11 h0 (fun x0n x2 x4_0 x10 h0 => k (.exit 0) (s106_3 x0n x2 x4_0 x10 h0))
  | 0, _, _, _, _, _, _ => by kernel_rfl
  | j + 1, x0n, x2, x4_0, x10, x11, h0 => by
    have h2 := e106_7 N (kloop PHI Tb108 N vc106_7 j k) x0n x2 x4_0 x10 x11 h0
    have h3 : (fun (y0n : Bool) (y2 y4_0 y10 y11 h0 : D) => (kloop PHI Tb108 N vc106_7 j k) .normal (s106_2 y0n y2 y4_0 y10 y11 h0)) = (fun (y0n : Bool) (y2 y4_0 y10 y11 h0 : D) => l106_6 N j y0n y2 y4_0 y10 y11 h0 (fun x0n x2 x4_0 x10 h0 => k (.exit 0) (s106_3 x0n x2 x4_0 x10 h0))) := funext fun y0n => funext fun y2 => funext fun y4_0 => funext fun y10 => funext fun y11 => funext fun h0 => (el106_6 N k j y0n y2 y4_0 y10 y11 h0)
    refine Eq.trans (loop_succ _ j _ k) (Eq.trans h2 (Eq.trans (congrArg (fun K => m106_7 N x0n x2 x4_0 x10 x11 h0 K (fun x0n x2 x4_0 x10 h0 => (kloop PHI Tb108 N vc106_7 j k) (.exit 0) (s106_3 x0n x2 x4_0 x10 h0))) h3) (by kernel_rfl)))
theorem e106_6 (N : Nat) (k : Kn R) (x0n : Bool) (x2 x4_0 x10 x11 h0 : D) : runC PHI Tb108 N vc106_6 (s106_2 x0n x2 x4_0 x10 x11 h0) k = m106_6 N x0n x2 x4_0 x10 x11 h0 (fun x0n x2 x4_0 x10 h0 => k (.exit 0) (s106_3 x0n x2 x4_0 x10 h0)) := by
  refine Eq.trans (runC_loop _ _ k) (Eq.trans (el106_6 N k N x0n x2 x4_0 x10 x11 h0) (by kernel_rfl))
def m106_5 (N : Nat) (x0n : Bool) (x2 x4_0 x10 x11 h0 : D) (K : Bool → D → D → D → D → Option R) : Option R :=
  (m106_6 N x0n x2 x4_0 x10 x11 h0 (fun y0n y2 y4_0 y10 h0 => K y0n y2 y4_0 y10 h0))
theorem e106_5 (N : Nat) (k : Kn R) (x0n : Bool) (x2 x4_0 x10 x11 h0 : D) : runC PHI Tb108 N vc106_5 (s106_2 x0n x2 x4_0 x10 x11 h0) k = m106_5 N x0n x2 x4_0 x10 x11 h0 (fun x0n x2 x4_0 x10 h0 => k .normal (s106_3 x0n x2 x4_0 x10 h0)) := by
  refine Eq.trans (runC_block _ _ _ k) (Eq.trans (e106_6 N (kblk 0 k) x0n x2 x4_0 x10 x11 h0) (by kernel_rfl))
def m106_23 (N : Nat) (x0n : Bool) (x2 x4_0 x10 h0 : D) (K : D → Option R) : Option R :=
  (bif ((pr108_70 (D.i (IntKind.i64.wrap (x2.toI - x10.toI))) x2 x10 x4_0 h0) && (Nat.beq h0.toL.length (sp108_70_h0 (D.i (IntKind.i64.wrap (x2.toI - x10.toI))) x2 x10 x4_0 h0).toL.length && true)) then K (sp108_70_h0 (D.i (IntKind.i64.wrap (x2.toI - x10.toI))) x2 x10 x4_0 h0) else none)
def s106_4 (h0 : D) : St := sts 58 [] [V.f h0]
theorem e106_23 (N : Nat) (k : Kn R) (x0n : Bool) (x2 x4_0 x10 h0 : D) : runC PHI Tb108 N vc106_23 (s106_3 x0n x2 x4_0 x10 h0) k = m106_23 N x0n x2 x4_0 x10 h0 (fun h0 => k .normal (s106_4 h0)) := by
  refine Eq.trans (runC_post _ _ _ k) (Eq.trans (ops_run _ _ _ _) (by kernel_rfl))
def m106_4 (N : Nat) (x0n : Bool) (x2 x4_0 x10 x11 h0 : D) (K : D → Option R) : Option R :=
  (m106_5 N x0n x2 x4_0 x10 x11 h0 (fun y0n y2 y4_0 y10 h0 => (m106_23 N y0n y2 y4_0 y10 h0 (fun h0 => K h0))))
theorem e106_4 (N : Nat) (k : Kn R) (x0n : Bool) (x2 x4_0 x10 x11 h0 : D) : runC PHI Tb108 N vc106_4 (s106_2 x0n x2 x4_0 x10 x11 h0) k = m106_4 N x0n x2 x4_0 x10 x11 h0 (fun h0 => k .normal (s106_4 h0)) := by
  have h2 := e106_5 N (kseq PHI Tb108 N vc106_23 k) x0n x2 x4_0 x10 x11 h0
  have h3 := (funext fun y0n => funext fun y2 => funext fun y4_0 => funext fun y10 => funext fun h0 => (e106_23 N k y0n y2 y4_0 y10 h0) : (fun (y0n : Bool) (y2 y4_0 y10 h0 : D) => (kseq PHI Tb108 N vc106_23 k) .normal (s106_3 y0n y2 y4_0 y10 h0)) = _)
  refine Eq.trans (runC_seq _ _ _ k) (Eq.trans h2 (Eq.trans (congrArg (fun K => m106_5 N x0n x2 x4_0 x10 x11 h0 K) h3) (by kernel_rfl)))
def m106_2 (N : Nat) (x0n : Bool) (x2 x3 x4_0 x10 h0 : D) (K : D → Option R) : Option R :=
  (m106_3 N x0n x2 x3 x4_0 x10 h0 (fun y0n y2 y4_0 y10 y11 h0 => (m106_4 N y0n y2 y4_0 y10 y11 h0 (fun h0 => K h0))))
theorem e106_2 (N : Nat) (k : Kn R) (x0n : Bool) (x2 x3 x4_0 x10 h0 : D) : runC PHI Tb108 N vc106_2 (s106_1 x0n x2 x3 x4_0 x10 h0) k = m106_2 N x0n x2 x3 x4_0 x10 h0 (fun h0 => k .normal (s106_4 h0)) := by
  have h2 := e106_3 N (kseq PHI Tb108 N vc106_4 k) x0n x2 x3 x4_0 x10 h0
  have h3 := (funext fun y0n => funext fun y2 => funext fun y4_0 => funext fun y10 => funext fun y11 => funext fun h0 => (e106_4 N k y0n y2 y4_0 y10 y11 h0) : (fun (y0n : Bool) (y2 y4_0 y10 y11 h0 : D) => (kseq PHI Tb108 N vc106_4 k) .normal (s106_2 y0n y2 y4_0 y10 y11 h0)) = _)
  refine Eq.trans (runC_seq _ _ _ k) (Eq.trans h2 (Eq.trans (congrArg (fun K => m106_3 N x0n x2 x3 x4_0 x10 h0 K) h3) (by kernel_rfl)))
def m106_0 (N : Nat) (x0n : Bool) (x1 x2 x3 x4_0 h0 : D) (K : D → Option R) : Option R :=
  (m106_1 N x0n x1 x2 x3 x4_0 h0 (fun y0n y2 y3 y4_0 y10 h0 => (m106_2 N y0n y2 y3 y4_0 y10 h0 (fun h0 => K h0))))
theorem e106_0 (N : Nat) (k : Kn R) (x0n : Bool) (x1 x2 x3 x4_0 h0 : D) : runC PHI Tb108 N vc106_0 (s106_0 x0n x1 x2 x3 x4_0 h0) k = m106_0 N x0n x1 x2 x3 x4_0 h0 (fun h0 => k .normal (s106_4 h0)) := by
  have h2 := e106_1 N (kseq PHI Tb108 N vc106_2 k) x0n x1 x2 x3 x4_0 h0
  have h3 := (funext fun y0n => funext fun y2 => funext fun y3 => funext fun y4_0 => funext fun y10 => funext fun h0 => (e106_2 N k y0n y2 y3 y4_0 y10 h0) : (fun (y0n : Bool) (y2 y3 y4_0 y10 h0 : D) => (kseq PHI Tb108 N vc106_2 k) .normal (s106_1 y0n y2 y3 y4_0 y10 h0)) = _)
  refine Eq.trans (runC_seq _ _ _ k) (Eq.trans h2 (Eq.trans (congrArg (fun K => m106_1 N x0n x1 x2 x3 x4_0 h0 K) h3) (by kernel_rfl)))
theorem r106 (N : Nat) (x0n : Bool) (x1 x2 x3 x4_0 h0 : D) : runC PHI Tb108 N vf106.body (enterV vf106 [V.ms 0 x0n, V.f x1, V.f x2, V.f x3, V.fn 70 [V.f x4_0] [Ty.p 22]] [V.f h0]) (finish vf106) = m106_0 N x0n x1 x2 x3 x4_0 h0 (fun h0 => finish vf106 .normal (s106_4 h0)) := 
  Eq.trans (runC_pre (s1 := (s106_0 x0n x1 x2 x3 x4_0 h0)) (by kernel_rfl) _ _) (Eq.trans (e106_0 N (finish vf106) x0n x1 x2 x3 x4_0 h0) (by kernel_rfl))
end
noncomputable def Tb106 : CallF := extendR Tb108 106 (fm3 70 [Ty.p 22] pr106_70 sp106_70_h0)
theorem sp108_e (a b n q : D) (A B M : Nat) (ha : a.toI = (A : Int)) (hb : b.toI = (B : Int)) (hn : n.toI = (M : Int)) (xs : List D) (hl : xs.length ≤ 1000000) (h1 : A + M ≤ B) (h2 : B + M ≤ xs.length) : sp108_70_h0 a b n q (.sl xs) = .sl (swL xs A B M) ∧ pr108_70 a b n q (.sl xs) = true := by
  unfold sp108_70_h0 pr108_70 okA
  rw [ha, hb, hn]
  simp only [Int.toNat_natCast, toL_sl, isSl, Bool.true_and]
  refine ⟨trivial, ?_⟩
  rw [leb_t (by omega), leb_t (by omega), leb_t (by omega), leb_t (by omega), leb_t (by omega)]; rfl
theorem l106 {R : Type} (N : Nat) (nn : Bool) (m q : D) (M : Nat) (hm : m.toI = (M : Int)) (K0 : Bool → D → D → D → D → Option R) (K : Option R) : ∀ (f i j J : Nat) (xs : List D), i + j ≤ f → f < J → 0 < i → 0 < j → i ≤ M → M + j ≤ xs.length → xs.length ≤ 1000000 →
    (∀ i' ys, i' ≤ M → M + i' ≤ ys.length → ys.length = xs.length → rotL ys (M - i') M (M + i') = rotL xs (M - i) M (M + j) → 0 < i' → K0 nn m q (.i (i' : Int)) (.sl ys) = K) →
    l106_6 N J nn m q (.i (i : Int)) (.i (j : Int)) (.sl xs) K0 = K
  | _, _, _, 0, _, _, h, _, _, _, _, _, _ => by omega
  | 0, i, j, J + 1, xs, h, _, hi, _, _, _, _, _ => by omega
  | f + 1, i, j, J + 1, xs, h, h', hi, hj, him, hl, hl2, hK => by
    by_cases hij : i = j
    · subst hij
      simp only [l106_6, m106_7, toI_i, eqb_t rfl, Bool.not_true, cond_false]
      exact hK i xs him hl rfl rfl hi
    · have hne : eqb (i : Int) (j : Int) = false := eqb_f (by omega)
      have e0 : IntKind.i64.wrap (m.toI - (i : Int)) = ((M - i : Nat) : Int) := w64n (by omega) (by omega)
      rcases Nat.lt_or_ge j i with hlt | hge
      · obtain ⟨s1, s2⟩ := sp108_e (.i ((M - i : Nat) : Int)) m (.i (j : Int)) q (M - i) M j rfl hm rfl xs hl2 (by omega) (by omega)
        have e1 : IntKind.i64.wrap ((i : Int) - (j : Int)) = ((i - j : Nat) : Int) := w64n (by omega) (by omega)
        simp only [l106_6, m106_7, toI_i, hne, Bool.not_false, cond_true, ltb_n hlt, e0, e1, s1, s2, toL_sl, swL_len, beq_same, Bool.and_self]
        refine l106 N nn m q M hm K0 K f (i - j) j J (swL xs (M - i) M j) (by omega) (by omega) (by omega) hj (by omega) (by rw [swL_len]; omega) (by rw [swL_len]; omega) fun i' ys p1 p2 p3 p4 p5 => ?_
        exact hK i' ys p1 p2 (by rw [p3, swL_len]) (by rw [p4]; exact rot_sw1 hlt him hl) p5
      · obtain ⟨s1, s2⟩ := sp108_e (.i ((M - i : Nat) : Int)) (.i ((M + j - i : Nat) : Int)) (.i (i : Int)) q (M - i) (M + j - i) i rfl rfl rfl xs hl2 (by omega) (by omega)
        have hlt : ltb (j : Int) (i : Int) = false := ltb_f (by omega)
        have e1 : IntKind.i64.wrap ((j : Int) - (i : Int)) = ((j - i : Nat) : Int) := w64n (by omega) (by omega)
        have e2 : IntKind.i64.wrap (IntKind.i64.wrap (m.toI + (j : Int)) - (i : Int)) = ((M + j - i : Nat) : Int) := by
          rw [w64n (a := m.toI + (j : Int)) (n := M + j) (by omega) (by omega)]
          exact w64n (by omega) (by omega)
        simp only [l106_6, m106_7, toI_i, hne, Bool.not_false, cond_true, cond_false, hlt, e0, e1, e2, s1, s2, toL_sl, swL_len, beq_same, Bool.and_self]
        refine l106 N nn m q M hm K0 K f i (j - i) J (swL xs (M - i) (M + j - i) i) (by omega) (by omega) hi (by omega) him (by rw [swL_len]; omega) (by rw [swL_len]; omega) fun i' ys p1 p2 p3 p4 p5 => ?_
        exact hK i' ys p1 p2 (by rw [p3, swL_len]) (by rw [p4]; exact rot_sw2 (by omega) him hl) p5
theorem ok106 : FnOk Try.prog PHI Tb106 := FnOk.addm3 hPHI ok108 (by kernel_rfl) fun nn a m b q h hp => by
  unfold pr106_70 at hp
  simp only [Bool.and_eq_true] at hp
  obtain ⟨h0, h1, h2, h3, h4⟩ := hp
  obtain ⟨xs, rfl, hl⟩ := okA_eq h0
  have h1 := leb_e h1
  have h2 : a.toI < m.toI := of_decide_eq_true h2
  have h3 : m.toI < b.toI := of_decide_eq_true h3
  have h4 := leb_e h4
  simp only [toL_sl] at h4
  obtain ⟨A, hA⟩ := Int.eq_ofNat_of_zero_le h1
  obtain ⟨M, hM⟩ := Int.eq_ofNat_of_zero_le (show 0 ≤ m.toI by omega)
  obtain ⟨B, hB⟩ := Int.eq_ofNat_of_zero_le (show 0 ≤ b.toI by omega)
  refine ⟨B - A + 1, (r106 _ nn a m b q _).trans ?_⟩
  have e1 : IntKind.i64.wrap (m.toI - a.toI) = ((M - A : Nat) : Int) := w64n (by omega) (by omega)
  have e2 : IntKind.i64.wrap (b.toI - m.toI) = ((B - M : Nat) : Int) := w64n (by omega) (by omega)
  simp only [m106_0, m106_1, m106_2, m106_3, m106_4, m106_5, m106_6, m106_23, e1, e2]
  refine l106 (B - A + 1) nn m q M hM _ _ (B - A) (M - A) (B - M) (B - A + 1) xs (by omega) (by omega) (by omega) (by omega) (by omega) (by omega) hl fun i' ys p1 p2 p3 p4 p5 => ?_
  have e0 : IntKind.i64.wrap (m.toI - (i' : Int)) = ((M - i' : Nat) : Int) := w64n (by omega) (by omega)
  obtain ⟨s1, s2⟩ := sp108_e (.i ((M - i' : Nat) : Int)) m (.i (i' : Int)) q (M - i') M i' rfl hM rfl ys (by omega) (by omega) (by omega)
  simp only [toI_i, e0, s1, s2, toL_sl, swL_len, beq_same, Bool.and_self, cond_true]
  rw [rot_sw3 p1 p2, p4]
  have q1 : M - (M - A) = A := by omega
  have q2 : M + (B - M) = B := by omega
  rw [q1, q2]
  unfold sp106_70_h0
  rw [hA, hM, hB]
  rfl
def c70 (q x y : D) : Int := sp70 x y q
theorem c70_c (q : D) : Cmp (c70 q) := cmp70 q
def pr102_70 (a b q h : D) : Bool := okA h && (isPtrD q && (leb 0 a.toI && (leb a.toI b.toI && leb b.toI (h.toL.length : Int))))
def sp102_70_h0 (a b q h : D) : D := .sl (srtSeg (c70 q) h.toL a.toI.toNat b.toI.toNat)
section
variable {R : Type}
def m102_1 (N : Nat) (x0n : Bool) (x1 x2 x3_0 h0 : D) (K : Bool → D → D → D → D → D → Option R) : Option R :=
  K x0n x1 x2 x3_0 (D.i (IntKind.i64.wrap (x1.toI + 1))) h0
def s102_0 (x0n : Bool) (x1 x2 x3_0 h0 : D) : St := sts 53 [(0, V.ms 0 x0n), (1, V.f x1), (2, V.f x2), (3, V.fn 70 [V.f x3_0] [Ty.p 22])] [V.f h0]
def s102_1 (x0n : Bool) (x1 x2 x3_0 x8 h0 : D) : St := sts 53 [(0, V.ms 0 x0n), (1, V.f x1), (2, V.f x2), (3, V.fn 70 [V.f x3_0] [Ty.p 22]), (8, V.f x8)] [V.f h0]
theorem e102_1 (N : Nat) (k : Kn R) (x0n : Bool) (x1 x2 x3_0 h0 : D) : runC PHI Tb106 N vc102_1 (s102_0 x0n x1 x2 x3_0 h0) k = m102_1 N x0n x1 x2 x3_0 h0 (fun x0n x1 x2 x3_0 x8 h0 => k .normal (s102_1 x0n x1 x2 x3_0 x8 h0)) := by
  refine Eq.trans (runC_post _ _ _ k) (Eq.trans (ops_run _ _ _ _) (by kernel_rfl))
def m102_5 (N : Nat) (x0n : Bool) (x1 x2 x3_0 x8 h0 : D) (K : Bool → D → D → D → D → D → Option R) (K0 : D → Option R) : Option R :=
  (bif (ltb x8.toI x2.toI) then K x0n x1 x2 x3_0 x8 h0 else K0 h0)
def s102_2 (h0 : D) : St := sts 53 [] [V.f h0]
theorem e102_5 (N : Nat) (k : Kn R) (x0n : Bool) (x1 x2 x3_0 x8 h0 : D) : runC PHI Tb106 N vc102_5 (s102_1 x0n x1 x2 x3_0 x8 h0) k = m102_5 N x0n x1 x2 x3_0 x8 h0 (fun x0n x1 x2 x3_0 x8 h0 => k .normal (s102_1 x0n x1 x2 x3_0 x8 h0)) (fun h0 => k (.exit 0) (s102_2 h0)) := by kernel_rfl
def m102_13 (N : Nat) (x0n : Bool) (x1 x2 x3_0 x8 h0 : D) (K : Bool → D → D → D → D → D → D → Option R) : Option R :=
  K x0n x1 x2 x3_0 x8 x8 h0
def s102_3 (x0n : Bool) (x1 x2 x3_0 x8 x9 h0 : D) : St := sts 53 [(0, V.ms 0 x0n), (1, V.f x1), (2, V.f x2), (3, V.fn 70 [V.f x3_0] [Ty.p 22]), (8, V.f x8), (9, V.f x9)] [V.f h0]
theorem e102_13 (N : Nat) (k : Kn R) (x0n : Bool) (x1 x2 x3_0 x8 h0 : D) : runC PHI Tb106 N vc102_13 (s102_1 x0n x1 x2 x3_0 x8 h0) k = m102_13 N x0n x1 x2 x3_0 x8 h0 (fun x0n x1 x2 x3_0 x8 x9 h0 => k .normal (s102_3 x0n x1 x2 x3_0 x8 x9 h0)) := by
  refine Eq.trans (runC_post _ _ _ k) (Eq.trans (ops_run _ _ _ _) (by kernel_rfl))
def m102_16 (N : Nat) (x0n : Bool) (x1 x2 x3_0 x8 x9 h0 : D) (K : Bool → D → D → D → D → D → D → Option R) (K2 : Bool → D → D → D → D → D → Option R) : Option R :=
  (bif (ltb x1.toI x9.toI) then (bif (inb x9.toI h0.toL.length) then (bif (inb (IntKind.i64.wrap (x9.toI - 1)) h0.toL.length) then (bif (pr70 (h0.at (x9.toI : Int).toNat) (h0.at ((IntKind.i64.wrap (x9.toI - 1)) : Int).toNat) x3_0) then (bif (ltb (sp70 (h0.at (x9.toI : Int).toNat) (h0.at ((IntKind.i64.wrap (x9.toI - 1)) : Int).toNat) x3_0) 0) then (bif (inb (IntKind.i64.wrap (x9.toI - 1)) h0.toL.length) then (bif (inb x9.toI h0.toL.length) then (bif (inb x9.toI h0.toL.length) then (bif (inb (IntKind.i64.wrap (x9.toI - 1)) (D.setP [(x9.toI : Int).toNat] h0 (h0.at ((IntKind.i64.wrap (x9.toI - 1)) : Int).toNat)).toL.length) then K x0n x1 x2 x3_0 x8 (D.i (IntKind.i64.wrap (x9.toI - 1))) (D.setP [((IntKind.i64.wrap (x9.toI - 1)) : Int).toNat] (D.setP [(x9.toI : Int).toNat] h0 (h0.at ((IntKind.i64.wrap (x9.toI - 1)) : Int).toNat)) (h0.at (x9.toI : Int).toNat)) else none) else none) else none) else none) else K2 x0n x1 x2 x3_0 x8 h0) else none) else none) else none) else (bif false then (bif (inb (IntKind.i64.wrap (x9.toI - 1)) h0.toL.length) then (bif (inb x9.toI h0.toL.length) then (bif (inb x9.toI h0.toL.length) then (bif (inb (IntKind.i64.wrap (x9.toI - 1)) (D.setP [(x9.toI : Int).toNat] h0 (h0.at ((IntKind.i64.wrap (x9.toI - 1)) : Int).toNat)).toL.length) then K x0n x1 x2 x3_0 x8 (D.i (IntKind.i64.wrap (x9.toI - 1))) (D.setP [((IntKind.i64.wrap (x9.toI - 1)) : Int).toNat] (D.setP [(x9.toI : Int).toNat] h0 (h0.at ((IntKind.i64.wrap (x9.toI - 1)) : Int).toNat)) (h0.at (x9.toI : Int).toNat)) else none) else none) else none) else none) else K2 x0n x1 x2 x3_0 x8 h0))
theorem e102_16 (N : Nat) (k : Kn R) (x0n : Bool) (x1 x2 x3_0 x8 x9 h0 : D) : runC PHI Tb106 N vc102_16 (s102_3 x0n x1 x2 x3_0 x8 x9 h0) k = m102_16 N x0n x1 x2 x3_0 x8 x9 h0 (fun x0n x1 x2 x3_0 x8 x9 h0 => k .normal (s102_3 x0n x1 x2 x3_0 x8 x9 h0)) (fun x0n x1 x2 x3_0 x8 h0 => k (.exit 2) (s102_1 x0n x1 x2 x3_0 x8 h0)) := by kernel_rfl
def l102_15 (N : Nat) (j : Nat) (x0n : Bool) (x1 x2 x3_0 x8 x9 h0 : D) (K2 : Bool → D → D → D → D → D → Option R) : Option R :=
  match j with
  | 0 => none
  | j + 1 => (m102_16 N x0n x1 x2 x3_0 x8 x9 h0 (fun y0n y1 y2 y3_0 y8 y9 h0 => l102_15 N j y0n y1 y2 y3_0 y8 y9 h0 K2) K2)
def m102_15 (N : Nat) (x0n : Bool) (x1 x2 x3_0 x8 x9 h0 : D) (K2 : Bool → D → D → D → D → D → Option R) : Option R :=
  l102_15 N N x0n x1 x2 x3_0 x8 x9 h0 K2
theorem el102_15 (N : Nat) (k : Kn R) : ∀ (j : Nat) (x0n : Bool) (x1 x2 x3_0 x8 x9 h0 : D), loopGo (runC PHI Tb106 N vc102_16) j (s102_3 x0n x1 x2 x3_0 x8 x9 h0) k = l102_15 N j x0n x1 x2 x3_0 x8 x9 h0 (fun x0n x1 x2 x3_0 x8 h0 => k (.exit 2) (s102_1 x0n x1 x2 x3_0 x8 h0))
  | 0, _, _, _, _, _, _, _ => by kernel_rfl
  | j + 1, x0n, x1, x2, x3_0, x8, x9, h0 => by
    have h2 := e102_16 N (kloop PHI Tb106 N vc102_16 j k) x0n x1 x2 x3_0 x8 x9 h0
    have h3 : (fun (y0n : Bool) (y1 y2 y3_0 y8 y9 h0 : D) => (kloop PHI Tb106 N vc102_16 j k) .normal (s102_3 y0n y1 y2 y3_0 y8 y9 h0)) = (fun (y0n : Bool) (y1 y2 y3_0 y8 y9 h0 : D) => l102_15 N j y0n y1 y2 y3_0 y8 y9 h0 (fun x0n x1 x2 x3_0 x8 h0 => k (.exit 2) (s102_1 x0n x1 x2 x3_0 x8 h0))) := funext fun y0n => funext fun y1 => funext fun y2 => funext fun y3_0 => funext fun y8 => funext fun y9 => funext fun h0 => (el102_15 N k j y0n y1 y2 y3_0 y8 y9 h0)
    refine Eq.trans (loop_succ _ j _ k) (Eq.trans h2 (Eq.trans (congrArg (fun K => m102_16 N x0n x1 x2 x3_0 x8 x9 h0 K (fun x0n x1 x2 x3_0 x8 h0 => (kloop PHI Tb106 N vc102_16 j k) (.exit 2) (s102_1 x0n x1 x2 x3_0 x8 h0))) h3) (by kernel_rfl)))
theorem e102_15 (N : Nat) (k : Kn R) (x0n : Bool) (x1 x2 x3_0 x8 x9 h0 : D) : runC PHI Tb106 N vc102_15 (s102_3 x0n x1 x2 x3_0 x8 x9 h0) k = m102_15 N x0n x1 x2 x3_0 x8 x9 h0 (fun x0n x1 x2 x3_0 x8 h0 => k (.exit 2) (s102_1 x0n x1 x2 x3_0 x8 h0)) := by
  refine Eq.trans (runC_loop _ _ k) (Eq.trans (el102_15 N k N x0n x1 x2 x3_0 x8 x9 h0) (by kernel_rfl))
def m102_14 (N : Nat) (x0n : Bool) (x1 x2 x3_0 x8 x9 h0 : D) (K : Bool → D → D → D → D → D → Option R) : Option R :=
  (m102_15 N x0n x1 x2 x3_0 x8 x9 h0 (fun y0n y1 y2 y3_0 y8 h0 => K y0n y1 y2 y3_0 y8 h0))
theorem e102_14 (N : Nat) (k : Kn R) (x0n : Bool) (x1 x2 x3_0 x8 x9 h0 : D) : runC PHI Tb106 N vc102_14 (s102_3 x0n x1 x2 x3_0 x8 x9 h0) k = m102_14 N x0n x1 x2 x3_0 x8 x9 h0 (fun x0n x1 x2 x3_0 x8 h0 => k .normal (s102_1 x0n x1 x2 x3_0 x8 h0)) := by
  refine Eq.trans (runC_block _ _ _ k) (Eq.trans (e102_15 N (kblk 2 k) x0n x1 x2 x3_0 x8 x9 h0) (by kernel_rfl))
def m102_12 (N : Nat) (x0n : Bool) (x1 x2 x3_0 x8 h0 : D) (K : Bool → D → D → D → D → D → Option R) : Option R :=
  (m102_13 N x0n x1 x2 x3_0 x8 h0 (fun y0n y1 y2 y3_0 y8 y9 h0 => (m102_14 N y0n y1 y2 y3_0 y8 y9 h0 (fun y0n y1 y2 y3_0 y8 h0 => K y0n y1 y2 y3_0 y8 h0))))
theorem e102_12 (N : Nat) (k : Kn R) (x0n : Bool) (x1 x2 x3_0 x8 h0 : D) : runC PHI Tb106 N vc102_12 (s102_1 x0n x1 x2 x3_0 x8 h0) k = m102_12 N x0n x1 x2 x3_0 x8 h0 (fun x0n x1 x2 x3_0 x8 h0 => k .normal (s102_1 x0n x1 x2 x3_0 x8 h0)) := by
  have h2 := e102_13 N (kseq PHI Tb106 N vc102_14 k) x0n x1 x2 x3_0 x8 h0
  have h3 := (funext fun y0n => funext fun y1 => funext fun y2 => funext fun y3_0 => funext fun y8 => funext fun y9 => funext fun h0 => (e102_14 N k y0n y1 y2 y3_0 y8 y9 h0) : (fun (y0n : Bool) (y1 y2 y3_0 y8 y9 h0 : D) => (kseq PHI Tb106 N vc102_14 k) .normal (s102_3 y0n y1 y2 y3_0 y8 y9 h0)) = _)
  refine Eq.trans (runC_seq _ _ _ k) (Eq.trans h2 (Eq.trans (congrArg (fun K => m102_13 N x0n x1 x2 x3_0 x8 h0 K) h3) (by kernel_rfl)))
def m102_11 (N : Nat) (x0n : Bool) (x1 x2 x3_0 x8 h0 : D) (K : Bool → D → D → D → D → D → Option R) : Option R :=
  (m102_12 N x0n x1 x2 x3_0 x8 h0 (fun y0n y1 y2 y3_0 y8 h0 => K y0n y1 y2 y3_0 y8 h0))
theorem e102_11 (N : Nat) (k : Kn R) (x0n : Bool) (x1 x2 x3_0 x8 h0 : D) : runC PHI Tb106 N vc102_11 (s102_1 x0n x1 x2 x3_0 x8 h0) k = m102_11 N x0n x1 x2 x3_0 x8 h0 (fun x0n x1 x2 x3_0 x8 h0 => k .normal (s102_1 x0n x1 x2 x3_0 x8 h0)) := by
  refine Eq.trans (runC_block _ _ _ k) (Eq.trans (e102_12 N (kblk 1 k) x0n x1 x2 x3_0 x8 h0) (by kernel_rfl))
def m102_26 (N : Nat) (x0n : Bool) (x1 x2 x3_0 x8 h0 : D) (K : Bool → D → D → D → D → D → Option R) : Option R :=
  K x0n x1 x2 x3_0 (D.i (IntKind.i64.wrap (x8.toI + 1))) h0
theorem e102_26 (N : Nat) (k : Kn R) (x0n : Bool) (x1 x2 x3_0 x8 h0 : D) : runC PHI Tb106 N vc102_26 (s102_1 x0n x1 x2 x3_0 x8 h0) k = m102_26 N x0n x1 x2 x3_0 x8 h0 (fun x0n x1 x2 x3_0 x8 h0 => k .normal (s102_1 x0n x1 x2 x3_0 x8 h0)) := by
  refine Eq.trans (runC_post _ _ _ k) (Eq.trans (ops_run _ _ _ _) (by kernel_rfl))
def m102_10 (N : Nat) (x0n : Bool) (x1 x2 x3_0 x8 h0 : D) (K : Bool → D → D → D → D → D → Option R) : Option R :=
  (m102_11 N x0n x1 x2 x3_0 x8 h0 (fun y0n y1 y2 y3_0 y8 h0 => (m102_26 N y0n y1 y2 y3_0 y8 h0 (fun y0n y1 y2 y3_0 y8 h0 => K y0n y1 y2 y3_0 y8 h0))))
theorem e102_10 (N : Nat) (k : Kn R) (x0n : Bool) (x1 x2 x3_0 x8 h0 : D) : runC PHI Tb106 N vc102_10 (s102_1 x0n x1 x2 x3_0 x8 h0) k = m102_10 N x0n x1 x2 x3_0 x8 h0 (fun x0n x1 x2 x3_0 x8 h0 => k .normal (s102_1 x0n x1 x2 x3_0 x8 h0)) := by
  have h2 := e102_11 N (kseq PHI Tb106 N vc102_26 k) x0n x1 x2 x3_0 x8 h0
  have h3 := (funext fun y0n => funext fun y1 => funext fun y2 => funext fun y3_0 => funext fun y8 => funext fun h0 => (e102_26 N k y0n y1 y2 y3_0 y8 h0) : (fun (y0n : Bool) (y1 y2 y3_0 y8 h0 : D) => (kseq PHI Tb106 N vc102_26 k) .normal (s102_1 y0n y1 y2 y3_0 y8 h0)) = _)
  refine Eq.trans (runC_seq _ _ _ k) (Eq.trans h2 (Eq.trans (congrArg (fun K => m102_11 N x0n x1 x2 x3_0 x8 h0 K) h3) (by kernel_rfl)))
def m102_4 (N : Nat) (x0n : Bool) (x1 x2 x3_0 x8 h0 : D) (K : Bool → D → D → D → D → D → Option R) (K0 : D → Option R) : Option R :=
  (m102_5 N x0n x1 x2 x3_0 x8 h0 (fun y0n y1 y2 y3_0 y8 h0 => (m102_10 N y0n y1 y2 y3_0 y8 h0 (fun y0n y1 y2 y3_0 y8 h0 => K y0n y1 y2 y3_0 y8 h0))) K0)
theorem e102_4 (N : Nat) (k : Kn R) (x0n : Bool) (x1 x2 x3_0 x8 h0 : D) : runC PHI Tb106 N vc102_4 (s102_1 x0n x1 x2 x3_0 x8 h0) k = m102_4 N x0n x1 x2 x3_0 x8 h0 (fun x0n x1 x2 x3_0 x8 h0 => k .normal (s102_1 x0n x1 x2 x3_0 x8 h0)) (fun h0 => k (.exit 0) (s102_2 h0)) := by
  have h2 := e102_5 N (kseq PHI Tb106 N vc102_10 k) x0n x1 x2 x3_0 x8 h0
  have h3 := (funext fun y0n => funext fun y1 => funext fun y2 => funext fun y3_0 => funext fun y8 => funext fun h0 => (e102_10 N k y0n y1 y2 y3_0 y8 h0) : (fun (y0n : Bool) (y1 y2 y3_0 y8 h0 : D) => (kseq PHI Tb106 N vc102_10 k) .normal (s102_1 y0n y1 y2 y3_0 y8 h0)) = _)
  refine Eq.trans (runC_seq _ _ _ k) (Eq.trans h2 (Eq.trans (congrArg (fun K => m102_5 N x0n x1 x2 x3_0 x8 h0 K (fun h0 => (kseq PHI Tb106 N vc102_10 k) (.exit 0) (s102_2 h0))) h3) (by kernel_rfl)))
def l102_3 (N : Nat) (j : Nat) (x0n : Bool) (x1 x2 x3_0 x8 h0 : D) (K0 : D → Option R) : Option R :=
  match j with
  | 0 => none
  | j + 1 => (m102_4 N x0n x1 x2 x3_0 x8 h0 (fun y0n y1 y2 y3_0 y8 h0 => l102_3 N j y0n y1 y2 y3_0 y8 h0 K0) K0)
def m102_3 (N : Nat) (x0n : Bool) (x1 x2 x3_0 x8 h0 : D) (K0 : D → Option R) : Option R :=
  l102_3 N N x0n x1 x2 x3_0 x8 h0 K0
theorem el102_3 (N : Nat) (k : Kn R) : ∀ (j : Nat) (x0n : Bool) (x1 x2 x3_0 x8 h0 : D), loopGo (runC PHI Tb106 N vc102_4) j (s102_1 x0n x1 x2 x3_0 x8 h0) k = l102_3 N j x0n x1 x2 x3_0 x8 h0 (fun h0 => k (.exit 0) (s102_2 h0))
  | 0, _, _, _, _, _, _ => by kernel_rfl
  | j + 1, x0n, x1, x2, x3_0, x8, h0 => by
    have h2 := e102_4 N (kloop PHI Tb106 N vc102_4 j k) x0n x1 x2 x3_0 x8 h0
    have h3 : (fun (y0n : Bool) (y1 y2 y3_0 y8 h0 : D) => (kloop PHI Tb106 N vc102_4 j k) .normal (s102_1 y0n y1 y2 y3_0 y8 h0)) = (fun (y0n : Bool) (y1 y2 y3_0 y8 h0 : D) => l102_3 N j y0n y1 y2 y3_0 y8 h0 (fun h0 => k (.exit 0) (s102_2 h0))) := funext fun y0n => funext fun y1 => funext fun y2 => funext fun y3_0 => funext fun y8 => funext fun h0 => (el102_3 N k j y0n y1 y2 y3_0 y8 h0)
    refine Eq.trans (loop_succ _ j _ k) (Eq.trans h2 (Eq.trans (congrArg (fun K => m102_4 N x0n x1 x2 x3_0 x8 h0 K (fun h0 => (kloop PHI Tb106 N vc102_4 j k) (.exit 0) (s102_2 h0))) h3) (by kernel_rfl)))
theorem e102_3 (N : Nat) (k : Kn R) (x0n : Bool) (x1 x2 x3_0 x8 h0 : D) : runC PHI Tb106 N vc102_3 (s102_1 x0n x1 x2 x3_0 x8 h0) k = m102_3 N x0n x1 x2 x3_0 x8 h0 (fun h0 => k (.exit 0) (s102_2 h0)) := by
  refine Eq.trans (runC_loop _ _ k) (Eq.trans (el102_3 N k N x0n x1 x2 x3_0 x8 h0) (by kernel_rfl))
def m102_2 (N : Nat) (x0n : Bool) (x1 x2 x3_0 x8 h0 : D) (K : D → Option R) : Option R :=
  (m102_3 N x0n x1 x2 x3_0 x8 h0 (fun h0 => K h0))
theorem e102_2 (N : Nat) (k : Kn R) (x0n : Bool) (x1 x2 x3_0 x8 h0 : D) : runC PHI Tb106 N vc102_2 (s102_1 x0n x1 x2 x3_0 x8 h0) k = m102_2 N x0n x1 x2 x3_0 x8 h0 (fun h0 => k .normal (s102_2 h0)) := by
  refine Eq.trans (runC_block _ _ _ k) (Eq.trans (e102_3 N (kblk 0 k) x0n x1 x2 x3_0 x8 h0) (by kernel_rfl))
def m102_0 (N : Nat) (x0n : Bool) (x1 x2 x3_0 h0 : D) (K : D → Option R) : Option R :=
  (m102_1 N x0n x1 x2 x3_0 h0 (fun y0n y1 y2 y3_0 y8 h0 => (m102_2 N y0n y1 y2 y3_0 y8 h0 (fun h0 => K h0))))
theorem e102_0 (N : Nat) (k : Kn R) (x0n : Bool) (x1 x2 x3_0 h0 : D) : runC PHI Tb106 N vc102_0 (s102_0 x0n x1 x2 x3_0 h0) k = m102_0 N x0n x1 x2 x3_0 h0 (fun h0 => k .normal (s102_2 h0)) := by
  have h2 := e102_1 N (kseq PHI Tb106 N vc102_2 k) x0n x1 x2 x3_0 h0
  have h3 := (funext fun y0n => funext fun y1 => funext fun y2 => funext fun y3_0 => funext fun y8 => funext fun h0 => (e102_2 N k y0n y1 y2 y3_0 y8 h0) : (fun (y0n : Bool) (y1 y2 y3_0 y8 h0 : D) => (kseq PHI Tb106 N vc102_2 k) .normal (s102_1 y0n y1 y2 y3_0 y8 h0)) = _)
  refine Eq.trans (runC_seq _ _ _ k) (Eq.trans h2 (Eq.trans (congrArg (fun K => m102_1 N x0n x1 x2 x3_0 h0 K) h3) (by kernel_rfl)))
theorem r102 (N : Nat) (x0n : Bool) (x1 x2 x3_0 h0 : D) : runC PHI Tb106 N vf102.body (enterV vf102 [V.ms 0 x0n, V.f x1, V.f x2, V.fn 70 [V.f x3_0] [Ty.p 22]] [V.f h0]) (finish vf102) = m102_0 N x0n x1 x2 x3_0 h0 (fun h0 => finish vf102 .normal (s102_2 h0)) := 
  Eq.trans (runC_pre (s1 := (s102_0 x0n x1 x2 x3_0 h0)) (by kernel_rfl) _ _) (Eq.trans (e102_0 N (finish vf102) x0n x1 x2 x3_0 h0) (by kernel_rfl))
end
noncomputable def Tb102 : CallF := extendR Tb106 102 (fm2 70 [Ty.p 22] pr102_70 sp102_70_h0)
theorem i102 {R : Type} (N : Nat) (nn : Bool) (a b q : D) (hq : isPtrD q = true) (A M : Nat) (ha : a.toI = (A : Int)) (ys : List D) (hl : ys.length ≤ 1000000) (hm : M < ys.length) (hA : SrtOn (c70 q) ys A M) (K2 : Bool → D → D → D → D → D → Option R) : ∀ J j, A ≤ j → j ≤ M → j < J + A → (j < M → c70 q (gt ys M) (gt ys j) < 0) →
    l102_15 N J nn a b q (.i (M : Int)) (.i (j : Int)) (.sl (rotL ys j M (M + 1))) K2 = K2 nn a b q (.i (M : Int)) (.sl (srtSeg (c70 q) ys A (M + 1)))
  | 0, j, h1, _, h2, _ => by omega
  | J + 1, j, h1, h2, h3, h4 => by
    rcases Nat.lt_or_ge A j with h | h
    · have e1 : IntKind.i64.wrap ((j : Int) - 1) = ((j - 1 : Nat) : Int) := w64n (by omega) (by omega)
      have i1 : inb (j : Int) ys.length = true := inb_t (by omega)
      have i2 : inb ((j - 1 : Nat) : Int) ys.length = true := inb_t (by omega)
      have g1 : gt (rotL ys j M (M + 1)) j = gt ys M := ins_at h2 hm
      have g2 : gt (rotL ys j M (M + 1)) (j - 1) = gt ys (j - 1) := ins_below (by omega) h2 hm
      have hr := rot_l (l := ys) (k := j - 1) (m := M) (by omega) hm
      rw [show j - 1 + 1 = j by omega, g1, g2] at hr
      by_cases hc : c70 q (gt ys M) (gt ys (j - 1)) < 0
      · have hp : pr70 (gt ys M) (gt ys (j - 1)) q = true := hq
        have hlt : ltb (sp70 (gt ys M) (gt ys (j - 1)) q) 0 = true := decide_eq_true hc
        simp only [l102_15, m102_16, ha, toI_i, ltb_n h, cond_true, toL_sl, rotL_len, i1, i2, e1, Int.toNat_natCast, at_sl, g1, g2, hp, hlt, setP_sl, List.length_set, hr]
        exact i102 N nn a b q hq A M ha ys hl hm hA K2 J (j - 1) (by omega) (by omega) (by omega) fun _ => hc
      · have hp : pr70 (gt ys M) (gt ys (j - 1)) q = true := hq
        have hlt : ltb (sp70 (gt ys M) (gt ys (j - 1)) q) 0 = false := decide_eq_false hc
        simp only [l102_15, m102_16, ha, toI_i, ltb_n h, cond_true, cond_false, toL_sl, rotL_len, i1, i2, e1, Int.toNat_natCast, at_sl, g1, g2, hp, hlt]
        rw [merge_last' (c70_c q) h1 h2 hm hA h4 fun _ => hc]
    · have e : j = A := by omega
      subst e
      simp only [l102_15, m102_16, ha, toI_i, ltb_self, cond_false]
      rw [merge_last' (c70_c q) h1 h2 hm hA h4 fun h => by omega]
theorem o102 {R : Type} (N : Nat) (nn : Bool) (a b q : D) (hq : isPtrD q = true) (A B : Nat) (ha : a.toI = (A : Int)) (hb : b.toI = (B : Int)) (xs : List D) (hl : xs.length ≤ 1000000) (hB : B ≤ xs.length) (hN : B < N + A) (K0 : D → Option R) : ∀ J i, A < i → i ≤ B → B < J + i →
    l102_3 N J nn a b q (.i (i : Int)) (.sl (srtSeg (c70 q) xs A i)) K0 = K0 (.sl (srtSeg (c70 q) xs A B))
  | 0, i, _, _, _ => by omega
  | J + 1, i, h1, h2, h3 => by
    rcases Nat.lt_or_ge i B with h | h
    · have e1 : IntKind.i64.wrap ((i : Int) + 1) = ((i + 1 : Nat) : Int) := w64n (by omega) (by omega)
      have hlen : (srtSeg (c70 q) xs A i).length = xs.length := srtSeg_len (c70_c q) (by omega) (by omega)
      have hk := i102 N nn a b q hq A i ha (srtSeg (c70 q) xs A i) (by omega) (by omega) (srtSeg_srt (c70_c q) (by omega) (by omega)) (fun y0n y1 y2 y3_0 y8 h0 => m102_26 N y0n y1 y2 y3_0 y8 h0 (fun y0n y1 y2 y3_0 y8 h0 => l102_3 N J y0n y1 y2 y3_0 y8 h0 K0)) N i (by omega) (Nat.le_refl _) (by omega) (fun h => by omega)
      rw [ins_id] at hk
      simp only [l102_3, m102_4, m102_5, hb, toI_i, ltb_n h, cond_true, m102_10, m102_11, m102_12, m102_13, m102_14, m102_15]
      refine Eq.trans hk ?_
      rw [srtSeg_in (c70_c q) (Nat.le_refl A) (show A ≤ i by omega) (show i ≤ i + 1 by omega) (by omega)]
      simp only [m102_26, toI_i, e1]
      exact o102 N nn a b q hq A B ha hb xs hl hB hN K0 J (i + 1) (by omega) (by omega) (by omega)
    · have e : i = B := by omega
      subst e
      simp only [l102_3, m102_4, m102_5, hb, toI_i, ltb_self, cond_false]
theorem ok102 : FnOk Try.prog PHI Tb102 := FnOk.addm2 hPHI ok106 (by kernel_rfl) fun nn a b q h hp => by
  unfold pr102_70 at hp
  simp only [Bool.and_eq_true] at hp
  obtain ⟨h0, hq, h1, h2, h3⟩ := hp
  obtain ⟨xs, rfl, hl⟩ := okA_eq h0
  have h1 := leb_e h1
  have h2 := leb_e h2
  have h3 := leb_e h3
  simp only [toL_sl] at h3
  obtain ⟨A, hA⟩ := Int.eq_ofNat_of_zero_le h1
  obtain ⟨B, hB⟩ := Int.eq_ofNat_of_zero_le (show 0 ≤ b.toI by omega)
  refine ⟨B + 2, (r102 _ nn a b q _).trans ?_⟩
  have e1 : IntKind.i64.wrap (a.toI + 1) = ((A + 1 : Nat) : Int) := w64n (by omega) (by omega)
  simp only [m102_0, m102_1, m102_2, m102_3, e1]
  have e : sp102_70_h0 a b q (.sl xs) = .sl (srtSeg (c70 q) xs A B) := by unfold sp102_70_h0; rw [hA, hB]; rfl
  rw [e]
  rcases Nat.lt_or_ge A B with h | h
  · have hk := o102 (B + 2) nn a b q hq A B hA hB xs hl (by omega) (by omega) (fun h0 => finish vf102 .normal (s102_2 h0)) (B + 2) (A + 1) (by omega) (by omega) (by omega)
    rw [srtSeg_id (c70_c q) (by omega) (by omega) (.nil (Nat.le_refl _))] at hk
    exact hk.trans rfl
  · rw [srtSeg_id (c70_c q) (by omega) (by omega) (.nil (by omega))]
    have hlt : ltb ((A + 1 : Nat) : Int) (B : Int) = false := ltb_f (by omega)
    simp only [l102_3, m102_4, m102_5, hB, toI_i, hlt, cond_false]
    rfl
theorem sp106_e (a m b q : D) (A M B : Nat) (ha : a.toI = (A : Int)) (hm : m.toI = (M : Int)) (hb : b.toI = (B : Int)) (xs : List D) (hl : xs.length ≤ 1000000) (h1 : A < M) (h2 : M < B) (h3 : B ≤ xs.length) : sp106_70_h0 a m b q (.sl xs) = .sl (rotL xs A M B) ∧ pr106_70 a m b q (.sl xs) = true := by
  unfold sp106_70_h0 pr106_70 okA
  rw [ha, hb, hm]
  simp only [Int.toNat_natCast, toL_sl, isSl, Bool.true_and]
  refine ⟨trivial, ?_⟩
  rw [leb_t (by omega), leb_t (by omega), leb_t (by omega), ltb_t (by omega), ltb_t (by omega)]; rfl
def P103 (n : Nat) (a m b q h : D) : Prop := ∃ (A M B : Nat) (xs : List D), a.toI = (A : Int) ∧ m.toI = (M : Int) ∧ b.toI = (B : Int) ∧ h = .sl xs ∧ xs.length ≤ 1000000 ∧ isPtrD q = true ∧ A < M ∧ M < B ∧ B ≤ xs.length ∧ SrtOn (c70 q) xs A M ∧ SrtOn (c70 q) xs M B ∧ B < n + A
noncomputable def prx103_70 (n : Nat) (a m b q h : D) : Bool := @decide (P103 n a m b q h) (Classical.propDecidable _)
def sp103_70_h0 (a _m b q h : D) : D := .sl (srtSeg (c70 q) h.toL a.toI.toNat b.toI.toNat)
noncomputable def Tx103 (n : Nat) : CallF := extendR Tb102 103 (fm3 70 [Ty.p 22] (prx103_70 n) sp103_70_h0)
noncomputable section
section
variable {R : Type}
def m103_2 (n N : Nat) (x0n : Bool) (x1 x2 x3 x4_0 h0 : D) (K : Bool → D → D → D → D → D → D → Option R) : Option R :=
  K x0n x1 x2 x3 x4_0 (D.b (eqb (IntKind.i64.wrap (x2.toI - x1.toI)) 1)) h0
def s103_0 (x0n : Bool) (x1 x2 x3 x4_0 h0 : D) : St := sts 220 [(0, V.ms 0 x0n), (1, V.f x1), (2, V.f x2), (3, V.f x3), (4, V.fn 70 [V.f x4_0] [Ty.p 22])] [V.f h0]
def s103_1 (x0n : Bool) (x1 x2 x3 x4_0 x28 h0 : D) : St := sts 220 [(0, V.ms 0 x0n), (1, V.f x1), (2, V.f x2), (3, V.f x3), (4, V.fn 70 [V.f x4_0] [Ty.p 22]), (28, V.f x28)] [V.f h0]
theorem e103_2 (n N : Nat) (k : Kn R) (x0n : Bool) (x1 x2 x3 x4_0 h0 : D) : runC PHI (Tx103 n) N vc103_2 (s103_0 x0n x1 x2 x3 x4_0 h0) k = m103_2 n N x0n x1 x2 x3 x4_0 h0 (fun x0n x1 x2 x3 x4_0 x28 h0 => k .normal (s103_1 x0n x1 x2 x3 x4_0 x28 h0)) := by
  refine Eq.trans (runC_post _ _ _ k) (Eq.trans (ops_run _ _ _ _) (by kernel_rfl))
def m103_5 (n N : Nat) (x0n : Bool) (x1 x2 x3 x4_0 h0 : D) (K : Bool → D → D → D → D → D → Option R) : Option R :=
  K x0n x1 x3 x4_0 x2 h0
def s103_2 (x0n : Bool) (x1 x3 x4_0 x10 h0 : D) : St := sts 220 [(0, V.ms 0 x0n), (1, V.f x1), (3, V.f x3), (4, V.fn 70 [V.f x4_0] [Ty.p 22]), (10, V.f x10)] [V.f h0]
theorem e103_5 (n N : Nat) (k : Kn R) (x0n : Bool) (x1 x2 x3 x4_0 h0 : D) : runC PHI (Tx103 n) N vc103_5 (s103_0 x0n x1 x2 x3 x4_0 h0) k = m103_5 n N x0n x1 x2 x3 x4_0 h0 (fun x0n x1 x3 x4_0 x10 h0 => k .normal (s103_2 x0n x1 x3 x4_0 x10 h0)) := by
  refine Eq.trans (runC_post _ _ _ k) (Eq.trans (ops_run _ _ _ _) (by kernel_rfl))
def m103_7 (n N : Nat) (x0n : Bool) (x1 x3 x4_0 x10 h0 : D) (K : Bool → D → D → D → D → D → Option R) : Option R :=
  K x0n x1 x4_0 x10 x3 h0
def s103_3 (x0n : Bool) (x1 x4_0 x10 x11 h0 : D) : St := sts 220 [(0, V.ms 0 x0n), (1, V.f x1), (4, V.fn 70 [V.f x4_0] [Ty.p 22]), (10, V.f x10), (11, V.f x11)] [V.f h0]
theorem e103_7 (n N : Nat) (k : Kn R) (x0n : Bool) (x1 x3 x4_0 x10 h0 : D) : runC PHI (Tx103 n) N vc103_7 (s103_2 x0n x1 x3 x4_0 x10 h0) k = m103_7 n N x0n x1 x3 x4_0 x10 h0 (fun x0n x1 x4_0 x10 x11 h0 => k .normal (s103_3 x0n x1 x4_0 x10 x11 h0)) := by
  refine Eq.trans (runC_post _ _ _ k) (Eq.trans (ops_run _ _ _ _) (by kernel_rfl))
def m103_11 (n N : Nat) (x0n : Bool) (x1 x4_0 x10 x11 h0 : D) (K : Bool → D → D → D → D → D → Option R) (K0 : Bool → D → D → D → Option R) : Option R :=
  (bif (ltb x10.toI x11.toI) then (bif (F2.ok (.shr .u64) (D.i (IntKind.u64.wrap (IntKind.i64.wrap (x10.toI + x11.toI)))) (D.i 1)) then (bif (inb (IntKind.i64.wrap (F2.ev (.shr .u64) (D.i (IntKind.u64.wrap (IntKind.i64.wrap (x10.toI + x11.toI)))) (D.i 1)).toI) h0.toL.length) then (bif (inb x1.toI h0.toL.length) then (bif (pr70 (h0.at ((IntKind.i64.wrap (F2.ev (.shr .u64) (D.i (IntKind.u64.wrap (IntKind.i64.wrap (x10.toI + x11.toI)))) (D.i 1)).toI) : Int).toNat) (h0.at (x1.toI : Int).toNat) x4_0) then (bif (ltb (sp70 (h0.at ((IntKind.i64.wrap (F2.ev (.shr .u64) (D.i (IntKind.u64.wrap (IntKind.i64.wrap (x10.toI + x11.toI)))) (D.i 1)).toI) : Int).toNat) (h0.at (x1.toI : Int).toNat) x4_0) 0) then K x0n x1 x4_0 (D.i (IntKind.i64.wrap ((IntKind.i64.wrap (F2.ev (.shr .u64) (D.i (IntKind.u64.wrap (IntKind.i64.wrap (x10.toI + x11.toI)))) (D.i 1)).toI) + 1))) x11 h0 else K x0n x1 x4_0 x10 (D.i (IntKind.i64.wrap (F2.ev (.shr .u64) (D.i (IntKind.u64.wrap (IntKind.i64.wrap (x10.toI + x11.toI)))) (D.i 1)).toI)) h0) else none) else none) else none) else none) else K0 x0n x1 x10 h0)
def s103_4 (x0n : Bool) (x1 x10 h0 : D) : St := sts 220 [(0, V.ms 0 x0n), (1, V.f x1), (10, V.f x10)] [V.f h0]
theorem e103_11 (n N : Nat) (k : Kn R) (x0n : Bool) (x1 x4_0 x10 x11 h0 : D) : runC PHI (Tx103 n) N vc103_11 (s103_3 x0n x1 x4_0 x10 x11 h0) k = m103_11 n N x0n x1 x4_0 x10 x11 h0 (fun x0n x1 x4_0 x10 x11 h0 => k .normal (s103_3 x0n x1 x4_0 x10 x11 h0)) (fun x0n x1 x10 h0 => k (.exit 0) (s103_4 x0n x1 x10 h0)) := by kernel_rfl
def l103_10 (n N : Nat) (j : Nat) (x0n : Bool) (x1 x4_0 x10 x11 h0 : D) (K0 : Bool → D → D → D → Option R) : Option R :=
  match j with
  | 0 => none
  | j + 1 => (m103_11 n N x0n x1 x4_0 x10 x11 h0 (fun y0n y1 y4_0 y10 y11 h0 => l103_10 n N j y0n y1 y4_0 y10 y11 h0 K0) K0)
def m103_10 (n N : Nat) (x0n : Bool) (x1 x4_0 x10 x11 h0 : D) (K0 : Bool → D → D → D → Option R) : Option R :=
  l103_10 n N N x0n x1 x4_0 x10 x11 h0 K0
theorem el103_10 (n N : Nat) (k : Kn R) : ∀ (j : Nat) (x0n : Bool) (x1 x4_0 x10 x11 h0 : D), loopGo (runC PHI (Tx103 n) N vc103_11) j (s103_3 x0n x1 x4_0 x10 x11 h0) k = l103_10 n N j x0n x1 x4_0 x10 x11 h0 (fun x0n x1 x10 h0 => k (.exit 0) (s103_4 x0n x1 x10 h0))
  | 0, _, _, _, _, _, _ => by kernel_rfl
  | j + 1, x0n, x1, x4_0, x10, x11, h0 => by
    have h2 := e103_11 n N (kloop PHI (Tx103 n) N vc103_11 j k) x0n x1 x4_0 x10 x11 h0
    have h3 : (fun (y0n : Bool) (y1 y4_0 y10 y11 h0 : D) => (kloop PHI (Tx103 n) N vc103_11 j k) .normal (s103_3 y0n y1 y4_0 y10 y11 h0)) = (fun (y0n : Bool) (y1 y4_0 y10 y11 h0 : D) => l103_10 n N j y0n y1 y4_0 y10 y11 h0 (fun x0n x1 x10 h0 => k (.exit 0) (s103_4 x0n x1 x10 h0))) := funext fun y0n => funext fun y1 => funext fun y4_0 => funext fun y10 => funext fun y11 => funext fun h0 => (el103_10 n N k j y0n y1 y4_0 y10 y11 h0)
    refine Eq.trans (loop_succ _ j _ k) (Eq.trans h2 (Eq.trans (congrArg (fun K => m103_11 n N x0n x1 x4_0 x10 x11 h0 K (fun x0n x1 x10 h0 => (kloop PHI (Tx103 n) N vc103_11 j k) (.exit 0) (s103_4 x0n x1 x10 h0))) h3) (by kernel_rfl)))
theorem e103_10 (n N : Nat) (k : Kn R) (x0n : Bool) (x1 x4_0 x10 x11 h0 : D) : runC PHI (Tx103 n) N vc103_10 (s103_3 x0n x1 x4_0 x10 x11 h0) k = m103_10 n N x0n x1 x4_0 x10 x11 h0 (fun x0n x1 x10 h0 => k (.exit 0) (s103_4 x0n x1 x10 h0)) := by
  refine Eq.trans (runC_loop _ _ k) (Eq.trans (el103_10 n N k N x0n x1 x4_0 x10 x11 h0) (by kernel_rfl))
def m103_9 (n N : Nat) (x0n : Bool) (x1 x4_0 x10 x11 h0 : D) (K : Bool → D → D → D → Option R) : Option R :=
  (m103_10 n N x0n x1 x4_0 x10 x11 h0 (fun y0n y1 y10 h0 => K y0n y1 y10 h0))
theorem e103_9 (n N : Nat) (k : Kn R) (x0n : Bool) (x1 x4_0 x10 x11 h0 : D) : runC PHI (Tx103 n) N vc103_9 (s103_3 x0n x1 x4_0 x10 x11 h0) k = m103_9 n N x0n x1 x4_0 x10 x11 h0 (fun x0n x1 x10 h0 => k .normal (s103_4 x0n x1 x10 h0)) := by
  refine Eq.trans (runC_block _ _ _ k) (Eq.trans (e103_10 n N (kblk 0 k) x0n x1 x4_0 x10 x11 h0) (by kernel_rfl))
def m103_27 (n N : Nat) (x0n : Bool) (x1 x10 h0 : D) (K : Bool → D → D → D → Option R) : Option R :=
  K x0n x10 x1 h0
def s103_5 (x0n : Bool) (x10 x13 h0 : D) : St := sts 220 [(0, V.ms 0 x0n), (10, V.f x10), (13, V.f x13)] [V.f h0]
theorem e103_27 (n N : Nat) (k : Kn R) (x0n : Bool) (x1 x10 h0 : D) : runC PHI (Tx103 n) N vc103_27 (s103_4 x0n x1 x10 h0) k = m103_27 n N x0n x1 x10 h0 (fun x0n x10 x13 h0 => k .normal (s103_5 x0n x10 x13 h0)) := by
  refine Eq.trans (runC_post _ _ _ k) (Eq.trans (ops_run _ _ _ _) (by kernel_rfl))
def m103_30 (n N : Nat) (x0n : Bool) (x10 x13 h0 : D) (K : Bool → D → D → D → Option R) (K2 : D → Option R) : Option R :=
  (bif (ltb x13.toI (IntKind.i64.wrap (x10.toI - 1))) then (bif (inb (IntKind.i64.wrap (x13.toI + 1)) h0.toL.length) then (bif (inb x13.toI h0.toL.length) then (bif (inb x13.toI h0.toL.length) then (bif (inb (IntKind.i64.wrap (x13.toI + 1)) (D.setP [(x13.toI : Int).toNat] h0 (h0.at ((IntKind.i64.wrap (x13.toI + 1)) : Int).toNat)).toL.length) then K x0n x10 (D.i (IntKind.i64.wrap (x13.toI + 1))) (D.setP [((IntKind.i64.wrap (x13.toI + 1)) : Int).toNat] (D.setP [(x13.toI : Int).toNat] h0 (h0.at ((IntKind.i64.wrap (x13.toI + 1)) : Int).toNat)) (h0.at (x13.toI : Int).toNat)) else none) else none) else none) else none) else K2 h0)
def s103_6 (h0 : D) : St := sts 220 [] [V.f h0]
theorem e103_30 (n N : Nat) (k : Kn R) (x0n : Bool) (x10 x13 h0 : D) : runC PHI (Tx103 n) N vc103_30 (s103_5 x0n x10 x13 h0) k = m103_30 n N x0n x10 x13 h0 (fun x0n x10 x13 h0 => k .normal (s103_5 x0n x10 x13 h0)) (fun h0 => k (.exit 2) (s103_6 h0)) := by kernel_rfl
def l103_29 (n N : Nat) (j : Nat) (x0n : Bool) (x10 x13 h0 : D) (K2 : D → Option R) : Option R :=
  match j with
  | 0 => none
  | j + 1 => (m103_30 n N x0n x10 x13 h0 (fun y0n y10 y13 h0 => l103_29 n N j y0n y10 y13 h0 K2) K2)
def m103_29 (n N : Nat) (x0n : Bool) (x10 x13 h0 : D) (K2 : D → Option R) : Option R :=
  l103_29 n N N x0n x10 x13 h0 K2
theorem el103_29 (n N : Nat) (k : Kn R) : ∀ (j : Nat) (x0n : Bool) (x10 x13 h0 : D), loopGo (runC PHI (Tx103 n) N vc103_30) j (s103_5 x0n x10 x13 h0) k = l103_29 n N j x0n x10 x13 h0 (fun h0 => k (.exit 2) (s103_6 h0))
  | 0, _, _, _, _ => by kernel_rfl
  | j + 1, x0n, x10, x13, h0 => by
    have h2 := e103_30 n N (kloop PHI (Tx103 n) N vc103_30 j k) x0n x10 x13 h0
    have h3 : (fun (y0n : Bool) (y10 y13 h0 : D) => (kloop PHI (Tx103 n) N vc103_30 j k) .normal (s103_5 y0n y10 y13 h0)) = (fun (y0n : Bool) (y10 y13 h0 : D) => l103_29 n N j y0n y10 y13 h0 (fun h0 => k (.exit 2) (s103_6 h0))) := funext fun y0n => funext fun y10 => funext fun y13 => funext fun h0 => (el103_29 n N k j y0n y10 y13 h0)
    refine Eq.trans (loop_succ _ j _ k) (Eq.trans h2 (Eq.trans (congrArg (fun K => m103_30 n N x0n x10 x13 h0 K (fun h0 => (kloop PHI (Tx103 n) N vc103_30 j k) (.exit 2) (s103_6 h0))) h3) (by kernel_rfl)))
theorem e103_29 (n N : Nat) (k : Kn R) (x0n : Bool) (x10 x13 h0 : D) : runC PHI (Tx103 n) N vc103_29 (s103_5 x0n x10 x13 h0) k = m103_29 n N x0n x10 x13 h0 (fun h0 => k (.exit 2) (s103_6 h0)) := by
  refine Eq.trans (runC_loop _ _ k) (Eq.trans (el103_29 n N k N x0n x10 x13 h0) (by kernel_rfl))
def m103_28 (n N : Nat) (x0n : Bool) (x10 x13 h0 : D) (K : D → Option R) : Option R :=
  (m103_29 n N x0n x10 x13 h0 (fun h0 => K h0))
theorem e103_28 (n N : Nat) (k : Kn R) (x0n : Bool) (x10 x13 h0 : D) : runC PHI (Tx103 n) N vc103_28 (s103_5 x0n x10 x13 h0) k = m103_28 n N x0n x10 x13 h0 (fun h0 => k .normal (s103_6 h0)) := by
  refine Eq.trans (runC_block _ _ _ k) (Eq.trans (e103_29 n N (kblk 2 k) x0n x10 x13 h0) (by kernel_rfl))
def m103_26 (n N : Nat) (x0n : Bool) (x1 x10 h0 : D) (K : D → Option R) : Option R :=
  (m103_27 n N x0n x1 x10 h0 (fun y0n y10 y13 h0 => (m103_28 n N y0n y10 y13 h0 (fun h0 => K h0))))
theorem e103_26 (n N : Nat) (k : Kn R) (x0n : Bool) (x1 x10 h0 : D) : runC PHI (Tx103 n) N vc103_26 (s103_4 x0n x1 x10 h0) k = m103_26 n N x0n x1 x10 h0 (fun h0 => k .normal (s103_6 h0)) := by
  have h2 := e103_27 n N (kseq PHI (Tx103 n) N vc103_28 k) x0n x1 x10 h0
  have h3 := (funext fun y0n => funext fun y10 => funext fun y13 => funext fun h0 => (e103_28 n N k y0n y10 y13 h0) : (fun (y0n : Bool) (y10 y13 h0 : D) => (kseq PHI (Tx103 n) N vc103_28 k) .normal (s103_5 y0n y10 y13 h0)) = _)
  refine Eq.trans (runC_seq _ _ _ k) (Eq.trans h2 (Eq.trans (congrArg (fun K => m103_27 n N x0n x1 x10 h0 K) h3) (by kernel_rfl)))
def m103_40 (n N : Nat) (h0 : D) (Kr : D → Option R) : Option R :=
  Kr h0
theorem e103_40 (n N : Nat) (k : Kn R) (h0 : D) : runC PHI (Tx103 n) N vc103_40 (s103_6 h0) k = m103_40 n N h0 (fun h0 => k .ret (s103_6 h0)) := by kernel_rfl
def m103_25 (n N : Nat) (x0n : Bool) (x1 x10 h0 : D) (Kr : D → Option R) : Option R :=
  (m103_26 n N x0n x1 x10 h0 (fun h0 => (m103_40 n N h0 Kr)))
theorem e103_25 (n N : Nat) (k : Kn R) (x0n : Bool) (x1 x10 h0 : D) : runC PHI (Tx103 n) N vc103_25 (s103_4 x0n x1 x10 h0) k = m103_25 n N x0n x1 x10 h0 (fun h0 => k .ret (s103_6 h0)) := by
  have h2 := e103_26 n N (kseq PHI (Tx103 n) N vc103_40 k) x0n x1 x10 h0
  have h3 := (funext fun h0 => (e103_40 n N k h0) : (fun (h0 : D) => (kseq PHI (Tx103 n) N vc103_40 k) .normal (s103_6 h0)) = _)
  refine Eq.trans (runC_seq _ _ _ k) (Eq.trans h2 (Eq.trans (congrArg (fun K => m103_26 n N x0n x1 x10 h0 K) h3) (by kernel_rfl)))
def m103_8 (n N : Nat) (x0n : Bool) (x1 x4_0 x10 x11 h0 : D) (Kr : D → Option R) : Option R :=
  (m103_9 n N x0n x1 x4_0 x10 x11 h0 (fun y0n y1 y10 h0 => (m103_25 n N y0n y1 y10 h0 Kr)))
theorem e103_8 (n N : Nat) (k : Kn R) (x0n : Bool) (x1 x4_0 x10 x11 h0 : D) : runC PHI (Tx103 n) N vc103_8 (s103_3 x0n x1 x4_0 x10 x11 h0) k = m103_8 n N x0n x1 x4_0 x10 x11 h0 (fun h0 => k .ret (s103_6 h0)) := by
  have h2 := e103_9 n N (kseq PHI (Tx103 n) N vc103_25 k) x0n x1 x4_0 x10 x11 h0
  have h3 := (funext fun y0n => funext fun y1 => funext fun y10 => funext fun h0 => (e103_25 n N k y0n y1 y10 h0) : (fun (y0n : Bool) (y1 y10 h0 : D) => (kseq PHI (Tx103 n) N vc103_25 k) .normal (s103_4 y0n y1 y10 h0)) = _)
  refine Eq.trans (runC_seq _ _ _ k) (Eq.trans h2 (Eq.trans (congrArg (fun K => m103_9 n N x0n x1 x4_0 x10 x11 h0 K) h3) (by kernel_rfl)))
def m103_6 (n N : Nat) (x0n : Bool) (x1 x3 x4_0 x10 h0 : D) (Kr : D → Option R) : Option R :=
  (m103_7 n N x0n x1 x3 x4_0 x10 h0 (fun y0n y1 y4_0 y10 y11 h0 => (m103_8 n N y0n y1 y4_0 y10 y11 h0 Kr)))
theorem e103_6 (n N : Nat) (k : Kn R) (x0n : Bool) (x1 x3 x4_0 x10 h0 : D) : runC PHI (Tx103 n) N vc103_6 (s103_2 x0n x1 x3 x4_0 x10 h0) k = m103_6 n N x0n x1 x3 x4_0 x10 h0 (fun h0 => k .ret (s103_6 h0)) := by
  have h2 := e103_7 n N (kseq PHI (Tx103 n) N vc103_8 k) x0n x1 x3 x4_0 x10 h0
  have h3 := (funext fun y0n => funext fun y1 => funext fun y4_0 => funext fun y10 => funext fun y11 => funext fun h0 => (e103_8 n N k y0n y1 y4_0 y10 y11 h0) : (fun (y0n : Bool) (y1 y4_0 y10 y11 h0 : D) => (kseq PHI (Tx103 n) N vc103_8 k) .normal (s103_3 y0n y1 y4_0 y10 y11 h0)) = _)
  refine Eq.trans (runC_seq _ _ _ k) (Eq.trans h2 (Eq.trans (congrArg (fun K => m103_7 n N x0n x1 x3 x4_0 x10 h0 K) h3) (by kernel_rfl)))
def m103_4 (n N : Nat) (x0n : Bool) (x1 x2 x3 x4_0 h0 : D) (Kr : D → Option R) : Option R :=
  (m103_5 n N x0n x1 x2 x3 x4_0 h0 (fun y0n y1 y3 y4_0 y10 h0 => (m103_6 n N y0n y1 y3 y4_0 y10 h0 Kr)))
theorem e103_4 (n N : Nat) (k : Kn R) (x0n : Bool) (x1 x2 x3 x4_0 h0 : D) : runC PHI (Tx103 n) N vc103_4 (s103_0 x0n x1 x2 x3 x4_0 h0) k = m103_4 n N x0n x1 x2 x3 x4_0 h0 (fun h0 => k .ret (s103_6 h0)) := by
  have h2 := e103_5 n N (kseq PHI (Tx103 n) N vc103_6 k) x0n x1 x2 x3 x4_0 h0
  have h3 := (funext fun y0n => funext fun y1 => funext fun y3 => funext fun y4_0 => funext fun y10 => funext fun h0 => (e103_6 n N k y0n y1 y3 y4_0 y10 h0) : (fun (y0n : Bool) (y1 y3 y4_0 y10 h0 : D) => (kseq PHI (Tx103 n) N vc103_6 k) .normal (s103_2 y0n y1 y3 y4_0 y10 h0)) = _)
  refine Eq.trans (runC_seq _ _ _ k) (Eq.trans h2 (Eq.trans (congrArg (fun K => m103_5 n N x0n x1 x2 x3 x4_0 h0 K) h3) (by kernel_rfl)))
def m103_41 (n N : Nat) (x0n : Bool) (x1 x2 x3 x4_0 h0 : D) (K : Bool → D → D → D → D → D → Option R) : Option R :=
  K x0n x1 x2 x3 x4_0 h0
theorem e103_41 (n N : Nat) (k : Kn R) (x0n : Bool) (x1 x2 x3 x4_0 h0 : D) : runC PHI (Tx103 n) N vc103_41 (s103_0 x0n x1 x2 x3 x4_0 h0) k = m103_41 n N x0n x1 x2 x3 x4_0 h0 (fun x0n x1 x2 x3 x4_0 h0 => k .normal (s103_0 x0n x1 x2 x3 x4_0 h0)) := by kernel_rfl
def m103_3 (n N : Nat) (x0n : Bool) (x1 x2 x3 x4_0 x28 h0 : D) (K : Bool → D → D → D → D → D → Option R) (Kr : D → Option R) : Option R :=
  (bif x28.toB then (m103_4 n N x0n x1 x2 x3 x4_0 h0 Kr) else (m103_41 n N x0n x1 x2 x3 x4_0 h0 (fun y0n y1 y2 y3 y4_0 h0 => K y0n y1 y2 y3 y4_0 h0)))
theorem e103_3 (n N : Nat) (k : Kn R) (x0n : Bool) (x1 x2 x3 x4_0 x28 h0 : D) : runC PHI (Tx103 n) N vc103_3 (s103_1 x0n x1 x2 x3 x4_0 x28 h0) k = m103_3 n N x0n x1 x2 x3 x4_0 x28 h0 (fun x0n x1 x2 x3 x4_0 h0 => k .normal (s103_0 x0n x1 x2 x3 x4_0 h0)) (fun h0 => k .ret (s103_6 h0)) := by
  refine Eq.trans (runC_cond (s1 := (s103_0 x0n x1 x2 x3 x4_0 h0)) (s2 := (s103_0 x0n x1 x2 x3 x4_0 h0)) (d := x28) _ _ k (by kernel_rfl) (by kernel_rfl) (by kernel_rfl)) (Eq.trans (congr (congrArg (cond x28.toB) ((e103_4 n N k x0n x1 x2 x3 x4_0 h0))) ((e103_41 n N k x0n x1 x2 x3 x4_0 h0))) (by kernel_rfl))
def m103_1 (n N : Nat) (x0n : Bool) (x1 x2 x3 x4_0 h0 : D) (K : Bool → D → D → D → D → D → Option R) (Kr : D → Option R) : Option R :=
  (m103_2 n N x0n x1 x2 x3 x4_0 h0 (fun y0n y1 y2 y3 y4_0 y28 h0 => (m103_3 n N y0n y1 y2 y3 y4_0 y28 h0 (fun y0n y1 y2 y3 y4_0 h0 => K y0n y1 y2 y3 y4_0 h0) Kr)))
theorem e103_1 (n N : Nat) (k : Kn R) (x0n : Bool) (x1 x2 x3 x4_0 h0 : D) : runC PHI (Tx103 n) N vc103_1 (s103_0 x0n x1 x2 x3 x4_0 h0) k = m103_1 n N x0n x1 x2 x3 x4_0 h0 (fun x0n x1 x2 x3 x4_0 h0 => k .normal (s103_0 x0n x1 x2 x3 x4_0 h0)) (fun h0 => k .ret (s103_6 h0)) := by
  have h2 := e103_2 n N (kseq PHI (Tx103 n) N vc103_3 k) x0n x1 x2 x3 x4_0 h0
  have h3 := (funext fun y0n => funext fun y1 => funext fun y2 => funext fun y3 => funext fun y4_0 => funext fun y28 => funext fun h0 => (e103_3 n N k y0n y1 y2 y3 y4_0 y28 h0) : (fun (y0n : Bool) (y1 y2 y3 y4_0 y28 h0 : D) => (kseq PHI (Tx103 n) N vc103_3 k) .normal (s103_1 y0n y1 y2 y3 y4_0 y28 h0)) = _)
  refine Eq.trans (runC_seq _ _ _ k) (Eq.trans h2 (Eq.trans (congrArg (fun K => m103_2 n N x0n x1 x2 x3 x4_0 h0 K) h3) (by kernel_rfl)))
def m103_44 (n N : Nat) (x0n : Bool) (x1 x2 x3 x4_0 h0 : D) (K : Bool → D → D → D → D → D → D → Option R) : Option R :=
  K x0n x1 x2 x3 x4_0 (D.b (eqb (IntKind.i64.wrap (x3.toI - x2.toI)) 1)) h0
def s103_7 (x0n : Bool) (x1 x2 x3 x4_0 x80 h0 : D) : St := sts 220 [(0, V.ms 0 x0n), (1, V.f x1), (2, V.f x2), (3, V.f x3), (4, V.fn 70 [V.f x4_0] [Ty.p 22]), (80, V.f x80)] [V.f h0]
theorem e103_44 (n N : Nat) (k : Kn R) (x0n : Bool) (x1 x2 x3 x4_0 h0 : D) : runC PHI (Tx103 n) N vc103_44 (s103_0 x0n x1 x2 x3 x4_0 h0) k = m103_44 n N x0n x1 x2 x3 x4_0 h0 (fun x0n x1 x2 x3 x4_0 x80 h0 => k .normal (s103_7 x0n x1 x2 x3 x4_0 x80 h0)) := by
  refine Eq.trans (runC_post _ _ _ k) (Eq.trans (ops_run _ _ _ _) (by kernel_rfl))
def m103_47 (n N : Nat) (x0n : Bool) (x1 x2 x4_0 h0 : D) (K : Bool → D → D → D → D → Option R) : Option R :=
  K x0n x2 x4_0 x1 h0
def s103_8 (x0n : Bool) (x1 x2 x4_0 h0 : D) : St := sts 220 [(0, V.ms 0 x0n), (1, V.f x1), (2, V.f x2), (4, V.fn 70 [V.f x4_0] [Ty.p 22])] [V.f h0]
def s103_9 (x0n : Bool) (x2 x4_0 x14 h0 : D) : St := sts 220 [(0, V.ms 0 x0n), (2, V.f x2), (4, V.fn 70 [V.f x4_0] [Ty.p 22]), (14, V.f x14)] [V.f h0]
theorem e103_47 (n N : Nat) (k : Kn R) (x0n : Bool) (x1 x2 x4_0 h0 : D) : runC PHI (Tx103 n) N vc103_47 (s103_8 x0n x1 x2 x4_0 h0) k = m103_47 n N x0n x1 x2 x4_0 h0 (fun x0n x2 x4_0 x14 h0 => k .normal (s103_9 x0n x2 x4_0 x14 h0)) := by
  refine Eq.trans (runC_post _ _ _ k) (Eq.trans (ops_run _ _ _ _) (by kernel_rfl))
def m103_49 (n N : Nat) (x0n : Bool) (x2 x4_0 x14 h0 : D) (K : Bool → D → D → D → D → D → Option R) : Option R :=
  K x0n x2 x4_0 x14 x2 h0
def s103_10 (x0n : Bool) (x2 x4_0 x14 x15 h0 : D) : St := sts 220 [(0, V.ms 0 x0n), (2, V.f x2), (4, V.fn 70 [V.f x4_0] [Ty.p 22]), (14, V.f x14), (15, V.f x15)] [V.f h0]
theorem e103_49 (n N : Nat) (k : Kn R) (x0n : Bool) (x2 x4_0 x14 h0 : D) : runC PHI (Tx103 n) N vc103_49 (s103_9 x0n x2 x4_0 x14 h0) k = m103_49 n N x0n x2 x4_0 x14 h0 (fun x0n x2 x4_0 x14 x15 h0 => k .normal (s103_10 x0n x2 x4_0 x14 x15 h0)) := by
  refine Eq.trans (runC_post _ _ _ k) (Eq.trans (ops_run _ _ _ _) (by kernel_rfl))
def m103_53 (n N : Nat) (x0n : Bool) (x2 x4_0 x14 x15 h0 : D) (K : Bool → D → D → D → D → D → Option R) (K4 : Bool → D → D → D → Option R) : Option R :=
  (bif (ltb x14.toI x15.toI) then (bif (F2.ok (.shr .u64) (D.i (IntKind.u64.wrap (IntKind.i64.wrap (x14.toI + x15.toI)))) (D.i 1)) then (bif (inb x2.toI h0.toL.length) then (bif (inb (IntKind.i64.wrap (F2.ev (.shr .u64) (D.i (IntKind.u64.wrap (IntKind.i64.wrap (x14.toI + x15.toI)))) (D.i 1)).toI) h0.toL.length) then (bif (pr70 (h0.at (x2.toI : Int).toNat) (h0.at ((IntKind.i64.wrap (F2.ev (.shr .u64) (D.i (IntKind.u64.wrap (IntKind.i64.wrap (x14.toI + x15.toI)))) (D.i 1)).toI) : Int).toNat) x4_0) then (bif (!(ltb (sp70 (h0.at (x2.toI : Int).toNat) (h0.at ((IntKind.i64.wrap (F2.ev (.shr .u64) (D.i (IntKind.u64.wrap (IntKind.i64.wrap (x14.toI + x15.toI)))) (D.i 1)).toI) : Int).toNat) x4_0) 0)) then K x0n x2 x4_0 (D.i (IntKind.i64.wrap ((IntKind.i64.wrap (F2.ev (.shr .u64) (D.i (IntKind.u64.wrap (IntKind.i64.wrap (x14.toI + x15.toI)))) (D.i 1)).toI) + 1))) x15 h0 else K x0n x2 x4_0 x14 (D.i (IntKind.i64.wrap (F2.ev (.shr .u64) (D.i (IntKind.u64.wrap (IntKind.i64.wrap (x14.toI + x15.toI)))) (D.i 1)).toI)) h0) else none) else none) else none) else none) else K4 x0n x2 x14 h0)
def s103_11 (x0n : Bool) (x2 x14 h0 : D) : St := sts 220 [(0, V.ms 0 x0n), (2, V.f x2), (14, V.f x14)] [V.f h0]
theorem e103_53 (n N : Nat) (k : Kn R) (x0n : Bool) (x2 x4_0 x14 x15 h0 : D) : runC PHI (Tx103 n) N vc103_53 (s103_10 x0n x2 x4_0 x14 x15 h0) k = m103_53 n N x0n x2 x4_0 x14 x15 h0 (fun x0n x2 x4_0 x14 x15 h0 => k .normal (s103_10 x0n x2 x4_0 x14 x15 h0)) (fun x0n x2 x14 h0 => k (.exit 4) (s103_11 x0n x2 x14 h0)) := by kernel_rfl
def l103_52 (n N : Nat) (j : Nat) (x0n : Bool) (x2 x4_0 x14 x15 h0 : D) (K4 : Bool → D → D → D → Option R) : Option R :=
  match j with
  | 0 => none
  | j + 1 => (m103_53 n N x0n x2 x4_0 x14 x15 h0 (fun y0n y2 y4_0 y14 y15 h0 => l103_52 n N j y0n y2 y4_0 y14 y15 h0 K4) K4)
def m103_52 (n N : Nat) (x0n : Bool) (x2 x4_0 x14 x15 h0 : D) (K4 : Bool → D → D → D → Option R) : Option R :=
  l103_52 n N N x0n x2 x4_0 x14 x15 h0 K4
theorem el103_52 (n N : Nat) (k : Kn R) : ∀ (j : Nat) (x0n : Bool) (x2 x4_0 x14 x15 h0 : D), loopGo (runC PHI (Tx103 n) N vc103_53) j (s103_10 x0n x2 x4_0 x14 x15 h0) k = l103_52 n N j x0n x2 x4_0 x14 x15 h0 (fun x0n x2 x14 h0 => k (.exit 4) (s103_11 x0n x2 x14 h0))
  | 0, _, _, _, _, _, _ => by kernel_rfl
  | j + 1, x0n, x2, x4_0, x14, x15, h0 => by
    have h2 := e103_53 n N (kloop PHI (Tx103 n) N vc103_53 j k) x0n x2 x4_0 x14 x15 h0
    have h3 : (fun (y0n : Bool) (y2 y4_0 y14 y15 h0 : D) => (kloop PHI (Tx103 n) N vc103_53 j k) .normal (s103_10 y0n y2 y4_0 y14 y15 h0)) = (fun (y0n : Bool) (y2 y4_0 y14 y15 h0 : D) => l103_52 n N j y0n y2 y4_0 y14 y15 h0 (fun x0n x2 x14 h0 => k (.exit 4) (s103_11 x0n x2 x14 h0))) := funext fun y0n => funext fun y2 => funext fun y4_0 => funext fun y14 => funext fun y15 => funext fun h0 => (el103_52 n N k j y0n y2 y4_0 y14 y15 h0)
    refine Eq.trans (loop_succ _ j _ k) (Eq.trans h2 (Eq.trans (congrArg (fun K => m103_53 n N x0n x2 x4_0 x14 x15 h0 K (fun x0n x2 x14 h0 => (kloop PHI (Tx103 n) N vc103_53 j k) (.exit 4) (s103_11 x0n x2 x14 h0))) h3) (by kernel_rfl)))
theorem e103_52 (n N : Nat) (k : Kn R) (x0n : Bool) (x2 x4_0 x14 x15 h0 : D) : runC PHI (Tx103 n) N vc103_52 (s103_10 x0n x2 x4_0 x14 x15 h0) k = m103_52 n N x0n x2 x4_0 x14 x15 h0 (fun x0n x2 x14 h0 => k (.exit 4) (s103_11 x0n x2 x14 h0)) := by
  refine Eq.trans (runC_loop _ _ k) (Eq.trans (el103_52 n N k N x0n x2 x4_0 x14 x15 h0) (by kernel_rfl))
def m103_51 (n N : Nat) (x0n : Bool) (x2 x4_0 x14 x15 h0 : D) (K : Bool → D → D → D → Option R) : Option R :=
  (m103_52 n N x0n x2 x4_0 x14 x15 h0 (fun y0n y2 y14 h0 => K y0n y2 y14 h0))
theorem e103_51 (n N : Nat) (k : Kn R) (x0n : Bool) (x2 x4_0 x14 x15 h0 : D) : runC PHI (Tx103 n) N vc103_51 (s103_10 x0n x2 x4_0 x14 x15 h0) k = m103_51 n N x0n x2 x4_0 x14 x15 h0 (fun x0n x2 x14 h0 => k .normal (s103_11 x0n x2 x14 h0)) := by
  refine Eq.trans (runC_block _ _ _ k) (Eq.trans (e103_52 n N (kblk 4 k) x0n x2 x4_0 x14 x15 h0) (by kernel_rfl))
def m103_69 (n N : Nat) (x0n : Bool) (x2 x14 h0 : D) (K : Bool → D → D → D → Option R) : Option R :=
  K x0n x14 x2 h0
def s103_12 (x0n : Bool) (x14 x17 h0 : D) : St := sts 220 [(0, V.ms 0 x0n), (14, V.f x14), (17, V.f x17)] [V.f h0]
theorem e103_69 (n N : Nat) (k : Kn R) (x0n : Bool) (x2 x14 h0 : D) : runC PHI (Tx103 n) N vc103_69 (s103_11 x0n x2 x14 h0) k = m103_69 n N x0n x2 x14 h0 (fun x0n x14 x17 h0 => k .normal (s103_12 x0n x14 x17 h0)) := by
  refine Eq.trans (runC_post _ _ _ k) (Eq.trans (ops_run _ _ _ _) (by kernel_rfl))
def m103_72 (n N : Nat) (x0n : Bool) (x14 x17 h0 : D) (K : Bool → D → D → D → Option R) (K6 : D → Option R) : Option R :=
  (bif (ltb x14.toI x17.toI) then (bif (inb (IntKind.i64.wrap (x17.toI - 1)) h0.toL.length) then (bif (inb x17.toI h0.toL.length) then (bif (inb x17.toI h0.toL.length) then (bif (inb (IntKind.i64.wrap (x17.toI - 1)) (D.setP [(x17.toI : Int).toNat] h0 (h0.at ((IntKind.i64.wrap (x17.toI - 1)) : Int).toNat)).toL.length) then K x0n x14 (D.i (IntKind.i64.wrap (x17.toI - 1))) (D.setP [((IntKind.i64.wrap (x17.toI - 1)) : Int).toNat] (D.setP [(x17.toI : Int).toNat] h0 (h0.at ((IntKind.i64.wrap (x17.toI - 1)) : Int).toNat)) (h0.at (x17.toI : Int).toNat)) else none) else none) else none) else none) else K6 h0)
theorem e103_72 (n N : Nat) (k : Kn R) (x0n : Bool) (x14 x17 h0 : D) : runC PHI (Tx103 n) N vc103_72 (s103_12 x0n x14 x17 h0) k = m103_72 n N x0n x14 x17 h0 (fun x0n x14 x17 h0 => k .normal (s103_12 x0n x14 x17 h0)) (fun h0 => k (.exit 6) (s103_6 h0)) := by kernel_rfl
def l103_71 (n N : Nat) (j : Nat) (x0n : Bool) (x14 x17 h0 : D) (K6 : D → Option R) : Option R :=
  match j with
  | 0 => none
  | j + 1 => (m103_72 n N x0n x14 x17 h0 (fun y0n y14 y17 h0 => l103_71 n N j y0n y14 y17 h0 K6) K6)
def m103_71 (n N : Nat) (x0n : Bool) (x14 x17 h0 : D) (K6 : D → Option R) : Option R :=
  l103_71 n N N x0n x14 x17 h0 K6
theorem el103_71 (n N : Nat) (k : Kn R) : ∀ (j : Nat) (x0n : Bool) (x14 x17 h0 : D), loopGo (runC PHI (Tx103 n) N vc103_72) j (s103_12 x0n x14 x17 h0) k = l103_71 n N j x0n x14 x17 h0 (fun h0 => k (.exit 6) (s103_6 h0))
  | 0, _, _, _, _ => by kernel_rfl
  | j + 1, x0n, x14, x17, h0 => by
    have h2 := e103_72 n N (kloop PHI (Tx103 n) N vc103_72 j k) x0n x14 x17 h0
    have h3 : (fun (y0n : Bool) (y14 y17 h0 : D) => (kloop PHI (Tx103 n) N vc103_72 j k) .normal (s103_12 y0n y14 y17 h0)) = (fun (y0n : Bool) (y14 y17 h0 : D) => l103_71 n N j y0n y14 y17 h0 (fun h0 => k (.exit 6) (s103_6 h0))) := funext fun y0n => funext fun y14 => funext fun y17 => funext fun h0 => (el103_71 n N k j y0n y14 y17 h0)
    refine Eq.trans (loop_succ _ j _ k) (Eq.trans h2 (Eq.trans (congrArg (fun K => m103_72 n N x0n x14 x17 h0 K (fun h0 => (kloop PHI (Tx103 n) N vc103_72 j k) (.exit 6) (s103_6 h0))) h3) (by kernel_rfl)))
theorem e103_71 (n N : Nat) (k : Kn R) (x0n : Bool) (x14 x17 h0 : D) : runC PHI (Tx103 n) N vc103_71 (s103_12 x0n x14 x17 h0) k = m103_71 n N x0n x14 x17 h0 (fun h0 => k (.exit 6) (s103_6 h0)) := by
  refine Eq.trans (runC_loop _ _ k) (Eq.trans (el103_71 n N k N x0n x14 x17 h0) (by kernel_rfl))
def m103_70 (n N : Nat) (x0n : Bool) (x14 x17 h0 : D) (K : D → Option R) : Option R :=
  (m103_71 n N x0n x14 x17 h0 (fun h0 => K h0))
theorem e103_70 (n N : Nat) (k : Kn R) (x0n : Bool) (x14 x17 h0 : D) : runC PHI (Tx103 n) N vc103_70 (s103_12 x0n x14 x17 h0) k = m103_70 n N x0n x14 x17 h0 (fun h0 => k .normal (s103_6 h0)) := by
  refine Eq.trans (runC_block _ _ _ k) (Eq.trans (e103_71 n N (kblk 6 k) x0n x14 x17 h0) (by kernel_rfl))
def m103_68 (n N : Nat) (x0n : Bool) (x2 x14 h0 : D) (K : D → Option R) : Option R :=
  (m103_69 n N x0n x2 x14 h0 (fun y0n y14 y17 h0 => (m103_70 n N y0n y14 y17 h0 (fun h0 => K h0))))
theorem e103_68 (n N : Nat) (k : Kn R) (x0n : Bool) (x2 x14 h0 : D) : runC PHI (Tx103 n) N vc103_68 (s103_11 x0n x2 x14 h0) k = m103_68 n N x0n x2 x14 h0 (fun h0 => k .normal (s103_6 h0)) := by
  have h2 := e103_69 n N (kseq PHI (Tx103 n) N vc103_70 k) x0n x2 x14 h0
  have h3 := (funext fun y0n => funext fun y14 => funext fun y17 => funext fun h0 => (e103_70 n N k y0n y14 y17 h0) : (fun (y0n : Bool) (y14 y17 h0 : D) => (kseq PHI (Tx103 n) N vc103_70 k) .normal (s103_12 y0n y14 y17 h0)) = _)
  refine Eq.trans (runC_seq _ _ _ k) (Eq.trans h2 (Eq.trans (congrArg (fun K => m103_69 n N x0n x2 x14 h0 K) h3) (by kernel_rfl)))
def m103_82 (n N : Nat) (h0 : D) (Kr : D → Option R) : Option R :=
  Kr h0
theorem e103_82 (n N : Nat) (k : Kn R) (h0 : D) : runC PHI (Tx103 n) N vc103_82 (s103_6 h0) k = m103_82 n N h0 (fun h0 => k .ret (s103_6 h0)) := by kernel_rfl
def m103_67 (n N : Nat) (x0n : Bool) (x2 x14 h0 : D) (Kr : D → Option R) : Option R :=
  (m103_68 n N x0n x2 x14 h0 (fun h0 => (m103_82 n N h0 Kr)))
theorem e103_67 (n N : Nat) (k : Kn R) (x0n : Bool) (x2 x14 h0 : D) : runC PHI (Tx103 n) N vc103_67 (s103_11 x0n x2 x14 h0) k = m103_67 n N x0n x2 x14 h0 (fun h0 => k .ret (s103_6 h0)) := by
  have h2 := e103_68 n N (kseq PHI (Tx103 n) N vc103_82 k) x0n x2 x14 h0
  have h3 := (funext fun h0 => (e103_82 n N k h0) : (fun (h0 : D) => (kseq PHI (Tx103 n) N vc103_82 k) .normal (s103_6 h0)) = _)
  refine Eq.trans (runC_seq _ _ _ k) (Eq.trans h2 (Eq.trans (congrArg (fun K => m103_68 n N x0n x2 x14 h0 K) h3) (by kernel_rfl)))
def m103_50 (n N : Nat) (x0n : Bool) (x2 x4_0 x14 x15 h0 : D) (Kr : D → Option R) : Option R :=
  (m103_51 n N x0n x2 x4_0 x14 x15 h0 (fun y0n y2 y14 h0 => (m103_67 n N y0n y2 y14 h0 Kr)))
theorem e103_50 (n N : Nat) (k : Kn R) (x0n : Bool) (x2 x4_0 x14 x15 h0 : D) : runC PHI (Tx103 n) N vc103_50 (s103_10 x0n x2 x4_0 x14 x15 h0) k = m103_50 n N x0n x2 x4_0 x14 x15 h0 (fun h0 => k .ret (s103_6 h0)) := by
  have h2 := e103_51 n N (kseq PHI (Tx103 n) N vc103_67 k) x0n x2 x4_0 x14 x15 h0
  have h3 := (funext fun y0n => funext fun y2 => funext fun y14 => funext fun h0 => (e103_67 n N k y0n y2 y14 h0) : (fun (y0n : Bool) (y2 y14 h0 : D) => (kseq PHI (Tx103 n) N vc103_67 k) .normal (s103_11 y0n y2 y14 h0)) = _)
  refine Eq.trans (runC_seq _ _ _ k) (Eq.trans h2 (Eq.trans (congrArg (fun K => m103_51 n N x0n x2 x4_0 x14 x15 h0 K) h3) (by kernel_rfl)))
def m103_48 (n N : Nat) (x0n : Bool) (x2 x4_0 x14 h0 : D) (Kr : D → Option R) : Option R :=
  (m103_49 n N x0n x2 x4_0 x14 h0 (fun y0n y2 y4_0 y14 y15 h0 => (m103_50 n N y0n y2 y4_0 y14 y15 h0 Kr)))
theorem e103_48 (n N : Nat) (k : Kn R) (x0n : Bool) (x2 x4_0 x14 h0 : D) : runC PHI (Tx103 n) N vc103_48 (s103_9 x0n x2 x4_0 x14 h0) k = m103_48 n N x0n x2 x4_0 x14 h0 (fun h0 => k .ret (s103_6 h0)) := by
  have h2 := e103_49 n N (kseq PHI (Tx103 n) N vc103_50 k) x0n x2 x4_0 x14 h0
  have h3 := (funext fun y0n => funext fun y2 => funext fun y4_0 => funext fun y14 => funext fun y15 => funext fun h0 => (e103_50 n N k y0n y2 y4_0 y14 y15 h0) : (fun (y0n : Bool) (y2 y4_0 y14 y15 h0 : D) => (kseq PHI (Tx103 n) N vc103_50 k) .normal (s103_10 y0n y2 y4_0 y14 y15 h0)) = _)
  refine Eq.trans (runC_seq _ _ _ k) (Eq.trans h2 (Eq.trans (congrArg (fun K => m103_49 n N x0n x2 x4_0 x14 h0 K) h3) (by kernel_rfl)))
def m103_46 (n N : Nat) (x0n : Bool) (x1 x2 x4_0 h0 : D) (Kr : D → Option R) : Option R :=
  (m103_47 n N x0n x1 x2 x4_0 h0 (fun y0n y2 y4_0 y14 h0 => (m103_48 n N y0n y2 y4_0 y14 h0 Kr)))
theorem e103_46 (n N : Nat) (k : Kn R) (x0n : Bool) (x1 x2 x4_0 h0 : D) : runC PHI (Tx103 n) N vc103_46 (s103_8 x0n x1 x2 x4_0 h0) k = m103_46 n N x0n x1 x2 x4_0 h0 (fun h0 => k .ret (s103_6 h0)) := by
  have h2 := e103_47 n N (kseq PHI (Tx103 n) N vc103_48 k) x0n x1 x2 x4_0 h0
  have h3 := (funext fun y0n => funext fun y2 => funext fun y4_0 => funext fun y14 => funext fun h0 => (e103_48 n N k y0n y2 y4_0 y14 h0) : (fun (y0n : Bool) (y2 y4_0 y14 h0 : D) => (kseq PHI (Tx103 n) N vc103_48 k) .normal (s103_9 y0n y2 y4_0 y14 h0)) = _)
  refine Eq.trans (runC_seq _ _ _ k) (Eq.trans h2 (Eq.trans (congrArg (fun K => m103_47 n N x0n x1 x2 x4_0 h0 K) h3) (by kernel_rfl)))
def m103_83 (n N : Nat) (x0n : Bool) (x1 x2 x3 x4_0 h0 : D) (K : Bool → D → D → D → D → D → Option R) : Option R :=
  K x0n x1 x2 x3 x4_0 h0
theorem e103_83 (n N : Nat) (k : Kn R) (x0n : Bool) (x1 x2 x3 x4_0 h0 : D) : runC PHI (Tx103 n) N vc103_83 (s103_0 x0n x1 x2 x3 x4_0 h0) k = m103_83 n N x0n x1 x2 x3 x4_0 h0 (fun x0n x1 x2 x3 x4_0 h0 => k .normal (s103_0 x0n x1 x2 x3 x4_0 h0)) := by kernel_rfl
def m103_45 (n N : Nat) (x0n : Bool) (x1 x2 x3 x4_0 x80 h0 : D) (K : Bool → D → D → D → D → D → Option R) (Kr : D → Option R) : Option R :=
  (bif x80.toB then (m103_46 n N x0n x1 x2 x4_0 h0 Kr) else (m103_83 n N x0n x1 x2 x3 x4_0 h0 (fun y0n y1 y2 y3 y4_0 h0 => K y0n y1 y2 y3 y4_0 h0)))
theorem e103_45 (n N : Nat) (k : Kn R) (x0n : Bool) (x1 x2 x3 x4_0 x80 h0 : D) : runC PHI (Tx103 n) N vc103_45 (s103_7 x0n x1 x2 x3 x4_0 x80 h0) k = m103_45 n N x0n x1 x2 x3 x4_0 x80 h0 (fun x0n x1 x2 x3 x4_0 h0 => k .normal (s103_0 x0n x1 x2 x3 x4_0 h0)) (fun h0 => k .ret (s103_6 h0)) := by
  refine Eq.trans (runC_cond (s1 := (s103_8 x0n x1 x2 x4_0 h0)) (s2 := (s103_0 x0n x1 x2 x3 x4_0 h0)) (d := x80) _ _ k (by kernel_rfl) (by kernel_rfl) (by kernel_rfl)) (Eq.trans (congr (congrArg (cond x80.toB) ((e103_46 n N k x0n x1 x2 x4_0 h0))) ((e103_83 n N k x0n x1 x2 x3 x4_0 h0))) (by kernel_rfl))
def m103_43 (n N : Nat) (x0n : Bool) (x1 x2 x3 x4_0 h0 : D) (K : Bool → D → D → D → D → D → Option R) (Kr : D → Option R) : Option R :=
  (m103_44 n N x0n x1 x2 x3 x4_0 h0 (fun y0n y1 y2 y3 y4_0 y80 h0 => (m103_45 n N y0n y1 y2 y3 y4_0 y80 h0 (fun y0n y1 y2 y3 y4_0 h0 => K y0n y1 y2 y3 y4_0 h0) Kr)))
theorem e103_43 (n N : Nat) (k : Kn R) (x0n : Bool) (x1 x2 x3 x4_0 h0 : D) : runC PHI (Tx103 n) N vc103_43 (s103_0 x0n x1 x2 x3 x4_0 h0) k = m103_43 n N x0n x1 x2 x3 x4_0 h0 (fun x0n x1 x2 x3 x4_0 h0 => k .normal (s103_0 x0n x1 x2 x3 x4_0 h0)) (fun h0 => k .ret (s103_6 h0)) := by
  have h2 := e103_44 n N (kseq PHI (Tx103 n) N vc103_45 k) x0n x1 x2 x3 x4_0 h0
  have h3 := (funext fun y0n => funext fun y1 => funext fun y2 => funext fun y3 => funext fun y4_0 => funext fun y80 => funext fun h0 => (e103_45 n N k y0n y1 y2 y3 y4_0 y80 h0) : (fun (y0n : Bool) (y1 y2 y3 y4_0 y80 h0 : D) => (kseq PHI (Tx103 n) N vc103_45 k) .normal (s103_7 y0n y1 y2 y3 y4_0 y80 h0)) = _)
  refine Eq.trans (runC_seq _ _ _ k) (Eq.trans h2 (Eq.trans (congrArg (fun K => m103_44 n N x0n x1 x2 x3 x4_0 h0 K) h3) (by kernel_rfl)))
def m103_85 (n N : Nat) (x0n : Bool) (x1 x2 x3 x4_0 h0 : D) (K : Bool → D → D → D → D → D → D → Option R) : Option R :=
  (bif (F2.ok (.shr .u64) (D.i (IntKind.u64.wrap (IntKind.i64.wrap (x1.toI + x3.toI)))) (D.i 1)) then K x0n x1 x2 x3 x4_0 (D.i (IntKind.i64.wrap (F2.ev (.shr .u64) (D.i (IntKind.u64.wrap (IntKind.i64.wrap (x1.toI + x3.toI)))) (D.i 1)).toI)) h0 else none)
def s103_13 (x0n : Bool) (x1 x2 x3 x4_0 x18 h0 : D) : St := sts 220 [(0, V.ms 0 x0n), (1, V.f x1), (2, V.f x2), (3, V.f x3), (4, V.fn 70 [V.f x4_0] [Ty.p 22]), (18, V.f x18)] [V.f h0]
theorem e103_85 (n N : Nat) (k : Kn R) (x0n : Bool) (x1 x2 x3 x4_0 h0 : D) : runC PHI (Tx103 n) N vc103_85 (s103_0 x0n x1 x2 x3 x4_0 h0) k = m103_85 n N x0n x1 x2 x3 x4_0 h0 (fun x0n x1 x2 x3 x4_0 x18 h0 => k .normal (s103_13 x0n x1 x2 x3 x4_0 x18 h0)) := by
  refine Eq.trans (runC_post _ _ _ k) (Eq.trans (ops_run _ _ _ _) (by kernel_rfl))
def m103_87 (n N : Nat) (x0n : Bool) (x1 x2 x3 x4_0 x18 h0 : D) (K : Bool → D → D → D → D → D → D → D → Option R) : Option R :=
  K x0n x1 x2 x3 x4_0 x18 (D.i (IntKind.i64.wrap (x18.toI + x2.toI))) h0
def s103_14 (x0n : Bool) (x1 x2 x3 x4_0 x18 x19 h0 : D) : St := sts 220 [(0, V.ms 0 x0n), (1, V.f x1), (2, V.f x2), (3, V.f x3), (4, V.fn 70 [V.f x4_0] [Ty.p 22]), (18, V.f x18), (19, V.f x19)] [V.f h0]
theorem e103_87 (n N : Nat) (k : Kn R) (x0n : Bool) (x1 x2 x3 x4_0 x18 h0 : D) : runC PHI (Tx103 n) N vc103_87 (s103_13 x0n x1 x2 x3 x4_0 x18 h0) k = m103_87 n N x0n x1 x2 x3 x4_0 x18 h0 (fun x0n x1 x2 x3 x4_0 x18 x19 h0 => k .normal (s103_14 x0n x1 x2 x3 x4_0 x18 x19 h0)) := by
  refine Eq.trans (runC_post _ _ _ k) (Eq.trans (ops_run _ _ _ _) (by kernel_rfl))
def m103_89 (n N : Nat) (x0n : Bool) (x1 x2 x3 x4_0 x18 x19 h0 : D) (K : Bool → D → D → D → D → D → D → D → Option R) : Option R :=
  K x0n x1 x2 x3 x4_0 x18 x19 h0
theorem e103_89 (n N : Nat) (k : Kn R) (x0n : Bool) (x1 x2 x3 x4_0 x18 x19 h0 : D) : runC PHI (Tx103 n) N vc103_89 (s103_14 x0n x1 x2 x3 x4_0 x18 x19 h0) k = m103_89 n N x0n x1 x2 x3 x4_0 x18 x19 h0 (fun x0n x1 x2 x3 x4_0 x18 x19 h0 => k .normal (s103_14 x0n x1 x2 x3 x4_0 x18 x19 h0)) := by
  refine Eq.trans (runC_post _ _ _ k) (Eq.trans (ops_run _ _ _ _) (by kernel_rfl))
def m103_91 (n N : Nat) (x0n : Bool) (x1 x2 x3 x4_0 x18 x19 h0 : D) (K : Bool → D → D → D → D → D → D → D → D → D → Option R) : Option R :=
  (bif (ltb x18.toI x2.toI) then K x0n x1 x2 x3 x4_0 x18 x19 (D.i (IntKind.i64.wrap (x19.toI - x3.toI))) x18 h0 else K x0n x1 x2 x3 x4_0 x18 x19 x1 x2 h0)
def s103_15 (x0n : Bool) (x1 x2 x3 x4_0 x18 x19 x20 x21 h0 : D) : St := sts 220 [(0, V.ms 0 x0n), (1, V.f x1), (2, V.f x2), (3, V.f x3), (4, V.fn 70 [V.f x4_0] [Ty.p 22]), (18, V.f x18), (19, V.f x19), (20, V.f x20), (21, V.f x21)] [V.f h0]
theorem e103_91 (n N : Nat) (k : Kn R) (x0n : Bool) (x1 x2 x3 x4_0 x18 x19 h0 : D) : runC PHI (Tx103 n) N vc103_91 (s103_14 x0n x1 x2 x3 x4_0 x18 x19 h0) k = m103_91 n N x0n x1 x2 x3 x4_0 x18 x19 h0 (fun x0n x1 x2 x3 x4_0 x18 x19 x20 x21 h0 => k .normal (s103_15 x0n x1 x2 x3 x4_0 x18 x19 x20 x21 h0)) := by kernel_rfl
def m103_101 (n N : Nat) (x0n : Bool) (x1 x2 x3 x4_0 x18 x19 x20 x21 h0 : D) (K : Bool → D → D → D → D → D → D → D → D → D → D → Option R) : Option R :=
  K x0n x1 x2 x3 x4_0 x18 x19 x20 x21 (D.i (IntKind.i64.wrap (x19.toI - 1))) h0
def s103_16 (x0n : Bool) (x1 x2 x3 x4_0 x18 x19 x20 x21 x22 h0 : D) : St := sts 220 [(0, V.ms 0 x0n), (1, V.f x1), (2, V.f x2), (3, V.f x3), (4, V.fn 70 [V.f x4_0] [Ty.p 22]), (18, V.f x18), (19, V.f x19), (20, V.f x20), (21, V.f x21), (22, V.f x22)] [V.f h0]
theorem e103_101 (n N : Nat) (k : Kn R) (x0n : Bool) (x1 x2 x3 x4_0 x18 x19 x20 x21 h0 : D) : runC PHI (Tx103 n) N vc103_101 (s103_15 x0n x1 x2 x3 x4_0 x18 x19 x20 x21 h0) k = m103_101 n N x0n x1 x2 x3 x4_0 x18 x19 x20 x21 h0 (fun x0n x1 x2 x3 x4_0 x18 x19 x20 x21 x22 h0 => k .normal (s103_16 x0n x1 x2 x3 x4_0 x18 x19 x20 x21 x22 h0)) := by
  refine Eq.trans (runC_post _ _ _ k) (Eq.trans (ops_run _ _ _ _) (by kernel_rfl))
def m103_105 (n N : Nat) (x0n : Bool) (x1 x2 x3 x4_0 x18 x19 x20 x21 x22 h0 : D) (K : Bool → D → D → D → D → D → D → D → D → D → D → Option R) (K8 : Bool → D → D → D → D → D → D → D → D → Option R) : Option R :=
  (bif (ltb x20.toI x21.toI) then (bif (F2.ok (.shr .u64) (D.i (IntKind.u64.wrap (IntKind.i64.wrap (x20.toI + x21.toI)))) (D.i 1)) then (bif (inb (IntKind.i64.wrap (x22.toI - (IntKind.i64.wrap (F2.ev (.shr .u64) (D.i (IntKind.u64.wrap (IntKind.i64.wrap (x20.toI + x21.toI)))) (D.i 1)).toI))) h0.toL.length) then (bif (inb (IntKind.i64.wrap (F2.ev (.shr .u64) (D.i (IntKind.u64.wrap (IntKind.i64.wrap (x20.toI + x21.toI)))) (D.i 1)).toI) h0.toL.length) then (bif (pr70 (h0.at ((IntKind.i64.wrap (x22.toI - (IntKind.i64.wrap (F2.ev (.shr .u64) (D.i (IntKind.u64.wrap (IntKind.i64.wrap (x20.toI + x21.toI)))) (D.i 1)).toI))) : Int).toNat) (h0.at ((IntKind.i64.wrap (F2.ev (.shr .u64) (D.i (IntKind.u64.wrap (IntKind.i64.wrap (x20.toI + x21.toI)))) (D.i 1)).toI) : Int).toNat) x4_0) then (bif (!(ltb (sp70 (h0.at ((IntKind.i64.wrap (x22.toI - (IntKind.i64.wrap (F2.ev (.shr .u64) (D.i (IntKind.u64.wrap (IntKind.i64.wrap (x20.toI + x21.toI)))) (D.i 1)).toI))) : Int).toNat) (h0.at ((IntKind.i64.wrap (F2.ev (.shr .u64) (D.i (IntKind.u64.wrap (IntKind.i64.wrap (x20.toI + x21.toI)))) (D.i 1)).toI) : Int).toNat) x4_0) 0)) then K x0n x1 x2 x3 x4_0 x18 x19 (D.i (IntKind.i64.wrap ((IntKind.i64.wrap (F2.ev (.shr .u64) (D.i (IntKind.u64.wrap (IntKind.i64.wrap (x20.toI + x21.toI)))) (D.i 1)).toI) + 1))) x21 x22 h0 else K x0n x1 x2 x3 x4_0 x18 x19 x20 (D.i (IntKind.i64.wrap (F2.ev (.shr .u64) (D.i (IntKind.u64.wrap (IntKind.i64.wrap (x20.toI + x21.toI)))) (D.i 1)).toI)) x22 h0) else none) else none) else none) else none) else K8 x0n x1 x2 x3 x4_0 x18 x19 x20 h0)
def s103_17 (x0n : Bool) (x1 x2 x3 x4_0 x18 x19 x20 h0 : D) : St := sts 220 [(0, V.ms 0 x0n), (1, V.f x1), (2, V.f x2), (3, V.f x3), (4, V.fn 70 [V.f x4_0] [Ty.p 22]), (18, V.f x18), (19, V.f x19), (20, V.f x20)] [V.f h0]
theorem e103_105 (n N : Nat) (k : Kn R) (x0n : Bool) (x1 x2 x3 x4_0 x18 x19 x20 x21 x22 h0 : D) : runC PHI (Tx103 n) N vc103_105 (s103_16 x0n x1 x2 x3 x4_0 x18 x19 x20 x21 x22 h0) k = m103_105 n N x0n x1 x2 x3 x4_0 x18 x19 x20 x21 x22 h0 (fun x0n x1 x2 x3 x4_0 x18 x19 x20 x21 x22 h0 => k .normal (s103_16 x0n x1 x2 x3 x4_0 x18 x19 x20 x21 x22 h0)) (fun x0n x1 x2 x3 x4_0 x18 x19 x20 h0 => k (.exit 8) (s103_17 x0n x1 x2 x3 x4_0 x18 x19 x20 h0)) := by kernel_rfl
def l103_104 (n N : Nat) (j : Nat) (x0n : Bool) (x1 x2 x3 x4_0 x18 x19 x20 x21 x22 h0 : D) (K8 : Bool → D → D → D → D → D → D → D → D → Option R) : Option R :=
  match j with
  | 0 => none
  | j + 1 => (m103_105 n N x0n x1 x2 x3 x4_0 x18 x19 x20 x21 x22 h0 (fun y0n y1 y2 y3 y4_0 y18 y19 y20 y21 y22 h0 => l103_104 n N j y0n y1 y2 y3 y4_0 y18 y19 y20 y21 y22 h0 K8) K8)
def m103_104 (n N : Nat) (x0n : Bool) (x1 x2 x3 x4_0 x18 x19 x20 x21 x22 h0 : D) (K8 : Bool → D → D → D → D → D → D → D → D → Option R) : Option R :=
  l103_104 n N N x0n x1 x2 x3 x4_0 x18 x19 x20 x21 x22 h0 K8
theorem el103_104 (n N : Nat) (k : Kn R) : ∀ (j : Nat) (x0n : Bool) (x1 x2 x3 x4_0 x18 x19 x20 x21 x22 h0 : D), loopGo (runC PHI (Tx103 n) N vc103_105) j (s103_16 x0n x1 x2 x3 x4_0 x18 x19 x20 x21 x22 h0) k = l103_104 n N j x0n x1 x2 x3 x4_0 x18 x19 x20 x21 x22 h0 (fun x0n x1 x2 x3 x4_0 x18 x19 x20 h0 => k (.exit 8) (s103_17 x0n x1 x2 x3 x4_0 x18 x19 x20 h0))
  | 0, _, _, _, _, _, _, _, _, _, _, _ => by kernel_rfl
  | j + 1, x0n, x1, x2, x3, x4_0, x18, x19, x20, x21, x22, h0 => by
    have h2 := e103_105 n N (kloop PHI (Tx103 n) N vc103_105 j k) x0n x1 x2 x3 x4_0 x18 x19 x20 x21 x22 h0
    have h3 : (fun (y0n : Bool) (y1 y2 y3 y4_0 y18 y19 y20 y21 y22 h0 : D) => (kloop PHI (Tx103 n) N vc103_105 j k) .normal (s103_16 y0n y1 y2 y3 y4_0 y18 y19 y20 y21 y22 h0)) = (fun (y0n : Bool) (y1 y2 y3 y4_0 y18 y19 y20 y21 y22 h0 : D) => l103_104 n N j y0n y1 y2 y3 y4_0 y18 y19 y20 y21 y22 h0 (fun x0n x1 x2 x3 x4_0 x18 x19 x20 h0 => k (.exit 8) (s103_17 x0n x1 x2 x3 x4_0 x18 x19 x20 h0))) := funext fun y0n => funext fun y1 => funext fun y2 => funext fun y3 => funext fun y4_0 => funext fun y18 => funext fun y19 => funext fun y20 => funext fun y21 => funext fun y22 => funext fun h0 => (el103_104 n N k j y0n y1 y2 y3 y4_0 y18 y19 y20 y21 y22 h0)
    refine Eq.trans (loop_succ _ j _ k) (Eq.trans h2 (Eq.trans (congrArg (fun K => m103_105 n N x0n x1 x2 x3 x4_0 x18 x19 x20 x21 x22 h0 K (fun x0n x1 x2 x3 x4_0 x18 x19 x20 h0 => (kloop PHI (Tx103 n) N vc103_105 j k) (.exit 8) (s103_17 x0n x1 x2 x3 x4_0 x18 x19 x20 h0))) h3) (by kernel_rfl)))
theorem e103_104 (n N : Nat) (k : Kn R) (x0n : Bool) (x1 x2 x3 x4_0 x18 x19 x20 x21 x22 h0 : D) : runC PHI (Tx103 n) N vc103_104 (s103_16 x0n x1 x2 x3 x4_0 x18 x19 x20 x21 x22 h0) k = m103_104 n N x0n x1 x2 x3 x4_0 x18 x19 x20 x21 x22 h0 (fun x0n x1 x2 x3 x4_0 x18 x19 x20 h0 => k (.exit 8) (s103_17 x0n x1 x2 x3 x4_0 x18 x19 x20 h0)) := by
  refine Eq.trans (runC_loop _ _ k) (Eq.trans (el103_104 n N k N x0n x1 x2 x3 x4_0 x18 x19 x20 x21 x22 h0) (by kernel_rfl))
def m103_103 (n N : Nat) (x0n : Bool) (x1 x2 x3 x4_0 x18 x19 x20 x21 x22 h0 : D) (K : Bool → D → D → D → D → D → D → D → D → Option R) : Option R :=
  (m103_104 n N x0n x1 x2 x3 x4_0 x18 x19 x20 x21 x22 h0 (fun y0n y1 y2 y3 y4_0 y18 y19 y20 h0 => K y0n y1 y2 y3 y4_0 y18 y19 y20 h0))
theorem e103_103 (n N : Nat) (k : Kn R) (x0n : Bool) (x1 x2 x3 x4_0 x18 x19 x20 x21 x22 h0 : D) : runC PHI (Tx103 n) N vc103_103 (s103_16 x0n x1 x2 x3 x4_0 x18 x19 x20 x21 x22 h0) k = m103_103 n N x0n x1 x2 x3 x4_0 x18 x19 x20 x21 x22 h0 (fun x0n x1 x2 x3 x4_0 x18 x19 x20 h0 => k .normal (s103_17 x0n x1 x2 x3 x4_0 x18 x19 x20 h0)) := by
  refine Eq.trans (runC_block _ _ _ k) (Eq.trans (e103_104 n N (kblk 8 k) x0n x1 x2 x3 x4_0 x18 x19 x20 x21 x22 h0) (by kernel_rfl))
def m103_120 (n N : Nat) (x0n : Bool) (x1 x2 x3 x4_0 x18 x19 x20 h0 : D) (K : Bool → D → D → D → D → D → D → D → D → Option R) : Option R :=
  K x0n x1 x2 x3 x4_0 x18 x20 (D.i (IntKind.i64.wrap (x19.toI - x20.toI))) h0
def s103_18 (x0n : Bool) (x1 x2 x3 x4_0 x18 x20 x24 h0 : D) : St := sts 220 [(0, V.ms 0 x0n), (1, V.f x1), (2, V.f x2), (3, V.f x3), (4, V.fn 70 [V.f x4_0] [Ty.p 22]), (18, V.f x18), (20, V.f x20), (24, V.f x24)] [V.f h0]
theorem e103_120 (n N : Nat) (k : Kn R) (x0n : Bool) (x1 x2 x3 x4_0 x18 x19 x20 h0 : D) : runC PHI (Tx103 n) N vc103_120 (s103_17 x0n x1 x2 x3 x4_0 x18 x19 x20 h0) k = m103_120 n N x0n x1 x2 x3 x4_0 x18 x19 x20 h0 (fun x0n x1 x2 x3 x4_0 x18 x20 x24 h0 => k .normal (s103_18 x0n x1 x2 x3 x4_0 x18 x20 x24 h0)) := by
  refine Eq.trans (runC_post _ _ _ k) (Eq.trans (ops_run _ _ _ _) (by kernel_rfl))
def m103_122 (n N : Nat) (x0n : Bool) (x1 x2 x3 x4_0 x18 x20 x24 h0 : D) (K : Bool → D → D → D → D → D → D → D → Option R) : Option R :=
  (bif (ltb x20.toI x2.toI) then (bif (ltb x2.toI x24.toI) then (bif ((pr106_70 x20 x2 x24 x4_0 h0) && (Nat.beq h0.toL.length (sp106_70_h0 x20 x2 x24 x4_0 h0).toL.length && true)) then K x0n x1 x3 x4_0 x18 x20 x24 (sp106_70_h0 x20 x2 x24 x4_0 h0) else none) else K x0n x1 x3 x4_0 x18 x20 x24 h0) else (bif false then (bif ((pr106_70 x20 x2 x24 x4_0 h0) && (Nat.beq h0.toL.length (sp106_70_h0 x20 x2 x24 x4_0 h0).toL.length && true)) then K x0n x1 x3 x4_0 x18 x20 x24 (sp106_70_h0 x20 x2 x24 x4_0 h0) else none) else K x0n x1 x3 x4_0 x18 x20 x24 h0))
def s103_19 (x0n : Bool) (x1 x3 x4_0 x18 x20 x24 h0 : D) : St := sts 220 [(0, V.ms 0 x0n), (1, V.f x1), (3, V.f x3), (4, V.fn 70 [V.f x4_0] [Ty.p 22]), (18, V.f x18), (20, V.f x20), (24, V.f x24)] [V.f h0]
theorem e103_122 (n N : Nat) (k : Kn R) (x0n : Bool) (x1 x2 x3 x4_0 x18 x20 x24 h0 : D) : runC PHI (Tx103 n) N vc103_122 (s103_18 x0n x1 x2 x3 x4_0 x18 x20 x24 h0) k = m103_122 n N x0n x1 x2 x3 x4_0 x18 x20 x24 h0 (fun x0n x1 x3 x4_0 x18 x20 x24 h0 => k .normal (s103_19 x0n x1 x3 x4_0 x18 x20 x24 h0)) := by kernel_rfl
def m103_128 (n N : Nat) (x0n : Bool) (x1 x3 x4_0 x18 x20 x24 h0 : D) (K : Bool → D → D → D → D → D → Option R) : Option R :=
  (bif (ltb x1.toI x20.toI) then (bif (ltb x20.toI x18.toI) then (bif ((prx103_70 n x1 x20 x18 x4_0 h0) && (Nat.beq h0.toL.length (sp103_70_h0 x1 x20 x18 x4_0 h0).toL.length && true)) then K x0n x3 x4_0 x18 x24 (sp103_70_h0 x1 x20 x18 x4_0 h0) else none) else K x0n x3 x4_0 x18 x24 h0) else (bif false then (bif ((prx103_70 n x1 x20 x18 x4_0 h0) && (Nat.beq h0.toL.length (sp103_70_h0 x1 x20 x18 x4_0 h0).toL.length && true)) then K x0n x3 x4_0 x18 x24 (sp103_70_h0 x1 x20 x18 x4_0 h0) else none) else K x0n x3 x4_0 x18 x24 h0))
def s103_20 (x0n : Bool) (x3 x4_0 x18 x24 h0 : D) : St := sts 220 [(0, V.ms 0 x0n), (3, V.f x3), (4, V.fn 70 [V.f x4_0] [Ty.p 22]), (18, V.f x18), (24, V.f x24)] [V.f h0]
theorem e103_128 (n N : Nat) (k : Kn R) (x0n : Bool) (x1 x3 x4_0 x18 x20 x24 h0 : D) : runC PHI (Tx103 n) N vc103_128 (s103_19 x0n x1 x3 x4_0 x18 x20 x24 h0) k = m103_128 n N x0n x1 x3 x4_0 x18 x20 x24 h0 (fun x0n x3 x4_0 x18 x24 h0 => k .normal (s103_20 x0n x3 x4_0 x18 x24 h0)) := by kernel_rfl
def m103_133 (n N : Nat) (x0n : Bool) (x3 x4_0 x18 x24 h0 : D) (K : D → Option R) : Option R :=
  (bif (ltb x18.toI x24.toI) then (bif (ltb x24.toI x3.toI) then (bif ((prx103_70 n x18 x24 x3 x4_0 h0) && (Nat.beq h0.toL.length (sp103_70_h0 x18 x24 x3 x4_0 h0).toL.length && true)) then K (sp103_70_h0 x18 x24 x3 x4_0 h0) else none) else K h0) else (bif false then (bif ((prx103_70 n x18 x24 x3 x4_0 h0) && (Nat.beq h0.toL.length (sp103_70_h0 x18 x24 x3 x4_0 h0).toL.length && true)) then K (sp103_70_h0 x18 x24 x3 x4_0 h0) else none) else K h0))
theorem e103_133 (n N : Nat) (k : Kn R) (x0n : Bool) (x3 x4_0 x18 x24 h0 : D) : runC PHI (Tx103 n) N vc103_133 (s103_20 x0n x3 x4_0 x18 x24 h0) k = m103_133 n N x0n x3 x4_0 x18 x24 h0 (fun h0 => k .normal (s103_6 h0)) := by kernel_rfl
def m103_127 (n N : Nat) (x0n : Bool) (x1 x3 x4_0 x18 x20 x24 h0 : D) (K : D → Option R) : Option R :=
  (m103_128 n N x0n x1 x3 x4_0 x18 x20 x24 h0 (fun y0n y3 y4_0 y18 y24 h0 => (m103_133 n N y0n y3 y4_0 y18 y24 h0 (fun h0 => K h0))))
theorem e103_127 (n N : Nat) (k : Kn R) (x0n : Bool) (x1 x3 x4_0 x18 x20 x24 h0 : D) : runC PHI (Tx103 n) N vc103_127 (s103_19 x0n x1 x3 x4_0 x18 x20 x24 h0) k = m103_127 n N x0n x1 x3 x4_0 x18 x20 x24 h0 (fun h0 => k .normal (s103_6 h0)) := by
  have h2 := e103_128 n N (kseq PHI (Tx103 n) N vc103_133 k) x0n x1 x3 x4_0 x18 x20 x24 h0
  have h3 := (funext fun y0n => funext fun y3 => funext fun y4_0 => funext fun y18 => funext fun y24 => funext fun h0 => (e103_133 n N k y0n y3 y4_0 y18 y24 h0) : (fun (y0n : Bool) (y3 y4_0 y18 y24 h0 : D) => (kseq PHI (Tx103 n) N vc103_133 k) .normal (s103_20 y0n y3 y4_0 y18 y24 h0)) = _)
  refine Eq.trans (runC_seq _ _ _ k) (Eq.trans h2 (Eq.trans (congrArg (fun K => m103_128 n N x0n x1 x3 x4_0 x18 x20 x24 h0 K) h3) (by kernel_rfl)))
def m103_121 (n N : Nat) (x0n : Bool) (x1 x2 x3 x4_0 x18 x20 x24 h0 : D) (K : D → Option R) : Option R :=
  (m103_122 n N x0n x1 x2 x3 x4_0 x18 x20 x24 h0 (fun y0n y1 y3 y4_0 y18 y20 y24 h0 => (m103_127 n N y0n y1 y3 y4_0 y18 y20 y24 h0 (fun h0 => K h0))))
theorem e103_121 (n N : Nat) (k : Kn R) (x0n : Bool) (x1 x2 x3 x4_0 x18 x20 x24 h0 : D) : runC PHI (Tx103 n) N vc103_121 (s103_18 x0n x1 x2 x3 x4_0 x18 x20 x24 h0) k = m103_121 n N x0n x1 x2 x3 x4_0 x18 x20 x24 h0 (fun h0 => k .normal (s103_6 h0)) := by
  have h2 := e103_122 n N (kseq PHI (Tx103 n) N vc103_127 k) x0n x1 x2 x3 x4_0 x18 x20 x24 h0
  have h3 := (funext fun y0n => funext fun y1 => funext fun y3 => funext fun y4_0 => funext fun y18 => funext fun y20 => funext fun y24 => funext fun h0 => (e103_127 n N k y0n y1 y3 y4_0 y18 y20 y24 h0) : (fun (y0n : Bool) (y1 y3 y4_0 y18 y20 y24 h0 : D) => (kseq PHI (Tx103 n) N vc103_127 k) .normal (s103_19 y0n y1 y3 y4_0 y18 y20 y24 h0)) = _)
  refine Eq.trans (runC_seq _ _ _ k) (Eq.trans h2 (Eq.trans (congrArg (fun K => m103_122 n N x0n x1 x2 x3 x4_0 x18 x20 x24 h0 K) h3) (by kernel_rfl)))
def m103_119 (n N : Nat) (x0n : Bool) (x1 x2 x3 x4_0 x18 x19 x20 h0 : D) (K : D → Option R) : Option R :=
  (m103_120 n N x0n x1 x2 x3 x4_0 x18 x19 x20 h0 (fun y0n y1 y2 y3 y4_0 y18 y20 y24 h0 => (m103_121 n N y0n y1 y2 y3 y4_0 y18 y20 y24 h0 (fun h0 => K h0))))
theorem e103_119 (n N : Nat) (k : Kn R) (x0n : Bool) (x1 x2 x3 x4_0 x18 x19 x20 h0 : D) : runC PHI (Tx103 n) N vc103_119 (s103_17 x0n x1 x2 x3 x4_0 x18 x19 x20 h0) k = m103_119 n N x0n x1 x2 x3 x4_0 x18 x19 x20 h0 (fun h0 => k .normal (s103_6 h0)) := by
  have h2 := e103_120 n N (kseq PHI (Tx103 n) N vc103_121 k) x0n x1 x2 x3 x4_0 x18 x19 x20 h0
  have h3 := (funext fun y0n => funext fun y1 => funext fun y2 => funext fun y3 => funext fun y4_0 => funext fun y18 => funext fun y20 => funext fun y24 => funext fun h0 => (e103_121 n N k y0n y1 y2 y3 y4_0 y18 y20 y24 h0) : (fun (y0n : Bool) (y1 y2 y3 y4_0 y18 y20 y24 h0 : D) => (kseq PHI (Tx103 n) N vc103_121 k) .normal (s103_18 y0n y1 y2 y3 y4_0 y18 y20 y24 h0)) = _)
  refine Eq.trans (runC_seq _ _ _ k) (Eq.trans h2 (Eq.trans (congrArg (fun K => m103_120 n N x0n x1 x2 x3 x4_0 x18 x19 x20 h0 K) h3) (by kernel_rfl)))
def m103_102 (n N : Nat) (x0n : Bool) (x1 x2 x3 x4_0 x18 x19 x20 x21 x22 h0 : D) (K : D → Option R) : Option R :=
  (m103_103 n N x0n x1 x2 x3 x4_0 x18 x19 x20 x21 x22 h0 (fun y0n y1 y2 y3 y4_0 y18 y19 y20 h0 => (m103_119 n N y0n y1 y2 y3 y4_0 y18 y19 y20 h0 (fun h0 => K h0))))
theorem e103_102 (n N : Nat) (k : Kn R) (x0n : Bool) (x1 x2 x3 x4_0 x18 x19 x20 x21 x22 h0 : D) : runC PHI (Tx103 n) N vc103_102 (s103_16 x0n x1 x2 x3 x4_0 x18 x19 x20 x21 x22 h0) k = m103_102 n N x0n x1 x2 x3 x4_0 x18 x19 x20 x21 x22 h0 (fun h0 => k .normal (s103_6 h0)) := by
  have h2 := e103_103 n N (kseq PHI (Tx103 n) N vc103_119 k) x0n x1 x2 x3 x4_0 x18 x19 x20 x21 x22 h0
  have h3 := (funext fun y0n => funext fun y1 => funext fun y2 => funext fun y3 => funext fun y4_0 => funext fun y18 => funext fun y19 => funext fun y20 => funext fun h0 => (e103_119 n N k y0n y1 y2 y3 y4_0 y18 y19 y20 h0) : (fun (y0n : Bool) (y1 y2 y3 y4_0 y18 y19 y20 h0 : D) => (kseq PHI (Tx103 n) N vc103_119 k) .normal (s103_17 y0n y1 y2 y3 y4_0 y18 y19 y20 h0)) = _)
  refine Eq.trans (runC_seq _ _ _ k) (Eq.trans h2 (Eq.trans (congrArg (fun K => m103_103 n N x0n x1 x2 x3 x4_0 x18 x19 x20 x21 x22 h0 K) h3) (by kernel_rfl)))
def m103_100 (n N : Nat) (x0n : Bool) (x1 x2 x3 x4_0 x18 x19 x20 x21 h0 : D) (K : D → Option R) : Option R :=
  (m103_101 n N x0n x1 x2 x3 x4_0 x18 x19 x20 x21 h0 (fun y0n y1 y2 y3 y4_0 y18 y19 y20 y21 y22 h0 => (m103_102 n N y0n y1 y2 y3 y4_0 y18 y19 y20 y21 y22 h0 (fun h0 => K h0))))
theorem e103_100 (n N : Nat) (k : Kn R) (x0n : Bool) (x1 x2 x3 x4_0 x18 x19 x20 x21 h0 : D) : runC PHI (Tx103 n) N vc103_100 (s103_15 x0n x1 x2 x3 x4_0 x18 x19 x20 x21 h0) k = m103_100 n N x0n x1 x2 x3 x4_0 x18 x19 x20 x21 h0 (fun h0 => k .normal (s103_6 h0)) := by
  have h2 := e103_101 n N (kseq PHI (Tx103 n) N vc103_102 k) x0n x1 x2 x3 x4_0 x18 x19 x20 x21 h0
  have h3 := (funext fun y0n => funext fun y1 => funext fun y2 => funext fun y3 => funext fun y4_0 => funext fun y18 => funext fun y19 => funext fun y20 => funext fun y21 => funext fun y22 => funext fun h0 => (e103_102 n N k y0n y1 y2 y3 y4_0 y18 y19 y20 y21 y22 h0) : (fun (y0n : Bool) (y1 y2 y3 y4_0 y18 y19 y20 y21 y22 h0 : D) => (kseq PHI (Tx103 n) N vc103_102 k) .normal (s103_16 y0n y1 y2 y3 y4_0 y18 y19 y20 y21 y22 h0)) = _)
  refine Eq.trans (runC_seq _ _ _ k) (Eq.trans h2 (Eq.trans (congrArg (fun K => m103_101 n N x0n x1 x2 x3 x4_0 x18 x19 x20 x21 h0 K) h3) (by kernel_rfl)))
def m103_90 (n N : Nat) (x0n : Bool) (x1 x2 x3 x4_0 x18 x19 h0 : D) (K : D → Option R) : Option R :=
  (m103_91 n N x0n x1 x2 x3 x4_0 x18 x19 h0 (fun y0n y1 y2 y3 y4_0 y18 y19 y20 y21 h0 => (m103_100 n N y0n y1 y2 y3 y4_0 y18 y19 y20 y21 h0 (fun h0 => K h0))))
theorem e103_90 (n N : Nat) (k : Kn R) (x0n : Bool) (x1 x2 x3 x4_0 x18 x19 h0 : D) : runC PHI (Tx103 n) N vc103_90 (s103_14 x0n x1 x2 x3 x4_0 x18 x19 h0) k = m103_90 n N x0n x1 x2 x3 x4_0 x18 x19 h0 (fun h0 => k .normal (s103_6 h0)) := by
  have h2 := e103_91 n N (kseq PHI (Tx103 n) N vc103_100 k) x0n x1 x2 x3 x4_0 x18 x19 h0
  have h3 := (funext fun y0n => funext fun y1 => funext fun y2 => funext fun y3 => funext fun y4_0 => funext fun y18 => funext fun y19 => funext fun y20 => funext fun y21 => funext fun h0 => (e103_100 n N k y0n y1 y2 y3 y4_0 y18 y19 y20 y21 h0) : (fun (y0n : Bool) (y1 y2 y3 y4_0 y18 y19 y20 y21 h0 : D) => (kseq PHI (Tx103 n) N vc103_100 k) .normal (s103_15 y0n y1 y2 y3 y4_0 y18 y19 y20 y21 h0)) = _)
  refine Eq.trans (runC_seq _ _ _ k) (Eq.trans h2 (Eq.trans (congrArg (fun K => m103_91 n N x0n x1 x2 x3 x4_0 x18 x19 h0 K) h3) (by kernel_rfl)))
def m103_88 (n N : Nat) (x0n : Bool) (x1 x2 x3 x4_0 x18 x19 h0 : D) (K : D → Option R) : Option R :=
  (m103_89 n N x0n x1 x2 x3 x4_0 x18 x19 h0 (fun y0n y1 y2 y3 y4_0 y18 y19 h0 => (m103_90 n N y0n y1 y2 y3 y4_0 y18 y19 h0 (fun h0 => K h0))))
theorem e103_88 (n N : Nat) (k : Kn R) (x0n : Bool) (x1 x2 x3 x4_0 x18 x19 h0 : D) : runC PHI (Tx103 n) N vc103_88 (s103_14 x0n x1 x2 x3 x4_0 x18 x19 h0) k = m103_88 n N x0n x1 x2 x3 x4_0 x18 x19 h0 (fun h0 => k .normal (s103_6 h0)) := by
  have h2 := e103_89 n N (kseq PHI (Tx103 n) N vc103_90 k) x0n x1 x2 x3 x4_0 x18 x19 h0
  have h3 := (funext fun y0n => funext fun y1 => funext fun y2 => funext fun y3 => funext fun y4_0 => funext fun y18 => funext fun y19 => funext fun h0 => (e103_90 n N k y0n y1 y2 y3 y4_0 y18 y19 h0) : (fun (y0n : Bool) (y1 y2 y3 y4_0 y18 y19 h0 : D) => (kseq PHI (Tx103 n) N vc103_90 k) .normal (s103_14 y0n y1 y2 y3 y4_0 y18 y19 h0)) = _)
  refine Eq.trans (runC_seq _ _ _ k) (Eq.trans h2 (Eq.trans (congrArg (fun K => m103_89 n N x0n x1 x2 x3 x4_0 x18 x19 h0 K) h3) (by kernel_rfl)))
def m103_86 (n N : Nat) (x0n : Bool) (x1 x2 x3 x4_0 x18 h0 : D) (K : D → Option R) : Option R :=
  (m103_87 n N x0n x1 x2 x3 x4_0 x18 h0 (fun y0n y1 y2 y3 y4_0 y18 y19 h0 => (m103_88 n N y0n y1 y2 y3 y4_0 y18 y19 h0 (fun h0 => K h0))))
theorem e103_86 (n N : Nat) (k : Kn R) (x0n : Bool) (x1 x2 x3 x4_0 x18 h0 : D) : runC PHI (Tx103 n) N vc103_86 (s103_13 x0n x1 x2 x3 x4_0 x18 h0) k = m103_86 n N x0n x1 x2 x3 x4_0 x18 h0 (fun h0 => k .normal (s103_6 h0)) := by
  have h2 := e103_87 n N (kseq PHI (Tx103 n) N vc103_88 k) x0n x1 x2 x3 x4_0 x18 h0
  have h3 := (funext fun y0n => funext fun y1 => funext fun y2 => funext fun y3 => funext fun y4_0 => funext fun y18 => funext fun y19 => funext fun h0 => (e103_88 n N k y0n y1 y2 y3 y4_0 y18 y19 h0) : (fun (y0n : Bool) (y1 y2 y3 y4_0 y18 y19 h0 : D) => (kseq PHI (Tx103 n) N vc103_88 k) .normal (s103_14 y0n y1 y2 y3 y4_0 y18 y19 h0)) = _)
  refine Eq.trans (runC_seq _ _ _ k) (Eq.trans h2 (Eq.trans (congrArg (fun K => m103_87 n N x0n x1 x2 x3 x4_0 x18 h0 K) h3) (by kernel_rfl)))
def m103_84 (n N : Nat) (x0n : Bool) (x1 x2 x3 x4_0 h0 : D) (K : D → Option R) : Option R :=
  (m103_85 n N x0n x1 x2 x3 x4_0 h0 (fun y0n y1 y2 y3 y4_0 y18 h0 => (m103_86 n N y0n y1 y2 y3 y4_0 y18 h0 (fun h0 => K h0))))
theorem e103_84 (n N : Nat) (k : Kn R) (x0n : Bool) (x1 x2 x3 x4_0 h0 : D) : runC PHI (Tx103 n) N vc103_84 (s103_0 x0n x1 x2 x3 x4_0 h0) k = m103_84 n N x0n x1 x2 x3 x4_0 h0 (fun h0 => k .normal (s103_6 h0)) := by
  have h2 := e103_85 n N (kseq PHI (Tx103 n) N vc103_86 k) x0n x1 x2 x3 x4_0 h0
  have h3 := (funext fun y0n => funext fun y1 => funext fun y2 => funext fun y3 => funext fun y4_0 => funext fun y18 => funext fun h0 => (e103_86 n N k y0n y1 y2 y3 y4_0 y18 h0) : (fun (y0n : Bool) (y1 y2 y3 y4_0 y18 h0 : D) => (kseq PHI (Tx103 n) N vc103_86 k) .normal (s103_13 y0n y1 y2 y3 y4_0 y18 h0)) = _)
  refine Eq.trans (runC_seq _ _ _ k) (Eq.trans h2 (Eq.trans (congrArg (fun K => m103_85 n N x0n x1 x2 x3 x4_0 h0 K) h3) (by kernel_rfl)))
def m103_42 (n N : Nat) (x0n : Bool) (x1 x2 x3 x4_0 h0 : D) (K : D → Option R) (Kr : D → Option R) : Option R :=
  (m103_43 n N x0n x1 x2 x3 x4_0 h0 (fun y0n y1 y2 y3 y4_0 h0 => (m103_84 n N y0n y1 y2 y3 y4_0 h0 (fun h0 => K h0))) Kr)
theorem e103_42 (n N : Nat) (k : Kn R) (x0n : Bool) (x1 x2 x3 x4_0 h0 : D) : runC PHI (Tx103 n) N vc103_42 (s103_0 x0n x1 x2 x3 x4_0 h0) k = m103_42 n N x0n x1 x2 x3 x4_0 h0 (fun h0 => k .normal (s103_6 h0)) (fun h0 => k .ret (s103_6 h0)) := by
  have h2 := e103_43 n N (kseq PHI (Tx103 n) N vc103_84 k) x0n x1 x2 x3 x4_0 h0
  have h3 := (funext fun y0n => funext fun y1 => funext fun y2 => funext fun y3 => funext fun y4_0 => funext fun h0 => (e103_84 n N k y0n y1 y2 y3 y4_0 h0) : (fun (y0n : Bool) (y1 y2 y3 y4_0 h0 : D) => (kseq PHI (Tx103 n) N vc103_84 k) .normal (s103_0 y0n y1 y2 y3 y4_0 h0)) = _)
  refine Eq.trans (runC_seq _ _ _ k) (Eq.trans h2 (Eq.trans (congrArg (fun K => m103_43 n N x0n x1 x2 x3 x4_0 h0 K (fun h0 => (kseq PHI (Tx103 n) N vc103_84 k) .ret (s103_6 h0))) h3) (by kernel_rfl)))
def m103_0 (n N : Nat) (x0n : Bool) (x1 x2 x3 x4_0 h0 : D) (K : D → Option R) (Kr : D → Option R) : Option R :=
  (m103_1 n N x0n x1 x2 x3 x4_0 h0 (fun y0n y1 y2 y3 y4_0 h0 => (m103_42 n N y0n y1 y2 y3 y4_0 h0 (fun h0 => K h0) Kr)) Kr)
theorem e103_0 (n N : Nat) (k : Kn R) (x0n : Bool) (x1 x2 x3 x4_0 h0 : D) : runC PHI (Tx103 n) N vc103_0 (s103_0 x0n x1 x2 x3 x4_0 h0) k = m103_0 n N x0n x1 x2 x3 x4_0 h0 (fun h0 => k .normal (s103_6 h0)) (fun h0 => k .ret (s103_6 h0)) := by
  have h2 := e103_1 n N (kseq PHI (Tx103 n) N vc103_42 k) x0n x1 x2 x3 x4_0 h0
  have h3 := (funext fun y0n => funext fun y1 => funext fun y2 => funext fun y3 => funext fun y4_0 => funext fun h0 => (e103_42 n N k y0n y1 y2 y3 y4_0 h0) : (fun (y0n : Bool) (y1 y2 y3 y4_0 h0 : D) => (kseq PHI (Tx103 n) N vc103_42 k) .normal (s103_0 y0n y1 y2 y3 y4_0 h0)) = _)
  refine Eq.trans (runC_seq _ _ _ k) (Eq.trans h2 (Eq.trans (congrArg (fun K => m103_1 n N x0n x1 x2 x3 x4_0 h0 K (fun h0 => (kseq PHI (Tx103 n) N vc103_42 k) .ret (s103_6 h0))) h3) (by kernel_rfl)))
theorem r103 (n N : Nat) (x0n : Bool) (x1 x2 x3 x4_0 h0 : D) : runC PHI (Tx103 n) N vf103.body (enterV vf103 [V.ms 0 x0n, V.f x1, V.f x2, V.f x3, V.fn 70 [V.f x4_0] [Ty.p 22]] [V.f h0]) (finish vf103) = m103_0 n N x0n x1 x2 x3 x4_0 h0 (fun h0 => finish vf103 .normal (s103_6 h0)) (fun h0 => finish vf103 .ret (s103_6 h0)) := 
  Eq.trans (runC_pre (s1 := (s103_0 x0n x1 x2 x3 x4_0 h0)) (by kernel_rfl) _ _) (Eq.trans (e103_0 n N (finish vf103) x0n x1 x2 x3 x4_0 h0) (by kernel_rfl))
end
end
theorem sp103_e {n : Nat} {a m b q : D} {A M B : Nat} (ha : a.toI = (A : Int)) (hm : m.toI = (M : Int)) (hb : b.toI = (B : Int)) {xs : List D} (hl : xs.length ≤ 1000000) (hq : isPtrD q = true) (h1 : A < M) (h2 : M < B) (h3 : B ≤ xs.length) (hA : SrtOn (c70 q) xs A M) (hB : SrtOn (c70 q) xs M B) (hn : B < n + A) : sp103_70_h0 a m b q (.sl xs) = .sl (srtSeg (c70 q) xs A B) ∧ prx103_70 n a m b q (.sl xs) = true := by
  refine ⟨?_, @decide_eq_true _ (Classical.propDecidable _) ⟨A, M, B, xs, ha, hm, hb, rfl, hl, hq, h1, h2, h3, hA, hB, hn⟩⟩
  unfold sp103_70_h0
  rw [ha, hb]
  rfl
theorem f103a {R : Type} (n N : Nat) (nn : Bool) (a q : D) (hq : isPtrD q = true) (A : Nat) (ha : a.toI = (A : Int)) (xs : List D) (hl : xs.length ≤ 1000000) (hA : A < xs.length) (K0 : Bool → D → D → D → Option R) : ∀ J (x y : D) (i j : Nat), x.toI = (i : Int) → y.toI = (j : Int) → i ≤ j → j ≤ xs.length → j < J + i →
    ∃ r : D, r.toI = (hs (fun h => ltb (sp70 (gt xs h) (gt xs A) q) 0) J i j : Nat) ∧ l103_10 n N J nn a q x y (.sl xs) K0 = K0 nn a r (.sl xs)
  | 0, x, y, i, j, _, _, _, _, _ => by omega
  | J + 1, x, y, i, j, hx, hy, h, hj, hJ => by
    unfold hs
    by_cases hij : i < j
    · have e := shr_mid (x := i) (y := j) (by omega)
      have i1 : inb (((i + j) / 2 : Nat) : Int) xs.length = true := inb_t (by omega)
      have i2 : inb (A : Int) xs.length = true := inb_t (by omega)
      have hp : pr70 (gt xs ((i + j) / 2)) (gt xs A) q = true := hq
      have e3 : IntKind.i64.wrap ((((i + j) / 2 : Nat) : Int) + 1) = (((i + j) / 2 + 1 : Nat) : Int) := w64n (by omega) (by omega)
      rw [decide_eq_true hij, cond_true]
      cases hP : ltb (sp70 (gt xs ((i + j) / 2)) (gt xs A) q) 0
      · obtain ⟨r, h1, h2⟩ := f103a n N nn a q hq A ha xs hl hA K0 J x (.i (((i + j) / 2 : Nat) : Int)) i ((i + j) / 2) hx rfl (by omega) (by omega) (by omega)
        refine ⟨r, by rw [cond_false]; exact h1, ?_⟩
        simp only [l103_10, m103_11, hx, hy, ltb_n hij, cond_true, cond_false, e, shr_ok, toL_sl, i1, i2, ha, Int.toNat_natCast, at_sl, hp, hP]
        exact h2
      · obtain ⟨r, h1, h2⟩ := f103a n N nn a q hq A ha xs hl hA K0 J (.i (((i + j) / 2 + 1 : Nat) : Int)) y ((i + j) / 2 + 1) j rfl hy (by omega) (by omega) (by omega)
        refine ⟨r, by rw [cond_true]; exact h1, ?_⟩
        simp only [l103_10, m103_11, hx, hy, ltb_n hij, cond_true, cond_false, e, e3, shr_ok, toL_sl, i1, i2, ha, Int.toNat_natCast, at_sl, hp, hP]
        exact h2
    · have hlt : ltb (i : Int) (j : Int) = false := ltb_f (by omega)
      rw [decide_eq_false hij, cond_false]
      refine ⟨x, hx, ?_⟩
      simp only [l103_10, m103_11, hx, hy, hlt, cond_false]
theorem f103b {R : Type} (n N : Nat) (nn : Bool) (m q : D) (hq : isPtrD q = true) (M : Nat) (hm : m.toI = (M : Int)) (xs : List D) (hl : xs.length ≤ 1000000) (hM : M < xs.length) (K0 : Bool → D → D → D → Option R) : ∀ J (x y : D) (i j : Nat), x.toI = (i : Int) → y.toI = (j : Int) → i ≤ j → j ≤ xs.length → j < J + i →
    ∃ r : D, r.toI = (hs (fun h => !ltb (sp70 (gt xs M) (gt xs h) q) 0) J i j : Nat) ∧ l103_52 n N J nn m q x y (.sl xs) K0 = K0 nn m r (.sl xs)
  | 0, x, y, i, j, _, _, _, _, _ => by omega
  | J + 1, x, y, i, j, hx, hy, h, hj, hJ => by
    unfold hs
    by_cases hij : i < j
    · have e := shr_mid (x := i) (y := j) (by omega)
      have i1 : inb (((i + j) / 2 : Nat) : Int) xs.length = true := inb_t (by omega)
      have i2 : inb (M : Int) xs.length = true := inb_t (by omega)
      have hp : pr70 (gt xs M) (gt xs ((i + j) / 2)) q = true := hq
      have e3 : IntKind.i64.wrap ((((i + j) / 2 : Nat) : Int) + 1) = (((i + j) / 2 + 1 : Nat) : Int) := w64n (by omega) (by omega)
      rw [decide_eq_true hij, cond_true]
      cases hP : ltb (sp70 (gt xs M) (gt xs ((i + j) / 2)) q) 0
      · obtain ⟨r, h1, h2⟩ := f103b n N nn m q hq M hm xs hl hM K0 J (.i (((i + j) / 2 + 1 : Nat) : Int)) y ((i + j) / 2 + 1) j rfl hy (by omega) (by omega) (by omega)
        refine ⟨r, by rw [Bool.not_false, cond_true]; exact h1, ?_⟩
        simp only [l103_52, m103_53, hx, hy, ltb_n hij, cond_true, cond_false, e, e3, shr_ok, toL_sl, i1, i2, hm, Int.toNat_natCast, at_sl, hp, hP, Bool.not_false]
        exact h2
      · obtain ⟨r, h1, h2⟩ := f103b n N nn m q hq M hm xs hl hM K0 J x (.i (((i + j) / 2 : Nat) : Int)) i ((i + j) / 2) hx rfl (by omega) (by omega) (by omega)
        refine ⟨r, by rw [Bool.not_true, cond_false]; exact h1, ?_⟩
        simp only [l103_52, m103_53, hx, hy, ltb_n hij, cond_true, cond_false, e, shr_ok, toL_sl, i1, i2, hm, Int.toNat_natCast, at_sl, hp, hP, Bool.not_true]
        exact h2
    · have hlt : ltb (i : Int) (j : Int) = false := ltb_f (by omega)
      rw [decide_eq_false hij, cond_false]
      refine ⟨x, hx, ?_⟩
      simp only [l103_52, m103_53, hx, hy, hlt, cond_false]
theorem f103c {R : Type} (n N : Nat) (nn : Bool) (a m b q z18 z19 p : D) (hq : isPtrD q = true) (P : Nat) (hp0 : p.toI = (P : Int)) (xs : List D) (hl : xs.length ≤ 1000000) (lo hi : Nat) (hin : ∀ c, lo ≤ c → c < hi → c < xs.length ∧ c ≤ P ∧ P < xs.length + c) (K0 : Bool → D → D → D → D → D → D → D → D → Option R) : ∀ J (x y : D) (i j : Nat), x.toI = (i : Int) → y.toI = (j : Int) → lo ≤ i → i ≤ j → j ≤ hi → j ≤ 1000000 → j < J + i →
    ∃ r : D, r.toI = (hs (fun c => !ltb (sp70 (gt xs (P - c)) (gt xs c) q) 0) J i j : Nat) ∧ l103_104 n N J nn a m b q z18 z19 x y p (.sl xs) K0 = K0 nn a m b q z18 z19 r (.sl xs)
  | 0, x, y, i, j, _, _, _, _, _, _, _ => by omega
  | J + 1, x, y, i, j, hx, hy, hlo, h, hhi, hj, hJ => by
    unfold hs
    by_cases hij : i < j
    · obtain ⟨c1, c2, c3⟩ := hin ((i + j) / 2) (by omega) (by omega)
      have e := shr_mid (x := i) (y := j) (by omega)
      have ep : IntKind.i64.wrap ((P : Int) - (((i + j) / 2 : Nat) : Int)) = ((P - (i + j) / 2 : Nat) : Int) := w64n (by omega) (by omega)
      have i1 : inb (((i + j) / 2 : Nat) : Int) xs.length = true := inb_t (by omega)
      have i2 : inb ((P - (i + j) / 2 : Nat) : Int) xs.length = true := inb_t (by omega)
      have hp : pr70 (gt xs (P - (i + j) / 2)) (gt xs ((i + j) / 2)) q = true := hq
      have e3 : IntKind.i64.wrap ((((i + j) / 2 : Nat) : Int) + 1) = (((i + j) / 2 + 1 : Nat) : Int) := w64n (by omega) (by omega)
      rw [decide_eq_true hij, cond_true]
      cases hP : ltb (sp70 (gt xs (P - (i + j) / 2)) (gt xs ((i + j) / 2)) q) 0
      · obtain ⟨r, h1, h2⟩ := f103c n N nn a m b q z18 z19 p hq P hp0 xs hl lo hi hin K0 J (.i (((i + j) / 2 + 1 : Nat) : Int)) y ((i + j) / 2 + 1) j rfl hy (by omega) (by omega) hhi hj (by omega)
        refine ⟨r, by rw [Bool.not_false, cond_true]; exact h1, ?_⟩
        simp only [l103_104, m103_105, hx, hy, hp0, ltb_n hij, cond_true, cond_false, e, e3, ep, shr_ok, toL_sl, i1, i2, Int.toNat_natCast, at_sl, hp, hP, Bool.not_false]
        exact h2
      · obtain ⟨r, h1, h2⟩ := f103c n N nn a m b q z18 z19 p hq P hp0 xs hl lo hi hin K0 J x (.i (((i + j) / 2 : Nat) : Int)) i ((i + j) / 2) hx rfl (by omega) (by omega) (by omega) (by omega) (by omega)
        refine ⟨r, by rw [Bool.not_true, cond_false]; exact h1, ?_⟩
        simp only [l103_104, m103_105, hx, hy, hp0, ltb_n hij, cond_true, cond_false, e, ep, shr_ok, toL_sl, i1, i2, Int.toNat_natCast, at_sl, hp, hP, Bool.not_true]
        exact h2
    · have hlt : ltb (i : Int) (j : Int) = false := ltb_f (by omega)
      rw [decide_eq_false hij, cond_false]
      refine ⟨x, hx, ?_⟩
      simp only [l103_104, m103_105, hx, hy, hlt, cond_false]
theorem g103a {R : Type} (n N : Nat) (nn : Bool) (xs : List D) (A I : Nat) (hl : xs.length ≤ 1000000) (hI : I ≤ xs.length) (z : D) (hz : z.toI = (I : Int)) (K0 : D → Option R) : ∀ J (x : D) (k : Nat), x.toI = (k : Int) → A ≤ k → k + 1 ≤ I → I < J + k + 1 →
    l103_29 n N J nn z x (.sl (rotL xs A (A + 1) (k + 1))) K0 = K0 (.sl (rotL xs A (A + 1) I))
  | 0, x, k, _, _, _, _ => by omega
  | J + 1, x, k, hx, h1, h2, h3 => by
    have e1 : IntKind.i64.wrap ((I : Int) - 1) = ((I - 1 : Nat) : Int) := w64n (by omega) (by omega)
    rcases Nat.lt_or_ge k (I - 1) with h | h
    · have e2 : IntKind.i64.wrap ((k : Int) + 1) = ((k + 1 : Nat) : Int) := w64n (by omega) (by omega)
      have i1 : inb (k : Int) xs.length = true := inb_t (by omega)
      have i2 : inb ((k + 1 : Nat) : Int) xs.length = true := inb_t (by omega)
      simp only [l103_29, m103_30, hx, hz, e1, ltb_n h, cond_true, e2, toL_sl, rotL_len, i1, i2, Int.toNat_natCast, at_sl, setP_sl, List.length_set, rot_r h1 (show k + 1 < xs.length by omega)]
      exact g103a n N nn xs A I hl hI z hz K0 J (.i ((k + 1 : Nat) : Int)) (k + 1) rfl (by omega) (by omega) (by omega)
    · have e : I = k + 1 := by omega
      subst e
      have hlt : ltb (k : Int) ((k + 1 - 1 : Nat) : Int) = false := ltb_f (by omega)
      simp only [l103_29, m103_30, hx, hz, e1, hlt, cond_false]
theorem g103b {R : Type} (n N : Nat) (nn : Bool) (xs : List D) (M I : Nat) (hl : xs.length ≤ 1000000) (hM : M < xs.length) (z : D) (hz : z.toI = (I : Int)) (K0 : D → Option R) : ∀ J (x : D) (k : Nat), x.toI = (k : Int) → I ≤ k → k ≤ M → k < J + I →
    l103_71 n N J nn z x (.sl (rotL xs k M (M + 1))) K0 = K0 (.sl (rotL xs I M (M + 1)))
  | 0, x, k, _, _, _, _ => by omega
  | J + 1, x, k, hx, h1, h2, h3 => by
    rcases Nat.lt_or_ge I k with h | h
    · have e1 : IntKind.i64.wrap ((k : Int) - 1) = ((k - 1 : Nat) : Int) := w64n (by omega) (by omega)
      have i1 : inb (k : Int) xs.length = true := inb_t (by omega)
      have i2 : inb ((k - 1 : Nat) : Int) xs.length = true := inb_t (by omega)
      have hr := rot_l (l := xs) (k := k - 1) (m := M) (by omega) hM
      rw [show k - 1 + 1 = k by omega] at hr
      simp only [l103_71, m103_72, hx, hz, e1, ltb_n h, cond_true, toL_sl, rotL_len, i1, i2, Int.toNat_natCast, at_sl, setP_sl, List.length_set, hr]
      exact g103b n N nn xs M I hl hM z hz K0 J (.i ((k - 1 : Nat) : Int)) (k - 1) rfl (by omega) (by omega) (by omega)
    · have e : k = I := by omega
      subst e
      simp only [l103_71, m103_72, hx, hz, ltb_self, cond_false]
theorem prx103_t {n : Nat} {a m b q h : D} (e : prx103_70 n a m b q h = true) : P103 n a m b q h := by unfold prx103_70 at e; exact @of_decide_eq_true _ (Classical.propDecidable _) e
theorem prx103_0 (a m b q h : D) : prx103_70 0 a m b q h = false := by
  unfold prx103_70
  exact @decide_eq_false _ (Classical.propDecidable _) fun ⟨A, M, B, _, _, _, _, _, _, _, h1, h2, _, _, _, h3⟩ => by omega
theorem k103_122 {R : Type} (n N : Nat) (nn : Bool) (a m b q z18 s e : D) (M S E : Nat) (hm : m.toI = (M : Int)) (hs' : s.toI = (S : Int)) (he : e.toI = (E : Int)) (xs : List D) (hl : xs.length ≤ 1000000) (h1 : S ≤ M) (h2 : M ≤ E) (h3 : E ≤ xs.length) (K : Bool → D → D → D → D → D → D → D → Option R) :
    m103_122 n N nn a m b q z18 s e (.sl xs) K = K nn a b q z18 s e (.sl (rotL xs S M E)) := by
  unfold m103_122
  rw [hm, hs', he]
  rcases Nat.lt_or_ge S M with u | u
  · rcases Nat.lt_or_ge M E with v | v
    · obtain ⟨s1, s2⟩ := sp106_e s m e q S M E hs' hm he xs hl u v h3
      simp only [ltb_n u, ltb_n v, cond_true, s1, s2, toL_sl, rotL_len, beq_same, Bool.and_self]
    · have hlt : ltb (M : Int) (E : Int) = false := ltb_f (by omega)
      simp only [ltb_n u, hlt, cond_true, cond_false, rotL_id (l := xs) (Or.inr (show M = E by omega)) h1 h2]
  · have hlt : ltb (S : Int) (M : Int) = false := ltb_f (by omega)
    simp only [hlt, cond_false, rotL_id (l := xs) (Or.inl (show S = M by omega)) h1 h2]
theorem k103_128 {R : Type} (n N : Nat) (nn : Bool) (a b q z18 s e : D) (hq : isPtrD q = true) (A S M : Nat) (ha : a.toI = (A : Int)) (hs' : s.toI = (S : Int)) (h18 : z18.toI = (M : Int)) (xs : List D) (hl : xs.length ≤ 1000000) (h1 : A ≤ S) (h2 : S ≤ M) (h3 : M ≤ xs.length) (hA : SrtOn (c70 q) xs A S) (hB : SrtOn (c70 q) xs S M) (hn : M < n + A) (K : Bool → D → D → D → D → D → Option R) :
    m103_128 n N nn a b q z18 s e (.sl xs) K = K nn b q z18 e (.sl (srtSeg (c70 q) xs A M)) := by
  unfold m103_128
  rw [ha, hs', h18]
  rcases Nat.lt_or_ge A S with u | u
  · rcases Nat.lt_or_ge S M with v | v
    · obtain ⟨s1, s2⟩ := sp103_e ha hs' h18 hl hq u v h3 hA hB hn
      simp only [ltb_n u, ltb_n v, cond_true, s1, s2, toL_sl, srtSeg_len (c70_c q) (show A ≤ M by omega) h3, beq_same, Bool.and_self]
    · have e : S = M := by omega
      subst e
      simp only [ltb_n u, ltb_self, cond_true, cond_false, srtSeg_id (c70_c q) h1 h3 hA]
  · have e : A = S := by omega
    subst e
    simp only [ltb_self, cond_false, srtSeg_id (c70_c q) h2 h3 hB]
theorem k103_133 {R : Type} (n N : Nat) (nn : Bool) (b q z18 e : D) (hq : isPtrD q = true) (A S M : Nat) (ha : z18.toI = (A : Int)) (hs' : e.toI = (S : Int)) (h18 : b.toI = (M : Int)) (xs : List D) (hl : xs.length ≤ 1000000) (h1 : A ≤ S) (h2 : S ≤ M) (h3 : M ≤ xs.length) (hA : SrtOn (c70 q) xs A S) (hB : SrtOn (c70 q) xs S M) (hn : M < n + A) (K : D → Option R) :
    m103_133 n N nn b q z18 e (.sl xs) K = K (.sl (srtSeg (c70 q) xs A M)) := by
  unfold m103_133
  rw [ha, hs', h18]
  rcases Nat.lt_or_ge A S with u | u
  · rcases Nat.lt_or_ge S M with v | v
    · obtain ⟨s1, s2⟩ := sp103_e ha hs' h18 hl hq u v h3 hA hB hn
      simp only [ltb_n u, ltb_n v, cond_true, s1, s2, toL_sl, srtSeg_len (c70_c q) (show A ≤ M by omega) h3, beq_same, Bool.and_self]
    · have e : S = M := by omega
      subst e
      simp only [ltb_n u, ltb_self, cond_true, cond_false, srtSeg_id (c70_c q) h1 h3 hA]
  · have e : A = S := by omega
    subst e
    simp only [ltb_self, cond_false, srtSeg_id (c70_c q) h2 h3 hB]
theorem w103 {R : Type} (n N : Nat) (nn : Bool) (a m b q : D) (hq : isPtrD q = true) (A M B : Nat) (ha : a.toI = (A : Int)) (hm : m.toI = (M : Int)) (hb : b.toI = (B : Int)) (xs : List D) (hl : xs.length ≤ 1000000) (h1 : A < M) (h2 : M < B) (h3 : B ≤ xs.length) (hA : SrtOn (c70 q) xs A M) (hB : SrtOn (c70 q) xs M B) (hn : B ≤ n + A) (hN : xs.length < N) (K Kr F : D → Option R) (hK : ∀ z, K z = F z) (hKr : ∀ z, Kr z = F z) :
    m103_0 n N nn a m b q (.sl xs) K Kr = F (.sl (srtSeg (c70 q) xs A B)) := by
  have d1 : IntKind.i64.wrap ((M : Int) - (A : Int)) = ((M - A : Nat) : Int) := w64n (by omega) (by omega)
  have d2 : IntKind.i64.wrap ((B : Int) - (M : Int)) = ((B - M : Nat) : Int) := w64n (by omega) (by omega)
  by_cases c1 : M - A = 1
  · have hb1 : eqb ((M - A : Nat) : Int) 1 = true := eqb_t (by omega)
    obtain ⟨r, hr, e⟩ := f103a n N nn a q hq A ha xs hl (by omega) (fun y0n y1 y10 h0 => m103_25 n N y0n y1 y10 h0 Kr) N m b M B hm hb (by omega) h3 (by omega)
    obtain ⟨p1, p2, p3, p4⟩ := hs_spec (P := fun h => ltb (sp70 (gt xs h) (gt xs A) q) 0) N M B (by omega) (by omega)
    revert hr p1 p2 p3 p4
    generalize hs (fun h => ltb (sp70 (gt xs h) (gt xs A) q) 0) N M B = I
    intro hr p1 p2 p3 p4
    simp only [m103_0, m103_1, m103_2, m103_3, toB_b, ha, hm, d1, hb1, cond_true, m103_4, m103_5, m103_6, m103_7, m103_8, m103_9, m103_10]
    refine Eq.trans e ?_
    have g := g103a n N nn xs A I hl (by omega) r hr (fun h0 => m103_40 n N h0 Kr) N a A ha (by omega) (by omega) (by omega)
    rw [rotL_self] at g
    simp only [m103_25, m103_26, m103_27, m103_28, m103_29]
    refine Eq.trans g ?_
    simp only [m103_40, hKr]
    rw [merge_first' (c70_c q) (by omega) p2 h3 (by rw [show A + 1 = M by omega]; exact hB) (fun h => of_decide_eq_true (p3 (by omega))) (fun h => of_decide_eq_false (p4 h))]
  · have hb1 : eqb ((M - A : Nat) : Int) 1 = false := eqb_f (by omega)
    by_cases c2 : B - M = 1
    · have hb2 : eqb ((B - M : Nat) : Int) 1 = true := eqb_t (by omega)
      obtain ⟨r, hr, e⟩ := f103b n N nn m q hq M hm xs hl (by omega) (fun y0n y2 y14 h0 => m103_67 n N y0n y2 y14 h0 Kr) N a m A M ha hm (by omega) (by omega) (by omega)
      obtain ⟨p1, p2, p3, p4⟩ := hs_spec (P := fun h => !ltb (sp70 (gt xs M) (gt xs h) q) 0) N A M (by omega) (by omega)
      revert hr p1 p2 p3 p4
      generalize hs (fun h => !ltb (sp70 (gt xs M) (gt xs h) q) 0) N A M = I
      intro hr p1 p2 p3 p4
      simp only [m103_0, m103_1, m103_2, m103_3, toB_b, ha, hm, hb, d1, d2, hb1, hb2, cond_true, cond_false, m103_41, m103_42, m103_43, m103_44, m103_45, m103_46, m103_47, m103_48, m103_49, m103_50, m103_51, m103_52]
      refine Eq.trans e ?_
      have g := g103b n N nn xs M I hl (by omega) r hr (fun h0 => m103_82 n N h0 Kr) N m M hm (by omega) (by omega) (by omega)
      rw [ins_id] at g
      simp only [m103_67, m103_68, m103_69, m103_70, m103_71]
      refine Eq.trans g ?_
      simp only [m103_82, hKr]
      rw [merge_last' (c70_c q) p1 p2 (by omega) hA (fun h => nltb_f (p4 h)) (fun h => nltb_t (p3 h)), show M + 1 = B by omega]
    · have hb2 : eqb ((B - M : Nat) : Int) 1 = false := eqb_f (by omega)
      have dm := shr_mid (x := A) (y := B) (by omega)
      have d3 : IntKind.i64.wrap ((((A + B) / 2 : Nat) : Int) + (M : Int)) = (((A + B) / 2 + M : Nat) : Int) := w64n (by omega) (by omega)
      have d4 : IntKind.i64.wrap ((((A + B) / 2 + M : Nat) : Int) - 1) = (((A + B) / 2 + M - 1 : Nat) : Int) := w64n (by omega) (by omega)
      simp only [m103_0, m103_1, m103_2, m103_3, toB_b, ha, hm, hb, d1, d2, hb1, hb2, cond_true, cond_false, m103_41, m103_42, m103_43, m103_44, m103_45, m103_83, m103_84, m103_85, shr_ok, dm, m103_86, m103_87, toI_i, d3, m103_88, m103_89, m103_90, m103_91]
      have fin : ∀ (x y : D) (s0 r0 : Nat), x.toI = (s0 : Int) → y.toI = (r0 : Int) → (((A + B) / 2 < M ∧ s0 + B = (A + B) / 2 + M ∧ r0 = (A + B) / 2) ∨ (M ≤ (A + B) / 2 ∧ s0 = A ∧ r0 = M)) →
          m103_100 n N nn a m b q (.i (((A + B) / 2 : Nat) : Int)) (.i (((A + B) / 2 + M : Nat) : Int)) x y (.sl xs) (fun h0 => K h0) = F (.sl (srtSeg (c70 q) xs A B)) := by
        intro x y s0 r0 hx hy hcase
        obtain ⟨r, hr, e⟩ := f103c n N nn a m b q (.i (((A + B) / 2 : Nat) : Int)) (.i (((A + B) / 2 + M : Nat) : Int)) (.i (((A + B) / 2 + M - 1 : Nat) : Int)) hq ((A + B) / 2 + M - 1) rfl xs hl s0 r0 (fun c u v => by omega) (fun y0n y1 y2 y3 y4_0 y18 y19 y20 h0 => m103_119 n N y0n y1 y2 y3 y4_0 y18 y19 y20 h0 (fun h0 => K h0)) N x y s0 r0 hx hy (Nat.le_refl _) (by omega) (Nat.le_refl _) (by omega) (by omega)
        obtain ⟨p1, p2, p3, p4⟩ := hs_spec (P := fun c => !ltb (sp70 (gt xs ((A + B) / 2 + M - 1 - c)) (gt xs c) q) 0) N s0 r0 (by omega) (by omega)
        revert hr p1 p2 p3 p4
        generalize hs (fun c => !ltb (sp70 (gt xs ((A + B) / 2 + M - 1 - c)) (gt xs c) q) 0) N s0 r0 = S
        intro hr p1 p2 p3 p4
        obtain ⟨q1, q2, q3, q4, q5, q6, q7⟩ := merge_gen (c70_c q) h1 h2 h3 hA hB p1 p2 hcase (fun h => by
          have h' : ltb (sp70 (gt xs ((A + B) / 2 + M - 1 - (S - 1))) (gt xs (S - 1)) q) 0 = false := by simpa using p3 h
          rw [show (A + B) / 2 + M - 1 - (S - 1) = (A + B) / 2 + M - S by omega] at h'
          exact of_decide_eq_false h') (fun h => nltb_f (p4 h))
        have d5 : IntKind.i64.wrap ((((A + B) / 2 + M : Nat) : Int) - (S : Int)) = (((A + B) / 2 + M - S : Nat) : Int) := w64n (by omega) (by omega)
        simp only [m103_100, m103_101, toI_i, d4, m103_102, m103_103, m103_104]
        refine Eq.trans e ?_
        simp only [m103_119, m103_120, toI_i, hr, d5, m103_121]
        rw [k103_122 n N nn a m b q _ r _ M S ((A + B) / 2 + M - S) hm hr rfl xs hl q2 q3 (by omega)]
        obtain ⟨t1, t2, t3, t4⟩ := rot_parts q1 q2 q3 q4 h3 hA hB
        rw [show S + ((A + B) / 2 + M - S - M) = (A + B) / 2 by omega] at t2 t3
        simp only [m103_127]
        rw [k103_128 n N nn a b q _ r _ hq A S ((A + B) / 2) ha hr rfl _ (by rw [rotL_len]; exact hl) q1 q5 (by rw [rotL_len]; omega) t1 t2 (by omega)]
        have hlen : (srtSeg (c70 q) (rotL xs S M ((A + B) / 2 + M - S)) A ((A + B) / 2)).length = xs.length := by rw [srtSeg_len (c70_c q) (by omega) (by rw [rotL_len]; omega), rotL_len]
        have ho : ∀ k, (A + B) / 2 ≤ k → gt (srtSeg (c70 q) (rotL xs S M ((A + B) / 2 + M - S)) A ((A + B) / 2)) k = gt (rotL xs S M ((A + B) / 2 + M - S)) k := fun k hk => srtSeg_other (c70_c q) (by omega) (by rw [rotL_len]; omega) (Or.inr hk)
        rw [k103_133 n N nn b q _ _ hq ((A + B) / 2) ((A + B) / 2 + M - S) B rfl rfl hb _ (by omega) q6 q4 (by omega) (t3.same fun k u _ => ho k u) (t4.same fun k u _ => ho k (by omega)) (by omega)]
        rw [q7, hK]
      by_cases c3 : (A + B) / 2 < M
      · have d6 : IntKind.i64.wrap ((((A + B) / 2 + M : Nat) : Int) - (B : Int)) = (((A + B) / 2 + M - B : Nat) : Int) := w64n (by omega) (by omega)
        simp only [ltb_n c3, cond_true, d6]
        exact fin _ _ ((A + B) / 2 + M - B) ((A + B) / 2) rfl rfl (by omega)
      · have hlt : ltb (((A + B) / 2 : Nat) : Int) (M : Int) = false := ltb_f (by omega)
        simp only [hlt, cond_false]
        exact fin _ _ A M ha hm (by omega)
theorem fn103 (z : D) : finish vf103 .normal (s103_6 z) = some (.t [], [.f z]) := by kernel_rfl
theorem fr103 (z : D) : finish vf103 .ret (s103_6 z) = some (.t [], [.f z]) := by kernel_rfl
theorem sp103_v {a m b q : D} {A B : Nat} (ha : a.toI = (A : Int)) (hb : b.toI = (B : Int)) (xs : List D) : sp103_70_h0 a m b q (.sl xs) = .sl (srtSeg (c70 q) xs A B) := by unfold sp103_70_h0; rw [ha, hb]; rfl
theorem z103 (n : Nat) (nn : Bool) (a m b q h : D) (hp : P103 (n + 1) a m b q h) : ∃ N, m103_0 n N nn a m b q h (fun h0 => finish vf103 .normal (s103_6 h0)) (fun h0 => finish vf103 .ret (s103_6 h0)) = some (.t [], [.f (sp103_70_h0 a m b q h)]) := by
  obtain ⟨A, M, B, xs, ha, hm, hb, rfl, hl, hq, h1, h2, h3, hA, hB, hn⟩ := hp
  refine ⟨xs.length + 1, ?_⟩
  rw [sp103_v ha hb]
  have h4 : B ≤ n + A := by omega
  have h5 : xs.length < xs.length + 1 := by omega
  exact w103 n (xs.length + 1) nn a m b q hq A M B ha hm hb xs hl h1 h2 h3 hA hB h4 h5 (fun h0 => finish vf103 .normal (s103_6 h0)) (fun h0 => finish vf103 .ret (s103_6 h0)) (fun z => some (.t [], [.f z])) fn103 fr103
theorem ox103 : ∀ n, FnOk Try.prog PHI (Tx103 n) := FnOk.recm3 hPHI ok102 (by kernel_rfl) prx103_0 fun n nn a m b q h hp => by
  obtain ⟨N, hN⟩ := z103 n nn a m b q h (prx103_t hp)
  exact ⟨N, (r103 n N nn a m b q h).trans hN⟩
noncomputable def pr103_70 (a m b q h : D) : Bool := @decide (∃ n, P103 n a m b q h) (Classical.propDecidable _)
noncomputable def Tb103 : CallF := extendR Tb102 103 (fm3 70 [Ty.p 22] pr103_70 sp103_70_h0)
theorem pr103_t {a m b q h : D} (e : pr103_70 a m b q h = true) : ∃ n, P103 n a m b q h := by unfold pr103_70 at e; exact @of_decide_eq_true _ (Classical.propDecidable _) e
theorem pr103_i {n : Nat} {a m b q h : D} (e : P103 n a m b q h) : pr103_70 a m b q h = true := @decide_eq_true _ (Classical.propDecidable _) ⟨n, e⟩
theorem prx103_i {n : Nat} {a m b q h : D} (e : P103 n a m b q h) : prx103_70 n a m b q h = true := @decide_eq_true _ (Classical.propDecidable _) e
theorem ok103 : FnOk Try.prog PHI Tb103 := FnOk.limR ox103 fun args H r hr => by
  unfold fm3 at hr
  split at hr
  · rename_i nn a b m k' q tys h
    cases e : pr103_70 a b m q h
    · rw [e, Bool.and_false, Bool.and_false] at hr
      cases hr
    · obtain ⟨n, hn⟩ := pr103_t e
      refine ⟨n, ?_⟩
      have e2 : fm3 70 [Ty.p 22] (prx103_70 n) sp103_70_h0 [.ms 0 nn, .f a, .f b, .f m, .fn k' [.f q] tys] [.f h] = (Nat.beq k' 70 && (Ty.eqAll tys [Ty.p 22] && prx103_70 n a b m q h), .t [], [.f (sp103_70_h0 a b m q h)]) := rfl
      rw [e2, prx103_i hn]
      rw [e] at hr
      exact hr
  · cases hr
end Go.Vam.C14
