/- Chapter 14: what functions come to, part 4. No conditions. -/
import Derived.Test.YtcpbgimpopcfoaaP3
import Derived.KernelRfl
set_option linter.unusedVariables false
set_option linter.unusedSimpArgs false
set_option maxRecDepth 100000
namespace Go.Vam.C14
open Go.Proofs
/-! ### Are rows few and small? -/
def long (row : D) (k : Nat) : Bool := ltb 100 (((row.toL.getD k .nil).at 3).toS.length : Int)
def foundL (row : D) : Int := fst (long row) row.toL.length 0
def badRow (row : D) : Bool := bif ltb 30 (row.toL.length : Int) then true else leb 0 (foundL row)
def foundR (x : D) : Int := fst (fun i => badRow (x.toL.getD i .nil)) x.toL.length 0
def sp10 (x : D) : Bool := bif ltb 60 (x.toL.length : Int) then false else !leb 0 (foundR x)
section
variable {R : Type}
def m10_1 (N : Nat) (x0 : D) (K : D → Option R) : Option R :=
  K x0
def s10_0 (x0 : D) : St := sts 31 [(0, V.f x0)] []
theorem e10_1 (N : Nat) (k : Kn R) (x0 : D) : runC PHI Tb12 N vc10_1 (s10_0 x0) k = m10_1 N x0 (fun x0 => k .normal (s10_0 x0)) := by
  refine Eq.trans (runC_post _ _ _ k) (Eq.trans (ops_run _ _ _ _) (by kernel_rfl))
def m10_3 (N : Nat) (x0 : D) (K : D → Option R) (Kr : D → Option R) : Option R :=
  (bif (ltb 60 (x0.toL.length : Int)) then Kr (D.b false) else K x0)
def s10_1 (x2 : D) : St := sts 31 [(2, V.f x2)] []
theorem e10_3 (N : Nat) (k : Kn R) (x0 : D) : runC PHI Tb12 N vc10_3 (s10_0 x0) k = m10_3 N x0 (fun x0 => k .normal (s10_0 x0)) (fun x2 => k .ret (s10_1 x2)) := by kernel_rfl
def m10_12 (N : Nat) (x0 : D) (K : D → D → D → Option R) : Option R :=
  K x0 (D.i (x0.toL.length : Int)) (D.i 0)
def s10_2 (x10 x11 x12 : D) : St := sts 31 [(10, V.f x10), (11, V.f x11), (12, V.f x12)] []
theorem e10_12 (N : Nat) (k : Kn R) (x0 : D) : runC PHI Tb12 N vc10_12 (s10_0 x0) k = m10_12 N x0 (fun x10 x11 x12 => k .normal (s10_2 x10 x11 x12)) := by
  refine Eq.trans (runC_post _ _ _ k) (Eq.trans (ops_run _ _ _ _) (by kernel_rfl))
def m10_16 (N : Nat) (x10 x11 x12 : D) (K : D → D → D → D → Option R) : Option R :=
  K x10 x11 x12 (D.b (ltb x12.toI x11.toI))
def s10_3 (x10 x11 x12 x13 : D) : St := sts 31 [(10, V.f x10), (11, V.f x11), (12, V.f x12), (13, V.f x13)] []
theorem e10_16 (N : Nat) (k : Kn R) (x10 x11 x12 : D) : runC PHI Tb12 N vc10_16 (s10_2 x10 x11 x12) k = m10_16 N x10 x11 x12 (fun x10 x11 x12 x13 => k .normal (s10_3 x10 x11 x12 x13)) := by
  refine Eq.trans (runC_post _ _ _ k) (Eq.trans (ops_run _ _ _ _) (by kernel_rfl))
def m10_18 (N : Nat) (x10 x11 x12 x13 : D) (K : D → D → D → Option R) (K0 : Option R) : Option R :=
  (bif x13.toB then K x10 x11 x12 else K0)
def s10_4 : St := sts 31 [] []
theorem e10_18 (N : Nat) (k : Kn R) (x10 x11 x12 x13 : D) : runC PHI Tb12 N vc10_18 (s10_3 x10 x11 x12 x13) k = m10_18 N x10 x11 x12 x13 (fun x10 x11 x12 => k .normal (s10_2 x10 x11 x12)) (k (.exit 0) s10_4) := by kernel_rfl
def m10_24 (N : Nat) (x10 x11 x12 : D) (K : D → D → D → D → Option R) : Option R :=
  (bif (inb x12.toI x10.toL.length) then K (x10.at (x12.toI : Int).toNat) x10 x11 x12 else none)
def s10_5 (x4 x10 x11 x12 : D) : St := sts 31 [(4, V.f x4), (10, V.f x10), (11, V.f x11), (12, V.f x12)] []
theorem e10_24 (N : Nat) (k : Kn R) (x10 x11 x12 : D) : runC PHI Tb12 N vc10_24 (s10_2 x10 x11 x12) k = m10_24 N x10 x11 x12 (fun x4 x10 x11 x12 => k .normal (s10_5 x4 x10 x11 x12)) := by
  refine Eq.trans (runC_post _ _ _ k) (Eq.trans (ops_run _ _ _ _) (by kernel_rfl))
def m10_26 (N : Nat) (x4 x10 x11 x12 : D) (K : D → D → D → D → Option R) (Kr : D → Option R) : Option R :=
  (bif (ltb 30 (x4.toL.length : Int)) then Kr (D.b false) else K x4 x10 x11 x12)
theorem e10_26 (N : Nat) (k : Kn R) (x4 x10 x11 x12 : D) : runC PHI Tb12 N vc10_26 (s10_5 x4 x10 x11 x12) k = m10_26 N x4 x10 x11 x12 (fun x4 x10 x11 x12 => k .normal (s10_5 x4 x10 x11 x12)) (fun x2 => k .ret (s10_1 x2)) := by kernel_rfl
def m10_34 (N : Nat) (x4 x10 x11 x12 : D) (K : D → D → D → D → D → D → Option R) : Option R :=
  K x10 x11 x12 x4 (D.i (x4.toL.length : Int)) (D.i 0)
def s10_6 (x10 x11 x12 x19 x20 x21 : D) : St := sts 31 [(10, V.f x10), (11, V.f x11), (12, V.f x12), (19, V.f x19), (20, V.f x20), (21, V.f x21)] []
theorem e10_34 (N : Nat) (k : Kn R) (x4 x10 x11 x12 : D) : runC PHI Tb12 N vc10_34 (s10_5 x4 x10 x11 x12) k = m10_34 N x4 x10 x11 x12 (fun x10 x11 x12 x19 x20 x21 => k .normal (s10_6 x10 x11 x12 x19 x20 x21)) := by
  refine Eq.trans (runC_post _ _ _ k) (Eq.trans (ops_run _ _ _ _) (by kernel_rfl))
def m10_37 (N : Nat) (x10 x11 x12 x19 x20 x21 : D) (K : D → D → D → D → D → D → Option R) (K2 : D → D → D → Option R) (Kr : D → Option R) : Option R :=
  (bif (ltb x21.toI x20.toI) then (bif (inb x21.toI x19.toL.length) then (bif (ltb 100 (((x19.at (x21.toI : Int).toNat).at 3).toS.length : Int)) then Kr (D.b false) else K x10 x11 x12 x19 x20 (D.i (IntKind.wrap IntKind.i64 (x21.toI + 1)))) else none) else K2 x10 x11 x12)
theorem e10_37 (N : Nat) (k : Kn R) (x10 x11 x12 x19 x20 x21 : D) : runC PHI Tb12 N vc10_37 (s10_6 x10 x11 x12 x19 x20 x21) k = m10_37 N x10 x11 x12 x19 x20 x21 (fun x10 x11 x12 x19 x20 x21 => k .normal (s10_6 x10 x11 x12 x19 x20 x21)) (fun x10 x11 x12 => k (.exit 2) (s10_2 x10 x11 x12)) (fun x2 => k .ret (s10_1 x2)) := by kernel_rfl
def l10_36 (N : Nat) (j : Nat) (x10 x11 x12 x19 x20 x21 : D) (K2 : D → D → D → Option R) (Kr : D → Option R) : Option R :=
  match j with
  | 0 => none
  | j + 1 => (m10_37 N x10 x11 x12 x19 x20 x21 (fun y10 y11 y12 y19 y20 y21 => l10_36 N j y10 y11 y12 y19 y20 y21 K2 Kr) K2 Kr)
def m10_36 (N : Nat) (x10 x11 x12 x19 x20 x21 : D) (K2 : D → D → D → Option R) (Kr : D → Option R) : Option R :=
  l10_36 N N x10 x11 x12 x19 x20 x21 K2 Kr
theorem el10_36 (N : Nat) (k : Kn R) : ∀ (j : Nat) (x10 x11 x12 x19 x20 x21 : D), loopGo (runC PHI Tb12 N vc10_37) j (s10_6 x10 x11 x12 x19 x20 x21) k = l10_36 N j x10 x11 x12 x19 x20 x21 (fun x10 x11 x12 => k (.exit 2) (s10_2 x10 x11 x12)) (fun x2 => k .ret (s10_1 x2))
  | 0, _, _, _, _, _, _ => by kernel_rfl
  | j + 1, x10, x11, x12, x19, x20, x21 => by
    have h2 := e10_37 N (kloop PHI Tb12 N vc10_37 j k) x10 x11 x12 x19 x20 x21
    have h3 : (fun (y10 y11 y12 y19 y20 y21 : D) => (kloop PHI Tb12 N vc10_37 j k) .normal (s10_6 y10 y11 y12 y19 y20 y21)) = (fun (y10 y11 y12 y19 y20 y21 : D) => l10_36 N j y10 y11 y12 y19 y20 y21 (fun x10 x11 x12 => k (.exit 2) (s10_2 x10 x11 x12)) (fun x2 => k .ret (s10_1 x2))) := funext fun y10 => funext fun y11 => funext fun y12 => funext fun y19 => funext fun y20 => funext fun y21 => (el10_36 N k j y10 y11 y12 y19 y20 y21)
    refine Eq.trans (loop_succ _ j _ k) (Eq.trans h2 (Eq.trans (congrArg (fun K => m10_37 N x10 x11 x12 x19 x20 x21 K (fun x10 x11 x12 => (kloop PHI Tb12 N vc10_37 j k) (.exit 2) (s10_2 x10 x11 x12)) (fun x2 => (kloop PHI Tb12 N vc10_37 j k) .ret (s10_1 x2))) h3) (by kernel_rfl)))
theorem e10_36 (N : Nat) (k : Kn R) (x10 x11 x12 x19 x20 x21 : D) : runC PHI Tb12 N vc10_36 (s10_6 x10 x11 x12 x19 x20 x21) k = m10_36 N x10 x11 x12 x19 x20 x21 (fun x10 x11 x12 => k (.exit 2) (s10_2 x10 x11 x12)) (fun x2 => k .ret (s10_1 x2)) := by
  refine Eq.trans (runC_loop _ _ k) (Eq.trans (el10_36 N k N x10 x11 x12 x19 x20 x21) (by kernel_rfl))
def m10_35 (N : Nat) (x10 x11 x12 x19 x20 x21 : D) (K : D → D → D → Option R) (Kr : D → Option R) : Option R :=
  (m10_36 N x10 x11 x12 x19 x20 x21 (fun y10 y11 y12 => K y10 y11 y12) Kr)
theorem e10_35 (N : Nat) (k : Kn R) (x10 x11 x12 x19 x20 x21 : D) : runC PHI Tb12 N vc10_35 (s10_6 x10 x11 x12 x19 x20 x21) k = m10_35 N x10 x11 x12 x19 x20 x21 (fun x10 x11 x12 => k .normal (s10_2 x10 x11 x12)) (fun x2 => k .ret (s10_1 x2)) := by
  refine Eq.trans (runC_block _ _ _ k) (Eq.trans (e10_36 N (kblk 2 k) x10 x11 x12 x19 x20 x21) (by kernel_rfl))
def m10_33 (N : Nat) (x4 x10 x11 x12 : D) (K : D → D → D → Option R) (Kr : D → Option R) : Option R :=
  (m10_34 N x4 x10 x11 x12 (fun y10 y11 y12 y19 y20 y21 => (m10_35 N y10 y11 y12 y19 y20 y21 (fun y10 y11 y12 => K y10 y11 y12) Kr)))
theorem e10_33 (N : Nat) (k : Kn R) (x4 x10 x11 x12 : D) : runC PHI Tb12 N vc10_33 (s10_5 x4 x10 x11 x12) k = m10_33 N x4 x10 x11 x12 (fun x10 x11 x12 => k .normal (s10_2 x10 x11 x12)) (fun x2 => k .ret (s10_1 x2)) := by
  have h2 := e10_34 N (kseq PHI Tb12 N vc10_35 k) x4 x10 x11 x12
  have h3 := (funext fun y10 => funext fun y11 => funext fun y12 => funext fun y19 => funext fun y20 => funext fun y21 => (e10_35 N k y10 y11 y12 y19 y20 y21) : (fun (y10 y11 y12 y19 y20 y21 : D) => (kseq PHI Tb12 N vc10_35 k) .normal (s10_6 y10 y11 y12 y19 y20 y21)) = _)
  refine Eq.trans (runC_seq _ _ _ k) (Eq.trans h2 (Eq.trans (congrArg (fun K => m10_34 N x4 x10 x11 x12 K) h3) (by kernel_rfl)))
def m10_25 (N : Nat) (x4 x10 x11 x12 : D) (K : D → D → D → Option R) (Kr : D → Option R) : Option R :=
  (m10_26 N x4 x10 x11 x12 (fun y4 y10 y11 y12 => (m10_33 N y4 y10 y11 y12 (fun y10 y11 y12 => K y10 y11 y12) Kr)) Kr)
theorem e10_25 (N : Nat) (k : Kn R) (x4 x10 x11 x12 : D) : runC PHI Tb12 N vc10_25 (s10_5 x4 x10 x11 x12) k = m10_25 N x4 x10 x11 x12 (fun x10 x11 x12 => k .normal (s10_2 x10 x11 x12)) (fun x2 => k .ret (s10_1 x2)) := by
  have h2 := e10_26 N (kseq PHI Tb12 N vc10_33 k) x4 x10 x11 x12
  have h3 := (funext fun y4 => funext fun y10 => funext fun y11 => funext fun y12 => (e10_33 N k y4 y10 y11 y12) : (fun (y4 y10 y11 y12 : D) => (kseq PHI Tb12 N vc10_33 k) .normal (s10_5 y4 y10 y11 y12)) = _)
  refine Eq.trans (runC_seq _ _ _ k) (Eq.trans h2 (Eq.trans (congrArg (fun K => m10_26 N x4 x10 x11 x12 K (fun x2 => (kseq PHI Tb12 N vc10_33 k) .ret (s10_1 x2))) h3) (by kernel_rfl)))
def m10_23 (N : Nat) (x10 x11 x12 : D) (K : D → D → D → Option R) (Kr : D → Option R) : Option R :=
  (m10_24 N x10 x11 x12 (fun y4 y10 y11 y12 => (m10_25 N y4 y10 y11 y12 (fun y10 y11 y12 => K y10 y11 y12) Kr)))
theorem e10_23 (N : Nat) (k : Kn R) (x10 x11 x12 : D) : runC PHI Tb12 N vc10_23 (s10_2 x10 x11 x12) k = m10_23 N x10 x11 x12 (fun x10 x11 x12 => k .normal (s10_2 x10 x11 x12)) (fun x2 => k .ret (s10_1 x2)) := by
  have h2 := e10_24 N (kseq PHI Tb12 N vc10_25 k) x10 x11 x12
  have h3 := (funext fun y4 => funext fun y10 => funext fun y11 => funext fun y12 => (e10_25 N k y4 y10 y11 y12) : (fun (y4 y10 y11 y12 : D) => (kseq PHI Tb12 N vc10_25 k) .normal (s10_5 y4 y10 y11 y12)) = _)
  refine Eq.trans (runC_seq _ _ _ k) (Eq.trans h2 (Eq.trans (congrArg (fun K => m10_24 N x10 x11 x12 K) h3) (by kernel_rfl)))
def m10_22 (N : Nat) (x10 x11 x12 : D) (K : D → D → D → Option R) (Kr : D → Option R) : Option R :=
  (m10_23 N x10 x11 x12 (fun y10 y11 y12 => K y10 y11 y12) Kr)
theorem e10_22 (N : Nat) (k : Kn R) (x10 x11 x12 : D) : runC PHI Tb12 N vc10_22 (s10_2 x10 x11 x12) k = m10_22 N x10 x11 x12 (fun x10 x11 x12 => k .normal (s10_2 x10 x11 x12)) (fun x2 => k .ret (s10_1 x2)) := by
  refine Eq.trans (runC_block _ _ _ k) (Eq.trans (e10_23 N (kblk 1 k) x10 x11 x12) (by kernel_rfl))
def m10_55 (N : Nat) (x10 x11 x12 : D) (K : D → D → D → Option R) : Option R :=
  K x10 x11 (D.i (IntKind.wrap IntKind.i64 (x12.toI + 1)))
theorem e10_55 (N : Nat) (k : Kn R) (x10 x11 x12 : D) : runC PHI Tb12 N vc10_55 (s10_2 x10 x11 x12) k = m10_55 N x10 x11 x12 (fun x10 x11 x12 => k .normal (s10_2 x10 x11 x12)) := by
  refine Eq.trans (runC_post _ _ _ k) (Eq.trans (ops_run _ _ _ _) (by kernel_rfl))
def m10_21 (N : Nat) (x10 x11 x12 : D) (K : D → D → D → Option R) (Kr : D → Option R) : Option R :=
  (m10_22 N x10 x11 x12 (fun y10 y11 y12 => (m10_55 N y10 y11 y12 (fun y10 y11 y12 => K y10 y11 y12))) Kr)
theorem e10_21 (N : Nat) (k : Kn R) (x10 x11 x12 : D) : runC PHI Tb12 N vc10_21 (s10_2 x10 x11 x12) k = m10_21 N x10 x11 x12 (fun x10 x11 x12 => k .normal (s10_2 x10 x11 x12)) (fun x2 => k .ret (s10_1 x2)) := by
  have h2 := e10_22 N (kseq PHI Tb12 N vc10_55 k) x10 x11 x12
  have h3 := (funext fun y10 => funext fun y11 => funext fun y12 => (e10_55 N k y10 y11 y12) : (fun (y10 y11 y12 : D) => (kseq PHI Tb12 N vc10_55 k) .normal (s10_2 y10 y11 y12)) = _)
  refine Eq.trans (runC_seq _ _ _ k) (Eq.trans h2 (Eq.trans (congrArg (fun K => m10_22 N x10 x11 x12 K (fun x2 => (kseq PHI Tb12 N vc10_55 k) .ret (s10_1 x2))) h3) (by kernel_rfl)))
def m10_17 (N : Nat) (x10 x11 x12 x13 : D) (K : D → D → D → Option R) (K0 : Option R) (Kr : D → Option R) : Option R :=
  (m10_18 N x10 x11 x12 x13 (fun y10 y11 y12 => (m10_21 N y10 y11 y12 (fun y10 y11 y12 => K y10 y11 y12) Kr)) K0)
theorem e10_17 (N : Nat) (k : Kn R) (x10 x11 x12 x13 : D) : runC PHI Tb12 N vc10_17 (s10_3 x10 x11 x12 x13) k = m10_17 N x10 x11 x12 x13 (fun x10 x11 x12 => k .normal (s10_2 x10 x11 x12)) (k (.exit 0) s10_4) (fun x2 => k .ret (s10_1 x2)) := by
  have h2 := e10_18 N (kseq PHI Tb12 N vc10_21 k) x10 x11 x12 x13
  have h3 := (funext fun y10 => funext fun y11 => funext fun y12 => (e10_21 N k y10 y11 y12) : (fun (y10 y11 y12 : D) => (kseq PHI Tb12 N vc10_21 k) .normal (s10_2 y10 y11 y12)) = _)
  refine Eq.trans (runC_seq _ _ _ k) (Eq.trans h2 (Eq.trans (congrArg (fun K => m10_18 N x10 x11 x12 x13 K ((kseq PHI Tb12 N vc10_21 k) (.exit 0) s10_4)) h3) (by kernel_rfl)))
def m10_15 (N : Nat) (x10 x11 x12 : D) (K : D → D → D → Option R) (K0 : Option R) (Kr : D → Option R) : Option R :=
  (m10_16 N x10 x11 x12 (fun y10 y11 y12 y13 => (m10_17 N y10 y11 y12 y13 (fun y10 y11 y12 => K y10 y11 y12) K0 Kr)))
theorem e10_15 (N : Nat) (k : Kn R) (x10 x11 x12 : D) : runC PHI Tb12 N vc10_15 (s10_2 x10 x11 x12) k = m10_15 N x10 x11 x12 (fun x10 x11 x12 => k .normal (s10_2 x10 x11 x12)) (k (.exit 0) s10_4) (fun x2 => k .ret (s10_1 x2)) := by
  have h2 := e10_16 N (kseq PHI Tb12 N vc10_17 k) x10 x11 x12
  have h3 := (funext fun y10 => funext fun y11 => funext fun y12 => funext fun y13 => (e10_17 N k y10 y11 y12 y13) : (fun (y10 y11 y12 y13 : D) => (kseq PHI Tb12 N vc10_17 k) .normal (s10_3 y10 y11 y12 y13)) = _)
  refine Eq.trans (runC_seq _ _ _ k) (Eq.trans h2 (Eq.trans (congrArg (fun K => m10_16 N x10 x11 x12 K) h3) (by kernel_rfl)))
def l10_14 (N : Nat) (j : Nat) (x10 x11 x12 : D) (K0 : Option R) (Kr : D → Option R) : Option R :=
  match j with
  | 0 => none
  | j + 1 => (m10_15 N x10 x11 x12 (fun y10 y11 y12 => l10_14 N j y10 y11 y12 K0 Kr) K0 Kr)
def m10_14 (N : Nat) (x10 x11 x12 : D) (K0 : Option R) (Kr : D → Option R) : Option R :=
  l10_14 N N x10 x11 x12 K0 Kr
theorem el10_14 (N : Nat) (k : Kn R) : ∀ (j : Nat) (x10 x11 x12 : D), loopGo (runC PHI Tb12 N vc10_15) j (s10_2 x10 x11 x12) k = l10_14 N j x10 x11 x12 (k (.exit 0) s10_4) (fun x2 => k .ret (s10_1 x2))
  | 0, _, _, _ => by kernel_rfl
  | j + 1, x10, x11, x12 => by
    have h2 := e10_15 N (kloop PHI Tb12 N vc10_15 j k) x10 x11 x12
    have h3 : (fun (y10 y11 y12 : D) => (kloop PHI Tb12 N vc10_15 j k) .normal (s10_2 y10 y11 y12)) = (fun (y10 y11 y12 : D) => l10_14 N j y10 y11 y12 (k (.exit 0) s10_4) (fun x2 => k .ret (s10_1 x2))) := funext fun y10 => funext fun y11 => funext fun y12 => (el10_14 N k j y10 y11 y12)
    refine Eq.trans (loop_succ _ j _ k) (Eq.trans h2 (Eq.trans (congrArg (fun K => m10_15 N x10 x11 x12 K ((kloop PHI Tb12 N vc10_15 j k) (.exit 0) s10_4) (fun x2 => (kloop PHI Tb12 N vc10_15 j k) .ret (s10_1 x2))) h3) (by kernel_rfl)))
theorem e10_14 (N : Nat) (k : Kn R) (x10 x11 x12 : D) : runC PHI Tb12 N vc10_14 (s10_2 x10 x11 x12) k = m10_14 N x10 x11 x12 (k (.exit 0) s10_4) (fun x2 => k .ret (s10_1 x2)) := by
  refine Eq.trans (runC_loop _ _ k) (Eq.trans (el10_14 N k N x10 x11 x12) (by kernel_rfl))
def m10_13 (N : Nat) (x10 x11 x12 : D) (K : Option R) (Kr : D → Option R) : Option R :=
  (m10_14 N x10 x11 x12 (K) Kr)
theorem e10_13 (N : Nat) (k : Kn R) (x10 x11 x12 : D) : runC PHI Tb12 N vc10_13 (s10_2 x10 x11 x12) k = m10_13 N x10 x11 x12 (k .normal s10_4) (fun x2 => k .ret (s10_1 x2)) := by
  refine Eq.trans (runC_block _ _ _ k) (Eq.trans (e10_14 N (kblk 0 k) x10 x11 x12) (by kernel_rfl))
def m10_11 (N : Nat) (x0 : D) (K : Option R) (Kr : D → Option R) : Option R :=
  (m10_12 N x0 (fun y10 y11 y12 => (m10_13 N y10 y11 y12 (K) Kr)))
theorem e10_11 (N : Nat) (k : Kn R) (x0 : D) : runC PHI Tb12 N vc10_11 (s10_0 x0) k = m10_11 N x0 (k .normal s10_4) (fun x2 => k .ret (s10_1 x2)) := by
  have h2 := e10_12 N (kseq PHI Tb12 N vc10_13 k) x0
  have h3 := (funext fun y10 => funext fun y11 => funext fun y12 => (e10_13 N k y10 y11 y12) : (fun (y10 y11 y12 : D) => (kseq PHI Tb12 N vc10_13 k) .normal (s10_2 y10 y11 y12)) = _)
  refine Eq.trans (runC_seq _ _ _ k) (Eq.trans h2 (Eq.trans (congrArg (fun K => m10_12 N x0 K) h3) (by kernel_rfl)))
def m10_56 (N : Nat) (Kr : D → Option R) : Option R :=
  Kr (D.b true)
theorem e10_56 (N : Nat) (k : Kn R) : runC PHI Tb12 N vc10_56 s10_4 k = m10_56 N (fun x2 => k .ret (s10_1 x2)) := by kernel_rfl
def m10_10 (N : Nat) (x0 : D) (Kr : D → Option R) : Option R :=
  (m10_11 N x0 ((m10_56 N Kr)) Kr)
theorem e10_10 (N : Nat) (k : Kn R) (x0 : D) : runC PHI Tb12 N vc10_10 (s10_0 x0) k = m10_10 N x0 (fun x2 => k .ret (s10_1 x2)) := by
  have h2 := e10_11 N (kseq PHI Tb12 N vc10_56 k) x0
  have h3 := ((e10_56 N k ) : ((kseq PHI Tb12 N vc10_56 k) .normal s10_4) = _)
  refine Eq.trans (runC_seq _ _ _ k) (Eq.trans h2 (Eq.trans (congrArg (fun K => m10_11 N x0 K (fun x2 => (kseq PHI Tb12 N vc10_56 k) .ret (s10_1 x2))) h3) (by kernel_rfl)))
def m10_2 (N : Nat) (x0 : D) (Kr : D → Option R) : Option R :=
  (m10_3 N x0 (fun y0 => (m10_10 N y0 Kr)) Kr)
theorem e10_2 (N : Nat) (k : Kn R) (x0 : D) : runC PHI Tb12 N vc10_2 (s10_0 x0) k = m10_2 N x0 (fun x2 => k .ret (s10_1 x2)) := by
  have h2 := e10_3 N (kseq PHI Tb12 N vc10_10 k) x0
  have h3 := (funext fun y0 => (e10_10 N k y0) : (fun (y0 : D) => (kseq PHI Tb12 N vc10_10 k) .normal (s10_0 y0)) = _)
  refine Eq.trans (runC_seq _ _ _ k) (Eq.trans h2 (Eq.trans (congrArg (fun K => m10_3 N x0 K (fun x2 => (kseq PHI Tb12 N vc10_10 k) .ret (s10_1 x2))) h3) (by kernel_rfl)))
def m10_0 (N : Nat) (x0 : D) (Kr : D → Option R) : Option R :=
  (m10_1 N x0 (fun y0 => (m10_2 N y0 Kr)))
theorem e10_0 (N : Nat) (k : Kn R) (x0 : D) : runC PHI Tb12 N vc10_0 (s10_0 x0) k = m10_0 N x0 (fun x2 => k .ret (s10_1 x2)) := by
  have h2 := e10_1 N (kseq PHI Tb12 N vc10_2 k) x0
  have h3 := (funext fun y0 => (e10_2 N k y0) : (fun (y0 : D) => (kseq PHI Tb12 N vc10_2 k) .normal (s10_0 y0)) = _)
  refine Eq.trans (runC_seq _ _ _ k) (Eq.trans h2 (Eq.trans (congrArg (fun K => m10_1 N x0 K) h3) (by kernel_rfl)))
theorem r10 (N : Nat) (x0 : D) : runC PHI Tb12 N vf10.body (enterV vf10 [V.f x0] []) (finish vf10) = m10_0 N x0 (fun x2 => finish vf10 .ret (s10_1 x2)) := 
  Eq.trans (runC_pre (s1 := (s10_0 x0)) (by kernel_rfl) _ _) (Eq.trans (e10_0 N (finish vf10) x0) (by kernel_rfl))
end
theorem ltb_nf {a : Int} {n : Nat} (h : ltb a (n : Int) = false) : (n : Int) ≤ a := by
  by_cases hh : a < (n : Int)
  · rw [ltb_t hh] at h; cases h
  · omega
section
variable {R : Type}
theorem in10 (N : Nat) (hN : 30 < N) (x10 x11 x12 row : D) (hr : ltb 30 (row.toL.length : Int) = false) (K2 : D → D → D → Option R) (Kr : D → Option R) :
    l10_36 N N x10 x11 x12 row (.i (row.toL.length : Int)) (.i 0) K2 Kr = bif leb 0 (foundL row) then Kr (.b false) else K2 x10 x11 x12 := by
  have hl := ltb_nf hr
  exact loop_find (fun j i => l10_36 N j x10 x11 x12 row (.i (row.toL.length : Int)) (.i (i : Nat)) K2 Kr) (long row) row.toL.length (K2 x10 x11 x12) (fun _ => Kr (.b false))
    (fun j i hi => by
      simp only [l10_36, m10_37, toI_i, cond_true, ltb_n hi, inb_t hi, at_nat, succ_n hi (show row.toL.length ≤ 9223372036854775807 by omega), long])
    (fun j => by simp only [l10_36, m10_37, toI_i, ltb_self, cond_false])
    row.toL.length 0 N (by omega) (by omega)
end
def Tb10 : CallF := extend Tb12 10 (fn1 (fun _ => true) fun x => .f (.b (sp10 x)))
theorem ok10 : FnOk Try.prog PHI Tb10 := FnOk.add1 hPHI ok12 (by kernel_rfl) fun x ha _ => ⟨100, (r10 _ x).trans (by
  simp only [m10_0, m10_1, m10_2, m10_3, m10_10, m10_11, m10_12, m10_13, m10_14, m10_56, sp10]
  cases h60 : ltb 60 (x.toL.length : Int)
  · have hl := ltb_nf h60
    simp only [cond_false]
    have h := loop_find (fun j i => l10_14 100 j x (.i (x.toL.length : Int)) (.i (i : Nat)) (finish vf10 .ret (s10_1 (.b true))) (fun x2 => finish vf10 .ret (s10_1 x2))) (fun i => badRow (x.toL.getD i .nil)) x.toL.length (finish vf10 .ret (s10_1 (.b true))) (fun i => finish vf10 .ret (s10_1 (.b false)))
      (fun j i hi => by
        simp only [l10_14, m10_15, m10_16, m10_17, m10_18, m10_21, m10_22, m10_23, m10_24, m10_25, m10_26, m10_33, m10_34, m10_35, m10_36, m10_55, toI_i, toB_b, cond_true, ltb_n hi, inb_t hi, at_nat, succ_n hi (show x.toL.length ≤ 9223372036854775807 by omega), badRow]
        cases h30 : ltb 30 ((x.toL.getD i .nil).toL.length : Int)
        · simp only [cond_false]
          rw [in10 100 (by omega) _ _ _ _ h30, toI_i, succ_n hi (show x.toL.length ≤ 9223372036854775807 by omega)]
        · rfl)
      (fun j => by simp only [l10_14, m10_15, m10_16, m10_17, m10_18, toI_i, toB_b, ltb_self, cond_false])
      x.toL.length 0 100 (by omega) (by omega)
    refine h.trans ?_
    rw [show fst (fun i => badRow (x.toL.getD i .nil)) x.toL.length 0 = foundR x from rfl]
    cases leb 0 (foundR x) <;> rfl
  · rfl)⟩
section
variable {R : Type}
def m3_1 (N : Nat) (x0 x1 x2 : D) (K : D → D → D → Option R) : Option R :=
  K x0 x1 x2
def s3_0 (x0 x1 x2 : D) : St := sts 42 [(0, V.f x0), (1, V.f x1), (2, V.f x2)] []
theorem e3_1 (N : Nat) (k : Kn R) (x0 x1 x2 : D) : runC PHI Tb10 N vc3_1 (s3_0 x0 x1 x2) k = m3_1 N x0 x1 x2 (fun x0 x1 x2 => k .normal (s3_0 x0 x1 x2)) := by
  refine Eq.trans (runC_post _ _ _ k) (Eq.trans (ops_run _ _ _ _) (by kernel_rfl))
def m3_3 (N : Nat) (x0 x1 x2 : D) (K : D → D → D → Option R) (Kr : D → Option R) : Option R :=
  (bif (!sp9) then (bif true then Kr (D.b sp9) else K x0 x1 x2) else (bif (ltb 12 (x0.toL.length : Int)) then (bif true then Kr (D.b sp9) else K x0 x1 x2) else (bif (!(sp10 (D.sl ([x1, x2] : List D)))) then Kr (D.b sp9) else K x0 x1 x2)))
def s3_1 (x6 : D) : St := sts 42 [(6, V.f x6)] []
theorem e3_3 (N : Nat) (k : Kn R) (x0 x1 x2 : D) : runC PHI Tb10 N vc3_3 (s3_0 x0 x1 x2) k = m3_3 N x0 x1 x2 (fun x0 x1 x2 => k .normal (s3_0 x0 x1 x2)) (fun x6 => k .ret (s3_1 x6)) := by kernel_rfl
def m3_10 (N : Nat) (x0 x1 x2 : D) (Kr : D → Option R) : Option R :=
  (bif (eqb (sp11 x0 x1 x2) (sp12 x0 x1 x2)) then Kr (D.b (eqb (sp11 x0 x2 x1) (IntKind.wrap IntKind.i64 (0 - (sp11 x0 x1 x2))))) else Kr (D.b false))
theorem e3_10 (N : Nat) (k : Kn R) (x0 x1 x2 : D) : runC PHI Tb10 N vc3_10 (s3_0 x0 x1 x2) k = m3_10 N x0 x1 x2 (fun x6 => k .ret (s3_1 x6)) := by kernel_rfl
def m3_2 (N : Nat) (x0 x1 x2 : D) (Kr : D → Option R) : Option R :=
  (m3_3 N x0 x1 x2 (fun y0 y1 y2 => (m3_10 N y0 y1 y2 Kr)) Kr)
theorem e3_2 (N : Nat) (k : Kn R) (x0 x1 x2 : D) : runC PHI Tb10 N vc3_2 (s3_0 x0 x1 x2) k = m3_2 N x0 x1 x2 (fun x6 => k .ret (s3_1 x6)) := by
  have h2 := e3_3 N (kseq PHI Tb10 N vc3_10 k) x0 x1 x2
  have h3 := (funext fun y0 => funext fun y1 => funext fun y2 => (e3_10 N k y0 y1 y2) : (fun (y0 y1 y2 : D) => (kseq PHI Tb10 N vc3_10 k) .normal (s3_0 y0 y1 y2)) = _)
  refine Eq.trans (runC_seq _ _ _ k) (Eq.trans h2 (Eq.trans (congrArg (fun K => m3_3 N x0 x1 x2 K (fun x6 => (kseq PHI Tb10 N vc3_10 k) .ret (s3_1 x6))) h3) (by kernel_rfl)))
def m3_0 (N : Nat) (x0 x1 x2 : D) (Kr : D → Option R) : Option R :=
  (m3_1 N x0 x1 x2 (fun y0 y1 y2 => (m3_2 N y0 y1 y2 Kr)))
theorem e3_0 (N : Nat) (k : Kn R) (x0 x1 x2 : D) : runC PHI Tb10 N vc3_0 (s3_0 x0 x1 x2) k = m3_0 N x0 x1 x2 (fun x6 => k .ret (s3_1 x6)) := by
  have h2 := e3_1 N (kseq PHI Tb10 N vc3_2 k) x0 x1 x2
  have h3 := (funext fun y0 => funext fun y1 => funext fun y2 => (e3_2 N k y0 y1 y2) : (fun (y0 y1 y2 : D) => (kseq PHI Tb10 N vc3_2 k) .normal (s3_0 y0 y1 y2)) = _)
  refine Eq.trans (runC_seq _ _ _ k) (Eq.trans h2 (Eq.trans (congrArg (fun K => m3_1 N x0 x1 x2 K) h3) (by kernel_rfl)))
theorem r3 (N : Nat) (x0 x1 x2 : D) : runC PHI Tb10 N vf3.body (enterV vf3 [V.f x0, V.f x1, V.f x2] []) (finish vf3) = m3_0 N x0 x1 x2 (fun x6 => finish vf3 .ret (s3_1 x6)) := 
  Eq.trans (runC_pre (s1 := (s3_0 x0 x1 x2)) (by kernel_rfl) _ _) (Eq.trans (e3_0 N (finish vf3) x0 x1 x2) (by kernel_rfl))
end
def Tb3 : CallF := extend Tb10 3 (fn3 (fun _ _ _ => true) fun _ _ _ => .f (.b true))
theorem ok3 : FnOk Try.prog PHI Tb3 := FnOk.add3 hPHI ok10 (by kernel_rfl) fun l a b ha _ => ⟨0, (r3 _ l a b).trans (by
  have e1 : eqb (sp11 l a b) (sp12 l a b) = true := eqb_t rfl
  have e2 : eqb (sp11 l b a) (IntKind.wrap IntKind.i64 (0 - sp11 l a b)) = true := eqb_t (by
    unfold sp11; rw [neg_w (ord_range l a b)]; exact ord_neg l a b)
  simp only [m3_1, m3_3, m3_10, m3_2, m3_0, e1, e2, sp9, Bool.not_true, cond_false, cond_true]
  cases ltb 12 (l.toL.length : Int) <;> cases sp10 (.sl [a, b]) <;> rfl)⟩

end Go.Vam.C14
