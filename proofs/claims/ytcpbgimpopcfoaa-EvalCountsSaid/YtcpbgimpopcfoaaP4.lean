/- Chapter 14: what functions come to, part 4. No conditions. -/
import Derived.Test.YtcpbgimpopcfoaaP3
import Derived.KernelRfl
set_option linter.unusedVariables false
set_option linter.unusedSimpArgs false
set_option maxRecDepth 100000
namespace Go.Vam.C14
open Go.Proofs
def hold (r x : D) : Bool := sp62 (sp23 x r)
theorem ltb_nf {a : Int} {n : Nat} (h : ltb a (n : Int) = false) : (n : Int) ≤ a := by
  by_cases hh : a < (n : Int)
  · rw [ltb_t hh] at h; cases h
  · omega
end Go.Vam.C14
namespace Go.Vam.C14
open Go.Proofs
def long (row : D) (k : Nat) : Bool := ltb 100 (((row.toL.getD k .nil).at 3).toS.length : Int)
def foundL (row : D) : Int := fst (long row) row.toL.length 0
def badRow (row : D) : Bool := bif ltb 30 (row.toL.length : Int) then true else leb 0 (foundL row)
def foundR (x : D) : Int := fst (fun i => badRow (x.toL.getD i .nil)) x.toL.length 0
def sp10 (x : D) : Bool := bif ltb 60 (x.toL.length : Int) then false else !leb 0 (foundR x)
section
variable {R : Type}
def m10_1 (N : Nat) (x0 : D) (K : D → Option R) : Option R :=
  K x0
def s10_0 (x0 : D) : St := sts 31 [(0, V.f x0)] []
theorem e10_1 (N : Nat) (k : Kn R) (x0 : D) : runC PHI Tb23 N vc10_1 (s10_0 x0) k = m10_1 N x0 (fun x0 => k .normal (s10_0 x0)) := by
  refine Eq.trans (runC_post _ _ _ k) (Eq.trans (ops_run _ _ _ _) (by kernel_rfl))
def m10_3 (N : Nat) (x0 : D) (K : D → Option R) (Kr : D → Option R) : Option R :=
  (bif (ltb 60 (x0.toL.length : Int)) then Kr (D.b false) else K x0)
def s10_1 (x2 : D) : St := sts 31 [(2, V.f x2)] []
theorem e10_3 (N : Nat) (k : Kn R) (x0 : D) : runC PHI Tb23 N vc10_3 (s10_0 x0) k = m10_3 N x0 (fun x0 => k .normal (s10_0 x0)) (fun x2 => k .ret (s10_1 x2)) := by kernel_rfl
def m10_12 (N : Nat) (x0 : D) (K : D → D → D → Option R) : Option R :=
  K x0 (D.i (x0.toL.length : Int)) (D.i 0)
def s10_2 (x10 x11 x12 : D) : St := sts 31 [(10, V.f x10), (11, V.f x11), (12, V.f x12)] []
theorem e10_12 (N : Nat) (k : Kn R) (x0 : D) : runC PHI Tb23 N vc10_12 (s10_0 x0) k = m10_12 N x0 (fun x10 x11 x12 => k .normal (s10_2 x10 x11 x12)) := by
  refine Eq.trans (runC_post _ _ _ k) (Eq.trans (ops_run _ _ _ _) (by kernel_rfl))
def m10_16 (N : Nat) (x10 x11 x12 : D) (K : D → D → D → D → Option R) : Option R :=
  K x10 x11 x12 (D.b (ltb x12.toI x11.toI))
def s10_3 (x10 x11 x12 x13 : D) : St := sts 31 [(10, V.f x10), (11, V.f x11), (12, V.f x12), (13, V.f x13)] []
theorem e10_16 (N : Nat) (k : Kn R) (x10 x11 x12 : D) : runC PHI Tb23 N vc10_16 (s10_2 x10 x11 x12) k = m10_16 N x10 x11 x12 (fun x10 x11 x12 x13 => k .normal (s10_3 x10 x11 x12 x13)) := by
  refine Eq.trans (runC_post _ _ _ k) (Eq.trans (ops_run _ _ _ _) (by kernel_rfl))
def m10_18 (N : Nat) (x10 x11 x12 x13 : D) (K : D → D → D → Option R) (K0 : Option R) : Option R :=
  (bif x13.toB then K x10 x11 x12 else K0)
def s10_4 : St := sts 31 [] []
theorem e10_18 (N : Nat) (k : Kn R) (x10 x11 x12 x13 : D) : runC PHI Tb23 N vc10_18 (s10_3 x10 x11 x12 x13) k = m10_18 N x10 x11 x12 x13 (fun x10 x11 x12 => k .normal (s10_2 x10 x11 x12)) (k (.exit 0) s10_4) := by kernel_rfl
def m10_24 (N : Nat) (x10 x11 x12 : D) (K : D → D → D → D → Option R) : Option R :=
  (bif (inb x12.toI x10.toL.length) then K (x10.at (x12.toI : Int).toNat) x10 x11 x12 else none)
def s10_5 (x4 x10 x11 x12 : D) : St := sts 31 [(4, V.f x4), (10, V.f x10), (11, V.f x11), (12, V.f x12)] []
theorem e10_24 (N : Nat) (k : Kn R) (x10 x11 x12 : D) : runC PHI Tb23 N vc10_24 (s10_2 x10 x11 x12) k = m10_24 N x10 x11 x12 (fun x4 x10 x11 x12 => k .normal (s10_5 x4 x10 x11 x12)) := by
  refine Eq.trans (runC_post _ _ _ k) (Eq.trans (ops_run _ _ _ _) (by kernel_rfl))
def m10_26 (N : Nat) (x4 x10 x11 x12 : D) (K : D → D → D → D → Option R) (Kr : D → Option R) : Option R :=
  (bif (ltb 30 (x4.toL.length : Int)) then Kr (D.b false) else K x4 x10 x11 x12)
theorem e10_26 (N : Nat) (k : Kn R) (x4 x10 x11 x12 : D) : runC PHI Tb23 N vc10_26 (s10_5 x4 x10 x11 x12) k = m10_26 N x4 x10 x11 x12 (fun x4 x10 x11 x12 => k .normal (s10_5 x4 x10 x11 x12)) (fun x2 => k .ret (s10_1 x2)) := by kernel_rfl
def m10_34 (N : Nat) (x4 x10 x11 x12 : D) (K : D → D → D → D → D → D → Option R) : Option R :=
  K x10 x11 x12 x4 (D.i (x4.toL.length : Int)) (D.i 0)
def s10_6 (x10 x11 x12 x19 x20 x21 : D) : St := sts 31 [(10, V.f x10), (11, V.f x11), (12, V.f x12), (19, V.f x19), (20, V.f x20), (21, V.f x21)] []
theorem e10_34 (N : Nat) (k : Kn R) (x4 x10 x11 x12 : D) : runC PHI Tb23 N vc10_34 (s10_5 x4 x10 x11 x12) k = m10_34 N x4 x10 x11 x12 (fun x10 x11 x12 x19 x20 x21 => k .normal (s10_6 x10 x11 x12 x19 x20 x21)) := by
  refine Eq.trans (runC_post _ _ _ k) (Eq.trans (ops_run _ _ _ _) (by kernel_rfl))
def m10_37 (N : Nat) (x10 x11 x12 x19 x20 x21 : D) (K : D → D → D → D → D → D → Option R) (K2 : D → D → D → Option R) (Kr : D → Option R) : Option R :=
  (bif (ltb x21.toI x20.toI) then (bif (inb x21.toI x19.toL.length) then (bif (ltb 100 (((x19.at (x21.toI : Int).toNat).at 3).toS.length : Int)) then Kr (D.b false) else K x10 x11 x12 x19 x20 (D.i (IntKind.i64.wrap (x21.toI + 1)))) else none) else K2 x10 x11 x12)
theorem e10_37 (N : Nat) (k : Kn R) (x10 x11 x12 x19 x20 x21 : D) : runC PHI Tb23 N vc10_37 (s10_6 x10 x11 x12 x19 x20 x21) k = m10_37 N x10 x11 x12 x19 x20 x21 (fun x10 x11 x12 x19 x20 x21 => k .normal (s10_6 x10 x11 x12 x19 x20 x21)) (fun x10 x11 x12 => k (.exit 2) (s10_2 x10 x11 x12)) (fun x2 => k .ret (s10_1 x2)) := by kernel_rfl
def l10_36 (N : Nat) (j : Nat) (x10 x11 x12 x19 x20 x21 : D) (K2 : D → D → D → Option R) (Kr : D → Option R) : Option R :=
  match j with
  | 0 => none
  | j + 1 => (m10_37 N x10 x11 x12 x19 x20 x21 (fun y10 y11 y12 y19 y20 y21 => l10_36 N j y10 y11 y12 y19 y20 y21 K2 Kr) K2 Kr)
def m10_36 (N : Nat) (x10 x11 x12 x19 x20 x21 : D) (K2 : D → D → D → Option R) (Kr : D → Option R) : Option R :=
  l10_36 N N x10 x11 x12 x19 x20 x21 K2 Kr
theorem el10_36 (N : Nat) (k : Kn R) : ∀ (j : Nat) (x10 x11 x12 x19 x20 x21 : D), loopGo (runC PHI Tb23 N vc10_37) j (s10_6 x10 x11 x12 x19 x20 x21) k = l10_36 N j x10 x11 x12 x19 x20 x21 (fun x10 x11 x12 => k (.exit 2) (s10_2 x10 x11 x12)) (fun x2 => k .ret (s10_1 x2))
  | 0, _, _, _, _, _, _ => by kernel_rfl
  | j + 1, x10, x11, x12, x19, x20, x21 => by
    have h2 := e10_37 N (kloop PHI Tb23 N vc10_37 j k) x10 x11 x12 x19 x20 x21
    have h3 : (fun (y10 y11 y12 y19 y20 y21 : D) => (kloop PHI Tb23 N vc10_37 j k) .normal (s10_6 y10 y11 y12 y19 y20 y21)) = (fun (y10 y11 y12 y19 y20 y21 : D) => l10_36 N j y10 y11 y12 y19 y20 y21 (fun x10 x11 x12 => k (.exit 2) (s10_2 x10 x11 x12)) (fun x2 => k .ret (s10_1 x2))) := funext fun y10 => funext fun y11 => funext fun y12 => funext fun y19 => funext fun y20 => funext fun y21 => (el10_36 N k j y10 y11 y12 y19 y20 y21)
    refine Eq.trans (loop_succ _ j _ k) (Eq.trans h2 (Eq.trans (congrArg (fun K => m10_37 N x10 x11 x12 x19 x20 x21 K (fun x10 x11 x12 => (kloop PHI Tb23 N vc10_37 j k) (.exit 2) (s10_2 x10 x11 x12)) (fun x2 => (kloop PHI Tb23 N vc10_37 j k) .ret (s10_1 x2))) h3) (by kernel_rfl)))
theorem e10_36 (N : Nat) (k : Kn R) (x10 x11 x12 x19 x20 x21 : D) : runC PHI Tb23 N vc10_36 (s10_6 x10 x11 x12 x19 x20 x21) k = m10_36 N x10 x11 x12 x19 x20 x21 (fun x10 x11 x12 => k (.exit 2) (s10_2 x10 x11 x12)) (fun x2 => k .ret (s10_1 x2)) := by
  refine Eq.trans (runC_loop _ _ k) (Eq.trans (el10_36 N k N x10 x11 x12 x19 x20 x21) (by kernel_rfl))
def m10_35 (N : Nat) (x10 x11 x12 x19 x20 x21 : D) (K : D → D → D → Option R) (Kr : D → Option R) : Option R :=
  (m10_36 N x10 x11 x12 x19 x20 x21 (fun y10 y11 y12 => K y10 y11 y12) Kr)
theorem e10_35 (N : Nat) (k : Kn R) (x10 x11 x12 x19 x20 x21 : D) : runC PHI Tb23 N vc10_35 (s10_6 x10 x11 x12 x19 x20 x21) k = m10_35 N x10 x11 x12 x19 x20 x21 (fun x10 x11 x12 => k .normal (s10_2 x10 x11 x12)) (fun x2 => k .ret (s10_1 x2)) := by
  refine Eq.trans (runC_block _ _ _ k) (Eq.trans (e10_36 N (kblk 2 k) x10 x11 x12 x19 x20 x21) (by kernel_rfl))
def m10_33 (N : Nat) (x4 x10 x11 x12 : D) (K : D → D → D → Option R) (Kr : D → Option R) : Option R :=
  (m10_34 N x4 x10 x11 x12 (fun y10 y11 y12 y19 y20 y21 => (m10_35 N y10 y11 y12 y19 y20 y21 (fun y10 y11 y12 => K y10 y11 y12) Kr)))
theorem e10_33 (N : Nat) (k : Kn R) (x4 x10 x11 x12 : D) : runC PHI Tb23 N vc10_33 (s10_5 x4 x10 x11 x12) k = m10_33 N x4 x10 x11 x12 (fun x10 x11 x12 => k .normal (s10_2 x10 x11 x12)) (fun x2 => k .ret (s10_1 x2)) := by
  have h2 := e10_34 N (kseq PHI Tb23 N vc10_35 k) x4 x10 x11 x12
  have h3 := (funext fun y10 => funext fun y11 => funext fun y12 => funext fun y19 => funext fun y20 => funext fun y21 => (e10_35 N k y10 y11 y12 y19 y20 y21) : (fun (y10 y11 y12 y19 y20 y21 : D) => (kseq PHI Tb23 N vc10_35 k) .normal (s10_6 y10 y11 y12 y19 y20 y21)) = _)
  refine Eq.trans (runC_seq _ _ _ k) (Eq.trans h2 (Eq.trans (congrArg (fun K => m10_34 N x4 x10 x11 x12 K) h3) (by kernel_rfl)))
def m10_25 (N : Nat) (x4 x10 x11 x12 : D) (K : D → D → D → Option R) (Kr : D → Option R) : Option R :=
  (m10_26 N x4 x10 x11 x12 (fun y4 y10 y11 y12 => (m10_33 N y4 y10 y11 y12 (fun y10 y11 y12 => K y10 y11 y12) Kr)) Kr)
theorem e10_25 (N : Nat) (k : Kn R) (x4 x10 x11 x12 : D) : runC PHI Tb23 N vc10_25 (s10_5 x4 x10 x11 x12) k = m10_25 N x4 x10 x11 x12 (fun x10 x11 x12 => k .normal (s10_2 x10 x11 x12)) (fun x2 => k .ret (s10_1 x2)) := by
  have h2 := e10_26 N (kseq PHI Tb23 N vc10_33 k) x4 x10 x11 x12
  have h3 := (funext fun y4 => funext fun y10 => funext fun y11 => funext fun y12 => (e10_33 N k y4 y10 y11 y12) : (fun (y4 y10 y11 y12 : D) => (kseq PHI Tb23 N vc10_33 k) .normal (s10_5 y4 y10 y11 y12)) = _)
  refine Eq.trans (runC_seq _ _ _ k) (Eq.trans h2 (Eq.trans (congrArg (fun K => m10_26 N x4 x10 x11 x12 K (fun x2 => (kseq PHI Tb23 N vc10_33 k) .ret (s10_1 x2))) h3) (by kernel_rfl)))
def m10_23 (N : Nat) (x10 x11 x12 : D) (K : D → D → D → Option R) (Kr : D → Option R) : Option R :=
  (m10_24 N x10 x11 x12 (fun y4 y10 y11 y12 => (m10_25 N y4 y10 y11 y12 (fun y10 y11 y12 => K y10 y11 y12) Kr)))
theorem e10_23 (N : Nat) (k : Kn R) (x10 x11 x12 : D) : runC PHI Tb23 N vc10_23 (s10_2 x10 x11 x12) k = m10_23 N x10 x11 x12 (fun x10 x11 x12 => k .normal (s10_2 x10 x11 x12)) (fun x2 => k .ret (s10_1 x2)) := by
  have h2 := e10_24 N (kseq PHI Tb23 N vc10_25 k) x10 x11 x12
  have h3 := (funext fun y4 => funext fun y10 => funext fun y11 => funext fun y12 => (e10_25 N k y4 y10 y11 y12) : (fun (y4 y10 y11 y12 : D) => (kseq PHI Tb23 N vc10_25 k) .normal (s10_5 y4 y10 y11 y12)) = _)
  refine Eq.trans (runC_seq _ _ _ k) (Eq.trans h2 (Eq.trans (congrArg (fun K => m10_24 N x10 x11 x12 K) h3) (by kernel_rfl)))
def m10_22 (N : Nat) (x10 x11 x12 : D) (K : D → D → D → Option R) (Kr : D → Option R) : Option R :=
  (m10_23 N x10 x11 x12 (fun y10 y11 y12 => K y10 y11 y12) Kr)
theorem e10_22 (N : Nat) (k : Kn R) (x10 x11 x12 : D) : runC PHI Tb23 N vc10_22 (s10_2 x10 x11 x12) k = m10_22 N x10 x11 x12 (fun x10 x11 x12 => k .normal (s10_2 x10 x11 x12)) (fun x2 => k .ret (s10_1 x2)) := by
  refine Eq.trans (runC_block _ _ _ k) (Eq.trans (e10_23 N (kblk 1 k) x10 x11 x12) (by kernel_rfl))
def m10_55 (N : Nat) (x10 x11 x12 : D) (K : D → D → D → Option R) : Option R :=
  K x10 x11 (D.i (IntKind.i64.wrap (x12.toI + 1)))
theorem e10_55 (N : Nat) (k : Kn R) (x10 x11 x12 : D) : runC PHI Tb23 N vc10_55 (s10_2 x10 x11 x12) k = m10_55 N x10 x11 x12 (fun x10 x11 x12 => k .normal (s10_2 x10 x11 x12)) := by
  refine Eq.trans (runC_post _ _ _ k) (Eq.trans (ops_run _ _ _ _) (by kernel_rfl))
def m10_21 (N : Nat) (x10 x11 x12 : D) (K : D → D → D → Option R) (Kr : D → Option R) : Option R :=
  (m10_22 N x10 x11 x12 (fun y10 y11 y12 => (m10_55 N y10 y11 y12 (fun y10 y11 y12 => K y10 y11 y12))) Kr)
theorem e10_21 (N : Nat) (k : Kn R) (x10 x11 x12 : D) : runC PHI Tb23 N vc10_21 (s10_2 x10 x11 x12) k = m10_21 N x10 x11 x12 (fun x10 x11 x12 => k .normal (s10_2 x10 x11 x12)) (fun x2 => k .ret (s10_1 x2)) := by
  have h2 := e10_22 N (kseq PHI Tb23 N vc10_55 k) x10 x11 x12
  have h3 := (funext fun y10 => funext fun y11 => funext fun y12 => (e10_55 N k y10 y11 y12) : (fun (y10 y11 y12 : D) => (kseq PHI Tb23 N vc10_55 k) .normal (s10_2 y10 y11 y12)) = _)
  refine Eq.trans (runC_seq _ _ _ k) (Eq.trans h2 (Eq.trans (congrArg (fun K => m10_22 N x10 x11 x12 K (fun x2 => (kseq PHI Tb23 N vc10_55 k) .ret (s10_1 x2))) h3) (by kernel_rfl)))
def m10_17 (N : Nat) (x10 x11 x12 x13 : D) (K : D → D → D → Option R) (K0 : Option R) (Kr : D → Option R) : Option R :=
  (m10_18 N x10 x11 x12 x13 (fun y10 y11 y12 => (m10_21 N y10 y11 y12 (fun y10 y11 y12 => K y10 y11 y12) Kr)) K0)
theorem e10_17 (N : Nat) (k : Kn R) (x10 x11 x12 x13 : D) : runC PHI Tb23 N vc10_17 (s10_3 x10 x11 x12 x13) k = m10_17 N x10 x11 x12 x13 (fun x10 x11 x12 => k .normal (s10_2 x10 x11 x12)) (k (.exit 0) s10_4) (fun x2 => k .ret (s10_1 x2)) := by
  have h2 := e10_18 N (kseq PHI Tb23 N vc10_21 k) x10 x11 x12 x13
  have h3 := (funext fun y10 => funext fun y11 => funext fun y12 => (e10_21 N k y10 y11 y12) : (fun (y10 y11 y12 : D) => (kseq PHI Tb23 N vc10_21 k) .normal (s10_2 y10 y11 y12)) = _)
  refine Eq.trans (runC_seq _ _ _ k) (Eq.trans h2 (Eq.trans (congrArg (fun K => m10_18 N x10 x11 x12 x13 K ((kseq PHI Tb23 N vc10_21 k) (.exit 0) s10_4)) h3) (by kernel_rfl)))
def m10_15 (N : Nat) (x10 x11 x12 : D) (K : D → D → D → Option R) (K0 : Option R) (Kr : D → Option R) : Option R :=
  (m10_16 N x10 x11 x12 (fun y10 y11 y12 y13 => (m10_17 N y10 y11 y12 y13 (fun y10 y11 y12 => K y10 y11 y12) K0 Kr)))
theorem e10_15 (N : Nat) (k : Kn R) (x10 x11 x12 : D) : runC PHI Tb23 N vc10_15 (s10_2 x10 x11 x12) k = m10_15 N x10 x11 x12 (fun x10 x11 x12 => k .normal (s10_2 x10 x11 x12)) (k (.exit 0) s10_4) (fun x2 => k .ret (s10_1 x2)) := by
  have h2 := e10_16 N (kseq PHI Tb23 N vc10_17 k) x10 x11 x12
  have h3 := (funext fun y10 => funext fun y11 => funext fun y12 => funext fun y13 => (e10_17 N k y10 y11 y12 y13) : (fun (y10 y11 y12 y13 : D) => (kseq PHI Tb23 N vc10_17 k) .normal (s10_3 y10 y11 y12 y13)) = _)
  refine Eq.trans (runC_seq _ _ _ k) (Eq.trans h2 (Eq.trans (congrArg (fun K => m10_16 N x10 x11 x12 K) h3) (by kernel_rfl)))
def l10_14 (N : Nat) (j : Nat) (x10 x11 x12 : D) (K0 : Option R) (Kr : D → Option R) : Option R :=
  match j with
  | 0 => none
  | j + 1 => (m10_15 N x10 x11 x12 (fun y10 y11 y12 => l10_14 N j y10 y11 y12 K0 Kr) K0 Kr)
def m10_14 (N : Nat) (x10 x11 x12 : D) (K0 : Option R) (Kr : D → Option R) : Option R :=
  l10_14 N N x10 x11 x12 K0 Kr
theorem el10_14 (N : Nat) (k : Kn R) : ∀ (j : Nat) (x10 x11 x12 : D), loopGo (runC PHI Tb23 N vc10_15) j (s10_2 x10 x11 x12) k = l10_14 N j x10 x11 x12 (k (.exit 0) s10_4) (fun x2 => k .ret (s10_1 x2))
  | 0, _, _, _ => by kernel_rfl
  | j + 1, x10, x11, x12 => by
    have h2 := e10_15 N (kloop PHI Tb23 N vc10_15 j k) x10 x11 x12
    have h3 : (fun (y10 y11 y12 : D) => (kloop PHI Tb23 N vc10_15 j k) .normal (s10_2 y10 y11 y12)) = (fun (y10 y11 y12 : D) => l10_14 N j y10 y11 y12 (k (.exit 0) s10_4) (fun x2 => k .ret (s10_1 x2))) := funext fun y10 => funext fun y11 => funext fun y12 => (el10_14 N k j y10 y11 y12)
    refine Eq.trans (loop_succ _ j _ k) (Eq.trans h2 (Eq.trans (congrArg (fun K => m10_15 N x10 x11 x12 K ((kloop PHI Tb23 N vc10_15 j k) (.exit 0) s10_4) (fun x2 => (kloop PHI Tb23 N vc10_15 j k) .ret (s10_1 x2))) h3) (by kernel_rfl)))
theorem e10_14 (N : Nat) (k : Kn R) (x10 x11 x12 : D) : runC PHI Tb23 N vc10_14 (s10_2 x10 x11 x12) k = m10_14 N x10 x11 x12 (k (.exit 0) s10_4) (fun x2 => k .ret (s10_1 x2)) := by
  refine Eq.trans (runC_loop _ _ k) (Eq.trans (el10_14 N k N x10 x11 x12) (by kernel_rfl))
def m10_13 (N : Nat) (x10 x11 x12 : D) (K : Option R) (Kr : D → Option R) : Option R :=
  (m10_14 N x10 x11 x12 (K) Kr)
theorem e10_13 (N : Nat) (k : Kn R) (x10 x11 x12 : D) : runC PHI Tb23 N vc10_13 (s10_2 x10 x11 x12) k = m10_13 N x10 x11 x12 (k .normal s10_4) (fun x2 => k .ret (s10_1 x2)) := by
  refine Eq.trans (runC_block _ _ _ k) (Eq.trans (e10_14 N (kblk 0 k) x10 x11 x12) (by kernel_rfl))
def m10_11 (N : Nat) (x0 : D) (K : Option R) (Kr : D → Option R) : Option R :=
  (m10_12 N x0 (fun y10 y11 y12 => (m10_13 N y10 y11 y12 (K) Kr)))
theorem e10_11 (N : Nat) (k : Kn R) (x0 : D) : runC PHI Tb23 N vc10_11 (s10_0 x0) k = m10_11 N x0 (k .normal s10_4) (fun x2 => k .ret (s10_1 x2)) := by
  have h2 := e10_12 N (kseq PHI Tb23 N vc10_13 k) x0
  have h3 := (funext fun y10 => funext fun y11 => funext fun y12 => (e10_13 N k y10 y11 y12) : (fun (y10 y11 y12 : D) => (kseq PHI Tb23 N vc10_13 k) .normal (s10_2 y10 y11 y12)) = _)
  refine Eq.trans (runC_seq _ _ _ k) (Eq.trans h2 (Eq.trans (congrArg (fun K => m10_12 N x0 K) h3) (by kernel_rfl)))
def m10_56 (N : Nat) (Kr : D → Option R) : Option R :=
  Kr (D.b true)
theorem e10_56 (N : Nat) (k : Kn R) : runC PHI Tb23 N vc10_56 s10_4 k = m10_56 N (fun x2 => k .ret (s10_1 x2)) := by kernel_rfl
def m10_10 (N : Nat) (x0 : D) (Kr : D → Option R) : Option R :=
  (m10_11 N x0 ((m10_56 N Kr)) Kr)
theorem e10_10 (N : Nat) (k : Kn R) (x0 : D) : runC PHI Tb23 N vc10_10 (s10_0 x0) k = m10_10 N x0 (fun x2 => k .ret (s10_1 x2)) := by
  have h2 := e10_11 N (kseq PHI Tb23 N vc10_56 k) x0
  have h3 := ((e10_56 N k ) : ((kseq PHI Tb23 N vc10_56 k) .normal s10_4) = _)
  refine Eq.trans (runC_seq _ _ _ k) (Eq.trans h2 (Eq.trans (congrArg (fun K => m10_11 N x0 K (fun x2 => (kseq PHI Tb23 N vc10_56 k) .ret (s10_1 x2))) h3) (by kernel_rfl)))
def m10_2 (N : Nat) (x0 : D) (Kr : D → Option R) : Option R :=
  (m10_3 N x0 (fun y0 => (m10_10 N y0 Kr)) Kr)
theorem e10_2 (N : Nat) (k : Kn R) (x0 : D) : runC PHI Tb23 N vc10_2 (s10_0 x0) k = m10_2 N x0 (fun x2 => k .ret (s10_1 x2)) := by
  have h2 := e10_3 N (kseq PHI Tb23 N vc10_10 k) x0
  have h3 := (funext fun y0 => (e10_10 N k y0) : (fun (y0 : D) => (kseq PHI Tb23 N vc10_10 k) .normal (s10_0 y0)) = _)
  refine Eq.trans (runC_seq _ _ _ k) (Eq.trans h2 (Eq.trans (congrArg (fun K => m10_3 N x0 K (fun x2 => (kseq PHI Tb23 N vc10_10 k) .ret (s10_1 x2))) h3) (by kernel_rfl)))
def m10_0 (N : Nat) (x0 : D) (Kr : D → Option R) : Option R :=
  (m10_1 N x0 (fun y0 => (m10_2 N y0 Kr)))
theorem e10_0 (N : Nat) (k : Kn R) (x0 : D) : runC PHI Tb23 N vc10_0 (s10_0 x0) k = m10_0 N x0 (fun x2 => k .ret (s10_1 x2)) := by
  have h2 := e10_1 N (kseq PHI Tb23 N vc10_2 k) x0
  have h3 := (funext fun y0 => (e10_2 N k y0) : (fun (y0 : D) => (kseq PHI Tb23 N vc10_2 k) .normal (s10_0 y0)) = _)
  refine Eq.trans (runC_seq _ _ _ k) (Eq.trans h2 (Eq.trans (congrArg (fun K => m10_1 N x0 K) h3) (by kernel_rfl)))
theorem r10 (N : Nat) (x0 : D) : runC PHI Tb23 N vf10.body (enterV vf10 [V.f x0] []) (finish vf10) = m10_0 N x0 (fun x2 => finish vf10 .ret (s10_1 x2)) := 
  Eq.trans (runC_pre (s1 := (s10_0 x0)) (by kernel_rfl) _ _) (Eq.trans (e10_0 N (finish vf10) x0) (by kernel_rfl))
end
section
variable {R : Type}
theorem in10 (N : Nat) (hN : 30 < N) (x10 x11 x12 row : D) (hr : ltb 30 (row.toL.length : Int) = false) (K2 : D → D → D → Option R) (Kr : D → Option R) :
    l10_36 N N x10 x11 x12 row (.i (row.toL.length : Int)) (.i 0) K2 Kr = bif leb 0 (foundL row) then Kr (.b false) else K2 x10 x11 x12 := by
  have hl := ltb_nf hr
  exact loop_find (fun j i => l10_36 N j x10 x11 x12 row (.i (row.toL.length : Int)) (.i (i : Nat)) K2 Kr) (long row) row.toL.length (K2 x10 x11 x12) (fun _ => Kr (.b false))
    (fun j i hi => by
      simp only [l10_36, m10_37, toI_i, cond_true, ltb_n hi, inb_t hi, at_nat, succ_n hi (show row.toL.length ≤ 9223372036854775807 by omega), long])
    (fun j => by simp only [l10_36, m10_37, toI_i, ltb_self, cond_false])
    row.toL.length 0 N (by omega) (by omega)
end
def Tb10 : CallF := extend Tb23 10 (fn1 (fun _ => true) fun x => .f (.b (sp10 x)))
theorem ok10 : FnOk Try.prog PHI Tb10 := FnOk.add1 hPHI ok23 (by kernel_rfl) fun x ha _ => ⟨100, (r10 _ x).trans (by
  simp only [m10_0, m10_1, m10_2, m10_3, m10_10, m10_11, m10_12, m10_13, m10_14, m10_56, sp10]
  cases h60 : ltb 60 (x.toL.length : Int)
  · have hl := ltb_nf h60
    simp only [cond_false]
    have h := loop_find (fun j i => l10_14 100 j x (.i (x.toL.length : Int)) (.i (i : Nat)) (finish vf10 .ret (s10_1 (.b true))) (fun x2 => finish vf10 .ret (s10_1 x2))) (fun i => badRow (x.toL.getD i .nil)) x.toL.length (finish vf10 .ret (s10_1 (.b true))) (fun i => finish vf10 .ret (s10_1 (.b false)))
      (fun j i hi => by
        simp only [l10_14, m10_15, m10_16, m10_17, m10_18, m10_21, m10_22, m10_23, m10_24, m10_25, m10_26, m10_33, m10_34, m10_35, m10_36, m10_55, toI_i, toB_b, cond_true, ltb_n hi, inb_t hi, at_nat, succ_n hi (show x.toL.length ≤ 9223372036854775807 by omega), badRow]
        cases h30 : ltb 30 ((x.toL.getD i .nil).toL.length : Int)
        · simp only [cond_false]
          rw [in10 100 (by omega) _ _ _ _ h30, toI_i, succ_n hi (show x.toL.length ≤ 9223372036854775807 by omega)]
        · rfl)
      (fun j => by simp only [l10_14, m10_15, m10_16, m10_17, m10_18, toI_i, toB_b, ltb_self, cond_false])
      x.toL.length 0 100 (by omega) (by omega)
    refine h.trans ?_
    rw [show fst (fun i => badRow (x.toL.getD i .nil)) x.toL.length 0 = foundR x from rfl]
    cases leb 0 (foundR x) <;> rfl
  · rfl)⟩
end Go.Vam.C14
namespace Go.Vam.C14
open Go.Proofs
theorem icmp (x y : Int) : compare x y = if x < y then .lt else if x = y then .eq else .gt := rfl
theorem icmp_le {x y : Int} : (compare x y = .lt ∨ compare x y = .eq) ↔ x ≤ y := by
  rw [icmp]
  by_cases h1 : x < y
  · simp [h1]; omega
  · by_cases h2 : x = y
    · simp [h2]
    · simp [h1, h2]; omega
theorem signed_up (s : Bool) (m k d : Nat) : Ieee.signed s m (k + d) = Ieee.signed s m k * ((2 ^ d : Nat) : Int) := by
  unfold Ieee.signed
  rw [Nat.shiftLeft_eq, Nat.shiftLeft_eq, Nat.pow_add, ← Nat.mul_assoc]
  split
  · rw [Int.natCast_mul, Int.neg_mul]
  · rw [Int.natCast_mul]
def up (s : Bool) (m : Nat) (i B : Int) : Int := Ieee.signed s m (i - B).toNat
theorem ord_le {s t : Bool} {m n : Nat} {i j B : Int} (h1 : B ≤ i) (h2 : B ≤ j) : ((Ieee.Datum.number s m i).order (.number t n j) = some .lt ∨ (Ieee.Datum.number s m i).order (.number t n j) = some .eq) ↔ up s m i B ≤ up t n j B := by
  simp only [Ieee.Datum.order, Option.some.injEq]
  rw [icmp_le]
  unfold up
  have e1 : (i - B).toNat = (i - min i j).toNat + (min i j - B).toNat := by omega
  have e2 : (j - B).toNat = (j - min i j).toNat + (min i j - B).toNat := by omega
  rw [e1, e2, signed_up, signed_up]
  have hp : (0 : Int) < ((2 ^ (min i j - B).toNat : Nat) : Int) := by
    have := Nat.two_pow_pos (min i j - B).toNat
    omega
  constructor
  · intro h; exact Int.mul_le_mul_of_nonneg_right h (by omega)
  · intro h; exact Int.le_of_mul_le_mul_right h hp
def ole (a b : Ieee.Datum) : Prop := a.order b = some .lt ∨ a.order b = some .eq
theorem ole_trans {a b c : Ieee.Datum} (h1 : ole a b) (h2 : ole b c) : ole a c := by
  unfold ole at *
  cases a with
  | nan s t => simp [Ieee.Datum.order] at h1
  | infinity s =>
    cases b with
    | nan u v => simp [Ieee.Datum.order] at h1
    | infinity t =>
      cases c with
      | nan u v => simp [Ieee.Datum.order] at h2
      | infinity u => cases s <;> cases t <;> cases u <;> first | (simp [Ieee.Datum.order] at h1; done) | (simp [Ieee.Datum.order] at h2; done) | decide | (revert h1 h2; decide)
      | number u m i => cases s <;> cases t <;> first | (simp [Ieee.Datum.order]; done) | (simp [Ieee.Datum.order] at h2; done) | (revert h1; simp only [Ieee.Datum.order]; decide)
    | number t n j =>
      cases s with
      | false => simp [Ieee.Datum.order] at h1
      | true =>
        cases c with
        | nan u v => simp [Ieee.Datum.order] at h2
        | infinity u => cases u <;> simp only [Ieee.Datum.order] <;> decide
        | number u m i => simp [Ieee.Datum.order]
  | number s m i =>
    cases b with
    | nan u v => simp [Ieee.Datum.order] at h1
    | infinity t =>
      cases t with
      | true => simp [Ieee.Datum.order] at h1
      | false =>
        cases c with
        | nan u v => simp [Ieee.Datum.order] at h2
        | infinity u => cases u with
          | false => simp [Ieee.Datum.order]
          | true => revert h2; simp only [Ieee.Datum.order]; decide
        | number u m i => simp [Ieee.Datum.order] at h2
    | number t n j =>
      cases c with
      | nan u v => simp [Ieee.Datum.order] at h2
      | infinity u => cases u with
        | false => simp [Ieee.Datum.order]
        | true => simp [Ieee.Datum.order] at h2
      | number u p k =>
        have q1 := (ord_le (B := min i (min j k)) (by omega) (by omega)).1 h1
        have q2 := (ord_le (B := min i (min j k)) (by omega) (by omega)).1 h2
        exact (ord_le (B := min i (min j k)) (by omega) (by omega)).2 (Int.le_trans q1 q2)
theorem G_le (x y : D) : G x y ≤ 0 ↔ (nan y = true ∨ (nan x = false ∧ ole (Ieee.double.read x.toF) (Ieee.double.read y.toF))) := by
  unfold G
  cases hx : nan x
  · cases hy : nan y
    · simp only [cond_false, Bool.false_eq_true, false_or, true_and]
      have e : oo x y = (Ieee.double.read x.toF).order (Ieee.double.read y.toF) := rfl
      unfold ole
      rw [← e]
      cases h : oo x y with
      | none => have := (oo_none x y).1 h; simp_all
      | some o => cases o <;> decide
    · simp
  · cases hy : nan y <;> simp
theorem G_trans {x y z : D} (h1 : G x y ≤ 0) (h2 : G y z ≤ 0) : G x z ≤ 0 := by
  rw [G_le] at *
  rcases h2 with h2 | ⟨h2, h3⟩
  · exact .inl h2
  · rcases h1 with h1 | ⟨h1, h4⟩
    · rw [h1] at h2; cases h2
    · exact .inr ⟨h1, ole_trans h4 h3⟩
theorem cmpI_le (x y : Int) : cmpI x y ≤ 0 ↔ x ≤ y := by
  unfold cmpI
  by_cases h1 : x < y
  · rw [ltb_t h1]; simp; omega
  · by_cases h2 : y < x
    · rw [ltb_f h1, ltb_t h2]; simp; omega
    · rw [ltb_f h1, ltb_f h2]; simp; omega
theorem cmpL_trans : ∀ {x y z : List Nat}, cmpL x y ≤ 0 → cmpL y z ≤ 0 → cmpL x z ≤ 0
  | [], _, [], _, _ => by simp [cmpL]
  | [], _, _ :: _, _, _ => by simp [cmpL]
  | a :: x, [], z, h, _ => by simp [cmpL] at h
  | a :: x, b :: y, [], _, h => by simp [cmpL] at h
  | a :: x, b :: y, d :: z, h1, h2 => by
    have e : ∀ (p q : Nat) (u v : List Nat), cmpL (p :: u) (q :: v) = if p = q then cmpL u v else if p ≤ q then -1 else 1 := fun p q u v => by
      rw [cmpL]
      by_cases h : p = q
      · subst h; simp
      · have : Nat.beq p q = false := Bool.eq_false_iff.2 fun h' => h (Nat.eq_of_beq_eq_true h')
        rw [this, if_neg h]
        simp only [cond_false]
        by_cases h' : p ≤ q
        · rw [if_pos h', Nat.ble_eq_true_of_le h']; rfl
        · rw [if_neg h']
          have : Nat.ble p q = false := Bool.eq_false_iff.2 fun h2 => h' (Nat.le_of_ble_eq_true h2)
          rw [this]; rfl
    rw [e] at h1 h2 ⊢
    by_cases hab : a = b
    · subst hab
      rw [if_pos rfl] at h1
      by_cases had : a = d
      · subst had
        rw [if_pos rfl] at h2 ⊢
        exact cmpL_trans h1 h2
      · rw [if_neg had] at h2 ⊢; exact h2
    · rw [if_neg hab] at h1
      by_cases hbd : b = d
      · subst hbd
        rw [if_neg hab]; exact h1
      · rw [if_neg hbd] at h2
        have p1 : a ≤ b := by by_cases h : a ≤ b; exact h; rw [if_neg h] at h1; omega
        have p2 : b ≤ d := by by_cases h : b ≤ d; exact h; rw [if_neg h] at h2; omega
        rw [if_neg (show ¬ a = d by omega), if_pos (show a ≤ d by omega)]; omega
theorem T_trans {u v w : D} (h1 : T u v ≤ 0) (h2 : T v w ≤ 0) : T u w ≤ 0 := by
  unfold T at *
  by_cases e1 : kd u = kd v
  · rw [e1] at h1 ⊢
    rw [eqb_t rfl] at h1
    by_cases e2 : kd v = kd w
    · rw [e2] at h1 h2 ⊢
      rw [eqb_t rfl] at h2 ⊢
      simp only [cond_true] at *
      cases h3 : eqb (kd w) 3
      · rw [h3] at h1 h2
        cases h4 : eqb (kd w) 2
        · rw [h4] at h1 h2
          simp only [cond_false] at *
          rw [cmpI_le] at *; omega
        · rw [h4] at h1 h2
          simp only [cond_false, cond_true] at *
          exact G_trans h1 h2
      · rw [h3] at h1 h2
        simp only [cond_true] at *
        exact cmpL_trans h1 h2
    · rw [eqb_f e2] at h2 ⊢
      exact h2
  · rw [eqb_f e1] at h1
    simp only [cond_false] at h1
    rw [cmpI_le] at h1
    by_cases e2 : kd v = kd w
    · rw [← e2, eqb_f e1]
      simp only [cond_false]
      rw [cmpI_le]; exact h1
    · rw [eqb_f e2] at h2
      simp only [cond_false] at h2
      rw [cmpI_le] at h2
      rw [eqb_f (show ¬ kd u = kd w by omega)]
      simp only [cond_false]
      rw [cmpI_le]; omega
end Go.Vam.C14
namespace Go.Vam.C14
open Go.Proofs
def sp28 (r i : D) : D := sp46 (rowat r i.toI)
section
variable {R : Type}
def m28_0 (N : Nat) (x0 x1 : D) (Kr : D → Option R) : Option R :=
  (bif (pr23 (D.ag [(D.i 2), (D.s []), (D.ag [(D.i 0), (D.i 0), (D.f 0), (D.s [])]), x1, (D.b false), (D.i 0), (D.sz [])]) x0) then Kr (D.p (sp23 (D.ag [(D.i 2), (D.s []), (D.ag [(D.i 0), (D.i 0), (D.f 0), (D.s [])]), x1, (D.b false), (D.i 0), (D.sz [])]) x0)) else none)
def s28_0 (x0 x1 : D) : St := sts 9 [(0, V.f x0), (1, V.f x1)] []
def s28_1 (x4 : D) : St := sts 9 [(4, V.f x4)] []
theorem e28_0 (N : Nat) (k : Kn R) (x0 x1 : D) : runC PHI Tb10 N vc28_0 (s28_0 x0 x1) k = m28_0 N x0 x1 (fun x4 => k .ret (s28_1 x4)) := by kernel_rfl
theorem r28 (N : Nat) (x0 x1 : D) : runC PHI Tb10 N vf28.body (enterV vf28 [V.f x0, V.f x1] []) (finish vf28) = m28_0 N x0 x1 (fun x4 => finish vf28 .ret (s28_1 x4)) := 
  Eq.trans (runC_pre (s1 := (s28_0 x0 x1)) (by kernel_rfl) _ _) (Eq.trans (e28_0 N (finish vf28) x0 x1) (by kernel_rfl))
end
theorem at23 (r i : D) : sp23 (.ag [.i 2, .s [], .ag [.i 0, .i 0, .f 0, .s []], i, .b false, .i 0, .sz []]) r = sp46 (rowat r i.toI) := rfl
def Tb28 : CallF := extend Tb10 28 (fn2 (fun _ _ => true) fun r i => .f (sp28 r i))
theorem ok28 : FnOk Try.prog PHI Tb28 := FnOk.add2 hPHI ok10 (by kernel_rfl) fun r i _ _ => ⟨0, (r28 0 r i).trans (by
  unfold m28_0
  rw [at23]
  rfl)⟩
def co (l a b : D) (i : Nat) : Int := T (rowat a ((l.toL.getD i .nil).at 0).toI) (rowat b ((l.toL.getD i .nil).at 0).toI)
def foundO (l a b : D) : Int := fst (fun i => !eqb (co l a b i) 0) l.toL.length 0
def resO (l a b : D) (i : Nat) : Int := bif ((l.toL.getD i .nil).at 1).toB then - co l a b i else co l a b i
def ordO (l a b : D) : Int := bif leb 0 (foundO l a b) then resO l a b (foundO l a b).toNat else 0
theorem neg_w {c : Int} (h : -1 ≤ c ∧ c ≤ 1) : IntKind.i64.wrap (0 - c) = -c := by
  rw [wrap64_id (by omega) (by omega)]; omega
theorem eqb_neg (c : Int) : eqb (-c) 0 = eqb c 0 := by
  by_cases h : c = 0
  · subst h; rfl
  · rw [eqb_f h, eqb_f (show ¬ -c = 0 by omega)]
theorem co_r (l a b : D) (i : Nat) : -1 ≤ co l a b i ∧ co l a b i ≤ 1 := T_range _ _
def sp11 (l a b : D) : Int := ordO l a b
section
variable {R : Type}
def m11_1 (N : Nat) (x0 x1 x2 : D) (K : D → D → D → Option R) : Option R :=
  K x0 x1 x2
def s11_0 (x0 x1 x2 : D) : St := sts 33 [(0, V.f x0), (1, V.f x1), (2, V.f x2)] []
theorem e11_1 (N : Nat) (k : Kn R) (x0 x1 x2 : D) : runC PHI Tb28 N vc11_1 (s11_0 x0 x1 x2) k = m11_1 N x0 x1 x2 (fun x0 x1 x2 => k .normal (s11_0 x0 x1 x2)) := by
  refine Eq.trans (runC_post _ _ _ k) (Eq.trans (ops_run _ _ _ _) (by kernel_rfl))
def m11_4 (N : Nat) (x0 x1 x2 : D) (K : D → D → D → D → D → Option R) : Option R :=
  K x1 x2 x0 (D.i (x0.toL.length : Int)) (D.i 0)
def s11_1 (x1 x2 x10 x11 x12 : D) : St := sts 33 [(1, V.f x1), (2, V.f x2), (10, V.f x10), (11, V.f x11), (12, V.f x12)] []
theorem e11_4 (N : Nat) (k : Kn R) (x0 x1 x2 : D) : runC PHI Tb28 N vc11_4 (s11_0 x0 x1 x2) k = m11_4 N x0 x1 x2 (fun x1 x2 x10 x11 x12 => k .normal (s11_1 x1 x2 x10 x11 x12)) := by
  refine Eq.trans (runC_post _ _ _ k) (Eq.trans (ops_run _ _ _ _) (by kernel_rfl))
def m11_7 (N : Nat) (x1 x2 x10 x11 x12 : D) (K : D → D → D → D → D → Option R) (K0 : Option R) (Kr : D → Option R) : Option R :=
  (bif (ltb x12.toI x11.toI) then (bif (inb x12.toI x10.toL.length) then (bif ((x10.at (x12.toI : Int).toNat).at 1).toB then (bif (!eqb (IntKind.i64.wrap (0 - (sp27 (sp28 x1 ((x10.at (x12.toI : Int).toNat).at 0)) (sp28 x2 ((x10.at (x12.toI : Int).toNat).at 0))))) 0) then Kr (D.i (IntKind.i64.wrap (0 - (sp27 (sp28 x1 ((x10.at (x12.toI : Int).toNat).at 0)) (sp28 x2 ((x10.at (x12.toI : Int).toNat).at 0)))))) else K x1 x2 x10 x11 (D.i (IntKind.i64.wrap (x12.toI + 1)))) else (bif (!eqb (sp27 (sp28 x1 ((x10.at (x12.toI : Int).toNat).at 0)) (sp28 x2 ((x10.at (x12.toI : Int).toNat).at 0))) 0) then Kr (D.i (sp27 (sp28 x1 ((x10.at (x12.toI : Int).toNat).at 0)) (sp28 x2 ((x10.at (x12.toI : Int).toNat).at 0)))) else K x1 x2 x10 x11 (D.i (IntKind.i64.wrap (x12.toI + 1))))) else none) else K0)
def s11_2 : St := sts 33 [] []
def s11_3 (x6 : D) : St := sts 33 [(6, V.f x6)] []
theorem e11_7 (N : Nat) (k : Kn R) (x1 x2 x10 x11 x12 : D) : runC PHI Tb28 N vc11_7 (s11_1 x1 x2 x10 x11 x12) k = m11_7 N x1 x2 x10 x11 x12 (fun x1 x2 x10 x11 x12 => k .normal (s11_1 x1 x2 x10 x11 x12)) (k (.exit 0) s11_2) (fun x6 => k .ret (s11_3 x6)) := by kernel_rfl
def l11_6 (N : Nat) (j : Nat) (x1 x2 x10 x11 x12 : D) (K0 : Option R) (Kr : D → Option R) : Option R :=
  match j with
  | 0 => none
  | j + 1 => (m11_7 N x1 x2 x10 x11 x12 (fun y1 y2 y10 y11 y12 => l11_6 N j y1 y2 y10 y11 y12 K0 Kr) K0 Kr)
def m11_6 (N : Nat) (x1 x2 x10 x11 x12 : D) (K0 : Option R) (Kr : D → Option R) : Option R :=
  l11_6 N N x1 x2 x10 x11 x12 K0 Kr
theorem el11_6 (N : Nat) (k : Kn R) : ∀ (j : Nat) (x1 x2 x10 x11 x12 : D), loopGo (runC PHI Tb28 N vc11_7) j (s11_1 x1 x2 x10 x11 x12) k = l11_6 N j x1 x2 x10 x11 x12 (k (.exit 0) s11_2) (fun x6 => k .ret (s11_3 x6))
  | 0, _, _, _, _, _ => by kernel_rfl
  | j + 1, x1, x2, x10, x11, x12 => by
    have h2 := e11_7 N (kloop PHI Tb28 N vc11_7 j k) x1 x2 x10 x11 x12
    have h3 : (fun (y1 y2 y10 y11 y12 : D) => (kloop PHI Tb28 N vc11_7 j k) .normal (s11_1 y1 y2 y10 y11 y12)) = (fun (y1 y2 y10 y11 y12 : D) => l11_6 N j y1 y2 y10 y11 y12 (k (.exit 0) s11_2) (fun x6 => k .ret (s11_3 x6))) := funext fun y1 => funext fun y2 => funext fun y10 => funext fun y11 => funext fun y12 => (el11_6 N k j y1 y2 y10 y11 y12)
    refine Eq.trans (loop_succ _ j _ k) (Eq.trans h2 (Eq.trans (congrArg (fun K => m11_7 N x1 x2 x10 x11 x12 K ((kloop PHI Tb28 N vc11_7 j k) (.exit 0) s11_2) (fun x6 => (kloop PHI Tb28 N vc11_7 j k) .ret (s11_3 x6))) h3) (by kernel_rfl)))
theorem e11_6 (N : Nat) (k : Kn R) (x1 x2 x10 x11 x12 : D) : runC PHI Tb28 N vc11_6 (s11_1 x1 x2 x10 x11 x12) k = m11_6 N x1 x2 x10 x11 x12 (k (.exit 0) s11_2) (fun x6 => k .ret (s11_3 x6)) := by
  refine Eq.trans (runC_loop _ _ k) (Eq.trans (el11_6 N k N x1 x2 x10 x11 x12) (by kernel_rfl))
def m11_5 (N : Nat) (x1 x2 x10 x11 x12 : D) (K : Option R) (Kr : D → Option R) : Option R :=
  (m11_6 N x1 x2 x10 x11 x12 (K) Kr)
theorem e11_5 (N : Nat) (k : Kn R) (x1 x2 x10 x11 x12 : D) : runC PHI Tb28 N vc11_5 (s11_1 x1 x2 x10 x11 x12) k = m11_5 N x1 x2 x10 x11 x12 (k .normal s11_2) (fun x6 => k .ret (s11_3 x6)) := by
  refine Eq.trans (runC_block _ _ _ k) (Eq.trans (e11_6 N (kblk 0 k) x1 x2 x10 x11 x12) (by kernel_rfl))
def m11_3 (N : Nat) (x0 x1 x2 : D) (K : Option R) (Kr : D → Option R) : Option R :=
  (m11_4 N x0 x1 x2 (fun y1 y2 y10 y11 y12 => (m11_5 N y1 y2 y10 y11 y12 (K) Kr)))
theorem e11_3 (N : Nat) (k : Kn R) (x0 x1 x2 : D) : runC PHI Tb28 N vc11_3 (s11_0 x0 x1 x2) k = m11_3 N x0 x1 x2 (k .normal s11_2) (fun x6 => k .ret (s11_3 x6)) := by
  have h2 := e11_4 N (kseq PHI Tb28 N vc11_5 k) x0 x1 x2
  have h3 := (funext fun y1 => funext fun y2 => funext fun y10 => funext fun y11 => funext fun y12 => (e11_5 N k y1 y2 y10 y11 y12) : (fun (y1 y2 y10 y11 y12 : D) => (kseq PHI Tb28 N vc11_5 k) .normal (s11_1 y1 y2 y10 y11 y12)) = _)
  refine Eq.trans (runC_seq _ _ _ k) (Eq.trans h2 (Eq.trans (congrArg (fun K => m11_4 N x0 x1 x2 K) h3) (by kernel_rfl)))
def m11_33 (N : Nat) (Kr : D → Option R) : Option R :=
  Kr (D.i 0)
theorem e11_33 (N : Nat) (k : Kn R) : runC PHI Tb28 N vc11_33 s11_2 k = m11_33 N (fun x6 => k .ret (s11_3 x6)) := by kernel_rfl
def m11_2 (N : Nat) (x0 x1 x2 : D) (Kr : D → Option R) : Option R :=
  (m11_3 N x0 x1 x2 ((m11_33 N Kr)) Kr)
theorem e11_2 (N : Nat) (k : Kn R) (x0 x1 x2 : D) : runC PHI Tb28 N vc11_2 (s11_0 x0 x1 x2) k = m11_2 N x0 x1 x2 (fun x6 => k .ret (s11_3 x6)) := by
  have h2 := e11_3 N (kseq PHI Tb28 N vc11_33 k) x0 x1 x2
  have h3 := ((e11_33 N k ) : ((kseq PHI Tb28 N vc11_33 k) .normal s11_2) = _)
  refine Eq.trans (runC_seq _ _ _ k) (Eq.trans h2 (Eq.trans (congrArg (fun K => m11_3 N x0 x1 x2 K (fun x6 => (kseq PHI Tb28 N vc11_33 k) .ret (s11_3 x6))) h3) (by kernel_rfl)))
def m11_0 (N : Nat) (x0 x1 x2 : D) (Kr : D → Option R) : Option R :=
  (m11_1 N x0 x1 x2 (fun y0 y1 y2 => (m11_2 N y0 y1 y2 Kr)))
theorem e11_0 (N : Nat) (k : Kn R) (x0 x1 x2 : D) : runC PHI Tb28 N vc11_0 (s11_0 x0 x1 x2) k = m11_0 N x0 x1 x2 (fun x6 => k .ret (s11_3 x6)) := by
  have h2 := e11_1 N (kseq PHI Tb28 N vc11_2 k) x0 x1 x2
  have h3 := (funext fun y0 => funext fun y1 => funext fun y2 => (e11_2 N k y0 y1 y2) : (fun (y0 y1 y2 : D) => (kseq PHI Tb28 N vc11_2 k) .normal (s11_0 y0 y1 y2)) = _)
  refine Eq.trans (runC_seq _ _ _ k) (Eq.trans h2 (Eq.trans (congrArg (fun K => m11_1 N x0 x1 x2 K) h3) (by kernel_rfl)))
theorem r11 (N : Nat) (x0 x1 x2 : D) : runC PHI Tb28 N vf11.body (enterV vf11 [V.f x0, V.f x1, V.f x2] []) (finish vf11) = m11_0 N x0 x1 x2 (fun x6 => finish vf11 .ret (s11_3 x6)) := 
  Eq.trans (runC_pre (s1 := (s11_0 x0 x1 x2)) (by kernel_rfl) _ _) (Eq.trans (e11_0 N (finish vf11) x0 x1 x2) (by kernel_rfl))
end
def Tb11 : CallF := extend Tb28 11 (fn3 (fun _ _ _ => true) fun l a b => .f (.i (sp11 l a b)))
theorem ok11 : FnOk Try.prog PHI Tb11 := FnOk.add3 hPHI ok28 (by kernel_rfl) fun l a b ha _ => ⟨l.toL.length + 1, (r11 _ l a b).trans (by
  have hl := (ha.is 0 rfl rfl).len' (e := 53) (by kernel_rfl)
  simp only [m11_0, m11_1, m11_2, m11_3, m11_4, m11_5, m11_6, m11_33]
  have h := loop_find (fun j i => l11_6 (l.toL.length + 1) j a b l (.i (l.toL.length : Int)) (.i (i : Nat)) (finish vf11 .ret (s11_3 (.i 0))) (fun x6 => finish vf11 .ret (s11_3 x6))) (fun i => !eqb (co l a b i) 0) l.toL.length (finish vf11 .ret (s11_3 (.i 0))) (fun i => finish vf11 .ret (s11_3 (.i (resO l a b i))))
    (fun j i hi => by
      have e1 : ∀ u v : D, sp27 (sp28 a u) (sp28 b v) = T (rowat a u.toI) (rowat b v.toI) := fun u v => t27 _ _
      have e2 : T (rowat a ((l.toL.getD i .nil).at 0).toI) (rowat b ((l.toL.getD i .nil).at 0).toI) = co l a b i := rfl
      simp only [l11_6, m11_7, toI_i, cond_true, ltb_n hi, inb_t hi, at_nat, succ_n hi hl, e1, e2, neg_w (co_r l a b i), resO, eqb_neg]
      cases eqb (co l a b i) 0 <;> cases ((l.toL.getD i .nil).at 1).toB <;> rfl)
    (fun j => by simp only [l11_6, m11_7, toI_i, ltb_self, cond_false])
    l.toL.length 0 (l.toL.length + 1) (by omega) (by omega)
  refine h.trans ?_
  unfold sp11 ordO
  rw [show fst (fun i => !eqb (co l a b i) 0) l.toL.length 0 = foundO l a b from rfl]
  cases leb 0 (foundO l a b) <;> rfl)⟩
theorem fst_cong {p q : Nat → Bool} (h : ∀ i, p i = q i) : ∀ k i, fst p k i = fst q k i := by
  have : p = q := funext h
  subst this
  intros; rfl
theorem ord_neg (l a b : D) : ordO l b a = - ordO l a b := by
  have hc : ∀ i, co l b a i = - co l a b i := fun i => T_swap _ _
  have hf : foundO l b a = foundO l a b := fst_cong (fun i => by rw [hc, eqb_neg]) _ _
  unfold ordO
  rw [hf]
  cases leb 0 (foundO l a b)
  · rfl
  · unfold resO
    rw [hc]
    cases ((l.toL.getD (foundO l a b).toNat .nil).at 1).toB <;> simp
def ordR (a b : D) : List D → Int
  | [] => 0
  | s :: r => bif eqb (T (rowat a (s.at 0).toI) (rowat b (s.at 0).toI)) 0 then ordR a b r else bif (s.at 1).toB then - T (rowat a (s.at 0).toI) (rowat b (s.at 0).toI) else T (rowat a (s.at 0).toI) (rowat b (s.at 0).toI)
theorem ordR_eq (l a b : D) : ordO l a b = ordR a b l.toL := by
  unfold ordO foundO
  have key : ∀ k i, i + k = l.toL.length → (bif leb 0 (fst (fun i => !eqb (co l a b i) 0) k i) then resO l a b (fst (fun i => !eqb (co l a b i) 0) k i).toNat else 0) = ordR a b (l.toL.drop i) := by
    intro k
    induction k with
    | zero => intro i h; rw [List.drop_eq_nil_of_le (by omega)]; rfl
    | succ k ih =>
      intro i h
      have hi : i < l.toL.length := by omega
      rw [List.drop_eq_getElem_cons hi, ordR, fst]
      have e : l.toL[i] = l.toL.getD i .nil := (getD_at hi).symm
      rw [e]
      have ec : T (rowat a ((l.toL.getD i .nil).at 0).toI) (rowat b ((l.toL.getD i .nil).at 0).toI) = co l a b i := rfl
      rw [ec]
      cases hz : eqb (co l a b i) 0
      · have h0 : leb 0 ((i : Nat) : Int) = true := leb_t (by omega)
        simp only [Bool.not_false, cond_true, cond_false, h0, Int.toNat_natCast, resO]
      · simp only [Bool.not_true, cond_true, cond_false]
        exact ih (i + 1) (by omega)
  exact key l.toL.length 0 (by omega)
theorem ordR_trans : ∀ {l : List D} {a b c : D}, ordR a b l ≤ 0 → ordR b c l ≤ 0 → ordR a c l ≤ 0
  | [], _, _, _, _, _ => by simp [ordR]
  | s :: r, a, b, c, h1, h2 => by
    rw [ordR] at *
    generalize hx : rowat a (s.at 0).toI = x at *
    generalize hy : rowat b (s.at 0).toI = y at *
    generalize hz : rowat c (s.at 0).toI = z at *
    have s1 := T_swap x y
    have s2 := T_swap y z
    have s3 := T_swap x z
    have t1 : T x y ≤ 0 → T y z ≤ 0 → T x z ≤ 0 := T_trans
    have t2 : T z y ≤ 0 → T y x ≤ 0 → T z x ≤ 0 := T_trans
    have t3 : T y x ≤ 0 → T x z ≤ 0 → T y z ≤ 0 := T_trans
    have t4 : T x z ≤ 0 → T z y ≤ 0 → T x y ≤ 0 := T_trans
    have t5 : T y z ≤ 0 → T z x ≤ 0 → T y x ≤ 0 := T_trans
    have t6 : T z x ≤ 0 → T x y ≤ 0 → T z y ≤ 0 := T_trans
    by_cases e1 : T x y = 0
    · rw [eqb_t e1] at h1
      by_cases e2 : T y z = 0
      · rw [eqb_t e2] at h2
        have e3 : T x z = 0 := by omega
        rw [eqb_t e3]
        exact ordR_trans h1 h2
      · rw [eqb_f e2] at h2
        have e3 : ¬ T x z = 0 := by omega
        rw [eqb_f e3]
        simp only [cond_false] at h2 ⊢
        cases hd : (s.at 1).toB
        · rw [hd] at h2; simp only [cond_false] at h2 ⊢; omega
        · rw [hd] at h2; simp only [cond_true] at h2 ⊢; omega
    · rw [eqb_f e1] at h1
      simp only [cond_false] at h1
      by_cases e2 : T y z = 0
      · have e3 : ¬ T x z = 0 := by omega
        rw [eqb_f e3]
        simp only [cond_false]
        cases hd : (s.at 1).toB
        · rw [hd] at h1; simp only [cond_false] at h1 ⊢; omega
        · rw [hd] at h1; simp only [cond_true] at h1 ⊢; omega
      · rw [eqb_f e2] at h2
        simp only [cond_false] at h2
        cases hd : (s.at 1).toB
        · rw [hd] at h1 h2
          simp only [cond_false] at h1 h2
          rw [eqb_f (show ¬ T x z = 0 by omega)]
          simp only [cond_false]; omega
        · rw [hd] at h1 h2
          simp only [cond_true] at h1 h2
          rw [eqb_f (show ¬ T x z = 0 by omega)]
          simp only [cond_false, cond_true]; omega
theorem ord_cmp (l : D) : Cmp (sp11 l) := ⟨fun x y => ord_neg l x y, fun x y z h1 h2 => by
  unfold sp11 at *
  rw [ordR_eq] at *
  exact ordR_trans h1 h2⟩
def sp34 (g : D) : D := bif eqb ((g.at 0).toL.length : Int) 0 then .sz [] else (g.at 0).at 0
section
variable {R : Type}
def m34_0 (N : Nat) (x0 : D) (Kr : D → Option R) : Option R :=
  (bif (eqb ((x0.at 0).toL.length : Int) 0) then Kr (D.sz []) else (bif (inb 0 (x0.at 0).toL.length) then Kr ((x0.at 0).at (0 : Int).toNat) else none))
def s34_0 (x0 : D) : St := sts 11 [(0, V.f x0)] []
def s34_1 (x2 : D) : St := sts 11 [(2, V.f x2)] []
theorem e34_0 (N : Nat) (k : Kn R) (x0 : D) : runC PHI Tb11 N vc34_0 (s34_0 x0) k = m34_0 N x0 (fun x2 => k .ret (s34_1 x2)) := by kernel_rfl
theorem r34 (N : Nat) (x0 : D) : runC PHI Tb11 N vf34.body (enterV vf34 [V.f x0] []) (finish vf34) = m34_0 N x0 (fun x2 => finish vf34 .ret (s34_1 x2)) := 
  Eq.trans (runC_pre (s1 := (s34_0 x0)) (by kernel_rfl) _ _) (Eq.trans (e34_0 N (finish vf34) x0) (by kernel_rfl))
end
def Tb34 : CallF := extend Tb11 34 (fn1 (fun _ => true) fun g => .f (sp34 g))
theorem ok34 : FnOk Try.prog PHI Tb34 := FnOk.add1 hPHI ok11 (by kernel_rfl) fun g _ _ => ⟨0, (r34 0 g).trans (by
  unfold m34_0 sp34
  by_cases h : ((g.at 0).toL.length : Int) = 0
  · rw [eqb_t h]; rfl
  · rw [eqb_f h, show inb 0 (g.at 0).toL.length = true from inb_t (i := 0) (by omega)]; rfl)⟩
def sp33 (a b q : D) : Int := sp11 (q.deref.at 7) (sp34 a) (sp34 b)
def pr33 (_a _b q : D) : Bool := isPtrD q
section
variable {R : Type}
def m33_0 (N : Nat) (x0 x1 x2 : D) (Kr : D → Option R) : Option R :=
  (bif (isPtrD x2) then Kr (D.i (sp11 (x2.deref.at 7) (sp34 x0) (sp34 x1))) else none)
def s33_0 (x0 x1 x2 : D) : St := sts 13 [(0, V.f x0), (1, V.f x1), (2, V.f x2)] []
def s33_1 (x5 : D) : St := sts 13 [(5, V.f x5)] []
theorem e33_0 (N : Nat) (k : Kn R) (x0 x1 x2 : D) : runC PHI Tb34 N vc33_0 (s33_0 x0 x1 x2) k = m33_0 N x0 x1 x2 (fun x5 => k .ret (s33_1 x5)) := by kernel_rfl
theorem r33 (N : Nat) (x0 x1 x2 : D) : runC PHI Tb34 N vf33.body (enterV vf33 [V.f x0, V.f x1, V.f x2] []) (finish vf33) = m33_0 N x0 x1 x2 (fun x5 => finish vf33 .ret (s33_1 x5)) := 
  Eq.trans (runC_pre (s1 := (s33_0 x0 x1 x2)) (by kernel_rfl) _ _) (Eq.trans (e33_0 N (finish vf33) x0 x1 x2) (by kernel_rfl))
end
def Tb33 : CallF := extend Tb34 33 (fn3 pr33 fun a b q => .f (.i (sp33 a b q)))
theorem ok33 : FnOk Try.prog PHI Tb33 := FnOk.add3 hPHI ok34 (by kernel_rfl) fun a b q _ hp => ⟨0, (r33 0 a b q).trans (by
  unfold m33_0
  rw [show isPtrD q = true from hp]; rfl)⟩
def sp70 (a b q : D) : Int := sp11 q.deref a b
def pr70 (_a _b q : D) : Bool := isPtrD q
section
variable {R : Type}
def m70_0 (N : Nat) (x0 x1 x2 : D) (Kr : D → Option R) : Option R :=
  (bif (isPtrD x2) then Kr (D.i (sp11 x2.deref x0 x1)) else none)
def s70_0 (x0 x1 x2 : D) : St := sts 10 [(0, V.f x0), (1, V.f x1), (2, V.f x2)] []
def s70_1 (x5 : D) : St := sts 10 [(5, V.f x5)] []
theorem e70_0 (N : Nat) (k : Kn R) (x0 x1 x2 : D) : runC PHI Tb33 N vc70_0 (s70_0 x0 x1 x2) k = m70_0 N x0 x1 x2 (fun x5 => k .ret (s70_1 x5)) := by kernel_rfl
theorem r70 (N : Nat) (x0 x1 x2 : D) : runC PHI Tb33 N vf70.body (enterV vf70 [V.f x0, V.f x1, V.f x2] []) (finish vf70) = m70_0 N x0 x1 x2 (fun x5 => finish vf70 .ret (s70_1 x5)) := 
  Eq.trans (runC_pre (s1 := (s70_0 x0 x1 x2)) (by kernel_rfl) _ _) (Eq.trans (e70_0 N (finish vf70) x0 x1 x2) (by kernel_rfl))
end
def Tb70 : CallF := extend Tb33 70 (fn3 pr70 fun a b q => .f (.i (sp70 a b q)))
theorem ok70 : FnOk Try.prog PHI Tb70 := FnOk.add3 hPHI ok33 (by kernel_rfl) fun a b q _ hp => ⟨0, (r70 0 a b q).trans (by
  unfold m70_0
  rw [show isPtrD q = true from hp]; rfl)⟩
theorem cmp33 (q : D) : Cmp (fun a b => sp33 a b q) := ⟨fun x y => (ord_cmp (q.deref.at 7)).swap _ _, fun x y z => (ord_cmp (q.deref.at 7)).trans _ _ _⟩
theorem cmp70 (q : D) : Cmp (fun a b => sp70 a b q) := ⟨fun x y => (ord_cmp q.deref).swap _ _, fun x y z => (ord_cmp q.deref).trans _ _ _⟩
end Go.Vam.C14
