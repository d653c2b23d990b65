/- Chapter 14: what functions come to, part 8. No conditions. -/
import Derived.Test.YtcpbgimpopcfoaaP7
import Derived.KernelRfl
set_option linter.unusedVariables false
set_option linter.unusedSimpArgs false
set_option maxRecDepth 100000
namespace Go.Vam.C14
open Go.Proofs
def itm (g n : D) : D := bif (bif leb 0 (sp35 (n.at 0) (.i 10)) then leb (n.at 0).toI 13 else false) then sp36 n (g.at 0) else sp23 n (sp34 g)
def row15 (q g : D) : D := .sz ((q.at 6).toL.map (itm g))
def one15 (r : D) : D := .ag [.sl [r]]
def grps (q rows : D) : List D := bif (q.at 5).toB then sp31 q rows else rows.toL.map one15
def lim15 (q : D) (l : List D) : List D := bif (bif leb 0 (q.at 8).toI then ltb (q.at 8).toI (l.length : Int) else false) then l.take (q.at 8).toI.toNat else l
def ans15 (q rows : D) : List D := (lim15 q (stb (c33 (.p q)) (grps q rows))).map (row15 q)
def sp15 (q rows : D) : D := .sz (ans15 q rows)
def pr15 (q rows : D) : Bool := pr31 q rows && leN (q.at 6).toL.length 1000000
section
variable {R : Type}
def m15_1 (N : Nat) (x0 x1 : D) (K : D → D → Option R) : Option R :=
  K x1 (D.p x0)
def s15_0 (x0 x1 : D) : St := sts 93 [(0, V.f x0), (1, V.f x1)] [V.u]
def s15_1 (x1 x2 : D) : St := sts 93 [(1, V.f x1), (2, V.f x2)] [V.u]
theorem e15_1 (N : Nat) (k : Kn R) (x0 x1 : D) : runC PHI Tb36 N vc15_1 (s15_0 x0 x1) k = m15_1 N x0 x1 (fun x1 x2 => k .normal (s15_1 x1 x2)) := by
  refine Eq.trans (runC_post _ _ _ k) (Eq.trans (ops_run _ _ _ _) (by kernel_rfl))
def m15_3 (N : Nat) (x1 x2 : D) (K : D → D → List D → Option R) : Option R :=
  K x1 x2 ([] : List D)
def s15_2 (x1 x2 : D) (x5 : List D) : St := sts 93 [(1, V.f x1), (2, V.f x2), (5, V.w true x5)] [V.u]
theorem e15_3 (N : Nat) (k : Kn R) (x1 x2 : D) : runC PHI Tb36 N vc15_3 (s15_1 x1 x2) k = m15_3 N x1 x2 (fun x1 x2 x5 => k .normal (s15_2 x1 x2 x5)) := by
  refine Eq.trans (runC_post _ _ _ k) (Eq.trans (ops_run _ _ _ _) (by kernel_rfl))
def m15_6 (N : Nat) (x1 x2 : D) (x5 : List D) (K : D → D → List D → D → Option R) : Option R :=
  (bif (isPtrD x2) then K x1 x2 x5 (x2.deref.at 5) else none)
def s15_3 (x1 x2 : D) (x5 : List D) (x16 : D) : St := sts 93 [(1, V.f x1), (2, V.f x2), (5, V.w true x5), (16, V.f x16)] [V.u]
theorem e15_6 (N : Nat) (k : Kn R) (x1 x2 : D) (x5 : List D) : runC PHI Tb36 N vc15_6 (s15_2 x1 x2 x5) k = m15_6 N x1 x2 x5 (fun x1 x2 x5 x16 => k .normal (s15_3 x1 x2 x5 x16)) := by
  refine Eq.trans (runC_post _ _ _ k) (Eq.trans (ops_run _ _ _ _) (by kernel_rfl))
def m15_8 (N : Nat) (x1 x2 : D) (K : D → Bool → List D → Option R) : Option R :=
  (bif (isPtrD x2) then (bif (pr31 x2.deref x1) then K x2 (sp31n x2.deref x1) (sp31 x2.deref x1) else none) else none)
def s15_4 (x2 : D) (x5n : Bool) (x5 : List D) : St := sts 93 [(2, V.f x2), (5, V.w x5n x5)] [V.u]
theorem e15_8 (N : Nat) (k : Kn R) (x1 x2 : D) : runC PHI Tb36 N vc15_8 (s15_1 x1 x2) k = m15_8 N x1 x2 (fun x2 x5n x5 => k .normal (s15_4 x2 x5n x5)) := by
  refine Eq.trans (runC_post _ _ _ k) (Eq.trans (ops_run _ _ _ _) (by kernel_rfl))
def m15_10 (N : Nat) (x1 x2 : D) (x5 : List D) (K : D → List D → D → D → D → Option R) : Option R :=
  K x2 x5 x1 (D.i (x1.toL.length : Int)) (D.i 0)
def s15_5 (x2 : D) (x5 : List D) (x20 x21 x22 : D) : St := sts 93 [(2, V.f x2), (5, V.w true x5), (20, V.f x20), (21, V.f x21), (22, V.f x22)] [V.u]
theorem e15_10 (N : Nat) (k : Kn R) (x1 x2 : D) (x5 : List D) : runC PHI Tb36 N vc15_10 (s15_2 x1 x2 x5) k = m15_10 N x1 x2 x5 (fun x2 x5 x20 x21 x22 => k .normal (s15_5 x2 x5 x20 x21 x22)) := by
  refine Eq.trans (runC_post _ _ _ k) (Eq.trans (ops_run _ _ _ _) (by kernel_rfl))
def m15_13 (N : Nat) (x2 : D) (x5 : List D) (x20 x21 x22 : D) (K : D → List D → D → D → D → Option R) (K0 : D → List D → Option R) : Option R :=
  (bif (ltb x22.toI x21.toI) then (bif (inb x22.toI x20.toL.length) then (bif (leN (x5.length + ([(D.ag [(D.sl ([(x20.at (x22.toI : Int).toNat)] : List D))])] : List D).length) 5864062014805) then K x2 (x5 ++ ([(D.ag [(D.sl ([(x20.at (x22.toI : Int).toNat)] : List D))])] : List D)) x20 x21 (D.i (IntKind.i64.wrap (x22.toI + 1))) else none) else none) else K0 x2 x5)
def s15_6 (x2 : D) (x5 : List D) : St := sts 93 [(2, V.f x2), (5, V.w true x5)] [V.u]
theorem e15_13 (N : Nat) (k : Kn R) (x2 : D) (x5 : List D) (x20 x21 x22 : D) : runC PHI Tb36 N vc15_13 (s15_5 x2 x5 x20 x21 x22) k = m15_13 N x2 x5 x20 x21 x22 (fun x2 x5 x20 x21 x22 => k .normal (s15_5 x2 x5 x20 x21 x22)) (fun x2 x5 => k (.exit 0) (s15_6 x2 x5)) := by kernel_rfl
def l15_12 (N : Nat) (j : Nat) (x2 : D) (x5 : List D) (x20 x21 x22 : D) (K0 : D → List D → Option R) : Option R :=
  match j with
  | 0 => none
  | j + 1 => (m15_13 N x2 x5 x20 x21 x22 (fun y2 y5 y20 y21 y22 => l15_12 N j y2 y5 y20 y21 y22 K0) K0)
def m15_12 (N : Nat) (x2 : D) (x5 : List D) (x20 x21 x22 : D) (K0 : D → List D → Option R) : Option R :=
  l15_12 N N x2 x5 x20 x21 x22 K0
theorem el15_12 (N : Nat) (k : Kn R) : ∀ (j : Nat) (x2 : D) (x5 : List D) (x20 x21 x22 : D), loopGo (runC PHI Tb36 N vc15_13) j (s15_5 x2 x5 x20 x21 x22) k = l15_12 N j x2 x5 x20 x21 x22 (fun x2 x5 => k (.exit 0) (s15_6 x2 x5))
  | 0, _, _, _, _, _ => by kernel_rfl
  | j + 1, x2, x5, x20, x21, x22 => by
    have h2 := e15_13 N (kloop PHI Tb36 N vc15_13 j k) x2 x5 x20 x21 x22
    have h3 : (fun (y2 : D) (y5 : List D) (y20 y21 y22 : D) => (kloop PHI Tb36 N vc15_13 j k) .normal (s15_5 y2 y5 y20 y21 y22)) = (fun (y2 : D) (y5 : List D) (y20 y21 y22 : D) => l15_12 N j y2 y5 y20 y21 y22 (fun x2 x5 => k (.exit 0) (s15_6 x2 x5))) := funext fun y2 => funext fun y5 => funext fun y20 => funext fun y21 => funext fun y22 => (el15_12 N k j y2 y5 y20 y21 y22)
    refine Eq.trans (loop_succ _ j _ k) (Eq.trans h2 (Eq.trans (congrArg (fun K => m15_13 N x2 x5 x20 x21 x22 K (fun x2 x5 => (kloop PHI Tb36 N vc15_13 j k) (.exit 0) (s15_6 x2 x5))) h3) (by kernel_rfl)))
theorem e15_12 (N : Nat) (k : Kn R) (x2 : D) (x5 : List D) (x20 x21 x22 : D) : runC PHI Tb36 N vc15_12 (s15_5 x2 x5 x20 x21 x22) k = m15_12 N x2 x5 x20 x21 x22 (fun x2 x5 => k (.exit 0) (s15_6 x2 x5)) := by
  refine Eq.trans (runC_loop _ _ k) (Eq.trans (el15_12 N k N x2 x5 x20 x21 x22) (by kernel_rfl))
def m15_11 (N : Nat) (x2 : D) (x5 : List D) (x20 x21 x22 : D) (K : D → List D → Option R) : Option R :=
  (m15_12 N x2 x5 x20 x21 x22 (fun y2 y5 => K y2 y5))
theorem e15_11 (N : Nat) (k : Kn R) (x2 : D) (x5 : List D) (x20 x21 x22 : D) : runC PHI Tb36 N vc15_11 (s15_5 x2 x5 x20 x21 x22) k = m15_11 N x2 x5 x20 x21 x22 (fun x2 x5 => k .normal (s15_6 x2 x5)) := by
  refine Eq.trans (runC_block _ _ _ k) (Eq.trans (e15_12 N (kblk 0 k) x2 x5 x20 x21 x22) (by kernel_rfl))
def m15_9 (N : Nat) (x1 x2 : D) (x5 : List D) (K : D → List D → Option R) : Option R :=
  (m15_10 N x1 x2 x5 (fun y2 y5 y20 y21 y22 => (m15_11 N y2 y5 y20 y21 y22 (fun y2 y5 => K y2 y5))))
theorem e15_9 (N : Nat) (k : Kn R) (x1 x2 : D) (x5 : List D) : runC PHI Tb36 N vc15_9 (s15_2 x1 x2 x5) k = m15_9 N x1 x2 x5 (fun x2 x5 => k .normal (s15_6 x2 x5)) := by
  have h2 := e15_10 N (kseq PHI Tb36 N vc15_11 k) x1 x2 x5
  have h3 := (funext fun y2 => funext fun y5 => funext fun y20 => funext fun y21 => funext fun y22 => (e15_11 N k y2 y5 y20 y21 y22) : (fun (y2 : D) (y5 : List D) (y20 y21 y22 : D) => (kseq PHI Tb36 N vc15_11 k) .normal (s15_5 y2 y5 y20 y21 y22)) = _)
  refine Eq.trans (runC_seq _ _ _ k) (Eq.trans h2 (Eq.trans (congrArg (fun K => m15_10 N x1 x2 x5 K) h3) (by kernel_rfl)))
def m15_7 (N : Nat) (x1 x2 : D) (x5 : List D) (x16 : D) (K : D → Bool → List D → Option R) : Option R :=
  (bif x16.toB then (m15_8 N x1 x2 (fun y2 y5n y5 => K y2 y5n y5)) else (m15_9 N x1 x2 x5 (fun y2 y5 => K y2 true y5)))
theorem e15_7 (N : Nat) (k : Kn R) (x1 x2 : D) (x5 : List D) (x16 : D) : runC PHI Tb36 N vc15_7 (s15_3 x1 x2 x5 x16) k = m15_7 N x1 x2 x5 x16 (fun x2 x5n x5 => k .normal (s15_4 x2 x5n x5)) := by
  refine Eq.trans (runC_cond (s1 := (s15_1 x1 x2)) (s2 := (s15_2 x1 x2 x5)) (d := x16) _ _ k (by kernel_rfl) (by kernel_rfl) (by kernel_rfl)) (Eq.trans (congr (congrArg (cond x16.toB) ((e15_8 N k x1 x2))) ((e15_9 N k x1 x2 x5))) (by kernel_rfl))
def m15_5 (N : Nat) (x1 x2 : D) (x5 : List D) (K : D → Bool → List D → Option R) : Option R :=
  (m15_6 N x1 x2 x5 (fun y1 y2 y5 y16 => (m15_7 N y1 y2 y5 y16 (fun y2 y5n y5 => K y2 y5n y5))))
theorem e15_5 (N : Nat) (k : Kn R) (x1 x2 : D) (x5 : List D) : runC PHI Tb36 N vc15_5 (s15_2 x1 x2 x5) k = m15_5 N x1 x2 x5 (fun x2 x5n x5 => k .normal (s15_4 x2 x5n x5)) := by
  have h2 := e15_6 N (kseq PHI Tb36 N vc15_7 k) x1 x2 x5
  have h3 := (funext fun y1 => funext fun y2 => funext fun y5 => funext fun y16 => (e15_7 N k y1 y2 y5 y16) : (fun (y1 y2 : D) (y5 : List D) (y16 : D) => (kseq PHI Tb36 N vc15_7 k) .normal (s15_3 y1 y2 y5 y16)) = _)
  refine Eq.trans (runC_seq _ _ _ k) (Eq.trans h2 (Eq.trans (congrArg (fun K => m15_6 N x1 x2 x5 K) h3) (by kernel_rfl)))
def m15_26 (N : Nat) (x2 : D) (x5n : Bool) (x5 : List D) (K : D → Bool → D → Option R) : Option R :=
  (bif ((pr32_33 x2 (D.sl x5)) && (Nat.beq x5.length (sp32_33_h0 x2 (D.sl x5)).toL.length && true)) then K x2 x5n (sp32_33_h0 x2 (D.sl x5)) else none)
def s15_7 (x2 : D) (x5n : Bool) (h0 : D) : St := sts 93 [(2, V.f x2), (5, V.ms 0 x5n)] [V.f h0]
theorem e15_26 (N : Nat) (k : Kn R) (x2 : D) (x5n : Bool) (x5 : List D) : runC PHI Tb36 N vc15_26 (s15_4 x2 x5n x5) k = m15_26 N x2 x5n x5 (fun x2 x5n h0 => k .normal (s15_7 x2 x5n h0)) := by
  refine Eq.trans (runC_pre (s1 := (s15_7 x2 x5n (D.sl x5))) (by kernel_rfl) _ _) <| Eq.trans (runC_post _ _ _ k) (Eq.trans (ops_run _ _ _ _) (by kernel_rfl))
def m15_28 (N : Nat) (x2 : D) (x5n : Bool) (h0 : D) (K : D → D → Option R) : Option R :=
  (bif (isPtrD x2) then (bif (leb 0 (x2.deref.at 8).toI) then (bif (isPtrD x2) then (bif (ltb (x2.deref.at 8).toI ((frzD x5n h0.toL).toL.length : Int)) then (bif (isPtrD x2) then (bif (leb 0 0 && leb 0 (x2.deref.at 8).toI && leb (x2.deref.at 8).toI ((frzD x5n h0.toL).toL.length : Int)) then K x2 (cutD (frzD x5n h0.toL) ((x2.deref.at 8).toI : Int).toNat (0 : Int).toNat) else none) else none) else K x2 (frzD x5n h0.toL)) else none) else (bif false then (bif (isPtrD x2) then (bif (leb 0 0 && leb 0 (x2.deref.at 8).toI && leb (x2.deref.at 8).toI ((frzD x5n h0.toL).toL.length : Int)) then K x2 (cutD (frzD x5n h0.toL) ((x2.deref.at 8).toI : Int).toNat (0 : Int).toNat) else none) else none) else K x2 (frzD x5n h0.toL))) else none)
def s15_8 (x2 x5 : D) : St := sts 93 [(2, V.f x2), (5, V.f x5)] [V.u]
theorem e15_28 (N : Nat) (k : Kn R) (x2 : D) (x5n : Bool) (h0 : D) : runC PHI Tb36 N vc15_28 (s15_7 x2 x5n h0) k = m15_28 N x2 x5n h0 (fun x2 x5 => k .normal (s15_8 x2 x5)) := by kernel_rfl
def m15_34 (N : Nat) (x2 x5 : D) (K : D → D → List D → Option R) : Option R :=
  K x2 x5 ([] : List D)
def s15_9 (x2 x5 : D) (x8 : List D) : St := sts 93 [(2, V.f x2), (5, V.f x5), (8, V.o false x8)] [V.u]
theorem e15_34 (N : Nat) (k : Kn R) (x2 x5 : D) : runC PHI Tb36 N vc15_34 (s15_8 x2 x5) k = m15_34 N x2 x5 (fun x2 x5 x8 => k .normal (s15_9 x2 x5 x8)) := by
  refine Eq.trans (runC_post _ _ _ k) (Eq.trans (ops_run _ _ _ _) (by kernel_rfl))
def m15_37 (N : Nat) (x2 x5 : D) (x8 : List D) (K : D → List D → D → D → D → Option R) : Option R :=
  K x2 x8 x5 (D.i (x5.toL.length : Int)) (D.i 0)
def s15_10 (x2 : D) (x8 : List D) (x50 x51 x52 : D) : St := sts 93 [(2, V.f x2), (8, V.o false x8), (50, V.f x50), (51, V.f x51), (52, V.f x52)] [V.u]
theorem e15_37 (N : Nat) (k : Kn R) (x2 x5 : D) (x8 : List D) : runC PHI Tb36 N vc15_37 (s15_9 x2 x5 x8) k = m15_37 N x2 x5 x8 (fun x2 x8 x50 x51 x52 => k .normal (s15_10 x2 x8 x50 x51 x52)) := by
  refine Eq.trans (runC_post _ _ _ k) (Eq.trans (ops_run _ _ _ _) (by kernel_rfl))
def m15_41 (N : Nat) (x2 : D) (x8 : List D) (x50 x51 x52 : D) (K : D → List D → D → D → D → D → Option R) : Option R :=
  K x2 x8 x50 x51 x52 (D.b (ltb x52.toI x51.toI))
def s15_11 (x2 : D) (x8 : List D) (x50 x51 x52 x53 : D) : St := sts 93 [(2, V.f x2), (8, V.o false x8), (50, V.f x50), (51, V.f x51), (52, V.f x52), (53, V.f x53)] [V.u]
theorem e15_41 (N : Nat) (k : Kn R) (x2 : D) (x8 : List D) (x50 x51 x52 : D) : runC PHI Tb36 N vc15_41 (s15_10 x2 x8 x50 x51 x52) k = m15_41 N x2 x8 x50 x51 x52 (fun x2 x8 x50 x51 x52 x53 => k .normal (s15_11 x2 x8 x50 x51 x52 x53)) := by
  refine Eq.trans (runC_post _ _ _ k) (Eq.trans (ops_run _ _ _ _) (by kernel_rfl))
def m15_43 (N : Nat) (x2 : D) (x8 : List D) (x50 x51 x52 x53 : D) (K : D → List D → D → D → D → Option R) (K2 : List D → Option R) : Option R :=
  (bif x53.toB then K x2 x8 x50 x51 x52 else K2 x8)
def s15_12 (x8 : List D) : St := sts 93 [(8, V.o false x8)] [V.u]
theorem e15_43 (N : Nat) (k : Kn R) (x2 : D) (x8 : List D) (x50 x51 x52 x53 : D) : runC PHI Tb36 N vc15_43 (s15_11 x2 x8 x50 x51 x52 x53) k = m15_43 N x2 x8 x50 x51 x52 x53 (fun x2 x8 x50 x51 x52 => k .normal (s15_10 x2 x8 x50 x51 x52)) (fun x8 => k (.exit 2) (s15_12 x8)) := by kernel_rfl
def m15_49 (N : Nat) (x2 : D) (x8 : List D) (x50 x51 x52 : D) (K : D → List D → D → D → D → D → Option R) : Option R :=
  (bif (inb x52.toI x50.toL.length) then K x2 x8 (D.p (x50.at (x52.toI : Int).toNat)) x50 x51 x52 else none)
def s15_13 (x2 : D) (x8 : List D) (x10 x50 x51 x52 : D) : St := sts 93 [(2, V.f x2), (8, V.o false x8), (10, V.f x10), (50, V.f x50), (51, V.f x51), (52, V.f x52)] [V.u]
theorem e15_49 (N : Nat) (k : Kn R) (x2 : D) (x8 : List D) (x50 x51 x52 : D) : runC PHI Tb36 N vc15_49 (s15_10 x2 x8 x50 x51 x52) k = m15_49 N x2 x8 x50 x51 x52 (fun x2 x8 x10 x50 x51 x52 => k .normal (s15_13 x2 x8 x10 x50 x51 x52)) := by
  refine Eq.trans (runC_post _ _ _ k) (Eq.trans (ops_run _ _ _ _) (by kernel_rfl))
def m15_51 (N : Nat) (x2 : D) (x8 : List D) (x10 x50 x51 x52 : D) (K : D → List D → D → List D → D → D → D → Option R) : Option R :=
  K x2 x8 x10 ([] : List D) x50 x51 x52
def s15_14 (x2 : D) (x8 : List D) (x10 : D) (x11 : List D) (x50 x51 x52 : D) : St := sts 93 [(2, V.f x2), (8, V.o false x8), (10, V.f x10), (11, V.o false x11), (50, V.f x50), (51, V.f x51), (52, V.f x52)] [V.u]
theorem e15_51 (N : Nat) (k : Kn R) (x2 : D) (x8 : List D) (x10 x50 x51 x52 : D) : runC PHI Tb36 N vc15_51 (s15_13 x2 x8 x10 x50 x51 x52) k = m15_51 N x2 x8 x10 x50 x51 x52 (fun x2 x8 x10 x11 x50 x51 x52 => k .normal (s15_14 x2 x8 x10 x11 x50 x51 x52)) := by
  refine Eq.trans (runC_post _ _ _ k) (Eq.trans (ops_run _ _ _ _) (by kernel_rfl))
def m15_54 (N : Nat) (x2 : D) (x8 : List D) (x10 : D) (x11 : List D) (x50 x51 x52 : D) (K : D → List D → D → List D → D → D → D → D → D → D → Option R) : Option R :=
  (bif (isPtrD x2) then K x2 x8 x10 x11 x50 x51 x52 (x2.deref.at 6) (D.i ((x2.deref.at 6).toL.length : Int)) (D.i 0) else none)
def s15_15 (x2 : D) (x8 : List D) (x10 : D) (x11 : List D) (x50 x51 x52 x57 x58 x59 : D) : St := sts 93 [(2, V.f x2), (8, V.o false x8), (10, V.f x10), (11, V.o false x11), (50, V.f x50), (51, V.f x51), (52, V.f x52), (57, V.f x57), (58, V.f x58), (59, V.f x59)] [V.u]
theorem e15_54 (N : Nat) (k : Kn R) (x2 : D) (x8 : List D) (x10 : D) (x11 : List D) (x50 x51 x52 : D) : runC PHI Tb36 N vc15_54 (s15_14 x2 x8 x10 x11 x50 x51 x52) k = m15_54 N x2 x8 x10 x11 x50 x51 x52 (fun x2 x8 x10 x11 x50 x51 x52 x57 x58 x59 => k .normal (s15_15 x2 x8 x10 x11 x50 x51 x52 x57 x58 x59)) := by
  refine Eq.trans (runC_post _ _ _ k) (Eq.trans (ops_run _ _ _ _) (by kernel_rfl))
def m15_57 (N : Nat) (x2 : D) (x8 : List D) (x10 : D) (x11 : List D) (x50 x51 x52 x57 x58 x59 : D) (K : D → List D → D → List D → D → D → D → D → D → D → Option R) (K4 : D → List D → List D → D → D → D → Option R) : Option R :=
  (bif (ltb x59.toI x58.toI) then (bif (inb x59.toI x57.toL.length) then (bif (leb 0 (sp35 ((x57.at (x59.toI : Int).toNat).at 0) (D.i 10))) then (bif (leb ((x57.at (x59.toI : Int).toNat).at 0).toI 13) then (bif (isPtrD x10) then (bif (pr36 (x57.at (x59.toI : Int).toNat) (x10.deref.at 0)) then (bif (leN (x11.length + ([(sp36 (x57.at (x59.toI : Int).toNat) (x10.deref.at 0))] : List D).length) 3518437208883) then K x2 x8 x10 (x11 ++ ([(sp36 (x57.at (x59.toI : Int).toNat) (x10.deref.at 0))] : List D)) x50 x51 x52 x57 x58 (D.i (IntKind.i64.wrap (x59.toI + 1))) else none) else none) else none) else (bif (isPtrD x10) then (bif (pr23 (x57.at (x59.toI : Int).toNat) (sp34 x10.deref)) then (bif (leN (x11.length + ([(sp23 (x57.at (x59.toI : Int).toNat) (sp34 x10.deref))] : List D).length) 3518437208883) then K x2 x8 x10 (x11 ++ ([(sp23 (x57.at (x59.toI : Int).toNat) (sp34 x10.deref))] : List D)) x50 x51 x52 x57 x58 (D.i (IntKind.i64.wrap (x59.toI + 1))) else none) else none) else none)) else (bif false then (bif (isPtrD x10) then (bif (pr36 (x57.at (x59.toI : Int).toNat) (x10.deref.at 0)) then (bif (leN (x11.length + ([(sp36 (x57.at (x59.toI : Int).toNat) (x10.deref.at 0))] : List D).length) 3518437208883) then K x2 x8 x10 (x11 ++ ([(sp36 (x57.at (x59.toI : Int).toNat) (x10.deref.at 0))] : List D)) x50 x51 x52 x57 x58 (D.i (IntKind.i64.wrap (x59.toI + 1))) else none) else none) else none) else (bif (isPtrD x10) then (bif (pr23 (x57.at (x59.toI : Int).toNat) (sp34 x10.deref)) then (bif (leN (x11.length + ([(sp23 (x57.at (x59.toI : Int).toNat) (sp34 x10.deref))] : List D).length) 3518437208883) then K x2 x8 x10 (x11 ++ ([(sp23 (x57.at (x59.toI : Int).toNat) (sp34 x10.deref))] : List D)) x50 x51 x52 x57 x58 (D.i (IntKind.i64.wrap (x59.toI + 1))) else none) else none) else none))) else none) else K4 x2 x8 x11 x50 x51 x52)
def s15_16 (x2 : D) (x8 x11 : List D) (x50 x51 x52 : D) : St := sts 93 [(2, V.f x2), (8, V.o false x8), (11, V.o false x11), (50, V.f x50), (51, V.f x51), (52, V.f x52)] [V.u]
theorem e15_57 (N : Nat) (k : Kn R) (x2 : D) (x8 : List D) (x10 : D) (x11 : List D) (x50 x51 x52 x57 x58 x59 : D) : runC PHI Tb36 N vc15_57 (s15_15 x2 x8 x10 x11 x50 x51 x52 x57 x58 x59) k = m15_57 N x2 x8 x10 x11 x50 x51 x52 x57 x58 x59 (fun x2 x8 x10 x11 x50 x51 x52 x57 x58 x59 => k .normal (s15_15 x2 x8 x10 x11 x50 x51 x52 x57 x58 x59)) (fun x2 x8 x11 x50 x51 x52 => k (.exit 4) (s15_16 x2 x8 x11 x50 x51 x52)) := by kernel_rfl
def l15_56 (N : Nat) (j : Nat) (x2 : D) (x8 : List D) (x10 : D) (x11 : List D) (x50 x51 x52 x57 x58 x59 : D) (K4 : D → List D → List D → D → D → D → Option R) : Option R :=
  match j with
  | 0 => none
  | j + 1 => (m15_57 N x2 x8 x10 x11 x50 x51 x52 x57 x58 x59 (fun y2 y8 y10 y11 y50 y51 y52 y57 y58 y59 => l15_56 N j y2 y8 y10 y11 y50 y51 y52 y57 y58 y59 K4) K4)
def m15_56 (N : Nat) (x2 : D) (x8 : List D) (x10 : D) (x11 : List D) (x50 x51 x52 x57 x58 x59 : D) (K4 : D → List D → List D → D → D → D → Option R) : Option R :=
  l15_56 N N x2 x8 x10 x11 x50 x51 x52 x57 x58 x59 K4
theorem el15_56 (N : Nat) (k : Kn R) : ∀ (j : Nat) (x2 : D) (x8 : List D) (x10 : D) (x11 : List D) (x50 x51 x52 x57 x58 x59 : D), loopGo (runC PHI Tb36 N vc15_57) j (s15_15 x2 x8 x10 x11 x50 x51 x52 x57 x58 x59) k = l15_56 N j x2 x8 x10 x11 x50 x51 x52 x57 x58 x59 (fun x2 x8 x11 x50 x51 x52 => k (.exit 4) (s15_16 x2 x8 x11 x50 x51 x52))
  | 0, _, _, _, _, _, _, _, _, _, _ => by kernel_rfl
  | j + 1, x2, x8, x10, x11, x50, x51, x52, x57, x58, x59 => by
    have h2 := e15_57 N (kloop PHI Tb36 N vc15_57 j k) x2 x8 x10 x11 x50 x51 x52 x57 x58 x59
    have h3 : (fun (y2 : D) (y8 : List D) (y10 : D) (y11 : List D) (y50 y51 y52 y57 y58 y59 : D) => (kloop PHI Tb36 N vc15_57 j k) .normal (s15_15 y2 y8 y10 y11 y50 y51 y52 y57 y58 y59)) = (fun (y2 : D) (y8 : List D) (y10 : D) (y11 : List D) (y50 y51 y52 y57 y58 y59 : D) => l15_56 N j y2 y8 y10 y11 y50 y51 y52 y57 y58 y59 (fun x2 x8 x11 x50 x51 x52 => k (.exit 4) (s15_16 x2 x8 x11 x50 x51 x52))) := funext fun y2 => funext fun y8 => funext fun y10 => funext fun y11 => funext fun y50 => funext fun y51 => funext fun y52 => funext fun y57 => funext fun y58 => funext fun y59 => (el15_56 N k j y2 y8 y10 y11 y50 y51 y52 y57 y58 y59)
    refine Eq.trans (loop_succ _ j _ k) (Eq.trans h2 (Eq.trans (congrArg (fun K => m15_57 N x2 x8 x10 x11 x50 x51 x52 x57 x58 x59 K (fun x2 x8 x11 x50 x51 x52 => (kloop PHI Tb36 N vc15_57 j k) (.exit 4) (s15_16 x2 x8 x11 x50 x51 x52))) h3) (by kernel_rfl)))
theorem e15_56 (N : Nat) (k : Kn R) (x2 : D) (x8 : List D) (x10 : D) (x11 : List D) (x50 x51 x52 x57 x58 x59 : D) : runC PHI Tb36 N vc15_56 (s15_15 x2 x8 x10 x11 x50 x51 x52 x57 x58 x59) k = m15_56 N x2 x8 x10 x11 x50 x51 x52 x57 x58 x59 (fun x2 x8 x11 x50 x51 x52 => k (.exit 4) (s15_16 x2 x8 x11 x50 x51 x52)) := by
  refine Eq.trans (runC_loop _ _ k) (Eq.trans (el15_56 N k N x2 x8 x10 x11 x50 x51 x52 x57 x58 x59) (by kernel_rfl))
def m15_55 (N : Nat) (x2 : D) (x8 : List D) (x10 : D) (x11 : List D) (x50 x51 x52 x57 x58 x59 : D) (K : D → List D → List D → D → D → D → Option R) : Option R :=
  (m15_56 N x2 x8 x10 x11 x50 x51 x52 x57 x58 x59 (fun y2 y8 y11 y50 y51 y52 => K y2 y8 y11 y50 y51 y52))
theorem e15_55 (N : Nat) (k : Kn R) (x2 : D) (x8 : List D) (x10 : D) (x11 : List D) (x50 x51 x52 x57 x58 x59 : D) : runC PHI Tb36 N vc15_55 (s15_15 x2 x8 x10 x11 x50 x51 x52 x57 x58 x59) k = m15_55 N x2 x8 x10 x11 x50 x51 x52 x57 x58 x59 (fun x2 x8 x11 x50 x51 x52 => k .normal (s15_16 x2 x8 x11 x50 x51 x52)) := by
  refine Eq.trans (runC_block _ _ _ k) (Eq.trans (e15_56 N (kblk 4 k) x2 x8 x10 x11 x50 x51 x52 x57 x58 x59) (by kernel_rfl))
def m15_53 (N : Nat) (x2 : D) (x8 : List D) (x10 : D) (x11 : List D) (x50 x51 x52 : D) (K : D → List D → List D → D → D → D → Option R) : Option R :=
  (m15_54 N x2 x8 x10 x11 x50 x51 x52 (fun y2 y8 y10 y11 y50 y51 y52 y57 y58 y59 => (m15_55 N y2 y8 y10 y11 y50 y51 y52 y57 y58 y59 (fun y2 y8 y11 y50 y51 y52 => K y2 y8 y11 y50 y51 y52))))
theorem e15_53 (N : Nat) (k : Kn R) (x2 : D) (x8 : List D) (x10 : D) (x11 : List D) (x50 x51 x52 : D) : runC PHI Tb36 N vc15_53 (s15_14 x2 x8 x10 x11 x50 x51 x52) k = m15_53 N x2 x8 x10 x11 x50 x51 x52 (fun x2 x8 x11 x50 x51 x52 => k .normal (s15_16 x2 x8 x11 x50 x51 x52)) := by
  have h2 := e15_54 N (kseq PHI Tb36 N vc15_55 k) x2 x8 x10 x11 x50 x51 x52
  have h3 := (funext fun y2 => funext fun y8 => funext fun y10 => funext fun y11 => funext fun y50 => funext fun y51 => funext fun y52 => funext fun y57 => funext fun y58 => funext fun y59 => (e15_55 N k y2 y8 y10 y11 y50 y51 y52 y57 y58 y59) : (fun (y2 : D) (y8 : List D) (y10 : D) (y11 : List D) (y50 y51 y52 y57 y58 y59 : D) => (kseq PHI Tb36 N vc15_55 k) .normal (s15_15 y2 y8 y10 y11 y50 y51 y52 y57 y58 y59)) = _)
  refine Eq.trans (runC_seq _ _ _ k) (Eq.trans h2 (Eq.trans (congrArg (fun K => m15_54 N x2 x8 x10 x11 x50 x51 x52 K) h3) (by kernel_rfl)))
def m15_73 (N : Nat) (x2 : D) (x8 x11 : List D) (x50 x51 x52 : D) (K : D → List D → D → D → D → Option R) : Option R :=
  (bif (leN (x8.length + ([(D.sz x11)] : List D).length) 5864062014805) then K x2 (x8 ++ ([(D.sz x11)] : List D)) x50 x51 x52 else none)
theorem e15_73 (N : Nat) (k : Kn R) (x2 : D) (x8 x11 : List D) (x50 x51 x52 : D) : runC PHI Tb36 N vc15_73 (s15_16 x2 x8 x11 x50 x51 x52) k = m15_73 N x2 x8 x11 x50 x51 x52 (fun x2 x8 x50 x51 x52 => k .normal (s15_10 x2 x8 x50 x51 x52)) := by
  refine Eq.trans (runC_post _ _ _ k) (Eq.trans (ops_run _ _ _ _) (by kernel_rfl))
def m15_52 (N : Nat) (x2 : D) (x8 : List D) (x10 : D) (x11 : List D) (x50 x51 x52 : D) (K : D → List D → D → D → D → Option R) : Option R :=
  (m15_53 N x2 x8 x10 x11 x50 x51 x52 (fun y2 y8 y11 y50 y51 y52 => (m15_73 N y2 y8 y11 y50 y51 y52 (fun y2 y8 y50 y51 y52 => K y2 y8 y50 y51 y52))))
theorem e15_52 (N : Nat) (k : Kn R) (x2 : D) (x8 : List D) (x10 : D) (x11 : List D) (x50 x51 x52 : D) : runC PHI Tb36 N vc15_52 (s15_14 x2 x8 x10 x11 x50 x51 x52) k = m15_52 N x2 x8 x10 x11 x50 x51 x52 (fun x2 x8 x50 x51 x52 => k .normal (s15_10 x2 x8 x50 x51 x52)) := by
  have h2 := e15_53 N (kseq PHI Tb36 N vc15_73 k) x2 x8 x10 x11 x50 x51 x52
  have h3 := (funext fun y2 => funext fun y8 => funext fun y11 => funext fun y50 => funext fun y51 => funext fun y52 => (e15_73 N k y2 y8 y11 y50 y51 y52) : (fun (y2 : D) (y8 y11 : List D) (y50 y51 y52 : D) => (kseq PHI Tb36 N vc15_73 k) .normal (s15_16 y2 y8 y11 y50 y51 y52)) = _)
  refine Eq.trans (runC_seq _ _ _ k) (Eq.trans h2 (Eq.trans (congrArg (fun K => m15_53 N x2 x8 x10 x11 x50 x51 x52 K) h3) (by kernel_rfl)))
def m15_50 (N : Nat) (x2 : D) (x8 : List D) (x10 x50 x51 x52 : D) (K : D → List D → D → D → D → Option R) : Option R :=
  (m15_51 N x2 x8 x10 x50 x51 x52 (fun y2 y8 y10 y11 y50 y51 y52 => (m15_52 N y2 y8 y10 y11 y50 y51 y52 (fun y2 y8 y50 y51 y52 => K y2 y8 y50 y51 y52))))
theorem e15_50 (N : Nat) (k : Kn R) (x2 : D) (x8 : List D) (x10 x50 x51 x52 : D) : runC PHI Tb36 N vc15_50 (s15_13 x2 x8 x10 x50 x51 x52) k = m15_50 N x2 x8 x10 x50 x51 x52 (fun x2 x8 x50 x51 x52 => k .normal (s15_10 x2 x8 x50 x51 x52)) := by
  have h2 := e15_51 N (kseq PHI Tb36 N vc15_52 k) x2 x8 x10 x50 x51 x52
  have h3 := (funext fun y2 => funext fun y8 => funext fun y10 => funext fun y11 => funext fun y50 => funext fun y51 => funext fun y52 => (e15_52 N k y2 y8 y10 y11 y50 y51 y52) : (fun (y2 : D) (y8 : List D) (y10 : D) (y11 : List D) (y50 y51 y52 : D) => (kseq PHI Tb36 N vc15_52 k) .normal (s15_14 y2 y8 y10 y11 y50 y51 y52)) = _)
  refine Eq.trans (runC_seq _ _ _ k) (Eq.trans h2 (Eq.trans (congrArg (fun K => m15_51 N x2 x8 x10 x50 x51 x52 K) h3) (by kernel_rfl)))
def m15_48 (N : Nat) (x2 : D) (x8 : List D) (x50 x51 x52 : D) (K : D → List D → D → D → D → Option R) : Option R :=
  (m15_49 N x2 x8 x50 x51 x52 (fun y2 y8 y10 y50 y51 y52 => (m15_50 N y2 y8 y10 y50 y51 y52 (fun y2 y8 y50 y51 y52 => K y2 y8 y50 y51 y52))))
theorem e15_48 (N : Nat) (k : Kn R) (x2 : D) (x8 : List D) (x50 x51 x52 : D) : runC PHI Tb36 N vc15_48 (s15_10 x2 x8 x50 x51 x52) k = m15_48 N x2 x8 x50 x51 x52 (fun x2 x8 x50 x51 x52 => k .normal (s15_10 x2 x8 x50 x51 x52)) := by
  have h2 := e15_49 N (kseq PHI Tb36 N vc15_50 k) x2 x8 x50 x51 x52
  have h3 := (funext fun y2 => funext fun y8 => funext fun y10 => funext fun y50 => funext fun y51 => funext fun y52 => (e15_50 N k y2 y8 y10 y50 y51 y52) : (fun (y2 : D) (y8 : List D) (y10 y50 y51 y52 : D) => (kseq PHI Tb36 N vc15_50 k) .normal (s15_13 y2 y8 y10 y50 y51 y52)) = _)
  refine Eq.trans (runC_seq _ _ _ k) (Eq.trans h2 (Eq.trans (congrArg (fun K => m15_49 N x2 x8 x50 x51 x52 K) h3) (by kernel_rfl)))
def m15_47 (N : Nat) (x2 : D) (x8 : List D) (x50 x51 x52 : D) (K : D → List D → D → D → D → Option R) : Option R :=
  (m15_48 N x2 x8 x50 x51 x52 (fun y2 y8 y50 y51 y52 => K y2 y8 y50 y51 y52))
theorem e15_47 (N : Nat) (k : Kn R) (x2 : D) (x8 : List D) (x50 x51 x52 : D) : runC PHI Tb36 N vc15_47 (s15_10 x2 x8 x50 x51 x52) k = m15_47 N x2 x8 x50 x51 x52 (fun x2 x8 x50 x51 x52 => k .normal (s15_10 x2 x8 x50 x51 x52)) := by
  refine Eq.trans (runC_block _ _ _ k) (Eq.trans (e15_48 N (kblk 3 k) x2 x8 x50 x51 x52) (by kernel_rfl))
def m15_74 (N : Nat) (x2 : D) (x8 : List D) (x50 x51 x52 : D) (K : D → List D → D → D → D → Option R) : Option R :=
  K x2 x8 x50 x51 (D.i (IntKind.i64.wrap (x52.toI + 1)))
theorem e15_74 (N : Nat) (k : Kn R) (x2 : D) (x8 : List D) (x50 x51 x52 : D) : runC PHI Tb36 N vc15_74 (s15_10 x2 x8 x50 x51 x52) k = m15_74 N x2 x8 x50 x51 x52 (fun x2 x8 x50 x51 x52 => k .normal (s15_10 x2 x8 x50 x51 x52)) := by
  refine Eq.trans (runC_post _ _ _ k) (Eq.trans (ops_run _ _ _ _) (by kernel_rfl))
def m15_46 (N : Nat) (x2 : D) (x8 : List D) (x50 x51 x52 : D) (K : D → List D → D → D → D → Option R) : Option R :=
  (m15_47 N x2 x8 x50 x51 x52 (fun y2 y8 y50 y51 y52 => (m15_74 N y2 y8 y50 y51 y52 (fun y2 y8 y50 y51 y52 => K y2 y8 y50 y51 y52))))
theorem e15_46 (N : Nat) (k : Kn R) (x2 : D) (x8 : List D) (x50 x51 x52 : D) : runC PHI Tb36 N vc15_46 (s15_10 x2 x8 x50 x51 x52) k = m15_46 N x2 x8 x50 x51 x52 (fun x2 x8 x50 x51 x52 => k .normal (s15_10 x2 x8 x50 x51 x52)) := by
  have h2 := e15_47 N (kseq PHI Tb36 N vc15_74 k) x2 x8 x50 x51 x52
  have h3 := (funext fun y2 => funext fun y8 => funext fun y50 => funext fun y51 => funext fun y52 => (e15_74 N k y2 y8 y50 y51 y52) : (fun (y2 : D) (y8 : List D) (y50 y51 y52 : D) => (kseq PHI Tb36 N vc15_74 k) .normal (s15_10 y2 y8 y50 y51 y52)) = _)
  refine Eq.trans (runC_seq _ _ _ k) (Eq.trans h2 (Eq.trans (congrArg (fun K => m15_47 N x2 x8 x50 x51 x52 K) h3) (by kernel_rfl)))
def m15_42 (N : Nat) (x2 : D) (x8 : List D) (x50 x51 x52 x53 : D) (K : D → List D → D → D → D → Option R) (K2 : List D → Option R) : Option R :=
  (m15_43 N x2 x8 x50 x51 x52 x53 (fun y2 y8 y50 y51 y52 => (m15_46 N y2 y8 y50 y51 y52 (fun y2 y8 y50 y51 y52 => K y2 y8 y50 y51 y52))) K2)
theorem e15_42 (N : Nat) (k : Kn R) (x2 : D) (x8 : List D) (x50 x51 x52 x53 : D) : runC PHI Tb36 N vc15_42 (s15_11 x2 x8 x50 x51 x52 x53) k = m15_42 N x2 x8 x50 x51 x52 x53 (fun x2 x8 x50 x51 x52 => k .normal (s15_10 x2 x8 x50 x51 x52)) (fun x8 => k (.exit 2) (s15_12 x8)) := by
  have h2 := e15_43 N (kseq PHI Tb36 N vc15_46 k) x2 x8 x50 x51 x52 x53
  have h3 := (funext fun y2 => funext fun y8 => funext fun y50 => funext fun y51 => funext fun y52 => (e15_46 N k y2 y8 y50 y51 y52) : (fun (y2 : D) (y8 : List D) (y50 y51 y52 : D) => (kseq PHI Tb36 N vc15_46 k) .normal (s15_10 y2 y8 y50 y51 y52)) = _)
  refine Eq.trans (runC_seq _ _ _ k) (Eq.trans h2 (Eq.trans (congrArg (fun K => m15_43 N x2 x8 x50 x51 x52 x53 K (fun x8 => (kseq PHI Tb36 N vc15_46 k) (.exit 2) (s15_12 x8))) h3) (by kernel_rfl)))
def m15_40 (N : Nat) (x2 : D) (x8 : List D) (x50 x51 x52 : D) (K : D → List D → D → D → D → Option R) (K2 : List D → Option R) : Option R :=
  (m15_41 N x2 x8 x50 x51 x52 (fun y2 y8 y50 y51 y52 y53 => (m15_42 N y2 y8 y50 y51 y52 y53 (fun y2 y8 y50 y51 y52 => K y2 y8 y50 y51 y52) K2)))
theorem e15_40 (N : Nat) (k : Kn R) (x2 : D) (x8 : List D) (x50 x51 x52 : D) : runC PHI Tb36 N vc15_40 (s15_10 x2 x8 x50 x51 x52) k = m15_40 N x2 x8 x50 x51 x52 (fun x2 x8 x50 x51 x52 => k .normal (s15_10 x2 x8 x50 x51 x52)) (fun x8 => k (.exit 2) (s15_12 x8)) := by
  have h2 := e15_41 N (kseq PHI Tb36 N vc15_42 k) x2 x8 x50 x51 x52
  have h3 := (funext fun y2 => funext fun y8 => funext fun y50 => funext fun y51 => funext fun y52 => funext fun y53 => (e15_42 N k y2 y8 y50 y51 y52 y53) : (fun (y2 : D) (y8 : List D) (y50 y51 y52 y53 : D) => (kseq PHI Tb36 N vc15_42 k) .normal (s15_11 y2 y8 y50 y51 y52 y53)) = _)
  refine Eq.trans (runC_seq _ _ _ k) (Eq.trans h2 (Eq.trans (congrArg (fun K => m15_41 N x2 x8 x50 x51 x52 K) h3) (by kernel_rfl)))
def l15_39 (N : Nat) (j : Nat) (x2 : D) (x8 : List D) (x50 x51 x52 : D) (K2 : List D → Option R) : Option R :=
  match j with
  | 0 => none
  | j + 1 => (m15_40 N x2 x8 x50 x51 x52 (fun y2 y8 y50 y51 y52 => l15_39 N j y2 y8 y50 y51 y52 K2) K2)
def m15_39 (N : Nat) (x2 : D) (x8 : List D) (x50 x51 x52 : D) (K2 : List D → Option R) : Option R :=
  l15_39 N N x2 x8 x50 x51 x52 K2
theorem el15_39 (N : Nat) (k : Kn R) : ∀ (j : Nat) (x2 : D) (x8 : List D) (x50 x51 x52 : D), loopGo (runC PHI Tb36 N vc15_40) j (s15_10 x2 x8 x50 x51 x52) k = l15_39 N j x2 x8 x50 x51 x52 (fun x8 => k (.exit 2) (s15_12 x8))
  | 0, _, _, _, _, _ => by kernel_rfl
  | j + 1, x2, x8, x50, x51, x52 => by
    have h2 := e15_40 N (kloop PHI Tb36 N vc15_40 j k) x2 x8 x50 x51 x52
    have h3 : (fun (y2 : D) (y8 : List D) (y50 y51 y52 : D) => (kloop PHI Tb36 N vc15_40 j k) .normal (s15_10 y2 y8 y50 y51 y52)) = (fun (y2 : D) (y8 : List D) (y50 y51 y52 : D) => l15_39 N j y2 y8 y50 y51 y52 (fun x8 => k (.exit 2) (s15_12 x8))) := funext fun y2 => funext fun y8 => funext fun y50 => funext fun y51 => funext fun y52 => (el15_39 N k j y2 y8 y50 y51 y52)
    refine Eq.trans (loop_succ _ j _ k) (Eq.trans h2 (Eq.trans (congrArg (fun K => m15_40 N x2 x8 x50 x51 x52 K (fun x8 => (kloop PHI Tb36 N vc15_40 j k) (.exit 2) (s15_12 x8))) h3) (by kernel_rfl)))
theorem e15_39 (N : Nat) (k : Kn R) (x2 : D) (x8 : List D) (x50 x51 x52 : D) : runC PHI Tb36 N vc15_39 (s15_10 x2 x8 x50 x51 x52) k = m15_39 N x2 x8 x50 x51 x52 (fun x8 => k (.exit 2) (s15_12 x8)) := by
  refine Eq.trans (runC_loop _ _ k) (Eq.trans (el15_39 N k N x2 x8 x50 x51 x52) (by kernel_rfl))
def m15_38 (N : Nat) (x2 : D) (x8 : List D) (x50 x51 x52 : D) (K : List D → Option R) : Option R :=
  (m15_39 N x2 x8 x50 x51 x52 (fun y8 => K y8))
theorem e15_38 (N : Nat) (k : Kn R) (x2 : D) (x8 : List D) (x50 x51 x52 : D) : runC PHI Tb36 N vc15_38 (s15_10 x2 x8 x50 x51 x52) k = m15_38 N x2 x8 x50 x51 x52 (fun x8 => k .normal (s15_12 x8)) := by
  refine Eq.trans (runC_block _ _ _ k) (Eq.trans (e15_39 N (kblk 2 k) x2 x8 x50 x51 x52) (by kernel_rfl))
def m15_36 (N : Nat) (x2 x5 : D) (x8 : List D) (K : List D → Option R) : Option R :=
  (m15_37 N x2 x5 x8 (fun y2 y8 y50 y51 y52 => (m15_38 N y2 y8 y50 y51 y52 (fun y8 => K y8))))
theorem e15_36 (N : Nat) (k : Kn R) (x2 x5 : D) (x8 : List D) : runC PHI Tb36 N vc15_36 (s15_9 x2 x5 x8) k = m15_36 N x2 x5 x8 (fun x8 => k .normal (s15_12 x8)) := by
  have h2 := e15_37 N (kseq PHI Tb36 N vc15_38 k) x2 x5 x8
  have h3 := (funext fun y2 => funext fun y8 => funext fun y50 => funext fun y51 => funext fun y52 => (e15_38 N k y2 y8 y50 y51 y52) : (fun (y2 : D) (y8 : List D) (y50 y51 y52 : D) => (kseq PHI Tb36 N vc15_38 k) .normal (s15_10 y2 y8 y50 y51 y52)) = _)
  refine Eq.trans (runC_seq _ _ _ k) (Eq.trans h2 (Eq.trans (congrArg (fun K => m15_37 N x2 x5 x8 K) h3) (by kernel_rfl)))
def m15_75 (N : Nat) (x8 : List D) (Kr : D → Option R) : Option R :=
  Kr (D.sz x8)
def s15_17 (x4 : D) : St := sts 93 [(4, V.f x4)] [V.u]
theorem e15_75 (N : Nat) (k : Kn R) (x8 : List D) : runC PHI Tb36 N vc15_75 (s15_12 x8) k = m15_75 N x8 (fun x4 => k .ret (s15_17 x4)) := by kernel_rfl
def m15_35 (N : Nat) (x2 x5 : D) (x8 : List D) (Kr : D → Option R) : Option R :=
  (m15_36 N x2 x5 x8 (fun y8 => (m15_75 N y8 Kr)))
theorem e15_35 (N : Nat) (k : Kn R) (x2 x5 : D) (x8 : List D) : runC PHI Tb36 N vc15_35 (s15_9 x2 x5 x8) k = m15_35 N x2 x5 x8 (fun x4 => k .ret (s15_17 x4)) := by
  have h2 := e15_36 N (kseq PHI Tb36 N vc15_75 k) x2 x5 x8
  have h3 := (funext fun y8 => (e15_75 N k y8) : (fun (y8 : List D) => (kseq PHI Tb36 N vc15_75 k) .normal (s15_12 y8)) = _)
  refine Eq.trans (runC_seq _ _ _ k) (Eq.trans h2 (Eq.trans (congrArg (fun K => m15_36 N x2 x5 x8 K) h3) (by kernel_rfl)))
def m15_33 (N : Nat) (x2 x5 : D) (Kr : D → Option R) : Option R :=
  (m15_34 N x2 x5 (fun y2 y5 y8 => (m15_35 N y2 y5 y8 Kr)))
theorem e15_33 (N : Nat) (k : Kn R) (x2 x5 : D) : runC PHI Tb36 N vc15_33 (s15_8 x2 x5) k = m15_33 N x2 x5 (fun x4 => k .ret (s15_17 x4)) := by
  have h2 := e15_34 N (kseq PHI Tb36 N vc15_35 k) x2 x5
  have h3 := (funext fun y2 => funext fun y5 => funext fun y8 => (e15_35 N k y2 y5 y8) : (fun (y2 y5 : D) (y8 : List D) => (kseq PHI Tb36 N vc15_35 k) .normal (s15_9 y2 y5 y8)) = _)
  refine Eq.trans (runC_seq _ _ _ k) (Eq.trans h2 (Eq.trans (congrArg (fun K => m15_34 N x2 x5 K) h3) (by kernel_rfl)))
def m15_27 (N : Nat) (x2 : D) (x5n : Bool) (h0 : D) (Kr : D → Option R) : Option R :=
  (m15_28 N x2 x5n h0 (fun y2 y5 => (m15_33 N y2 y5 Kr)))
theorem e15_27 (N : Nat) (k : Kn R) (x2 : D) (x5n : Bool) (h0 : D) : runC PHI Tb36 N vc15_27 (s15_7 x2 x5n h0) k = m15_27 N x2 x5n h0 (fun x4 => k .ret (s15_17 x4)) := by
  have h2 := e15_28 N (kseq PHI Tb36 N vc15_33 k) x2 x5n h0
  have h3 := (funext fun y2 => funext fun y5 => (e15_33 N k y2 y5) : (fun (y2 y5 : D) => (kseq PHI Tb36 N vc15_33 k) .normal (s15_8 y2 y5)) = _)
  refine Eq.trans (runC_seq _ _ _ k) (Eq.trans h2 (Eq.trans (congrArg (fun K => m15_28 N x2 x5n h0 K) h3) (by kernel_rfl)))
def m15_25 (N : Nat) (x2 : D) (x5n : Bool) (x5 : List D) (Kr : D → Option R) : Option R :=
  (m15_26 N x2 x5n x5 (fun y2 y5n h0 => (m15_27 N y2 y5n h0 Kr)))
theorem e15_25 (N : Nat) (k : Kn R) (x2 : D) (x5n : Bool) (x5 : List D) : runC PHI Tb36 N vc15_25 (s15_4 x2 x5n x5) k = m15_25 N x2 x5n x5 (fun x4 => k .ret (s15_17 x4)) := by
  have h2 := e15_26 N (kseq PHI Tb36 N vc15_27 k) x2 x5n x5
  have h3 := (funext fun y2 => funext fun y5n => funext fun h0 => (e15_27 N k y2 y5n h0) : (fun (y2 : D) (y5n : Bool) (h0 : D) => (kseq PHI Tb36 N vc15_27 k) .normal (s15_7 y2 y5n h0)) = _)
  refine Eq.trans (runC_seq _ _ _ k) (Eq.trans h2 (Eq.trans (congrArg (fun K => m15_26 N x2 x5n x5 K) h3) (by kernel_rfl)))
def m15_4 (N : Nat) (x1 x2 : D) (x5 : List D) (Kr : D → Option R) : Option R :=
  (m15_5 N x1 x2 x5 (fun y2 y5n y5 => (m15_25 N y2 y5n y5 Kr)))
theorem e15_4 (N : Nat) (k : Kn R) (x1 x2 : D) (x5 : List D) : runC PHI Tb36 N vc15_4 (s15_2 x1 x2 x5) k = m15_4 N x1 x2 x5 (fun x4 => k .ret (s15_17 x4)) := by
  have h2 := e15_5 N (kseq PHI Tb36 N vc15_25 k) x1 x2 x5
  have h3 := (funext fun y2 => funext fun y5n => funext fun y5 => (e15_25 N k y2 y5n y5) : (fun (y2 : D) (y5n : Bool) (y5 : List D) => (kseq PHI Tb36 N vc15_25 k) .normal (s15_4 y2 y5n y5)) = _)
  refine Eq.trans (runC_seq _ _ _ k) (Eq.trans h2 (Eq.trans (congrArg (fun K => m15_5 N x1 x2 x5 K) h3) (by kernel_rfl)))
def m15_2 (N : Nat) (x1 x2 : D) (Kr : D → Option R) : Option R :=
  (m15_3 N x1 x2 (fun y1 y2 y5 => (m15_4 N y1 y2 y5 Kr)))
theorem e15_2 (N : Nat) (k : Kn R) (x1 x2 : D) : runC PHI Tb36 N vc15_2 (s15_1 x1 x2) k = m15_2 N x1 x2 (fun x4 => k .ret (s15_17 x4)) := by
  have h2 := e15_3 N (kseq PHI Tb36 N vc15_4 k) x1 x2
  have h3 := (funext fun y1 => funext fun y2 => funext fun y5 => (e15_4 N k y1 y2 y5) : (fun (y1 y2 : D) (y5 : List D) => (kseq PHI Tb36 N vc15_4 k) .normal (s15_2 y1 y2 y5)) = _)
  refine Eq.trans (runC_seq _ _ _ k) (Eq.trans h2 (Eq.trans (congrArg (fun K => m15_3 N x1 x2 K) h3) (by kernel_rfl)))
def m15_0 (N : Nat) (x0 x1 : D) (Kr : D → Option R) : Option R :=
  (m15_1 N x0 x1 (fun y1 y2 => (m15_2 N y1 y2 Kr)))
theorem e15_0 (N : Nat) (k : Kn R) (x0 x1 : D) : runC PHI Tb36 N vc15_0 (s15_0 x0 x1) k = m15_0 N x0 x1 (fun x4 => k .ret (s15_17 x4)) := by
  have h2 := e15_1 N (kseq PHI Tb36 N vc15_2 k) x0 x1
  have h3 := (funext fun y1 => funext fun y2 => (e15_2 N k y1 y2) : (fun (y1 y2 : D) => (kseq PHI Tb36 N vc15_2 k) .normal (s15_1 y1 y2)) = _)
  refine Eq.trans (runC_seq _ _ _ k) (Eq.trans h2 (Eq.trans (congrArg (fun K => m15_1 N x0 x1 K) h3) (by kernel_rfl)))
theorem r15 (N : Nat) (x0 x1 : D) : runC PHI Tb36 N vf15.body (enterV vf15 [V.f x0, V.f x1] []) (finish vf15) = m15_0 N x0 x1 (fun x4 => finish vf15 .ret (s15_17 x4)) := 
  Eq.trans (runC_pre (s1 := (s15_0 x0 x1)) (by kernel_rfl) _ _) (Eq.trans (e15_0 N (finish vf15) x0 x1) (by kernel_rfl))
end
noncomputable def Tb15 : CallF := extend Tb36 15 (fn2 pr15 fun q r => .f (sp15 q r))
theorem take_map {α β : Type} (f : α → β) (l : List α) {i : Nat} (h : i < l.length) : (l.take i).map f ++ [f l[i]] = (l.take (i + 1)).map f := by
  rw [List.take_add_one, List.map_append, List.getElem?_eq_getElem h]
  rfl
theorem a15 {R : Type} (N : Nat) (q : D) (rows : D) (hl : rows.toL.length ≤ 1000000) (K0 : D → List D → Option R) : ∀ k i J, i + k = rows.toL.length → k < J →
    l15_12 N J (.p q) ((rows.toL.take i).map one15) rows (.i (rows.toL.length : Int)) (.i (i : Int)) K0 = K0 (.p q) (rows.toL.map one15)
  | _, _, 0, _, h => by omega
  | 0, i, J + 1, h, _ => by
    have : i = rows.toL.length := by omega
    subst this
    simp only [l15_12, m15_13, toI_i, ltb_self, cond_false, List.take_length]
  | k + 1, i, J + 1, h, h' => by
    have hi : i < rows.toL.length := by omega
    have hat : rows.at i = rows.toL[i] := getD_at hi
    have e : (rows.toL.take i).map one15 ++ [.ag [.sl [rows.toL[i]]]] = (rows.toL.take (i + 1)).map one15 := take_map one15 rows.toL hi
    have e2 : leN (((rows.toL.take i).map one15).length + ([(D.ag [(D.sl ([rows.toL[i]] : List D))])] : List D).length) 5864062014805 = true := leN_t (by
      rw [List.length_map, List.length_take, List.length_singleton]; omega)
    simp only [l15_12, m15_13, toI_i, ltb_n hi, cond_true, inb_t hi, Int.toNat_natCast, hat, e2, e, succ_n hi (show rows.toL.length ≤ 9223372036854775807 by omega)]
    exact a15 N q rows hl K0 k (i + 1) J (by omega) (by omega)
theorem b15 {R : Type} (N : Nat) (q g x50 x51 x52 : D) (x8 : List D) (l : D) (hl : l.toL.length ≤ 1000000) (K4 : D → List D → List D → D → D → D → Option R) : ∀ k i J, i + k = l.toL.length → k < J →
    l15_56 N J (.p q) x8 (.p g) ((l.toL.take i).map (itm g)) x50 x51 x52 l (.i (l.toL.length : Int)) (.i (i : Int)) K4 = K4 (.p q) x8 (l.toL.map (itm g)) x50 x51 x52
  | _, _, 0, _, h => by omega
  | 0, i, J + 1, h, _ => by
    have : i = l.toL.length := by omega
    subst this
    simp only [l15_56, m15_57, toI_i, ltb_self, cond_false, List.take_length]
  | k + 1, i, J + 1, h, h' => by
    have hi : i < l.toL.length := by omega
    have hat : l.at i = l.toL[i] := getD_at hi
    have e := take_map (itm g) l.toL hi
    have e2 : ∀ x : D, leN (((l.toL.take i).map (itm g)).length + ([x] : List D).length) 3518437208883 = true := fun x => leN_t (by
      rw [List.length_map, List.length_take, List.length_singleton]; omega)
    have r := b15 N q g x50 x51 x52 x8 l hl K4 k (i + 1) J (by omega) (by omega)
    rw [← e] at r
    have hi' : itm g l.toL[i] = bif (bif leb 0 (sp35 (l.toL[i].at 0) (.i 10)) then leb (l.toL[i].at 0).toI 13 else false) then sp36 l.toL[i] (g.at 0) else sp23 l.toL[i] (sp34 g) := rfl
    simp only [l15_56, m15_57, toI_i, ltb_n hi, cond_true, inb_t hi, Int.toNat_natCast, hat, isPtr_p, deref_p, pr23, pr36, e2, succ_n hi (show l.toL.length ≤ 9223372036854775807 by omega)]
    rw [hi'] at r
    revert r
    cases leb 0 (sp35 (l.toL[i].at 0) (.i 10)) <;> cases leb (l.toL[i].at 0).toI 13 <;> exact fun r => r
theorem c15 {R : Type} (N : Nat) (q d : D) (hl : d.toL.length ≤ 1000000) (hq : (q.at 6).toL.length ≤ 1000000) (hN : (q.at 6).toL.length < N) (K2 : List D → Option R) : ∀ k i J, i + k = d.toL.length → k < J →
    l15_39 N J (.p q) ((d.toL.take i).map (row15 q)) d (.i (d.toL.length : Int)) (.i (i : Int)) K2 = K2 (d.toL.map (row15 q))
  | _, _, 0, _, h => by omega
  | 0, i, J + 1, h, _ => by
    have : i = d.toL.length := by omega
    subst this
    simp only [l15_39, m15_40, m15_41, m15_42, m15_43, toB_b, toI_i, ltb_self, cond_false, List.take_length]
  | k + 1, i, J + 1, h, h' => by
    have hi : i < d.toL.length := by omega
    have hat : d.at i = d.toL[i] := getD_at hi
    have e : (d.toL.take i).map (row15 q) ++ [.sz ((q.at 6).toL.map (itm d.toL[i]))] = (d.toL.take (i + 1)).map (row15 q) := take_map (row15 q) d.toL hi
    have e2 : leN (((d.toL.take i).map (row15 q)).length + ([(D.sz ((q.at 6).toL.map (itm d.toL[i])))] : List D).length) 5864062014805 = true := leN_t (by
      rw [List.length_map, List.length_take, List.length_singleton]; omega)
    have rb := b15 N q d.toL[i] d (.i (d.toL.length : Int)) (.i (i : Int)) ((d.toL.take i).map (row15 q)) (q.at 6) hq (fun y2 y8 y11 y50 y51 y52 => m15_73 N y2 y8 y11 y50 y51 y52 (fun y2 y8 y50 y51 y52 => m15_74 N y2 y8 y50 y51 y52 (fun y2 y8 y50 y51 y52 => l15_39 N J y2 y8 y50 y51 y52 K2))) (q.at 6).toL.length 0 N (by omega) (by omega)
    simp only [l15_39, m15_40, m15_41, m15_42, m15_43, toB_b, toI_i, ltb_n hi, cond_true, m15_46, m15_47, m15_48, m15_49, inb_t hi, Int.toNat_natCast, hat, m15_50, m15_51, m15_52, m15_53, m15_54, isPtr_p, deref_p, m15_55, m15_56]
    refine Eq.trans rb ?_
    simp only [m15_73, e2, cond_true, e, m15_74, toI_i, succ_n hi (show d.toL.length ≤ 9223372036854775807 by omega)]
    exact c15 N q d hl hq hN K2 k (i + 1) J (by omega) (by omega)
theorem runsF_len {c : D → D → Int} : ∀ (l g : List D) (p : D), (runsF c g p l).length ≤ l.length + 1
  | [], g, p => by simp [runsF]
  | x :: l, g, p => by
    rw [runsF]
    cases eqb (c p x) 0
    · have := runsF_len (c := c) l [x] x
      simp only [cond_false, List.length_cons]
      omega
    · have := runsF_len (c := c) l (g ++ [x]) x
      simp only [cond_true, List.length_cons]
      omega
theorem runs_len {c : D → D → Int} (l : List D) : (runs c l).length ≤ l.length := by
  cases l with
  | nil => exact Nat.le_refl _
  | cons x l => exact runsF_len l [x] x
theorem sp31_len (q rows : D) (hl : rows.toL.length ≤ 1000000) : (sp31 q rows).length ≤ 1000000 := by
  unfold sp31
  cases eqb ((q.at 4).toL.length : Int) 0
  · have h := runs_len (c := c70 (keyP q)) (stb (c70 (keyP q)) rows.toL)
    rw [stb_len (c70_c _)] at h
    rw [cond_false, List.length_map]
    omega
  · simp
theorem grps_len (q rows : D) (hl : rows.toL.length ≤ 1000000) : (grps q rows).length ≤ 1000000 := by
  unfold grps
  cases (q.at 5).toB
  · rw [cond_false, List.length_map]; exact hl
  · exact sp31_len q rows hl
theorem d15 {R : Type} (N : Nat) (q : D) (x5n : Bool) (l : List D) (hl : l.length ≤ 1000000) (hq : (q.at 6).toL.length ≤ 1000000) (hN : (q.at 6).toL.length < N) (hN2 : l.length < N) (Kr : D → Option R) :
    m15_25 N (.p q) x5n l Kr = Kr (.sz ((lim15 q (stb (c33 (.p q)) l)).map (row15 q))) := by
  have hsl : (stb (c33 (.p q)) l).length = l.length := stb_len (c33_c _) _
  have hpt : isPtrD (.p q) = true := rfl
  have p32 : pr32_33 (.p q) (D.sl l) = true := by
    unfold pr32_33 okA
    rw [toL_sl, leb_t (show (l.length : Int) ≤ 1000000 by omega)]; rfl
  have s32 : sp32_33_h0 (.p q) (D.sl l) = .sl (stb (c33 (.p q)) l) := rfl
  have hd : (frzD x5n (stb (c33 (.p q)) l)).toL = stb (c33 (.p q)) l := frzD_toL _ _
  have fin : ∀ d : D, d.toL.length ≤ l.length → m15_33 N (.p q) d Kr = Kr (.sz (d.toL.map (row15 q))) := fun d hdl => by
    have h := c15 N q d (by omega) hq hN (fun y8 => m15_75 N y8 Kr) d.toL.length 0 N (by omega) (by omega)
    simp only [m15_33, m15_34, m15_35, m15_36, m15_37, m15_38, m15_39]
    exact Eq.trans h rfl
  simp only [m15_25, m15_26, p32, s32, toL_sl, hsl, beq_same, Bool.and_self, cond_true, m15_27, m15_28, hpt, deref_p, hd]
  unfold lim15
  rw [hsl]
  have l00 : leb 0 0 = true := rfl
  cases h1 : leb 0 (q.at 8).toI
  · simp only [cond_false]
    rw [fin _ (by rw [hd]; omega), hd]
  · cases h2 : ltb (q.at 8).toI (l.length : Int)
    · simp only [cond_false, cond_true]
      rw [fin _ (by rw [hd]; omega), hd]
    · have h3 : leb (q.at 8).toI (l.length : Int) = true := leb_t (by have : (q.at 8).toI < (l.length : Int) := of_decide_eq_true h2; omega)
      have hc : (cutD (frzD x5n (stb (c33 (.p q)) l)) (q.at 8).toI.toNat (0 : Int).toNat).toL = (stb (c33 (.p q)) l).take (q.at 8).toI.toNat := by
        rw [toL_cut, hd]; rfl
      simp only [cond_true, h3, l00, Bool.and_self]
      rw [fin _ (by rw [hc, List.length_take]; omega), hc]
theorem ok15 : FnOk Try.prog PHI Tb15 := FnOk.add2 hPHI ok36 (by kernel_rfl) fun q rows ha hp => by
  unfold pr15 at hp
  rw [Bool.and_eq_true] at hp
  have hq : (q.at 6).toL.length ≤ 1000000 := of_decide_eq_true hp.2
  have hp31 := hp.1
  have hl : rows.toL.length ≤ 1000000 := by
    have := hp31
    unfold pr31 pr68 at this
    rw [Bool.and_eq_true, Bool.and_eq_true] at this
    exact of_decide_eq_true this.1.2
  have hg := grps_len q rows hl
  refine ⟨(q.at 6).toL.length + (grps q rows).length + rows.toL.length + 1, (r15 _ q rows).trans ?_⟩
  generalize hN : (q.at 6).toL.length + (grps q rows).length + rows.toL.length + 1 = N
  have hfin : ∀ x5n : Bool, m15_25 N (.p q) x5n (grps q rows) (fun x4 => finish vf15 .ret (s15_17 x4)) = some (.f (sp15 q rows), []) := fun x5n => by
    rw [d15 N q x5n (grps q rows) hg hq (by omega) (by omega)]
    rfl
  simp only [m15_0, m15_1, m15_2, m15_3, m15_4, m15_5, m15_6, isPtr_p, deref_p, cond_true, m15_7]
  cases hG : (q.at 5).toB
  · have e : grps q rows = rows.toL.map one15 := by unfold grps; rw [hG]; rfl
    rw [e] at hfin
    simp only [cond_false, m15_9, m15_10, m15_11, m15_12]
    have h := a15 N q rows hl (fun y2 y5 => m15_25 N y2 true y5 (fun x4 => finish vf15 .ret (s15_17 x4))) rows.toL.length 0 N (by omega) (by omega)
    exact Eq.trans h (hfin true)
  · have e : grps q rows = sp31 q rows := by unfold grps; rw [hG]; rfl
    rw [e] at hfin
    simp only [cond_true, m15_8, isPtr_p, deref_p, hp31]
    exact hfin _
end Go.Vam.C14
namespace Go.Vam.C14
open Go.Proofs
def full (q rows : D) : List D := (stb (c33 (.p q)) (grps q rows)).map (row15 q)
theorem ans_full (q rows : D) : ans15 q rows = lim15 q (full q rows) := by
  unfold ans15 full lim15
  rw [List.length_map]
  cases (bif leb 0 (q.at 8).toI then ltb (q.at 8).toI ((stb (c33 (.p q)) (grps q rows)).length : Int) else false)
  · rfl
  · rw [cond_true, cond_true, List.map_take]
theorem sp10_len {x : D} (h : (!sp10 x) = false) : x.toL.length ≤ 60 := by
  unfold sp10 at h
  cases hl : ltb 60 (x.toL.length : Int)
  · have : ¬ (60 : Int) < (x.toL.length : Int) := of_decide_eq_false hl
    omega
  · rw [hl] at h; cases h
theorem pr15_of {q rows : D} (hn : F1.ok .isN rows = true) (h1 : rows.toL.length ≤ 60) (h4 : (q.at 4).toL.length ≤ 12) (h6 : (q.at 6).toL.length ≤ 12) : pr15 q rows = true := by
  unfold pr15 pr31 pr68
  rw [hn, leN_t (show rows.toL.length ≤ 1000000 by omega), leN_t (show (q.at 4).toL.length ≤ 1000000 by omega), leN_t (show (q.at 6).toL.length ≤ 1000000 by omega)]
  rfl
end Go.Vam.C14
