/- Chapter 14: what functions come to, part 8. No conditions. -/
import Derived.Test.YtcpbgimpopcfoaaP7
import Derived.KernelRfl
set_option linter.unusedVariables false
set_option linter.unusedSimpArgs false
set_option maxRecDepth 100000
namespace Go.Vam.C14
open Go.Proofs
def itm (g n : D) : D := bif (bif leb 0 (sp35 (n.at 0) (.i 10)) then leb (n.at 0).toI 13 else false) then sp36 n (g.at 0) else sp23 n (sp34 g)
def row15 (q g : D) : D := .sz ((q.at 6).toL.map (itm g))
def one15 (r : D) : D := .ag [.sl [r]]
def grps (q rows : D) : List D := bif (q.at 5).toB then sp31 q rows else rows.toL.map one15
def lim15 (q : D) (l : List D) : List D := bif (bif leb 0 (q.at 8).toI then ltb (q.at 8).toI (l.length : Int) else false) then l.take (q.at 8).toI.toNat else l
def ans15 (q rows : D) : List D := (lim15 q (stb (c33 (.p q)) (grps q rows))).map (row15 q)
def sp15 (q rows : D) : D := .sz (ans15 q rows)
def pr15 (q rows : D) : Bool := pr31 q rows && leN (q.at 6).toL.length 1000000
section
variable {R : Type}
def m15_1 (N : Nat) (x0 x1 : D) (K : D → D → Option R) : Option R :=
  K x1 (D.p x0)
def s15_0 (x0 x1 : D) : St := sts 93 [(0, V.f x0), (1, V.f x1)] [V.u]
def s15_1 (x1 x2 : D) : St := sts 93 [(1, V.f x1), (2, V.f x2)] [V.u]
theorem e15_1 (N : Nat) (k : Kn R) (x0 x1 : D) : runC PHI Tb36 N vc15_1 (s15_0 x0 x1) k = m15_1 N x0 x1 (fun x1 x2 => k .normal (s15_1 x1 x2)) := by
  refine Eq.trans (runC_post _ _ _ k) (Eq.trans (ops_run _ _ _ _) (by kernel_rfl))
def m15_3 (N : Nat) (x1 x2 : D) (K : D → D → List D → Option R) : Option R :=
  K x1 x2 ([] : List D)
def s15_2 (x1 x2 : D) (x5 : List D) : St := sts 93 [(1, V.f x1), (2, V.f x2), (5, V.w true x5)] [V.u]
theorem e15_3 (N : Nat) (k : Kn R) (x1 x2 : D) : runC PHI Tb36 N vc15_3 (s15_1 x1 x2) k = m15_3 N x1 x2 (fun x1 x2 x5 => k .normal (s15_2 x1 x2 x5)) := by
  refine Eq.trans (runC_post _ _ _ k) (Eq.trans (ops_run _ _ _ _) (by kernel_rfl))
def m15_6 (N : Nat) (x1 x2 : D) (x5 : List D) (K : D → D → List D → D → Option R) : Option R :=
  (bif (isPtrD x2) then K x1 x2 x5 (x2.deref.at 5) else none)
def s15_3 (x1 x2 : D) (x5 : List D) (x16 : D) : St := sts 93 [(1, V.f x1), (2, V.f x2), (5, V.w true x5), (16, V.f x16)] [V.u]
theorem e15_6 (N : Nat) (k : Kn R) (x1 x2 : D) (x5 : List D) : runC PHI Tb36 N vc15_6 (s15_2 x1 x2 x5) k = m15_6 N x1 x2 x5 (fun x1 x2 x5 x16 => k .normal (s15_3 x1 x2 x5 x16)) := by
  refine Eq.trans (runC_post _ _ _ k) (Eq.trans (ops_run _ _ _ _) (by kernel_rfl))
def m15_8 (N : Nat) (x1 x2 : D) (K : D → Bool → List D → Option R) : Option R :=
  (bif (isPtrD x2) then (bif (pr31 x2.deref x1) then K x2 (sp31n x2.deref x1) (sp31 x2.deref x1) else none) else none)
def s15_4 (x2 : D) (x5n : Bool) (x5 : List D) : St := sts 93 [(2, V.f x2), (5, V.w x5n x5)] [V.u]
theorem e15_8 (N : Nat) (k : Kn R) (x1 x2 : D) : runC PHI Tb36 N vc15_8 (s15_1 x1 x2) k = m15_8 N x1 x2 (fun x2 x5n x5 => k .normal (s15_4 x2 x5n x5)) := by
  refine Eq.trans (runC_post _ _ _ k) (Eq.trans (ops_run _ _ _ _) (by kernel_rfl))
def m15_10 (N : Nat) (x1 x2 : D) (x5 : List D) (K : D → List D → D → D → D → Option R) : Option R :=
  K x2 x5 x1 (D.i (x1.toL.length : Int)) (D.i 0)
def s15_5 (x2 : D) (x5 : List D) (x20 x21 x22 : D) : St := sts 93 [(2, V.f x2), (5, V.w true x5), (20, V.f x20), (21, V.f x21), (22, V.f x22)] [V.u]
theorem e15_10 (N : Nat) (k : Kn R) (x1 x2 : D) (x5 : List D) : runC PHI Tb36 N vc15_10 (s15_2 x1 x2 x5) k = m15_10 N x1 x2 x5 (fun x2 x5 x20 x21 x22 => k .normal (s15_5 x2 x5 x20 x21 x22)) := by
  refine Eq.trans (runC_post _ _ _ k) (Eq.trans (ops_run _ _ _ _) (by kernel_rfl))
def m15_13 (N : Nat) (x2 : D) (x5 : List D) (x20 x21 x22 : D) (K : D → List D → D → D → D → Option R) (K0 : D → List D → Option R) : Option R :=
  (bif (ltb x22.toI x21.toI) then (bif (inb x22.toI x20.toL.length) then (bif (leN (x5.length + ([(D.ag [(D.sl ([(x20.at (x22.toI : Int).toNat)] : List D))])] : List D).length) 5864062014805) then K x2 (x5 ++ ([(D.ag [(D.sl ([(x20.at (x22.toI : Int).toNat)] : List D))])] : List D)) x20 x21 (D.i (IntKind.i64.wrap (x22.toI + 1))) else none) else none) else K0 x2 x5)
def s15_6 (x2 : D) (x5 : List D) : St := sts 93 [(2, V.f x2), (5, V.w true x5)] [V.u]
theorem e15_13 (N : Nat) (k : Kn R) (x2 : D) (x5 : List D) (x20 x21 x22 : D) : runC PHI Tb36 N vc15_13 (s15_5 x2 x5 x20 x21 x22) k = m15_13 N x2 x5 x20 x21 x22 (fun x2 x5 x20 x21 x22 => k .normal (s15_5 x2 x5 x20 x21 x22)) (fun x2 x5 => k (.exit 0) (s15_6 x2 x5)) := by kernel_rfl
def l15_12 (N : Nat) (j : Nat) (x2 : D) (x5 : List D) (x20 x21 x22 : D) (K0 : D → List D → Option R) : Option R :=
  match j with
  | 0 => none
  | j + 1 => (m15_13 N x2 x5 x20 x21 x22 (fun y2 y5 y20 y21 y22 => l15_12 N j y2 y5 y20 y21 y22 K0) K0)
def m15_12 (N : Nat) (x2 : D) (x5 : List D) (x20 x21 x22 : D) (K0 : D → List D → Option R) : Option R :=
  l15_12 N N x2 x5 x20 x21 x22 K0
theorem el15_12 (N : Nat) (k : Kn R) : ∀ (j : Nat) (x2 : D) (x5 : List D) (x20 x21 x22 : D), loopGo (runC PHI Tb36 N vc15_13) j (s15_5 x2 x5 x20 x21 x22) k = l15_12 N j x2 x5 x20 x21 x22 (fun x2 x5 => k (.exit 0) (s15_6 x2 x5))
  | 0, _, _, _, _, _ => by kernel_rfl
  | j + 1, x2, x5, x20, x21, x22 => by
    have h2 := e15_13 N (kloop PHI Tb36 N vc15_13 j k) x2 x5 x20 x21 x22
    have h3 : (fun (y2 : D) (y5 : List D) (y20 y21 y22 : D) => (kloop PHI Tb36 N vc15_13 j k) .normal (s15_5 y2 y5 y20 y21 y22)) = (fun (y2 : D) (y5 : List D) (y20 y21 y22 : D) => l15_12 N j y2 y5 y20 y21 y22 (fun x2 x5 => k (.exit 0) (s15_6 x2 x5))) := funext fun y2 => funext fun y5 => funext fun y20 => funext fun y21 => funext fun y22 => (el15_12 N k j y2 y5 y20 y21 y22)
    refine Eq.trans (loop_succ _ j _ k) (Eq.trans h2 (Eq.trans (congrArg (fun K => m15_13 N x2 x5 x20 x21 x22 K (fun x2 x5 => (kloop PHI Tb36 N vc15_13 j k) (.exit 0) (s15_6 x2 x5))) h3) (by kernel_rfl)))
theorem e15_12 (N : Nat) (k : Kn R) (x2 : D) (x5 : List D) (x20 x21 x22 : D) : runC PHI Tb36 N vc15_12 (s15_5 x2 x5 x20 x21 x22) k = m15_12 N x2 x5 x20 x21 x22 (fun x2 x5 => k (.exit 0) (s15_6 x2 x5)) := by
  refine Eq.trans (runC_loop _ _ k) (Eq.trans (el15_12 N k N x2 x5 x20 x21 x22) (by kernel_rfl))
def m15_11 (N : Nat) (x2 : D) (x5 : List D) (x20 x21 x22 : D) (K : D → List D → Option R) : Option R :=
  (m15_12 N x2 x5 x20 x21 x22 (fun y2 y5 => K y2 y5))
theorem e15_11 (N : Nat) (k : Kn R) (x2 : D) (x5 : List D) (x20 x21 x22 : D) : runC PHI Tb36 N vc15_11 (s15_5 x2 x5 x20 x21 x22) k = m15_11 N x2 x5 x20 x21 x22 (fun x2 x5 => k .normal (s15_6 x2 x5)) := by
  refine Eq.trans (runC_block _ _ _ k) (Eq.trans (e15_12 N (kblk 0 k) x2 x5 x20 x21 x22) (by kernel_rfl))
def m15_9 (N : Nat) (x1 x2 : D) (x5 : List D) (K : D → List D → Option R) : Option R :=
  (m15_10 N x1 x2 x5 (fun y2 y5 y20 y21 y22 => (m15_11 N y2 y5 y20 y21 y22 (fun y2 y5 => K y2 y5))))
theorem e15_9 (N : Nat) (k : Kn R) (x1 x2 : D) (x5 : List D) : runC PHI Tb36 N vc15_9 (s15_2 x1 x2 x5) k = m15_9 N x1 x2 x5 (fun x2 x5 => k .normal (s15_6 x2 x5)) := by
  have h2 := e15_10 N (kseq PHI Tb36 N vc15_11 k) x1 x2 x5
  have h3 := (funext fun y2 => funext fun y5 => funext fun y20 => funext fun y21 => funext fun y22 => (e15_11 N k y2 y5 y20 y21 y22) : (fun (y2 : D) (y5 : List D) (y20 y21 y22 : D) => (kseq PHI Tb36 N vc15_11 k) .normal (s15_5 y2 y5 y20 y21 y22)) = _)
  refine Eq.trans (runC_seq _ _ _ k) (Eq.trans h2 (Eq.trans (congrArg (fun K => m15_10 N x1 x2 x5 K) h3) (by kernel_rfl)))
def m15_7 (N : Nat) (x1 x2 : D) (x5 : List D) (x16 : D) (K : D → Bool → List D → Option R) : Option R :=
  (bif x16.toB then (m15_8 N x1 x2 (fun y2 y5n y5 => K y2 y5n y5)) else (m15_9 N x1 x2 x5 (fun y2 y5 => K y2 true y5)))
theorem e15_7 (N : Nat) (k : Kn R) (x1 x2 : D) (x5 : List D) (x16 : D) : runC PHI Tb36 N vc15_7 (s15_3 x1 x2 x5 x16) k = m15_7 N x1 x2 x5 x16 (fun x2 x5n x5 => k .normal (s15_4 x2 x5n x5)) := by
  refine Eq.trans (runC_cond (s1 := (s15_1 x1 x2)) (s2 := (s15_2 x1 x2 x5)) (d := x16) _ _ k (by kernel_rfl) (by kernel_rfl) (by kernel_rfl)) (Eq.trans (congr (congrArg (cond x16.toB) ((e15_8 N k x1 x2))) ((e15_9 N k x1 x2 x5))) (by kernel_rfl))
def m15_5 (N : Nat) (x1 x2 : D) (x5 : List D) (K : D → Bool → List D → Option R) : Option R :=
  (m15_6 N x1 x2 x5 (fun y1 y2 y5 y16 => (m15_7 N y1 y2 y5 y16 (fun y2 y5n y5 => K y2 y5n y5))))
theorem e15_5 (N : Nat) (k : Kn R) (x1 x2 : D) (x5 : List D) : runC PHI Tb36 N vc15_5 (s15_2 x1 x2 x5) k = m15_5 N x1 x2 x5 (fun x2 x5n x5 => k .normal (s15_4 x2 x5n x5)) := by
  have h2 := e15_6 N (kseq PHI Tb36 N vc15_7 k) x1 x2 x5
  have h3 := (funext fun y1 => funext fun y2 => funext fun y5 => funext fun y16 => (e15_7 N k y1 y2 y5 y16) : (fun (y1 y2 : D) (y5 : List D) (y16 : D) => (kseq PHI Tb36 N vc15_7 k) .normal (s15_3 y1 y2 y5 y16)) = _)
  refine Eq.trans (runC_seq _ _ _ k) (Eq.trans h2 (Eq.trans (congrArg (fun K => m15_6 N x1 x2 x5 K) h3) (by kernel_rfl)))
def m15_26 (N : Nat) (x2 : D) (x5n : Bool) (x5 : List D) (K : D → Bool → D → Option R) : Option R :=
  (bif ((pr32_33 x2 (D.sl x5)) && (Nat.beq x5.length (sp32_33_h0 x2 (D.sl x5)).toL.length && true)) then K x2 x5n (sp32_33_h0 x2 (D.sl x5)) else none)
def s15_7 (x2 : D) (x5n : Bool) (h0 : D) : St := sts 93 [(2, V.f x2), (5, V.ms 0 x5n)] [V.f h0]
theorem e15_26 (N : Nat) (k : Kn R) (x2 : D) (x5n : Bool) (x5 : List D) : runC PHI Tb36 N vc15_26 (s15_4 x2 x5n x5) k = m15_26 N x2 x5n x5 (fun x2 x5n h0 => k .normal (s15_7 x2 x5n h0)) := by
  refine Eq.trans (runC_pre (s1 := (s15_7 x2 x5n (D.sl x5))) (by kernel_rfl) _ _) <| Eq.trans (runC_post _ _ _ k) (Eq.trans (ops_run _ _ _ _) (by kernel_rfl))
def m15_28 (N : Nat) (x2 : D) (x5n : Bool) (h0 : D) (K : D → D → Option R) : Option R :=
  (bif (isPtrD x2) then (bif (leb 0 (x2.deref.at 8).toI) then (bif (isPtrD x2) then (bif (ltb (x2.deref.at 8).toI ((frzD x5n h0.toL).toL.length : Int)) then (bif (isPtrD x2) then (bif (leb 0 0 && leb 0 (x2.deref.at 8).toI && leb (x2.deref.at 8).toI ((frzD x5n h0.toL).toL.length : Int)) then K x2 (cutD (frzD x5n h0.toL) ((x2.deref.at 8).toI : Int).toNat (0 : Int).toNat) else none) else none) else K x2 (frzD x5n h0.toL)) else none) else (bif false then (bif (isPtrD x2) then (bif (leb 0 0 && leb 0 (x2.deref.at 8).toI && leb (x2.deref.at 8).toI ((frzD x5n h0.toL).toL.length : Int)) then K x2 (cutD (frzD x5n h0.toL) ((x2.deref.at 8).toI : Int).toNat (0 : Int).toNat) else none) else none) else K x2 (frzD x5n h0.toL))) else none)
def s15_8 (x2 x5 : D) : St := sts 93 [(2, V.f x2), (5, V.f x5)] [V.u]
theorem e15_28 (N : Nat) (k : Kn R) (x2 : D) (x5n : Bool) (h0 : D) : runC PHI Tb36 N vc15_28 (s15_7 x2 x5n h0) k = m15_28 N x2 x5n h0 (fun x2 x5 => k .normal (s15_8 x2 x5)) := by kernel_rfl
def m15_34 (N : Nat) (x2 x5 : D) (K : D → D → List D → Option R) : Option R :=
  K x2 x5 ([] : List D)
def s15_9 (x2 x5 : D) (x8 : List D) : St := sts 93 [(2, V.f x2), (5, V.f x5), (8, V.o false x8)] [V.u]
theorem e15_34 (N : Nat) (k : Kn R) (x2 x5 : D) : runC PHI Tb36 N vc15_34 (s15_8 x2 x5) k = m15_34 N x2 x5 (fun x2 x5 x8 => k .normal (s15_9 x2 x5 x8)) := by
  refine Eq.trans (runC_post _ _ _ k) (Eq.trans (ops_run _ _ _ _) (by kernel_rfl))
def m15_37 (N : Nat) (x2 x5 : D) (x8 : List D) (K : D → List D → D → D → D → Option R) : Option R :=
  K x2 x8 x5 (D.i (x5.toL.length : Int)) (D.i 0)
def s15_10 (x2 : D) (x8 : List D) (x50 x51 x52 : D) : St := sts 93 [(2, V.f x2), (8, V.o false x8), (50, V.f x50), (51, V.f x51), (52, V.f x52)] [V.u]
theorem e15_37 (N : Nat) (k : Kn R) (x2 x5 : D) (x8 : List D) : runC PHI Tb36 N vc15_37 (s15_9 x2 x5 x8) k = m15_37 N x2 x5 x8 (fun x2 x8 x50 x51 x52 => k .normal (s15_10 x2 x8 x50 x51 x52)) := by
  refine Eq.trans (runC_post _ _ _ k) (Eq.trans (ops_run _ _ _ _) (by kernel_rfl))
def m15_41 (N : Nat) (x2 : D) (x8 : List D) (x50 x51 x52 : D) (K : D → List D → D → D → D → D → Option R) : Option R :=
  K x2 x8 x50 x51 x52 (D.b (ltb x52.toI x51.toI))
def s15_11 (x2 : D) (x8 : List D) (x50 x51 x52 x53 : D) : St := sts 93 [(2, V.f x2), (8, V.o false x8), (50, V.f x50), (51, V.f x51), (52, V.f x52), (53, V.f x53)] [V.u]
theorem e15_41 (N : Nat) (k : Kn R) (x2 : D) (x8 : List D) (x50 x51 x52 : D) : runC PHI Tb36 N vc15_41 (s15_10 x2 x8 x50 x51 x52) k = m15_41 N x2 x8 x50 x51 x52 (fun x2 x8 x50 x51 x52 x53 => k .normal (s15_11 x2 x8 x50 x51 x52 x53)) := by
  refine Eq.trans (runC_post _ _ _ k) (Eq.trans (ops_run _ _ _ _) (by kernel_rfl))
def m15_43 (N : Nat) (x2 : D) (x8 : List D) (x50 x51 x52 x53 : D) (K : D → List D → D → D → D → Option R) (K2 : List D → Option R) : Option R :=
  (bif x53.toB then K x2 x8 x50 x51 x52 else K2 x8)
def s15_12 (x8 : List D) : St := sts 93 [(8, V.o false x8)] [V.u]
theorem e15_43 (N : Nat) (k : Kn R) (x2 : D) (x8 : List D) (x50 x51 x52 x53 : D) : runC PHI Tb36 N vc15_43 (s15_11 x2 x8 x50 x51 x52 x53) k = m15_43 N x2 x8 x50 x51 x52 x53 (fun x2 x8 x50 x51 x52 => k .normal (s15_10 x2 x8 x50 x51 x52)) (fun x8 => k (.exit 2) (s15_12 x8)) := by kernel_rfl
def m15_49 (N : Nat) (x2 : D) (x8 : List D) (x50 x51 x52 : D) (K : D → List D → D → D → D → D → Option R) : Option R :=
  (bif (inb x52.toI x50.toL.length) then K x2 x8 (D.p (x50.at (x52.toI : Int).toNat)) x50 x51 x52 else none)
def s15_13 (x2 : D) (x8 : List D) (x10 x50 x51 x52 : D) : St := sts 93 [(2, V.f x2), (8, V.o false x8), (10, V.f x10), (50, V.f x50), (51, V.f x51), (52, V.f x52)] [V.u]
theorem e15_49 (N : Nat) (k : Kn R) (x2 : D) (x8 : List D) (x50 x51 x52 : D) : runC PHI Tb36 N vc15_49 (s15_10 x2 x8 x50 x51 x52) k = m15_49 N x2 x8 x50 x51 x52 (fun x2 x8 x10 x50 x51 x52 => k .normal (s15_13 x2 x8 x10 x50 x51 x52)) := by
  refine Eq.trans (runC_post _ _ _ k) (Eq.trans (ops_run _ _ _ _) (by kernel_rfl))
def m15_51 (N : Nat) (x2 : D) (x8 : List D) (x10 x50 x51 x52 : D) (K : D → List D → D → List D → D → D → D → Option R) : Option R :=
  K x2 x8 x10 ([] : List D) x50 x51 x52
def s15_14 (x2 : D) (x8 : List D) (x10 : D) (x11 : List D) (x50 x51 x52 : D) : St := sts 93 [(2, V.f x2), (8, V.o false x8), (10, V.f x10), (11, V.o false x11), (50, V.f x50), (51, V.f x51), (52, V.f x52)] [V.u]
theorem e15_51 (N : Nat) (k : Kn R) (x2 : D) (x8 : List D) (x10 x50 x51 x52 : D) : runC PHI Tb36 N vc15_51 (s15_13 x2 x8 x10 x50 x51 x52) k = m15_51 N x2 x8 x10 x50 x51 x52 (fun x2 x8 x10 x11 x50 x51 x52 => k .normal (s15_14 x2 x8 x10 x11 x50 x51 x52)) := by
  refine Eq.trans (runC_post _ _ _ k) (Eq.trans (ops_run _ _ _ _) (by kernel_rfl))
def m15_54 (N : Nat) (x2 : D) (x8 : List D) (x10 : D) (x11 : List D) (x50 x51 x52 : D) (K : D → List D → D → List D → D → D → D → D → D → D → Option R) : Option R :=
  (bif (isPtrD x2) then K x2 x8 x10 x11 x50 x51 x52 (x2.deref.at 6) (D.i ((x2.deref.at 6).toL.length : Int)) (D.i 0) else none)
def s15_15 (x2 : D) (x8 : List D) (x10 : D) (x11 : List D) (x50 x51 x52 x57 x58 x59 : D) : St := sts 93 [(2, V.f x2), (8, V.o false x8), (10, V.f x10), (11, V.o false x11), (50, V.f x50), (51, V.f x51), (52, V.f x52), (57, V.f x57), (58, V.f x58), (59, V.f x59)] [V.u]
theorem e15_54 (N : Nat) (k : Kn R) (x2 : D) (x8 : List D) (x10 : D) (x11 : List D) (x50 x51 x52 : D) : runC PHI Tb36 N vc15_54 (s15_14 x2 x8 x10 x11 x50 x51 x52) k = m15_54 N x2 x8 x10 x11 x50 x51 x52 (fun x2 x8 x10 x11 x50 x51 x52 x57 x58 x59 => k .normal (s15_15 x2 x8 x10 x11 x50 x51 x52 x57 x58 x59)) := by
  refine Eq.trans (runC_post _ _ _ k) (Eq.trans (ops_run _ _ _ _) (by kernel_rfl))
def m15_57 (N : Nat) (x2 : D) (x8 : List D) (x10 : D) (x11 : List D) (x50 x51 x52 x57 x58 x59 : D) (K : D → List D → D → List D → D → D → D → D → D → D → Option R) (K4 : D → List D → List D → D → D → D → Option R) : Option R :=
  (bif (ltb x59.toI x58.toI) then (bif (inb x59.toI x57.toL.length) then (bif (leb 0 (sp35 ((x57.at (x59.toI : Int).toNat).at 0) (D.i 10))) then (bif (leb ((x57.at (x59.toI : Int).toNat).at 0).toI 13) then (bif (isPtrD x10) then (bif (pr36 (x57.at (x59.toI : Int).toNat) (x10.deref.at 0)) then (bif (leN (x11.length + ([(sp36 (x57.at (x59.toI : Int).toNat) (x10.deref.at 0))] : List D).length) 3518437208883) then K x2 x8 x10 (x11 ++ ([(sp36 (x57.at (x59.toI : Int).toNat) (x10.deref.at 0))] : List D)) x50 x51 x52 x57 x58 (D.i (IntKind.i64.wrap (x59.toI + 1))) else none) else none) else none) else (bif (isPtrD x10) then (bif (pr23 (x57.at (x59.toI : Int).toNat) (sp34 x10.deref)) then (bif (leN (x11.length + ([(sp23 (x57.at (x59.toI : Int).toNat) (sp34 x10.deref))] : List D).length) 3518437208883) then K x2 x8 x10 (x11 ++ ([(sp23 (x57.at (x59.toI : Int).toNat) (sp34 x10.deref))] : List D)) x50 x51 x52 x57 x58 (D.i (IntKind.i64.wrap (x59.toI + 1))) else none) else none) else none)) else (bif false then (bif (isPtrD x10) then (bif (pr36 (x57.at (x59.toI : Int).toNat) (x10.deref.at 0)) then (bif (leN (x11.length + ([(sp36 (x57.at (x59.toI : Int).toNat) (x10.deref.at 0))] : List D).length) 3518437208883) then K x2 x8 x10 (x11 ++ ([(sp36 (x57.at (x59.toI : Int).toNat) (x10.deref.at 0))] : List D)) x50 x51 x52 x57 x58 (D.i (IntKind.i64.wrap (x59.toI + 1))) else none) else none) else none) else (bif (isPtrD x10) then (bif (pr23 (x57.at (x59.toI : Int).toNat) (sp34 x10.deref)) then (bif (leN (x11.length + ([(sp23 (x57.at (x59.toI : Int).toNat) (sp34 x10.deref))] : List D).length) 3518437208883) then K x2 x8 x10 (x11 ++ ([(sp23 (x57.at (x59.toI : Int).toNat) (sp34 x10.deref))] : List D)) x50 x51 x52 x57 x58 (D.i (IntKind.i64.wrap (x59.toI + 1))) else none) else none) else none))) else none) else K4 x2 x8 x11 x50 x51 x52)
def s15_16 (x2 : D) (x8 x11 : List D) (x50 x51 x52 : D) : St := sts 93 [(2, V.f x2), (8, V.o false x8), (11, V.o false x11), (50, V.f x50), (51, V.f x51), (52, V.f x52)] [V.u]
theorem e15_57 (N : Nat) (k : Kn R) (x2 : D) (x8 : List D) (x10 : D) (x11 : List D) (x50 x51 x52 x57 x58 x59 : D) : runC PHI Tb36 N vc15_57 (s15_15 x2 x8 x10 x11 x50 x51 x52 x57 x58 x59) k = m15_57 N x2 x8 x10 x11 x50 x51 x52 x57 x58 x59 (fun x2 x8 x10 x11 x50 x51 x52 x57 x58 x59 => k .normal (s15_15 x2 x8 x10 x11 x50 x51 x52 x57 x58 x59)) (fun x2 x8 x11 x50 x51 x52 => k (.exit 4) (s15_16 x2 x8 x11 x50 x51 x52)) := by kernel_rfl
def l15_56 (N : Nat) (j : Nat) (x2 : D) (x8 : List D) (x10 : D) (x11 : List D) (x50 x51 x52 x57 x58 x59 : D) (K4 : D → List D → List D → D → D → D → Option R) : Option R :=
  match j with
  | 0 => none
  | j + 1 => (m15_57 N x2 x8 x10 x11 x50 x51 x52 x57 x58 x59 (fun y2 y8 y10 y11 y50 y51 y52 y57 y58 y59 => l15_56 N j y2 y8 y10 y11 y50 y51 y52 y57 y58 y59 K4) K4)
def m15_56 (N : Nat) (x2 : D) (x8 : List D) (x10 : D) (x11 : List D) (x50 x51 x52 x57 x58 x59 : D) (K4 : D → List D → List D → D → D → D → Option R) : Option R :=
  l15_56 N N x2 x8 x10 x11 x50 x51 x52 x57 x58 x59 K4
theorem el15_56 (N : Nat) (k : Kn R) : ∀ (j : Nat) (x2 : D) (x8 : List D) (x10 : D) (x11 : List D) (x50 x51 x52 x57 x58 x59 : D), loopGo (runC PHI Tb36 N vc15_57) j (s15_15 x2 x8 x10 x11 x50 x51 x52 x57 x58 x59) k = l15_56 N j x2 x8 x10 x11 x50 x51 x52 x57 x58 x59 (fun x2 x8 x11 x50 x51 x52 => k (.exit 4) (s15_16 x2 x8 x11 x50 x51 x52))
  | 0, _, _, _, _, _, _, _, _, _, _ => by kernel_rfl
  | j + 1, x2, x8, x10, x11, x50, x51, x52, x57, x58, x59 => by
    have h2 := e15_57 N (kloop PHI Tb36 N vc15_57 j k) x2 x8 x10 x11 x50 x51 x52 x57 x58 x59
    have h3 : (fun (y2 : D) (y8 : List D) (y10 : D) (y11 : List D) (y50 y51 y52 y57 y58 y59 : D) => (kloop PHI Tb36 N vc15_57 j k) .normal (s15_15 y2 y8 y10 y11 y50 y51 y52 y57 y58 y59)) = (fun (y2 : D) (y8 : List D) (y10 : D) (y11 : List D) (y50 y51 y52 y57 y58 y59 : D) => l15_56 N j y2 y8 y10 y11 y50 y51 y52 y57 y58 y59 (fun x2 x8 x11 x50 x51 x52 => k (.exit 4) (s15_16 x2 x8 x11 x50 x51 x52))) := funext fun y2 => funext fun y8 => funext fun y10 => funext fun y11 => funext fun y50 => funext fun y51 => funext fun y52 => funext fun y57 => funext fun y58 => funext fun y59 => (el15_56 N k j y2 y8 y10 y11 y50 y51 y52 y57 y58 y59)
    refine Eq.trans (loop_succ _ j _ k) (Eq.trans h2 (Eq.trans (congrArg (fun K => m15_57 N x2 x8 x10 x11 x50 x51 x52 x57 x58 x59 K (fun x2 x8 x11 x50 x51 x52 => (kloop PHI Tb36 N vc15_57 j k) (.exit 4) (s15_16 x2 x8 x11 x50 x51 x52))) h3) (by kernel_rfl)))
theorem e15_56 (N : Nat) (k : Kn R) (x2 : D) (x8 : List D) (x10 : D) (x11 : List D) (x50 x51 x52 x57 x58 x59 : D) : runC PHI Tb36 N vc15_56 (s15_15 x2 x8 x10 x11 x50 x51 x52 x57 x58 x59) k = m15_56 N x2 x8 x10 x11 x50 x51 x52 x57 x58 x59 (fun x2 x8 x11 x50 x51 x52 => k (.exit 4) (s15_16 x2 x8 x11 x50 x51 x52)) := by
  refine Eq.trans (runC_loop _ _ k) (Eq.trans (el15_56 N k N x2 x8 x10 x11 x50 x51 x52 x57 x58 x59) (by kernel_rfl))
def m15_55 (N : Nat) (x2 : D) (x8 : List D) (x10 : D) (x11 : List D) (x50 x51 x52 x57 x58 x59 : D) (K : D → List D → List D → D → D → D → Option R) : Option R :=
  (m15_56 N x2 x8 x10 x11 x50 x51 x52 x57 x58 x59 (fun y2 y8 y11 y50 y51 y52 => K y2 y8 y11 y50 y51 y52))
theorem e15_55 (N : Nat) (k : Kn R) (x2 : D) (x8 : List D) (x10 : D) (x11 : List D) (x50 x51 x52 x57 x58 x59 : D) : runC PHI Tb36 N vc15_55 (s15_15 x2 x8 x10 x11 x50 x51 x52 x57 x58 x59) k = m15_55 N x2 x8 x10 x11 x50 x51 x52 x57 x58 x59 (fun x2 x8 x11 x50 x51 x52 => k .normal (s15_16 x2 x8 x11 x50 x51 x52)) := by
  refine Eq.trans (runC_block _ _ _ k) (Eq.trans (e15_56 N (kblk 4 k) x2 x8 x10 x11 x50 x51 x52 x57 x58 x59) (by kernel_rfl))
def m15_53 (N : Nat) (x2 : D) (x8 : List D) (x10 : D) (x11 : List D) (x50 x51 x52 : D) (K : D → List D → List D → D → D → D → Option R) : Option R :=
  (m15_54 N x2 x8 x10 x11 x50 x51 x52 (fun y2 y8 y10 y11 y50 y51 y52 y57 y58 y59 => (m15_55 N y2 y8 y10 y11 y50 y51 y52 y57 y58 y59 (fun y2 y8 y11 y50 y51 y52 => K y2 y8 y11 y50 y51 y52))))
theorem e15_53 (N : Nat) (k : Kn R) (x2 : D) (x8 : List D) (x10 : D) (x11 : List D) (x50 x51 x52 : D) : runC PHI Tb36 N vc15_53 (s15_14 x2 x8 x10 x11 x50 x51 x52) k = m15_53 N x2 x8 x10 x11 x50 x51 x52 (fun x2 x8 x11 x50 x51 x52 => k .normal (s15_16 x2 x8 x11 x50 x51 x52)) := by
  have h2 := e15_54 N (kseq PHI Tb36 N vc15_55 k) x2 x8 x10 x11 x50 x51 x52
  have h3 := (funext fun y2 => funext fun y8 => funext fun y10 => funext fun y11 => funext fun y50 => funext fun y51 => funext fun y52 => funext fun y57 => funext fun y58 => funext fun y59 => (e15_55 N k y2 y8 y10 y11 y50 y51 y52 y57 y58 y59) : (fun (y2 : D) (y8 : List D) (y10 : D) (y11 : List D) (y50 y51 y52 y57 y58 y59 : D) => (kseq PHI Tb36 N vc15_55 k) .normal (s15_15 y2 y8 y10 y11 y50 y51 y52 y57 y58 y59)) = _)
  refine Eq.trans (runC_seq _ _ _ k) (Eq.trans h2 (Eq.trans (congrArg (fun K => m15_54 N x2 x8 x10 x11 x50 x51 x52 K) h3) (by kernel_rfl)))
def m15_73 (N : Nat) (x2 : D) (x8 x11 : List D) (x50 x51 x52 : D) (K : D → List D → D → D → D → Option R) : Option R :=
  (bif (leN (x8.length + ([(D.sz x11)] : List D).length) 5864062014805) then K x2 (x8 ++ ([(D.sz x11)] : List D)) x50 x51 x52 else none)
theorem e15_73 (N : Nat) (k : Kn R) (x2 : D) (x8 x11 : List D) (x50 x51 x52 : D) : runC PHI Tb36 N vc15_73 (s15_16 x2 x8 x11 x50 x51 x52) k = m15_73 N x2 x8 x11 x50 x51 x52 (fun x2 x8 x50 x51 x52 => k .normal (s15_10 x2 x8 x50 x51 x52)) := by
  refine Eq.trans (runC_post _ _ _ k) (Eq.trans (ops_run _ _ _ _) (by kernel_rfl))
def m15_52 (N : Nat) (x2 : D) (x8 : List D) (x10 : D) (x11 : List D) (x50 x51 x52 : D) (K : D → List D → D → D → D → Option R) : Option R :=
  (m15_53 N x2 x8 x10 x11 x50 x51 x52 (fun y2 y8 y11 y50 y51 y52 => (m15_73 N y2 y8 y11 y50 y51 y52 (fun y2 y8 y50 y51 y52 => K y2 y8 y50 y51 y52))))
theorem e15_52 (N : Nat) (k : Kn R) (x2 : D) (x8 : List D) (x10 : D) (x11 : List D) (x50 x51 x52 : D) : runC PHI Tb36 N vc15_52 (s15_14 x2 x8 x10 x11 x50 x51 x52) k = m15_52 N x2 x8 x10 x11 x50 x51 x52 (fun x2 x8 x50 x51 x52 => k .normal (s15_10 x2 x8 x50 x51 x52)) := by
  have h2 := e15_53 N (kseq PHI Tb36 N vc15_73 k) x2 x8 x10 x11 x50 x51 x52
  have h3 := (funext fun y2 => funext fun y8 => funext fun y11 => funext fun y50 => funext fun y51 => funext fun y52 => (e15_73 N k y2 y8 y11 y50 y51 y52) : (fun (y2 : D) (y8 y11 : List D) (y50 y51 y52 : D) => (kseq PHI Tb36 N vc15_73 k) .normal (s15_16 y2 y8 y11 y50 y51 y52)) = _)
  refine Eq.trans (runC_seq _ _ _ k) (Eq.trans h2 (Eq.trans (congrArg (fun K => m15_53 N x2 x8 x10 x11 x50 x51 x52 K) h3) (by kernel_rfl)))
def m15_50 (N : Nat) (x2 : D) (x8 : List D) (x10 x50 x51 x52 : D) (K : D → List D → D → D → D → Option R) : Option R :=
  (m15_51 N x2 x8 x10 x50 x51 x52 (fun y2 y8 y10 y11 y50 y51 y52 => (m15_52 N y2 y8 y10 y11 y50 y51 y52 (fun y2 y8 y50 y51 y52 => K y2 y8 y50 y51 y52))))
theorem e15_50 (N : Nat) (k : Kn R) (x2 : D) (x8 : List D) (x10 x50 x51 x52 : D) : runC PHI Tb36 N vc15_50 (s15_13 x2 x8 x10 x50 x51 x52) k = m15_50 N x2 x8 x10 x50 x51 x52 (fun x2 x8 x50 x51 x52 => k .normal (s15_10 x2 x8 x50 x51 x52)) := by
  have h2 := e15_51 N (kseq PHI Tb36 N vc15_52 k) x2 x8 x10 x50 x51 x52
  have h3 := (funext fun y2 => funext fun y8 => funext fun y10 => funext fun y11 => funext fun y50 => funext fun y51 => funext fun y52 => (e15_52 N k y2 y8 y10 y11 y50 y51 y52) : (fun (y2 : D) (y8 : List D) (y10 : D) (y11 : List D) (y50 y51 y52 : D) => (kseq PHI Tb36 N vc15_52 k) .normal (s15_14 y2 y8 y10 y11 y50 y51 y52)) = _)
  refine Eq.trans (runC_seq _ _ _ k) (Eq.trans h2 (Eq.trans (congrArg (fun K => m15_51 N x2 x8 x10 x50 x51 x52 K) h3) (by kernel_rfl)))
def m15_48 (N : Nat) (x2 : D) (x8 : List D) (x50 x51 x52 : D) (K : D → List D → D → D → D → Option R) : Option R :=
  (m15_49 N x2 x8 x50 x51 x52 (fun y2 y8 y10 y50 y51 y52 => (m15_50 N y2 y8 y10 y50 y51 y52 (fun y2 y8 y50 y51 y52 => K y2 y8 y50 y51 y52))))
theorem e15_48 (N : Nat) (k : Kn R) (x2 : D) (x8 : List D) (x50 x51 x52 : D) : runC PHI Tb36 N vc15_48 (s15_10 x2 x8 x50 x51 x52) k = m15_48 N x2 x8 x50 x51 x52 (fun x2 x8 x50 x51 x52 => k .normal (s15_10 x2 x8 x50 x51 x52)) := by
  have h2 := e15_49 N (kseq PHI Tb36 N vc15_50 k) x2 x8 x50 x51 x52
  have h3 := (funext fun y2 => funext fun y8 => funext fun y10 => funext fun y50 => funext fun y51 => funext fun y52 => (e15_50 N k y2 y8 y10 y50 y51 y52) : (fun (y2 : D) (y8 : List D) (y10 y50 y51 y52 : D) => (kseq PHI Tb36 N vc15_50 k) .normal (s15_13 y2 y8 y10 y50 y51 y52)) = _)
  refine Eq.trans (runC_seq _ _ _ k) (Eq.trans h2 (Eq.trans (congrArg (fun K => m15_49 N x2 x8 x50 x51 x52 K) h3) (by kernel_rfl)))
def m15_47 (N : Nat) (x2 : D) (x8 : List D) (x50 x51 x52 : D) (K : D → List D → D → D → D → Option R) : Option R :=
  (m15_48 N x2 x8 x50 x51 x52 (fun y2 y8 y50 y51 y52 => K y2 y8 y50 y51 y52))
theorem e15_47 (N : Nat) (k : Kn R) (x2 : D) (x8 : List D) (x50 x51 x52 : D) : runC PHI Tb36 N vc15_47 (s15_10 x2 x8 x50 x51 x52) k = m15_47 N x2 x8 x50 x51 x52 (fun x2 x8 x50 x51 x52 => k .normal (s15_10 x2 x8 x50 x51 x52)) := by
  refine Eq.trans (runC_block _ _ _ k) (Eq.trans (e15_48 N (kblk 3 k) x2 x8 x50 x51 x52) (by kernel_rfl))
def m15_74 (N : Nat) (x2 : D) (x8 : List D) (x50 x51 x52 : D) (K : D → List D → D → D → D → Option R) : Option R :=
  K x2 x8 x50 x51 (D.i (IntKind.i64.wrap (x52.toI + 1)))
theorem e15_74 (N : Nat) (k : Kn R) (x2 : D) (x8 : List D) (x50 x51 x52 : D) : runC PHI Tb36 N vc15_74 (s15_10 x2 x8 x50 x51 x52) k = m15_74 N x2 x8 x50 x51 x52 (fun x2 x8 x50 x51 x52 => k .normal (s15_10 x2 x8 x50 x51 x52)) := by
  refine Eq.trans (runC_post _ _ _ k) (Eq.trans (ops_run _ _ _ _) (by kernel_rfl))
def m15_46 (N : Nat) (x2 : D) (x8 : List D) (x50 x51 x52 : D) (K : D → List D → D → D → D → Option R) : Option R :=
  (m15_47 N x2 x8 x50 x51 x52 (fun y2 y8 y50 y51 y52 => (m15_74 N y2 y8 y50 y51 y52 (fun y2 y8 y50 y51 y52 => K y2 y8 y50 y51 y52))))
theorem e15_46 (N : Nat) (k : Kn R) (x2 : D) (x8 : List D) (x50 x51 x52 : D) : runC PHI Tb36 N vc15_46 (s15_10 x2 x8 x50 x51 x52) k = m15_46 N x2 x8 x50 x51 x52 (fun x2 x8 x50 x51 x52 => k .normal (s15_10 x2 x8 x50 x51 x52)) := by
  have h2 := e15_47 N (kseq PHI Tb36 N vc15_74 k) x2 x8 x50 x51 x52
  have h3 := (funext fun y2 => funext fun y8 => funext fun y50 => funext fun y51 => funext fun y52 => (e15_74 N k y2 y8 y50 y51 y52) : (fun (y2 : D) (y8 : List D) (y50 y51 y52 : D) => (kseq PHI Tb36 N vc15_74 k) .normal (s15_10 y2 y8 y50 y51 y52)) = _)
  refine Eq.trans (runC_seq _ _ _ k) (Eq.trans h2 (Eq.trans (congrArg (fun K => m15_47 N x2 x8 x50 x51 x52 K) h3) (by kernel_rfl)))
def m15_42 (N : Nat) (x2 : D) (x8 : List D) (x50 x51 x52 x53 : D) (K : D → List D → D → D → D → Option R) (K2 : List D → Option R) : Option R :=
  (m15_43 N x2 x8 x50 x51 x52 x53 (fun y2 y8 y50 y51 y52 => (m15_46 N y2 y8 y50 y51 y52 (fun y2 y8 y50 y51 y52 => K y2 y8 y50 y51 y52))) K2)
theorem e15_42 (N : Nat) (k : Kn R) (x2 : D) (x8 : List D) (x50 x51 x52 x53 : D) : runC PHI Tb36 N vc15_42 (s15_11 x2 x8 x50 x51 x52 x53) k = m15_42 N x2 x8 x50 x51 x52 x53 (fun x2 x8 x50 x51 x52 => k .normal (s15_10 x2 x8 x50 x51 x52)) (fun x8 => k (.exit 2) (s15_12 x8)) := by
  have h2 := e15_43 N (kseq PHI Tb36 N vc15_46 k) x2 x8 x50 x51 x52 x53
  have h3 := (funext fun y2 => funext fun y8 => funext fun y50 => funext fun y51 => funext fun y52 => (e15_46 N k y2 y8 y50 y51 y52) : (fun (y2 : D) (y8 : List D) (y50 y51 y52 : D) => (kseq PHI Tb36 N vc15_46 k) .normal (s15_10 y2 y8 y50 y51 y52)) = _)
  refine Eq.trans (runC_seq _ _ _ k) (Eq.trans h2 (Eq.trans (congrArg (fun K => m15_43 N x2 x8 x50 x51 x52 x53 K (fun x8 => (kseq PHI Tb36 N vc15_46 k) (.exit 2) (s15_12 x8))) h3) (by kernel_rfl)))
def m15_40 (N : Nat) (x2 : D) (x8 : List D) (x50 x51 x52 : D) (K : D → List D → D → D → D → Option R) (K2 : List D → Option R) : Option R :=
  (m15_41 N x2 x8 x50 x51 x52 (fun y2 y8 y50 y51 y52 y53 => (m15_42 N y2 y8 y50 y51 y52 y53 (fun y2 y8 y50 y51 y52 => K y2 y8 y50 y51 y52) K2)))
theorem e15_40 (N : Nat) (k : Kn R) (x2 : D) (x8 : List D) (x50 x51 x52 : D) : runC PHI Tb36 N vc15_40 (s15_10 x2 x8 x50 x51 x52) k = m15_40 N x2 x8 x50 x51 x52 (fun x2 x8 x50 x51 x52 => k .normal (s15_10 x2 x8 x50 x51 x52)) (fun x8 => k (.exit 2) (s15_12 x8)) := by
  have h2 := e15_41 N (kseq PHI Tb36 N vc15_42 k) x2 x8 x50 x51 x52
  have h3 := (funext fun y2 => funext fun y8 => funext fun y50 => funext fun y51 => funext fun y52 => funext fun y53 => (e15_42 N k y2 y8 y50 y51 y52 y53) : (fun (y2 : D) (y8 : List D) (y50 y51 y52 y53 : D) => (kseq PHI Tb36 N vc15_42 k) .normal (s15_11 y2 y8 y50 y51 y52 y53)) = _)
  refine Eq.trans (runC_seq _ _ _ k) (Eq.trans h2 (Eq.trans (congrArg (fun K => m15_41 N x2 x8 x50 x51 x52 K) h3) (by kernel_rfl)))
def l15_39 (N : Nat) (j : Nat) (x2 : D) (x8 : List D) (x50 x51 x52 : D) (K2 : List D → Option R) : Option R :=
  match j with
  | 0 => none
  | j + 1 => (m15_40 N x2 x8 x50 x51 x52 (fun y2 y8 y50 y51 y52 => l15_39 N j y2 y8 y50 y51 y52 K2) K2)
def m15_39 (N : Nat) (x2 : D) (x8 : List D) (x50 x51 x52 : D) (K2 : List D → Option R) : Option R :=
  l15_39 N N x2 x8 x50 x51 x52 K2
theorem el15_39 (N : Nat) (k : Kn R) : ∀ (j : Nat) (x2 : D) (x8 : List D) (x50 x51 x52 : D), loopGo (runC PHI Tb36 N vc15_40) j (s15_10 x2 x8 x50 x51 x52) k = l15_39 N j x2 x8 x50 x51 x52 (fun x8 => k (.exit 2) (s15_12 x8))
  | 0, _, _, _, _, _ => by kernel_rfl
  | j + 1, x2, x8, x50, x51, x52 => by
    have h2 := e15_40 N (kloop PHI Tb36 N vc15_40 j k) x2 x8 x50 x51 x52
    have h3 : (fun (y2 : D) (y8 : List D) (y50 y51 y52 : D) => (kloop PHI Tb36 N vc15_40 j k) .normal (s15_10 y2 y8 y50 y51 y52)) = (fun (y2 : D) (y8 : List D) (y50 y51 y52 : D) => l15_39 N j y2 y8 y50 y51 y52 (fun x8 => k (.exit 2) (s15_12 x8))) := funext fun y2 => funext fun y8 => funext fun y50 => funext fun y51 => funext fun y52 => (el15_39 N k j y2 y8 y50 y51 y52)
    refine Eq.trans (loop_succ _ j _ k) (Eq.trans h2 (Eq.trans (congrArg (fun K => m15_40 N x2 x8 x50 x51 x52 K (fun x8 => (kloop PHI Tb36 N vc15_40 j k) (.exit 2) (s15_12 x8))) h3) (by kernel_rfl)))
theorem e15_39 (N : Nat) (k : Kn R) (x2 : D) (x8 : List D) (x50 x51 x52 : D) : runC PHI Tb36 N vc15_39 (s15_10 x2 x8 x50 x51 x52) k = m15_39 N x2 x8 x50 x51 x52 (fun x8 => k (.exit 2) (s15_12 x8)) := by
  refine Eq.trans (runC_loop _ _ k) (Eq.trans (el15_39 N k N x2 x8 x50 x51 x52) (by kernel_rfl))
def m15_38 (N : Nat) (x2 : D) (x8 : List D) (x50 x51 x52 : D) (K : List D → Option R) : Option R :=
  (m15_39 N x2 x8 x50 x51 x52 (fun y8 => K y8))
theorem e15_38 (N : Nat) (k : Kn R) (x2 : D) (x8 : List D) (x50 x51 x52 : D) : runC PHI Tb36 N vc15_38 (s15_10 x2 x8 x50 x51 x52) k = m15_38 N x2 x8 x50 x51 x52 (fun x8 => k .normal (s15_12 x8)) := by
  refine Eq.trans (runC_block _ _ _ k) (Eq.trans (e15_39 N (kblk 2 k) x2 x8 x50 x51 x52) (by kernel_rfl))
def m15_36 (N : Nat) (x2 x5 : D) (x8 : List D) (K : List D → Option R) : Option R :=
  (m15_37 N x2 x5 x8 (fun y2 y8 y50 y51 y52 => (m15_38 N y2 y8 y50 y51 y52 (fun y8 => K y8))))
theorem e15_36 (N : Nat) (k : Kn R) (x2 x5 : D) (x8 : List D) : runC PHI Tb36 N vc15_36 (s15_9 x2 x5 x8) k = m15_36 N x2 x5 x8 (fun x8 => k .normal (s15_12 x8)) := by
  have h2 := e15_37 N (kseq PHI Tb36 N vc15_38 k) x2 x5 x8
  have h3 := (funext fun y2 => funext fun y8 => funext fun y50 => funext fun y51 => funext fun y52 => (e15_38 N k y2 y8 y50 y51 y52) : (fun (y2 : D) (y8 : List D) (y50 y51 y52 : D) => (kseq PHI Tb36 N vc15_38 k) .normal (s15_10 y2 y8 y50 y51 y52)) = _)
  refine Eq.trans (runC_seq _ _ _ k) (Eq.trans h2 (Eq.trans (congrArg (fun K => m15_37 N x2 x5 x8 K) h3) (by kernel_rfl)))
def m15_75 (N : Nat) (x8 : List D) (Kr : D → Option R) : Option R :=
  Kr (D.sz x8)
def s15_17 (x4 : D) : St := sts 93 [(4, V.f x4)] [V.u]
theorem e15_75 (N : Nat) (k : Kn R) (x8 : List D) : runC PHI Tb36 N vc15_75 (s15_12 x8) k = m15_75 N x8 (fun x4 => k .ret (s15_17 x4)) := by kernel_rfl
def m15_35 (N : Nat) (x2 x5 : D) (x8 : List D) (Kr : D → Option R) : Option R :=
  (m15_36 N x2 x5 x8 (fun y8 => (m15_75 N y8 Kr)))
theorem e15_35 (N : Nat) (k : Kn R) (x2 x5 : D) (x8 : List D) : runC PHI Tb36 N vc15_35 (s15_9 x2 x5 x8) k = m15_35 N x2 x5 x8 (fun x4 => k .ret (s15_17 x4)) := by
  have h2 := e15_36 N (kseq PHI Tb36 N vc15_75 k) x2 x5 x8
  have h3 := (funext fun y8 => (e15_75 N k y8) : (fun (y8 : List D) => (kseq PHI Tb36 N vc15_75 k) .normal (s15_12 y8)) = _)
  refine Eq.trans (runC_seq _ _ _ k) (Eq.trans h2 (Eq.trans (congrArg (fun K => m15_36 N x2 x5 x8 K) h3) (by kernel_rfl)))
def m15_33 (N : Nat) (x2 x5 : D) (Kr : D → Option R) : Option R :=
  (m15_34 N x2 x5 (fun y2 y5 y8 => (m15_35 N y2 y5 y8 Kr)))
theorem e15_33 (N : Nat) (k : Kn R) (x2 x5 : D) : runC PHI Tb36 N vc15_33 (s15_8 x2 x5) k = m15_33 N x2 x5 (fun x4 => k .ret (s15_17 x4)) := by
  have h2 := e15_34 N (kseq PHI Tb36 N vc15_35 k) x2 x5
  have h3 := (funext fun y2 => funext fun y5 => funext fun y8 => (e15_35 N k y2 y5 y8) : (fun (y2 y5 : D) (y8 : List D) => (kseq PHI Tb36 N vc15_35 k) .normal (s15_9 y2 y5 y8)) = _)
  refine Eq.trans (runC_seq _ _ _ k) (Eq.trans h2 (Eq.trans (congrArg (fun K => m15_34 N x2 x5 K) h3) (by kernel_rfl)))
def m15_27 (N : Nat) (x2 : D) (x5n : Bool) (h0 : D) (Kr : D → Option R) : Option R :=
  (m15_28 N x2 x5n h0 (fun y2 y5 => (m15_33 N y2 y5 Kr)))
theorem e15_27 (N : Nat) (k : Kn R) (x2 : D) (x5n : Bool) (h0 : D) : runC PHI Tb36 N vc15_27 (s15_7 x2 x5n h0) k = m15_27 N x2 x5n h0 (fun x4 => k .ret (s15_17 x4)) := by
  have h2 := e15_28 N (kseq PHI Tb36 N vc15_33 k) x2 x5n h0
  have h3 := (funext fun y2 => funext fun y5 => (e15_33 N k y2 y5) : (fun (y2 y5 : D) => (kseq PHI Tb36 N vc15_33 k) .normal (s15_8 y2 y5)) = _)
  refine Eq.trans (runC_seq _ _ _ k) (Eq.trans h2 (Eq.trans (congrArg (fun K => m15_28 N x2 x5n h0 K) h3) (by kernel_rfl)))
def m15_25 (N : Nat) (x2 : D) (x5n : Bool) (x5 : List D) (Kr : D → Option R) : Option R :=
  (m15_26 N x2 x5n x5 (fun y2 y5n h0 => (m15_27 N y2 y5n h0 Kr)))
theorem e15_25 (N : Nat) (k : Kn R) (x2 : D) (x5n : Bool) (x5 : List D) : runC PHI Tb36 N vc15_25 (s15_4 x2 x5n x5) k = m15_25 N x2 x5n x5 (fun x4 => k .ret (s15_17 x4)) := by
  have h2 := e15_26 N (kseq PHI Tb36 N vc15_27 k) x2 x5n x5
  have h3 := (funext fun y2 => funext fun y5n => funext fun h0 => (e15_27 N k y2 y5n h0) : (fun (y2 : D) (y5n : Bool) (h0 : D) => (kseq PHI Tb36 N vc15_27 k) .normal (s15_7 y2 y5n h0)) = _)
  refine Eq.trans (runC_seq _ _ _ k) (Eq.trans h2 (Eq.trans (congrArg (fun K => m15_26 N x2 x5n x5 K) h3) (by kernel_rfl)))
def m15_4 (N : Nat) (x1 x2 : D) (x5 : List D) (Kr : D → Option R) : Option R :=
  (m15_5 N x1 x2 x5 (fun y2 y5n y5 => (m15_25 N y2 y5n y5 Kr)))
theorem e15_4 (N : Nat) (k : Kn R) (x1 x2 : D) (x5 : List D) : runC PHI Tb36 N vc15_4 (s15_2 x1 x2 x5) k = m15_4 N x1 x2 x5 (fun x4 => k .ret (s15_17 x4)) := by
  have h2 := e15_5 N (kseq PHI Tb36 N vc15_25 k) x1 x2 x5
  have h3 := (funext fun y2 => funext fun y5n => funext fun y5 => (e15_25 N k y2 y5n y5) : (fun (y2 : D) (y5n : Bool) (y5 : List D) => (kseq PHI Tb36 N vc15_25 k) .normal (s15_4 y2 y5n y5)) = _)
  refine Eq.trans (runC_seq _ _ _ k) (Eq.trans h2 (Eq.trans (congrArg (fun K => m15_5 N x1 x2 x5 K) h3) (by kernel_rfl)))
def m15_2 (N : Nat) (x1 x2 : D) (Kr : D → Option R) : Option R :=
  (m15_3 N x1 x2 (fun y1 y2 y5 => (m15_4 N y1 y2 y5 Kr)))
theorem e15_2 (N : Nat) (k : Kn R) (x1 x2 : D) : runC PHI Tb36 N vc15_2 (s15_1 x1 x2) k = m15_2 N x1 x2 (fun x4 => k .ret (s15_17 x4)) := by
  have h2 := e15_3 N (kseq PHI Tb36 N vc15_4 k) x1 x2
  have h3 := (funext fun y1 => funext fun y2 => funext fun y5 => (e15_4 N k y1 y2 y5) : (fun (y1 y2 : D) (y5 : List D) => (kseq PHI Tb36 N vc15_4 k) .normal (s15_2 y1 y2 y5)) = _)
  refine Eq.trans (runC_seq _ _ _ k) (Eq.trans h2 (Eq.trans (congrArg (fun K => m15_3 N x1 x2 K) h3) (by kernel_rfl)))
def m15_0 (N : Nat) (x0 x1 : D) (Kr : D → Option R) : Option R :=
  (m15_1 N x0 x1 (fun y1 y2 => (m15_2 N y1 y2 Kr)))
theorem e15_0 (N : Nat) (k : Kn R) (x0 x1 : D) : runC PHI Tb36 N vc15_0 (s15_0 x0 x1) k = m15_0 N x0 x1 (fun x4 => k .ret (s15_17 x4)) := by
  have h2 := e15_1 N (kseq PHI Tb36 N vc15_2 k) x0 x1
  have h3 := (funext fun y1 => funext fun y2 => (e15_2 N k y1 y2) : (fun (y1 y2 : D) => (kseq PHI Tb36 N vc15_2 k) .normal (s15_1 y1 y2)) = _)
  refine Eq.trans (runC_seq _ _ _ k) (Eq.trans h2 (Eq.trans (congrArg (fun K => m15_1 N x0 x1 K) h3) (by kernel_rfl)))
theorem r15 (N : Nat) (x0 x1 : D) : runC PHI Tb36 N vf15.body (enterV vf15 [V.f x0, V.f x1] []) (finish vf15) = m15_0 N x0 x1 (fun x4 => finish vf15 .ret (s15_17 x4)) := 
  Eq.trans (runC_pre (s1 := (s15_0 x0 x1)) (by kernel_rfl) _ _) (Eq.trans (e15_0 N (finish vf15) x0 x1) (by kernel_rfl))
end
noncomputable def Tb15 : CallF := extend Tb36 15 (fn2 pr15 fun q r => .f (sp15 q r))
theorem take_map {α β : Type} (f : α → β) (l : List α) {i : Nat} (h : i < l.length) : (l.take i).map f ++ [f l[i]] = (l.take (i + 1)).map f := by
  rw [List.take_add_one, List.map_append, List.getElem?_eq_getElem h]
  rfl
theorem a15 {R : Type} (N : Nat) (q : D) (rows : D) (hl : rows.toL.length ≤ 1000000) (K0 : D → List D → Option R) : ∀ k i J, i + k = rows.toL.length → k < J →
    l15_12 N J (.p q) ((rows.toL.take i).map one15) rows (.i (rows.toL.length : Int)) (.i (i : Int)) K0 = K0 (.p q) (rows.toL.map one15)
  | _, _, 0, _, h => by omega
  | 0, i, J + 1, h, _ => by
    have : i = rows.toL.length := by omega
    subst this
    simp only [l15_12, m15_13, toI_i, ltb_self, cond_false, List.take_length]
  | k + 1, i, J + 1, h, h' => by
    have hi : i < rows.toL.length := by omega
    have hat : rows.at i = rows.toL[i] := getD_at hi
    have e : (rows.toL.take i).map one15 ++ [.ag [.sl [rows.toL[i]]]] = (rows.toL.take (i + 1)).map one15 := take_map one15 rows.toL hi
    have e2 : leN (((rows.toL.take i).map one15).length + ([(D.ag [(D.sl ([rows.toL[i]] : List D))])] : List D).length) 5864062014805 = true := leN_t (by
      rw [List.length_map, List.length_take, List.length_singleton]; omega)
    simp only [l15_12, m15_13, toI_i, ltb_n hi, cond_true, inb_t hi, Int.toNat_natCast, hat, e2, e, succ_n hi (show rows.toL.length ≤ 9223372036854775807 by omega)]
    exact a15 N q rows hl K0 k (i + 1) J (by omega) (by omega)
theorem b15 {R : Type} (N : Nat) (q g x50 x51 x52 : D) (x8 : List D) (l : D) (hl : l.toL.length ≤ 1000000) (K4 : D → List D → List D → D → D → D → Option R) : ∀ k i J, i + k = l.toL.length → k < J →
    l15_56 N J (.p q) x8 (.p g) ((l.toL.take i).map (itm g)) x50 x51 x52 l (.i (l.toL.length : Int)) (.i (i : Int)) K4 = K4 (.p q) x8 (l.toL.map (itm g)) x50 x51 x52
  | _, _, 0, _, h => by omega
  | 0, i, J + 1, h, _ => by
    have : i = l.toL.length := by omega
    subst this
    simp only [l15_56, m15_57, toI_i, ltb_self, cond_false, List.take_length]
  | k + 1, i, J + 1, h, h' => by
    have hi : i < l.toL.length := by omega
    have hat : l.at i = l.toL[i] := getD_at hi
    have e := take_map (itm g) l.toL hi
    have e2 : ∀ x : D, leN (((l.toL.take i).map (itm g)).length + ([x] : List D).length) 3518437208883 = true := fun x => leN_t (by
      rw [List.length_map, List.length_take, List.length_singleton]; omega)
    have r := b15 N q g x50 x51 x52 x8 l hl K4 k (i + 1) J (by omega) (by omega)
    rw [← e] at r
    have hi' : itm g l.toL[i] = bif (bif leb 0 (sp35 (l.toL[i].at 0) (.i 10)) then leb (l.toL[i].at 0).toI 13 else false) then sp36 l.toL[i] (g.at 0) else sp23 l.toL[i] (sp34 g) := rfl
    simp only [l15_56, m15_57, toI_i, ltb_n hi, cond_true, inb_t hi, Int.toNat_natCast, hat, isPtr_p, deref_p, pr23, pr36, e2, succ_n hi (show l.toL.length ≤ 9223372036854775807 by omega)]
    rw [hi'] at r
    revert r
    cases leb 0 (sp35 (l.toL[i].at 0) (.i 10)) <;> cases leb (l.toL[i].at 0).toI 13 <;> exact fun r => r
theorem c15 {R : Type} (N : Nat) (q d : D) (hl : d.toL.length ≤ 1000000) (hq : (q.at 6).toL.length ≤ 1000000) (hN : (q.at 6).toL.length < N) (K2 : List D → Option R) : ∀ k i J, i + k = d.toL.length → k < J →
    l15_39 N J (.p q) ((d.toL.take i).map (row15 q)) d (.i (d.toL.length : Int)) (.i (i : Int)) K2 = K2 (d.toL.map (row15 q))
  | _, _, 0, _, h => by omega
  | 0, i, J + 1, h, _ => by
    have : i = d.toL.length := by omega
    subst this
    simp only [l15_39, m15_40, m15_41, m15_42, m15_43, toB_b, toI_i, ltb_self, cond_false, List.take_length]
  | k + 1, i, J + 1, h, h' => by
    have hi : i < d.toL.length := by omega
    have hat : d.at i = d.toL[i] := getD_at hi
    have e : (d.toL.take i).map (row15 q) ++ [.sz ((q.at 6).toL.map (itm d.toL[i]))] = (d.toL.take (i + 1)).map (row15 q) := take_map (row15 q) d.toL hi
    have e2 : leN (((d.toL.take i).map (row15 q)).length + ([(D.sz ((q.at 6).toL.map (itm d.toL[i])))] : List D).length) 5864062014805 = true := leN_t (by
      rw [List.length_map, List.length_take, List.length_singleton]; omega)
    have rb := b15 N q d.toL[i] d (.i (d.toL.length : Int)) (.i (i : Int)) ((d.toL.take i).map (row15 q)) (q.at 6) hq (fun y2 y8 y11 y50 y51 y52 => m15_73 N y2 y8 y11 y50 y51 y52 (fun y2 y8 y50 y51 y52 => m15_74 N y2 y8 y50 y51 y52 (fun y2 y8 y50 y51 y52 => l15_39 N J y2 y8 y50 y51 y52 K2))) (q.at 6).toL.length 0 N (by omega) (by omega)
    simp only [l15_39, m15_40, m15_41, m15_42, m15_43, toB_b, toI_i, ltb_n hi, cond_true, m15_46, m15_47, m15_48, m15_49, inb_t hi, Int.toNat_natCast, hat, m15_50, m15_51, m15_52, m15_53, m15_54, isPtr_p, deref_p, m15_55, m15_56]
    refine Eq.trans rb ?_
    simp only [m15_73, e2, cond_true, e, m15_74, toI_i, succ_n hi (show d.toL.length ≤ 9223372036854775807 by omega)]
    exact c15 N q d hl hq hN K2 k (i + 1) J (by omega) (by omega)
theorem runsF_len {c : D → D → Int} : ∀ (l g : List D) (p : D), (runsF c g p l).length ≤ l.length + 1
  | [], g, p => by simp [runsF]
  | x :: l, g, p => by
    rw [runsF]
    cases eqb (c p x) 0
    · have := runsF_len (c := c) l [x] x
      simp only [cond_false, List.length_cons]
      omega
    · have := runsF_len (c := c) l (g ++ [x]) x
      simp only [cond_true, List.length_cons]
      omega
theorem runs_len {c : D → D → Int} (l : List D) : (runs c l).length ≤ l.length := by
  cases l with
  | nil => exact Nat.le_refl _
  | cons x l => exact runsF_len l [x] x
theorem sp31_len (q rows : D) (hl : rows.toL.length ≤ 1000000) : (sp31 q rows).length ≤ 1000000 := by
  unfold sp31
  cases eqb ((q.at 4).toL.length : Int) 0
  · have h := runs_len (c := c70 (keyP q)) (stb (c70 (keyP q)) rows.toL)
    rw [stb_len (c70_c _)] at h
    rw [cond_false, List.length_map]
    omega
  · simp
theorem grps_len (q rows : D) (hl : rows.toL.length ≤ 1000000) : (grps q rows).length ≤ 1000000 := by
  unfold grps
  cases (q.at 5).toB
  · rw [cond_false, List.length_map]; exact hl
  · exact sp31_len q rows hl
theorem d15 {R : Type} (N : Nat) (q : D) (x5n : Bool) (l : List D) (hl : l.length ≤ 1000000) (hq : (q.at 6).toL.length ≤ 1000000) (hN : (q.at 6).toL.length < N) (hN2 : l.length < N) (Kr : D → Option R) :
    m15_25 N (.p q) x5n l Kr = Kr (.sz ((lim15 q (stb (c33 (.p q)) l)).map (row15 q))) := by
  have hsl : (stb (c33 (.p q)) l).length = l.length := stb_len (c33_c _) _
  have hpt : isPtrD (.p q) = true := rfl
  have p32 : pr32_33 (.p q) (D.sl l) = true := by
    unfold pr32_33 okA
    rw [toL_sl, leb_t (show (l.length : Int) ≤ 1000000 by omega)]; rfl
  have s32 : sp32_33_h0 (.p q) (D.sl l) = .sl (stb (c33 (.p q)) l) := rfl
  have hd : (frzD x5n (stb (c33 (.p q)) l)).toL = stb (c33 (.p q)) l := frzD_toL _ _
  have fin : ∀ d : D, d.toL.length ≤ l.length → m15_33 N (.p q) d Kr = Kr (.sz (d.toL.map (row15 q))) := fun d hdl => by
    have h := c15 N q d (by omega) hq hN (fun y8 => m15_75 N y8 Kr) d.toL.length 0 N (by omega) (by omega)
    simp only [m15_33, m15_34, m15_35, m15_36, m15_37, m15_38, m15_39]
    exact Eq.trans h rfl
  simp only [m15_25, m15_26, p32, s32, toL_sl, hsl, beq_same, Bool.and_self, cond_true, m15_27, m15_28, hpt, deref_p, hd]
  unfold lim15
  rw [hsl]
  have l00 : leb 0 0 = true := rfl
  cases h1 : leb 0 (q.at 8).toI
  · simp only [cond_false]
    rw [fin _ (by rw [hd]; omega), hd]
  · cases h2 : ltb (q.at 8).toI (l.length : Int)
    · simp only [cond_false, cond_true]
      rw [fin _ (by rw [hd]; omega), hd]
    · have h3 : leb (q.at 8).toI (l.length : Int) = true := leb_t (by have : (q.at 8).toI < (l.length : Int) := of_decide_eq_true h2; omega)
      have hc : (cutD (frzD x5n (stb (c33 (.p q)) l)) (q.at 8).toI.toNat (0 : Int).toNat).toL = (stb (c33 (.p q)) l).take (q.at 8).toI.toNat := by
        rw [toL_cut, hd]; rfl
      simp only [cond_true, h3, l00, Bool.and_self]
      rw [fin _ (by rw [hc, List.length_take]; omega), hc]
theorem ok15 : FnOk Try.prog PHI Tb15 := FnOk.add2 hPHI ok36 (by kernel_rfl) fun q rows ha hp => by
  unfold pr15 at hp
  rw [Bool.and_eq_true] at hp
  have hq : (q.at 6).toL.length ≤ 1000000 := of_decide_eq_true hp.2
  have hp31 := hp.1
  have hl : rows.toL.length ≤ 1000000 := by
    have := hp31
    unfold pr31 pr68 at this
    rw [Bool.and_eq_true, Bool.and_eq_true] at this
    exact of_decide_eq_true this.1.2
  have hg := grps_len q rows hl
  refine ⟨(q.at 6).toL.length + (grps q rows).length + rows.toL.length + 1, (r15 _ q rows).trans ?_⟩
  generalize hN : (q.at 6).toL.length + (grps q rows).length + rows.toL.length + 1 = N
  have hfin : ∀ x5n : Bool, m15_25 N (.p q) x5n (grps q rows) (fun x4 => finish vf15 .ret (s15_17 x4)) = some (.f (sp15 q rows), []) := fun x5n => by
    rw [d15 N q x5n (grps q rows) hg hq (by omega) (by omega)]
    rfl
  simp only [m15_0, m15_1, m15_2, m15_3, m15_4, m15_5, m15_6, isPtr_p, deref_p, cond_true, m15_7]
  cases hG : (q.at 5).toB
  · have e : grps q rows = rows.toL.map one15 := by unfold grps; rw [hG]; rfl
    rw [e] at hfin
    simp only [cond_false, m15_9, m15_10, m15_11, m15_12]
    have h := a15 N q rows hl (fun y2 y5 => m15_25 N y2 true y5 (fun x4 => finish vf15 .ret (s15_17 x4))) rows.toL.length 0 N (by omega) (by omega)
    exact Eq.trans h (hfin true)
  · have e : grps q rows = sp31 q rows := by unfold grps; rw [hG]; rfl
    rw [e] at hfin
    simp only [cond_true, m15_8, isPtr_p, deref_p, hp31]
    exact hfin _
end Go.Vam.C14
namespace Go.Vam.C14
open Go.Proofs
def sp16 (q : D) : Bool := sp21 (q.at 6) && (sp21 (q.at 3) && (leb ((q.at 4).toL.length : Int) 12 && leb ((q.at 7).toL.length : Int) 12))
section
variable {R : Type}
def m16_0 (N : Nat) (x0 : D) (Kr : D → Option R) : Option R :=
  (bif (sp21 (x0.at 6)) then (bif (sp21 (x0.at 3)) then (bif (leb ((x0.at 4).toL.length : Int) 12) then Kr (D.b (leb ((x0.at 7).toL.length : Int) 12)) else Kr (D.b false)) else Kr (D.b false)) else Kr (D.b false))
def s16_0 (x0 : D) : St := sts 23 [(0, V.f x0)] []
def s16_1 (x2 : D) : St := sts 23 [(2, V.f x2)] []
theorem e16_0 (N : Nat) (k : Kn R) (x0 : D) : runC PHI Tb15 N vc16_0 (s16_0 x0) k = m16_0 N x0 (fun x2 => k .ret (s16_1 x2)) := by kernel_rfl
theorem r16 (N : Nat) (x0 : D) : runC PHI Tb15 N vf16.body (enterV vf16 [V.f x0] []) (finish vf16) = m16_0 N x0 (fun x2 => finish vf16 .ret (s16_1 x2)) := 
  Eq.trans (runC_pre (s1 := (s16_0 x0)) (by kernel_rfl) _ _) (Eq.trans (e16_0 N (finish vf16) x0) (by kernel_rfl))
end
noncomputable def Tb16 : CallF := extend Tb15 16 (fn1 (fun _ => true) fun q => .f (.b (sp16 q)))
theorem ok16 : FnOk Try.prog PHI Tb16 := FnOk.add1 hPHI ok15 (by kernel_rfl) fun q _ _ => ⟨0, (r16 _ q).trans (by
  unfold m16_0 sp16
  cases sp21 (q.at 6) <;> cases sp21 (q.at 3) <;> cases leb ((q.at 4).toL.length : Int) 12 <;> cases leb ((q.at 7).toL.length : Int) 12 <;> rfl)⟩
def badV (x y : D) (k : Nat) : Bool := !sp22 (x.toL.getD k .nil) (y.toL.getD k .nil)
def badR2 (x y : D) (i : Nat) : Bool := bif !eqb ((x.toL.getD i .nil).toL.length : Int) ((y.toL.getD i .nil).toL.length : Int) then true else leb 0 (fst (badV (x.toL.getD i .nil) (y.toL.getD i .nil)) (x.toL.getD i .nil).toL.length 0)
def sp17 (x y : D) : Bool := bif !eqb (x.toL.length : Int) (y.toL.length : Int) then false else !leb 0 (fst (badR2 x y) x.toL.length 0)
section
variable {R : Type}
def m17_1 (N : Nat) (x0 x1 : D) (K : D → D → Option R) : Option R :=
  K x0 x1
def s17_0 (x0 x1 : D) : St := sts 54 [(0, V.f x0), (1, V.f x1)] []
theorem e17_1 (N : Nat) (k : Kn R) (x0 x1 : D) : runC PHI Tb16 N vc17_1 (s17_0 x0 x1) k = m17_1 N x0 x1 (fun x0 x1 => k .normal (s17_0 x0 x1)) := by
  refine Eq.trans (runC_post _ _ _ k) (Eq.trans (ops_run _ _ _ _) (by kernel_rfl))
def m17_3 (N : Nat) (x0 x1 : D) (K : D → D → Option R) (Kr : D → Option R) : Option R :=
  (bif (!eqb (x0.toL.length : Int) (x1.toL.length : Int)) then Kr (D.b false) else K x0 x1)
def s17_1 (x4 : D) : St := sts 54 [(4, V.f x4)] []
theorem e17_3 (N : Nat) (k : Kn R) (x0 x1 : D) : runC PHI Tb16 N vc17_3 (s17_0 x0 x1) k = m17_3 N x0 x1 (fun x0 x1 => k .normal (s17_0 x0 x1)) (fun x4 => k .ret (s17_1 x4)) := by kernel_rfl
def m17_12 (N : Nat) (x0 x1 : D) (K : D → D → D → D → Option R) : Option R :=
  K x0 x1 (D.i (x0.toL.length : Int)) (D.i 0)
def s17_2 (x0 x1 x13 x14 : D) : St := sts 54 [(0, V.f x0), (1, V.f x1), (13, V.f x13), (14, V.f x14)] []
theorem e17_12 (N : Nat) (k : Kn R) (x0 x1 : D) : runC PHI Tb16 N vc17_12 (s17_0 x0 x1) k = m17_12 N x0 x1 (fun x0 x1 x13 x14 => k .normal (s17_2 x0 x1 x13 x14)) := by
  refine Eq.trans (runC_post _ _ _ k) (Eq.trans (ops_run _ _ _ _) (by kernel_rfl))
def m17_16 (N : Nat) (x0 x1 x13 x14 : D) (K : D → D → D → D → D → Option R) : Option R :=
  K x0 x1 x13 x14 (D.b (ltb x14.toI x13.toI))
def s17_3 (x0 x1 x13 x14 x15 : D) : St := sts 54 [(0, V.f x0), (1, V.f x1), (13, V.f x13), (14, V.f x14), (15, V.f x15)] []
theorem e17_16 (N : Nat) (k : Kn R) (x0 x1 x13 x14 : D) : runC PHI Tb16 N vc17_16 (s17_2 x0 x1 x13 x14) k = m17_16 N x0 x1 x13 x14 (fun x0 x1 x13 x14 x15 => k .normal (s17_3 x0 x1 x13 x14 x15)) := by
  refine Eq.trans (runC_post _ _ _ k) (Eq.trans (ops_run _ _ _ _) (by kernel_rfl))
def m17_18 (N : Nat) (x0 x1 x13 x14 x15 : D) (K : D → D → D → D → Option R) (K0 : Option R) : Option R :=
  (bif x15.toB then K x0 x1 x13 x14 else K0)
def s17_4 : St := sts 54 [] []
theorem e17_18 (N : Nat) (k : Kn R) (x0 x1 x13 x14 x15 : D) : runC PHI Tb16 N vc17_18 (s17_3 x0 x1 x13 x14 x15) k = m17_18 N x0 x1 x13 x14 x15 (fun x0 x1 x13 x14 => k .normal (s17_2 x0 x1 x13 x14)) (k (.exit 0) s17_4) := by kernel_rfl
def m17_24 (N : Nat) (x0 x1 x13 x14 : D) (K : D → D → D → D → D → Option R) : Option R :=
  K x0 x1 x14 x13 x14
def s17_5 (x0 x1 x5 x13 x14 : D) : St := sts 54 [(0, V.f x0), (1, V.f x1), (5, V.f x5), (13, V.f x13), (14, V.f x14)] []
theorem e17_24 (N : Nat) (k : Kn R) (x0 x1 x13 x14 : D) : runC PHI Tb16 N vc17_24 (s17_2 x0 x1 x13 x14) k = m17_24 N x0 x1 x13 x14 (fun x0 x1 x5 x13 x14 => k .normal (s17_5 x0 x1 x5 x13 x14)) := by
  refine Eq.trans (runC_post _ _ _ k) (Eq.trans (ops_run _ _ _ _) (by kernel_rfl))
def m17_26 (N : Nat) (x0 x1 x5 x13 x14 : D) (K : D → D → D → D → D → Option R) (Kr : D → Option R) : Option R :=
  (bif (inb x5.toI x0.toL.length) then (bif (inb x5.toI x1.toL.length) then (bif (!eqb ((x0.at (x5.toI : Int).toNat).toL.length : Int) ((x1.at (x5.toI : Int).toNat).toL.length : Int)) then Kr (D.b false) else K x0 x1 x5 x13 x14) else none) else none)
theorem e17_26 (N : Nat) (k : Kn R) (x0 x1 x5 x13 x14 : D) : runC PHI Tb16 N vc17_26 (s17_5 x0 x1 x5 x13 x14) k = m17_26 N x0 x1 x5 x13 x14 (fun x0 x1 x5 x13 x14 => k .normal (s17_5 x0 x1 x5 x13 x14)) (fun x4 => k .ret (s17_1 x4)) := by kernel_rfl
def m17_34 (N : Nat) (x0 x1 x5 x13 x14 : D) (K : D → D → D → D → D → D → D → Option R) : Option R :=
  (bif (inb x5.toI x0.toL.length) then K x0 x1 x5 x13 x14 (D.i ((x0.at (x5.toI : Int).toNat).toL.length : Int)) (D.i 0) else none)
def s17_6 (x0 x1 x5 x13 x14 x32 x33 : D) : St := sts 54 [(0, V.f x0), (1, V.f x1), (5, V.f x5), (13, V.f x13), (14, V.f x14), (32, V.f x32), (33, V.f x33)] []
theorem e17_34 (N : Nat) (k : Kn R) (x0 x1 x5 x13 x14 : D) : runC PHI Tb16 N vc17_34 (s17_5 x0 x1 x5 x13 x14) k = m17_34 N x0 x1 x5 x13 x14 (fun x0 x1 x5 x13 x14 x32 x33 => k .normal (s17_6 x0 x1 x5 x13 x14 x32 x33)) := by
  refine Eq.trans (runC_post _ _ _ k) (Eq.trans (ops_run _ _ _ _) (by kernel_rfl))
def m17_37 (N : Nat) (x0 x1 x5 x13 x14 x32 x33 : D) (K : D → D → D → D → D → D → D → Option R) (K2 : D → D → D → D → Option R) (Kr : D → Option R) : Option R :=
  (bif (ltb x33.toI x32.toI) then (bif (inb x5.toI x0.toL.length) then (bif (inb x33.toI (x0.at (x5.toI : Int).toNat).toL.length) then (bif (inb x5.toI x1.toL.length) then (bif (inb x33.toI (x1.at (x5.toI : Int).toNat).toL.length) then (bif (!(sp22 ((x0.at (x5.toI : Int).toNat).at (x33.toI : Int).toNat) ((x1.at (x5.toI : Int).toNat).at (x33.toI : Int).toNat))) then Kr (D.b false) else K x0 x1 x5 x13 x14 x32 (D.i (IntKind.i64.wrap (x33.toI + 1)))) else none) else none) else none) else none) else K2 x0 x1 x13 x14)
theorem e17_37 (N : Nat) (k : Kn R) (x0 x1 x5 x13 x14 x32 x33 : D) : runC PHI Tb16 N vc17_37 (s17_6 x0 x1 x5 x13 x14 x32 x33) k = m17_37 N x0 x1 x5 x13 x14 x32 x33 (fun x0 x1 x5 x13 x14 x32 x33 => k .normal (s17_6 x0 x1 x5 x13 x14 x32 x33)) (fun x0 x1 x13 x14 => k (.exit 2) (s17_2 x0 x1 x13 x14)) (fun x4 => k .ret (s17_1 x4)) := by kernel_rfl
def l17_36 (N : Nat) (j : Nat) (x0 x1 x5 x13 x14 x32 x33 : D) (K2 : D → D → D → D → Option R) (Kr : D → Option R) : Option R :=
  match j with
  | 0 => none
  | j + 1 => (m17_37 N x0 x1 x5 x13 x14 x32 x33 (fun y0 y1 y5 y13 y14 y32 y33 => l17_36 N j y0 y1 y5 y13 y14 y32 y33 K2 Kr) K2 Kr)
def m17_36 (N : Nat) (x0 x1 x5 x13 x14 x32 x33 : D) (K2 : D → D → D → D → Option R) (Kr : D → Option R) : Option R :=
  l17_36 N N x0 x1 x5 x13 x14 x32 x33 K2 Kr
theorem el17_36 (N : Nat) (k : Kn R) : ∀ (j : Nat) (x0 x1 x5 x13 x14 x32 x33 : D), loopGo (runC PHI Tb16 N vc17_37) j (s17_6 x0 x1 x5 x13 x14 x32 x33) k = l17_36 N j x0 x1 x5 x13 x14 x32 x33 (fun x0 x1 x13 x14 => k (.exit 2) (s17_2 x0 x1 x13 x14)) (fun x4 => k .ret (s17_1 x4))
  | 0, _, _, _, _, _, _, _ => by kernel_rfl
  | j + 1, x0, x1, x5, x13, x14, x32, x33 => by
    have h2 := e17_37 N (kloop PHI Tb16 N vc17_37 j k) x0 x1 x5 x13 x14 x32 x33
    have h3 : (fun (y0 y1 y5 y13 y14 y32 y33 : D) => (kloop PHI Tb16 N vc17_37 j k) .normal (s17_6 y0 y1 y5 y13 y14 y32 y33)) = (fun (y0 y1 y5 y13 y14 y32 y33 : D) => l17_36 N j y0 y1 y5 y13 y14 y32 y33 (fun x0 x1 x13 x14 => k (.exit 2) (s17_2 x0 x1 x13 x14)) (fun x4 => k .ret (s17_1 x4))) := funext fun y0 => funext fun y1 => funext fun y5 => funext fun y13 => funext fun y14 => funext fun y32 => funext fun y33 => (el17_36 N k j y0 y1 y5 y13 y14 y32 y33)
    refine Eq.trans (loop_succ _ j _ k) (Eq.trans h2 (Eq.trans (congrArg (fun K => m17_37 N x0 x1 x5 x13 x14 x32 x33 K (fun x0 x1 x13 x14 => (kloop PHI Tb16 N vc17_37 j k) (.exit 2) (s17_2 x0 x1 x13 x14)) (fun x4 => (kloop PHI Tb16 N vc17_37 j k) .ret (s17_1 x4))) h3) (by kernel_rfl)))
theorem e17_36 (N : Nat) (k : Kn R) (x0 x1 x5 x13 x14 x32 x33 : D) : runC PHI Tb16 N vc17_36 (s17_6 x0 x1 x5 x13 x14 x32 x33) k = m17_36 N x0 x1 x5 x13 x14 x32 x33 (fun x0 x1 x13 x14 => k (.exit 2) (s17_2 x0 x1 x13 x14)) (fun x4 => k .ret (s17_1 x4)) := by
  refine Eq.trans (runC_loop _ _ k) (Eq.trans (el17_36 N k N x0 x1 x5 x13 x14 x32 x33) (by kernel_rfl))
def m17_35 (N : Nat) (x0 x1 x5 x13 x14 x32 x33 : D) (K : D → D → D → D → Option R) (Kr : D → Option R) : Option R :=
  (m17_36 N x0 x1 x5 x13 x14 x32 x33 (fun y0 y1 y13 y14 => K y0 y1 y13 y14) Kr)
theorem e17_35 (N : Nat) (k : Kn R) (x0 x1 x5 x13 x14 x32 x33 : D) : runC PHI Tb16 N vc17_35 (s17_6 x0 x1 x5 x13 x14 x32 x33) k = m17_35 N x0 x1 x5 x13 x14 x32 x33 (fun x0 x1 x13 x14 => k .normal (s17_2 x0 x1 x13 x14)) (fun x4 => k .ret (s17_1 x4)) := by
  refine Eq.trans (runC_block _ _ _ k) (Eq.trans (e17_36 N (kblk 2 k) x0 x1 x5 x13 x14 x32 x33) (by kernel_rfl))
def m17_33 (N : Nat) (x0 x1 x5 x13 x14 : D) (K : D → D → D → D → Option R) (Kr : D → Option R) : Option R :=
  (m17_34 N x0 x1 x5 x13 x14 (fun y0 y1 y5 y13 y14 y32 y33 => (m17_35 N y0 y1 y5 y13 y14 y32 y33 (fun y0 y1 y13 y14 => K y0 y1 y13 y14) Kr)))
theorem e17_33 (N : Nat) (k : Kn R) (x0 x1 x5 x13 x14 : D) : runC PHI Tb16 N vc17_33 (s17_5 x0 x1 x5 x13 x14) k = m17_33 N x0 x1 x5 x13 x14 (fun x0 x1 x13 x14 => k .normal (s17_2 x0 x1 x13 x14)) (fun x4 => k .ret (s17_1 x4)) := by
  have h2 := e17_34 N (kseq PHI Tb16 N vc17_35 k) x0 x1 x5 x13 x14
  have h3 := (funext fun y0 => funext fun y1 => funext fun y5 => funext fun y13 => funext fun y14 => funext fun y32 => funext fun y33 => (e17_35 N k y0 y1 y5 y13 y14 y32 y33) : (fun (y0 y1 y5 y13 y14 y32 y33 : D) => (kseq PHI Tb16 N vc17_35 k) .normal (s17_6 y0 y1 y5 y13 y14 y32 y33)) = _)
  refine Eq.trans (runC_seq _ _ _ k) (Eq.trans h2 (Eq.trans (congrArg (fun K => m17_34 N x0 x1 x5 x13 x14 K) h3) (by kernel_rfl)))
def m17_25 (N : Nat) (x0 x1 x5 x13 x14 : D) (K : D → D → D → D → Option R) (Kr : D → Option R) : Option R :=
  (m17_26 N x0 x1 x5 x13 x14 (fun y0 y1 y5 y13 y14 => (m17_33 N y0 y1 y5 y13 y14 (fun y0 y1 y13 y14 => K y0 y1 y13 y14) Kr)) Kr)
theorem e17_25 (N : Nat) (k : Kn R) (x0 x1 x5 x13 x14 : D) : runC PHI Tb16 N vc17_25 (s17_5 x0 x1 x5 x13 x14) k = m17_25 N x0 x1 x5 x13 x14 (fun x0 x1 x13 x14 => k .normal (s17_2 x0 x1 x13 x14)) (fun x4 => k .ret (s17_1 x4)) := by
  have h2 := e17_26 N (kseq PHI Tb16 N vc17_33 k) x0 x1 x5 x13 x14
  have h3 := (funext fun y0 => funext fun y1 => funext fun y5 => funext fun y13 => funext fun y14 => (e17_33 N k y0 y1 y5 y13 y14) : (fun (y0 y1 y5 y13 y14 : D) => (kseq PHI Tb16 N vc17_33 k) .normal (s17_5 y0 y1 y5 y13 y14)) = _)
  refine Eq.trans (runC_seq _ _ _ k) (Eq.trans h2 (Eq.trans (congrArg (fun K => m17_26 N x0 x1 x5 x13 x14 K (fun x4 => (kseq PHI Tb16 N vc17_33 k) .ret (s17_1 x4))) h3) (by kernel_rfl)))
def m17_23 (N : Nat) (x0 x1 x13 x14 : D) (K : D → D → D → D → Option R) (Kr : D → Option R) : Option R :=
  (m17_24 N x0 x1 x13 x14 (fun y0 y1 y5 y13 y14 => (m17_25 N y0 y1 y5 y13 y14 (fun y0 y1 y13 y14 => K y0 y1 y13 y14) Kr)))
theorem e17_23 (N : Nat) (k : Kn R) (x0 x1 x13 x14 : D) : runC PHI Tb16 N vc17_23 (s17_2 x0 x1 x13 x14) k = m17_23 N x0 x1 x13 x14 (fun x0 x1 x13 x14 => k .normal (s17_2 x0 x1 x13 x14)) (fun x4 => k .ret (s17_1 x4)) := by
  have h2 := e17_24 N (kseq PHI Tb16 N vc17_25 k) x0 x1 x13 x14
  have h3 := (funext fun y0 => funext fun y1 => funext fun y5 => funext fun y13 => funext fun y14 => (e17_25 N k y0 y1 y5 y13 y14) : (fun (y0 y1 y5 y13 y14 : D) => (kseq PHI Tb16 N vc17_25 k) .normal (s17_5 y0 y1 y5 y13 y14)) = _)
  refine Eq.trans (runC_seq _ _ _ k) (Eq.trans h2 (Eq.trans (congrArg (fun K => m17_24 N x0 x1 x13 x14 K) h3) (by kernel_rfl)))
def m17_22 (N : Nat) (x0 x1 x13 x14 : D) (K : D → D → D → D → Option R) (Kr : D → Option R) : Option R :=
  (m17_23 N x0 x1 x13 x14 (fun y0 y1 y13 y14 => K y0 y1 y13 y14) Kr)
theorem e17_22 (N : Nat) (k : Kn R) (x0 x1 x13 x14 : D) : runC PHI Tb16 N vc17_22 (s17_2 x0 x1 x13 x14) k = m17_22 N x0 x1 x13 x14 (fun x0 x1 x13 x14 => k .normal (s17_2 x0 x1 x13 x14)) (fun x4 => k .ret (s17_1 x4)) := by
  refine Eq.trans (runC_block _ _ _ k) (Eq.trans (e17_23 N (kblk 1 k) x0 x1 x13 x14) (by kernel_rfl))
def m17_55 (N : Nat) (x0 x1 x13 x14 : D) (K : D → D → D → D → Option R) : Option R :=
  K x0 x1 x13 (D.i (IntKind.i64.wrap (x14.toI + 1)))
theorem e17_55 (N : Nat) (k : Kn R) (x0 x1 x13 x14 : D) : runC PHI Tb16 N vc17_55 (s17_2 x0 x1 x13 x14) k = m17_55 N x0 x1 x13 x14 (fun x0 x1 x13 x14 => k .normal (s17_2 x0 x1 x13 x14)) := by
  refine Eq.trans (runC_post _ _ _ k) (Eq.trans (ops_run _ _ _ _) (by kernel_rfl))
def m17_21 (N : Nat) (x0 x1 x13 x14 : D) (K : D → D → D → D → Option R) (Kr : D → Option R) : Option R :=
  (m17_22 N x0 x1 x13 x14 (fun y0 y1 y13 y14 => (m17_55 N y0 y1 y13 y14 (fun y0 y1 y13 y14 => K y0 y1 y13 y14))) Kr)
theorem e17_21 (N : Nat) (k : Kn R) (x0 x1 x13 x14 : D) : runC PHI Tb16 N vc17_21 (s17_2 x0 x1 x13 x14) k = m17_21 N x0 x1 x13 x14 (fun x0 x1 x13 x14 => k .normal (s17_2 x0 x1 x13 x14)) (fun x4 => k .ret (s17_1 x4)) := by
  have h2 := e17_22 N (kseq PHI Tb16 N vc17_55 k) x0 x1 x13 x14
  have h3 := (funext fun y0 => funext fun y1 => funext fun y13 => funext fun y14 => (e17_55 N k y0 y1 y13 y14) : (fun (y0 y1 y13 y14 : D) => (kseq PHI Tb16 N vc17_55 k) .normal (s17_2 y0 y1 y13 y14)) = _)
  refine Eq.trans (runC_seq _ _ _ k) (Eq.trans h2 (Eq.trans (congrArg (fun K => m17_22 N x0 x1 x13 x14 K (fun x4 => (kseq PHI Tb16 N vc17_55 k) .ret (s17_1 x4))) h3) (by kernel_rfl)))
def m17_17 (N : Nat) (x0 x1 x13 x14 x15 : D) (K : D → D → D → D → Option R) (K0 : Option R) (Kr : D → Option R) : Option R :=
  (m17_18 N x0 x1 x13 x14 x15 (fun y0 y1 y13 y14 => (m17_21 N y0 y1 y13 y14 (fun y0 y1 y13 y14 => K y0 y1 y13 y14) Kr)) K0)
theorem e17_17 (N : Nat) (k : Kn R) (x0 x1 x13 x14 x15 : D) : runC PHI Tb16 N vc17_17 (s17_3 x0 x1 x13 x14 x15) k = m17_17 N x0 x1 x13 x14 x15 (fun x0 x1 x13 x14 => k .normal (s17_2 x0 x1 x13 x14)) (k (.exit 0) s17_4) (fun x4 => k .ret (s17_1 x4)) := by
  have h2 := e17_18 N (kseq PHI Tb16 N vc17_21 k) x0 x1 x13 x14 x15
  have h3 := (funext fun y0 => funext fun y1 => funext fun y13 => funext fun y14 => (e17_21 N k y0 y1 y13 y14) : (fun (y0 y1 y13 y14 : D) => (kseq PHI Tb16 N vc17_21 k) .normal (s17_2 y0 y1 y13 y14)) = _)
  refine Eq.trans (runC_seq _ _ _ k) (Eq.trans h2 (Eq.trans (congrArg (fun K => m17_18 N x0 x1 x13 x14 x15 K ((kseq PHI Tb16 N vc17_21 k) (.exit 0) s17_4)) h3) (by kernel_rfl)))
def m17_15 (N : Nat) (x0 x1 x13 x14 : D) (K : D → D → D → D → Option R) (K0 : Option R) (Kr : D → Option R) : Option R :=
  (m17_16 N x0 x1 x13 x14 (fun y0 y1 y13 y14 y15 => (m17_17 N y0 y1 y13 y14 y15 (fun y0 y1 y13 y14 => K y0 y1 y13 y14) K0 Kr)))
theorem e17_15 (N : Nat) (k : Kn R) (x0 x1 x13 x14 : D) : runC PHI Tb16 N vc17_15 (s17_2 x0 x1 x13 x14) k = m17_15 N x0 x1 x13 x14 (fun x0 x1 x13 x14 => k .normal (s17_2 x0 x1 x13 x14)) (k (.exit 0) s17_4) (fun x4 => k .ret (s17_1 x4)) := by
  have h2 := e17_16 N (kseq PHI Tb16 N vc17_17 k) x0 x1 x13 x14
  have h3 := (funext fun y0 => funext fun y1 => funext fun y13 => funext fun y14 => funext fun y15 => (e17_17 N k y0 y1 y13 y14 y15) : (fun (y0 y1 y13 y14 y15 : D) => (kseq PHI Tb16 N vc17_17 k) .normal (s17_3 y0 y1 y13 y14 y15)) = _)
  refine Eq.trans (runC_seq _ _ _ k) (Eq.trans h2 (Eq.trans (congrArg (fun K => m17_16 N x0 x1 x13 x14 K) h3) (by kernel_rfl)))
def l17_14 (N : Nat) (j : Nat) (x0 x1 x13 x14 : D) (K0 : Option R) (Kr : D → Option R) : Option R :=
  match j with
  | 0 => none
  | j + 1 => (m17_15 N x0 x1 x13 x14 (fun y0 y1 y13 y14 => l17_14 N j y0 y1 y13 y14 K0 Kr) K0 Kr)
def m17_14 (N : Nat) (x0 x1 x13 x14 : D) (K0 : Option R) (Kr : D → Option R) : Option R :=
  l17_14 N N x0 x1 x13 x14 K0 Kr
theorem el17_14 (N : Nat) (k : Kn R) : ∀ (j : Nat) (x0 x1 x13 x14 : D), loopGo (runC PHI Tb16 N vc17_15) j (s17_2 x0 x1 x13 x14) k = l17_14 N j x0 x1 x13 x14 (k (.exit 0) s17_4) (fun x4 => k .ret (s17_1 x4))
  | 0, _, _, _, _ => by kernel_rfl
  | j + 1, x0, x1, x13, x14 => by
    have h2 := e17_15 N (kloop PHI Tb16 N vc17_15 j k) x0 x1 x13 x14
    have h3 : (fun (y0 y1 y13 y14 : D) => (kloop PHI Tb16 N vc17_15 j k) .normal (s17_2 y0 y1 y13 y14)) = (fun (y0 y1 y13 y14 : D) => l17_14 N j y0 y1 y13 y14 (k (.exit 0) s17_4) (fun x4 => k .ret (s17_1 x4))) := funext fun y0 => funext fun y1 => funext fun y13 => funext fun y14 => (el17_14 N k j y0 y1 y13 y14)
    refine Eq.trans (loop_succ _ j _ k) (Eq.trans h2 (Eq.trans (congrArg (fun K => m17_15 N x0 x1 x13 x14 K ((kloop PHI Tb16 N vc17_15 j k) (.exit 0) s17_4) (fun x4 => (kloop PHI Tb16 N vc17_15 j k) .ret (s17_1 x4))) h3) (by kernel_rfl)))
theorem e17_14 (N : Nat) (k : Kn R) (x0 x1 x13 x14 : D) : runC PHI Tb16 N vc17_14 (s17_2 x0 x1 x13 x14) k = m17_14 N x0 x1 x13 x14 (k (.exit 0) s17_4) (fun x4 => k .ret (s17_1 x4)) := by
  refine Eq.trans (runC_loop _ _ k) (Eq.trans (el17_14 N k N x0 x1 x13 x14) (by kernel_rfl))
def m17_13 (N : Nat) (x0 x1 x13 x14 : D) (K : Option R) (Kr : D → Option R) : Option R :=
  (m17_14 N x0 x1 x13 x14 (K) Kr)
theorem e17_13 (N : Nat) (k : Kn R) (x0 x1 x13 x14 : D) : runC PHI Tb16 N vc17_13 (s17_2 x0 x1 x13 x14) k = m17_13 N x0 x1 x13 x14 (k .normal s17_4) (fun x4 => k .ret (s17_1 x4)) := by
  refine Eq.trans (runC_block _ _ _ k) (Eq.trans (e17_14 N (kblk 0 k) x0 x1 x13 x14) (by kernel_rfl))
def m17_11 (N : Nat) (x0 x1 : D) (K : Option R) (Kr : D → Option R) : Option R :=
  (m17_12 N x0 x1 (fun y0 y1 y13 y14 => (m17_13 N y0 y1 y13 y14 (K) Kr)))
theorem e17_11 (N : Nat) (k : Kn R) (x0 x1 : D) : runC PHI Tb16 N vc17_11 (s17_0 x0 x1) k = m17_11 N x0 x1 (k .normal s17_4) (fun x4 => k .ret (s17_1 x4)) := by
  have h2 := e17_12 N (kseq PHI Tb16 N vc17_13 k) x0 x1
  have h3 := (funext fun y0 => funext fun y1 => funext fun y13 => funext fun y14 => (e17_13 N k y0 y1 y13 y14) : (fun (y0 y1 y13 y14 : D) => (kseq PHI Tb16 N vc17_13 k) .normal (s17_2 y0 y1 y13 y14)) = _)
  refine Eq.trans (runC_seq _ _ _ k) (Eq.trans h2 (Eq.trans (congrArg (fun K => m17_12 N x0 x1 K) h3) (by kernel_rfl)))
def m17_56 (N : Nat) (Kr : D → Option R) : Option R :=
  Kr (D.b true)
theorem e17_56 (N : Nat) (k : Kn R) : runC PHI Tb16 N vc17_56 s17_4 k = m17_56 N (fun x4 => k .ret (s17_1 x4)) := by kernel_rfl
def m17_10 (N : Nat) (x0 x1 : D) (Kr : D → Option R) : Option R :=
  (m17_11 N x0 x1 ((m17_56 N Kr)) Kr)
theorem e17_10 (N : Nat) (k : Kn R) (x0 x1 : D) : runC PHI Tb16 N vc17_10 (s17_0 x0 x1) k = m17_10 N x0 x1 (fun x4 => k .ret (s17_1 x4)) := by
  have h2 := e17_11 N (kseq PHI Tb16 N vc17_56 k) x0 x1
  have h3 := ((e17_56 N k ) : ((kseq PHI Tb16 N vc17_56 k) .normal s17_4) = _)
  refine Eq.trans (runC_seq _ _ _ k) (Eq.trans h2 (Eq.trans (congrArg (fun K => m17_11 N x0 x1 K (fun x4 => (kseq PHI Tb16 N vc17_56 k) .ret (s17_1 x4))) h3) (by kernel_rfl)))
def m17_2 (N : Nat) (x0 x1 : D) (Kr : D → Option R) : Option R :=
  (m17_3 N x0 x1 (fun y0 y1 => (m17_10 N y0 y1 Kr)) Kr)
theorem e17_2 (N : Nat) (k : Kn R) (x0 x1 : D) : runC PHI Tb16 N vc17_2 (s17_0 x0 x1) k = m17_2 N x0 x1 (fun x4 => k .ret (s17_1 x4)) := by
  have h2 := e17_3 N (kseq PHI Tb16 N vc17_10 k) x0 x1
  have h3 := (funext fun y0 => funext fun y1 => (e17_10 N k y0 y1) : (fun (y0 y1 : D) => (kseq PHI Tb16 N vc17_10 k) .normal (s17_0 y0 y1)) = _)
  refine Eq.trans (runC_seq _ _ _ k) (Eq.trans h2 (Eq.trans (congrArg (fun K => m17_3 N x0 x1 K (fun x4 => (kseq PHI Tb16 N vc17_10 k) .ret (s17_1 x4))) h3) (by kernel_rfl)))
def m17_0 (N : Nat) (x0 x1 : D) (Kr : D → Option R) : Option R :=
  (m17_1 N x0 x1 (fun y0 y1 => (m17_2 N y0 y1 Kr)))
theorem e17_0 (N : Nat) (k : Kn R) (x0 x1 : D) : runC PHI Tb16 N vc17_0 (s17_0 x0 x1) k = m17_0 N x0 x1 (fun x4 => k .ret (s17_1 x4)) := by
  have h2 := e17_1 N (kseq PHI Tb16 N vc17_2 k) x0 x1
  have h3 := (funext fun y0 => funext fun y1 => (e17_2 N k y0 y1) : (fun (y0 y1 : D) => (kseq PHI Tb16 N vc17_2 k) .normal (s17_0 y0 y1)) = _)
  refine Eq.trans (runC_seq _ _ _ k) (Eq.trans h2 (Eq.trans (congrArg (fun K => m17_1 N x0 x1 K) h3) (by kernel_rfl)))
theorem r17 (N : Nat) (x0 x1 : D) : runC PHI Tb16 N vf17.body (enterV vf17 [V.f x0, V.f x1] []) (finish vf17) = m17_0 N x0 x1 (fun x4 => finish vf17 .ret (s17_1 x4)) := 
  Eq.trans (runC_pre (s1 := (s17_0 x0 x1)) (by kernel_rfl) _ _) (Eq.trans (e17_0 N (finish vf17) x0 x1) (by kernel_rfl))
end
theorem lenI {a b : Nat} (h : (!eqb (a : Int) (b : Int)) = false) : a = b := by
  have h1 : eqb (a : Int) (b : Int) = true := by simpa using h
  have : (a : Int) = (b : Int) := of_decide_eq_true h1
  omega
section
variable {R : Type}
theorem in17 (N : Nat) (x y : D) (i : Nat) (hi : i < x.toL.length) (hi' : i < y.toL.length) (x13 x14 : D) (hN : (x.toL.getD i .nil).toL.length < N) (hl : (x.toL.getD i .nil).toL.length ≤ 9223372036854775807) (he : (x.toL.getD i .nil).toL.length = (y.toL.getD i .nil).toL.length) (K2 : D → D → D → D → Option R) (Kr : D → Option R) :
    l17_36 N N x y (.i (i : Int)) x13 x14 (.i ((x.toL.getD i .nil).toL.length : Int)) (.i 0) K2 Kr = bif leb 0 (fst (badV (x.toL.getD i .nil) (y.toL.getD i .nil)) (x.toL.getD i .nil).toL.length 0) then Kr (.b false) else K2 x y x13 x14 := by
  have hx : inb (i : Int) x.toL.length = true := inb_t hi
  have hy : inb (i : Int) y.toL.length = true := inb_t hi'
  exact loop_find (fun j k => l17_36 N j x y (.i (i : Int)) x13 x14 (.i ((x.toL.getD i .nil).toL.length : Int)) (.i (k : Nat)) K2 Kr) (badV (x.toL.getD i .nil) (y.toL.getD i .nil)) (x.toL.getD i .nil).toL.length (K2 x y x13 x14) (fun _ => Kr (.b false))
    (fun j k hk => by
      have hk2 : inb (k : Int) (y.toL.getD i .nil).toL.length = true := inb_t (by omega)
      simp only [l17_36, m17_37, toI_i, cond_true, ltb_n hk, hx, hy, at_nat, inb_t hk, hk2, succ_n hk hl, badV])
    (fun j => by simp only [l17_36, m17_37, toI_i, ltb_self, cond_false])
    (x.toL.getD i .nil).toL.length 0 N (by omega) (by omega)
end
noncomputable def Tb17 : CallF := extend Tb16 17 (fn2 (fun _ _ => true) fun x y => .f (.b (sp17 x y)))
theorem sum_le {l : List D} {x : D} (h : x ∈ l) : x.toL.length ≤ (l.map fun y => y.toL.length).sum := by
  induction l with
  | nil => cases h
  | cons a l ih =>
    rw [List.map_cons, List.sum_cons]
    rcases List.mem_cons.1 h with rfl | h
    · omega
    · have := ih h; omega
theorem ok17 : FnOk Try.prog PHI Tb17 := FnOk.add2 hPHI ok16 (by kernel_rfl) fun x y ha _ => ⟨x.toL.length + (x.toL.map fun y => y.toL.length).sum + 1, (r17 _ x y).trans (by
  have hl : x.toL.length ≤ 9223372036854775807 := (ha.is 0 rfl rfl).len' (e := 23) (by kernel_rfl)
  have hx := (ha.is 0 rfl rfl).elem (e := 23) (by kernel_rfl)
  generalize hN : x.toL.length + (x.toL.map fun y => y.toL.length).sum + 1 = N
  simp only [m17_0, m17_1, m17_2, m17_3, sp17]
  cases he : !eqb (x.toL.length : Int) (y.toL.length : Int)
  · have hlen := lenI he
    simp only [cond_false, m17_10, m17_11, m17_12, m17_13, m17_14]
    have h := loop_find (fun j i => l17_14 N j x y (.i (x.toL.length : Int)) (.i (i : Nat)) (m17_56 N (fun x4 => finish vf17 .ret (s17_1 x4))) (fun x4 => finish vf17 .ret (s17_1 x4))) (badR2 x y) x.toL.length (finish vf17 .ret (s17_1 (.b true))) (fun _ => finish vf17 .ret (s17_1 (.b false)))
      (fun j i hi => by
        have hi' : i < y.toL.length := by omega
        have e : x.toL.getD i .nil = x.toL[i] := getD_at hi
        have hmem : x.toL.getD i .nil ∈ x.toL := by rw [e]; exact List.getElem_mem hi
        have hrl : (x.toL.getD i .nil).toL.length ≤ 9223372036854775807 := (hx _ hmem).len' (e := 32) (by kernel_rfl)
        have hs := sum_le hmem
        simp only [l17_14, m17_15, m17_16, m17_17, m17_18, toI_i, toB_b, ltb_n hi, cond_true, m17_21, m17_22, m17_23, m17_24, m17_25, m17_26, inb_t hi, inb_t hi', at_nat, badR2]
        cases hc : !eqb ((x.toL.getD i .nil).toL.length : Int) ((y.toL.getD i .nil).toL.length : Int)
        · simp only [cond_false, m17_33, m17_34, toI_i, inb_t hi, at_nat, cond_true, m17_35, m17_36]
          rw [in17 N x y i hi hi' _ _ (by omega) hrl (lenI hc)]
          cases leb 0 (fst (badV (x.toL.getD i .nil) (y.toL.getD i .nil)) (x.toL.getD i .nil).toL.length 0)
          · simp only [cond_false, m17_55, toI_i, succ_n hi hl]
          · rfl
        · rfl)
      (fun j => by simp only [l17_14, m17_15, m17_16, m17_17, m17_18, toI_i, toB_b, ltb_self, cond_false, m17_56])
      x.toL.length 0 N (by omega) (by omega)
    refine h.trans ?_
    cases leb 0 (fst (badR2 x y) x.toL.length 0) <;> rfl
  · rfl)⟩
theorem sp22_self (x : D) : sp22 x x = true := by
  have hf := fe_feq (FEq.rfl' (x.at 2).toF)
  unfold sp22
  rw [eqb_t rfl, eqb_t rfl, eqL_self, s43]
  cases hn : nan (x.at 2)
  · rw [feq_o, oo_self _ hn]
    simp
  · simp
theorem fst_none {p : Nat → Bool} : ∀ k i, (∀ j, i ≤ j → j < i + k → p j = false) → fst p k i = -1
  | 0, i, _ => rfl
  | k + 1, i, h => by
    rw [fst, h i (Nat.le_refl _) (by omega), cond_false]
    exact fst_none k (i + 1) fun j h1 h2 => h j (by omega) (by omega)
theorem sp17_eq {x y : D} (h : x.toL = y.toL) : sp17 x y = true := by
  unfold sp17
  rw [h, eqb_t rfl]
  have e : fst (badR2 x y) y.toL.length 0 = -1 := fst_none _ _ fun i _ _ => by
    unfold badR2
    rw [h, eqb_t rfl]
    have e2 : fst (badV (y.toL.getD i .nil) (y.toL.getD i .nil)) (y.toL.getD i .nil).toL.length 0 = -1 := fst_none _ _ fun k _ _ => by
      unfold badV
      rw [sp22_self]; rfl
    rw [e2]; rfl
  rw [e]; rfl
theorem set8_at {q x : D} {k : Nat} (hk : k ≠ 8) : (D.setP [8] q x).at k = q.at k := by
  have e : ∀ xs : List D, (xs.set 8 x).getD k .nil = xs.getD k .nil := fun xs => by
    rw [List.getD_eq_getElem?_getD, List.getD_eq_getElem?_getD, List.getElem?_set_ne (by omega)]
  cases q <;> first | rfl | exact e _
theorem set8_8 {ds : List D} {x : D} (h : ds.length = 9) : (D.setP [8] (.ag ds) x).at 8 = x := by
  show (ds.set 8 x).getD 8 .nil = x
  rw [List.getD_eq_getElem?_getD, List.getElem?_set_self (by omega)]
  rfl
def full (q rows : D) : List D := (stb (c33 (.p q)) (grps q rows)).map (row15 q)
theorem ans_full (q rows : D) : ans15 q rows = lim15 q (full q rows) := by
  unfold ans15 full lim15
  rw [List.length_map]
  cases (bif leb 0 (q.at 8).toI then ltb (q.at 8).toI ((stb (c33 (.p q)) (grps q rows)).length : Int) else false)
  · rfl
  · rw [cond_true, cond_true, List.map_take]
theorem full_set (q x rows : D) : full (D.setP [8] q x) rows = full q rows := by
  have h4 : (D.setP [8] q x).at 4 = q.at 4 := set8_at (by omega)
  have h5 : (D.setP [8] q x).at 5 = q.at 5 := set8_at (by omega)
  have h6 : (D.setP [8] q x).at 6 = q.at 6 := set8_at (by omega)
  have h7 : (D.setP [8] q x).at 7 = q.at 7 := set8_at (by omega)
  have e1 : grps (D.setP [8] q x) rows = grps q rows := by
    unfold grps sp31 keyP
    rw [h4, h5]
  have e2 : row15 (D.setP [8] q x) = row15 q := by
    funext g
    unfold row15
    rw [h6]
  have e3 : c33 (.p (D.setP [8] q x)) = c33 (.p q) := by
    funext a b
    unfold c33 sp33
    rw [show (D.p (D.setP [8] q x)).deref.at 7 = (D.p q).deref.at 7 from h7]
  unfold full
  rw [e1, e2, e3]
theorem sp10_len {x : D} (h : (!sp10 x) = false) : x.toL.length ≤ 60 := by
  unfold sp10 at h
  cases hl : ltb 60 (x.toL.length : Int)
  · have : ¬ (60 : Int) < (x.toL.length : Int) := of_decide_eq_false hl
    omega
  · rw [hl] at h; cases h
theorem sp21_len {x : D} (h : sp21 x = true) : x.toL.length ≤ 12 := by
  unfold sp21 at h
  cases hl : ltb 12 (x.toL.length : Int)
  · have : ¬ (12 : Int) < (x.toL.length : Int) := of_decide_eq_false hl
    omega
  · rw [hl] at h; cases h
theorem pr15_of {q rows : D} (hn : F1.ok .isN rows = true) (h1 : rows.toL.length ≤ 60) (h4 : (q.at 4).toL.length ≤ 12) (h6 : (q.at 6).toL.length ≤ 12) : pr15 q rows = true := by
  unfold pr15 pr31 pr68
  rw [hn, leN_t (show rows.toL.length ≤ 1000000 by omega), leN_t (show (q.at 4).toL.length ≤ 1000000 by omega), leN_t (show (q.at 6).toL.length ≤ 1000000 by omega)]
  rfl
section
variable {R : Type}
def m7_1 (N : Nat) (x0 x1 x2 : D) (K : D → D → D → Option R) : Option R :=
  K x1 x2 x0
def s7_0 (x0 x1 x2 : D) : St := sts 50 [(0, V.f x0), (1, V.f x1), (2, V.f x2)] [V.u]
def s7_1 (x1 x2 h0 : D) : St := sts 50 [(1, V.f x1), (2, V.f x2), (3, V.m 0 [])] [V.f h0]
theorem e7_1 (N : Nat) (k : Kn R) (x0 x1 x2 : D) : runC PHI Tb17 N vc7_1 (s7_0 x0 x1 x2) k = m7_1 N x0 x1 x2 (fun x1 x2 h0 => k .normal (s7_1 x1 x2 h0)) := by
  refine Eq.trans (runC_post _ _ _ k) (Eq.trans (ops_run _ _ _ _) (by kernel_rfl))
def m7_3 (N : Nat) (x1 x2 h0 : D) (K : D → D → D → Option R) (Kr : D → D → Option R) : Option R :=
  (bif (!sp9) then (bif true then Kr (D.b sp9) h0 else K x1 x2 h0) else (bif (!(sp16 h0)) then (bif true then Kr (D.b sp9) h0 else K x1 x2 h0) else (bif (!(sp10 x1)) then Kr (D.b sp9) h0 else K x1 x2 h0)))
def s7_2 (x6 h0 : D) : St := sts 50 [(6, V.f x6)] [V.f h0]
theorem e7_3 (N : Nat) (k : Kn R) (x1 x2 h0 : D) : runC PHI Tb17 N vc7_3 (s7_1 x1 x2 h0) k = m7_3 N x1 x2 h0 (fun x1 x2 h0 => k .normal (s7_1 x1 x2 h0)) (fun x6 h0 => k .ret (s7_2 x6 h0)) := by kernel_rfl
def m7_10 (N : Nat) (x1 x2 h0 : D) (Kr : D → D → Option R) : Option R :=
  (bif (pr15 (D.setP [8] h0 (D.i (-1))) x1) then (bif (!eqb 70 0) then (bif (pr15 (D.setP [8] (D.setP [8] h0 (D.i (-1))) (D.i (IntKind.i64.wrap (Int.tmod (IntKind.u64.wrap x2.toI) 70)))) x1) then (bif (eqb ((sp15 (D.setP [8] (D.setP [8] h0 (D.i (-1))) (D.i (IntKind.i64.wrap (Int.tmod (IntKind.u64.wrap x2.toI) 70)))) x1).toL.length : Int) (mmI false ((sp15 (D.setP [8] h0 (D.i (-1))) x1).toL.length : Int) [((D.setP [8] (D.setP [8] h0 (D.i (-1))) (D.i (IntKind.i64.wrap (Int.tmod (IntKind.u64.wrap x2.toI) 70)))).at 8).toI])) then (bif (leb 0 0 && leb 0 ((sp15 (D.setP [8] (D.setP [8] h0 (D.i (-1))) (D.i (IntKind.i64.wrap (Int.tmod (IntKind.u64.wrap x2.toI) 70)))) x1).toL.length : Int) && leb ((sp15 (D.setP [8] (D.setP [8] h0 (D.i (-1))) (D.i (IntKind.i64.wrap (Int.tmod (IntKind.u64.wrap x2.toI) 70)))) x1).toL.length : Int) ((sp15 (D.setP [8] h0 (D.i (-1))) x1).toL.length : Int)) then Kr (D.b (sp17 (sp15 (D.setP [8] (D.setP [8] h0 (D.i (-1))) (D.i (IntKind.i64.wrap (Int.tmod (IntKind.u64.wrap x2.toI) 70)))) x1) (cutD (sp15 (D.setP [8] h0 (D.i (-1))) x1) (((sp15 (D.setP [8] (D.setP [8] h0 (D.i (-1))) (D.i (IntKind.i64.wrap (Int.tmod (IntKind.u64.wrap x2.toI) 70)))) x1).toL.length : Int) : Int).toNat (0 : Int).toNat))) (D.setP [8] (D.setP [8] h0 (D.i (-1))) (D.i (IntKind.i64.wrap (Int.tmod (IntKind.u64.wrap x2.toI) 70)))) else none) else Kr (D.b false) (D.setP [8] (D.setP [8] h0 (D.i (-1))) (D.i (IntKind.i64.wrap (Int.tmod (IntKind.u64.wrap x2.toI) 70))))) else none) else none) else none)
theorem e7_10 (N : Nat) (k : Kn R) (x1 x2 h0 : D) : runC PHI Tb17 N vc7_10 (s7_1 x1 x2 h0) k = m7_10 N x1 x2 h0 (fun x6 h0 => k .ret (s7_2 x6 h0)) := by kernel_rfl
def m7_2 (N : Nat) (x1 x2 h0 : D) (Kr : D → D → Option R) : Option R :=
  (m7_3 N x1 x2 h0 (fun y1 y2 h0 => (m7_10 N y1 y2 h0 Kr)) Kr)
theorem e7_2 (N : Nat) (k : Kn R) (x1 x2 h0 : D) : runC PHI Tb17 N vc7_2 (s7_1 x1 x2 h0) k = m7_2 N x1 x2 h0 (fun x6 h0 => k .ret (s7_2 x6 h0)) := by
  have h2 := e7_3 N (kseq PHI Tb17 N vc7_10 k) x1 x2 h0
  have h3 := (funext fun y1 => funext fun y2 => funext fun h0 => (e7_10 N k y1 y2 h0) : (fun (y1 y2 h0 : D) => (kseq PHI Tb17 N vc7_10 k) .normal (s7_1 y1 y2 h0)) = _)
  refine Eq.trans (runC_seq _ _ _ k) (Eq.trans h2 (Eq.trans (congrArg (fun K => m7_3 N x1 x2 h0 K (fun x6 h0 => (kseq PHI Tb17 N vc7_10 k) .ret (s7_2 x6 h0))) h3) (by kernel_rfl)))
def m7_0 (N : Nat) (x0 x1 x2 : D) (Kr : D → D → Option R) : Option R :=
  (m7_1 N x0 x1 x2 (fun y1 y2 h0 => (m7_2 N y1 y2 h0 Kr)))
theorem e7_0 (N : Nat) (k : Kn R) (x0 x1 x2 : D) : runC PHI Tb17 N vc7_0 (s7_0 x0 x1 x2) k = m7_0 N x0 x1 x2 (fun x6 h0 => k .ret (s7_2 x6 h0)) := by
  have h2 := e7_1 N (kseq PHI Tb17 N vc7_2 k) x0 x1 x2
  have h3 := (funext fun y1 => funext fun y2 => funext fun h0 => (e7_2 N k y1 y2 h0) : (fun (y1 y2 h0 : D) => (kseq PHI Tb17 N vc7_2 k) .normal (s7_1 y1 y2 h0)) = _)
  refine Eq.trans (runC_seq _ _ _ k) (Eq.trans h2 (Eq.trans (congrArg (fun K => m7_1 N x0 x1 x2 K) h3) (by kernel_rfl)))
theorem r7 (N : Nat) (x0 x1 x2 : D) : runC PHI Tb17 N vf7.body (enterV vf7 [V.f x0, V.f x1, V.f x2] []) (finish vf7) = m7_0 N x0 x1 x2 (fun x6 h0 => finish vf7 .ret (s7_2 x6 h0)) := 
  Eq.trans (runC_pre (s1 := (s7_0 x0 x1 x2)) (by kernel_rfl) _ _) (Eq.trans (e7_0 N (finish vf7) x0 x1 x2) (by kernel_rfl))
end
noncomputable def Tb7 : CallF := extend Tb17 7 (fn3 (fun _ rows _ => F1.ok .isN rows) fun _ _ _ => .f (.b true))
theorem mod70 (n : Int) : ∃ k : Nat, k < 70 ∧ IntKind.i64.wrap (Int.tmod (IntKind.u64.wrap n) 70) = (k : Int) := by
  have h0 : 0 ≤ IntKind.u64.wrap n := by
    have : IntKind.u64.wrap n = n % 18446744073709551616 := rfl
    rw [this]; omega
  have h1 : Int.tmod (IntKind.u64.wrap n) 70 = IntKind.u64.wrap n % 70 := Int.tmod_eq_emod_of_nonneg h0
  rw [h1, wrap64_id (by omega) (by omega)]
  exact ⟨(IntKind.u64.wrap n % 70).toNat, by omega, by omega⟩
theorem fn7 (x h : D) : finish vf7 .ret (s7_2 x h) = some (.f x, []) := by kernel_rfl
theorem ok7 : FnOk Try.prog PHI Tb7 := FnOk.add3 hPHI ok17 (by kernel_rfl) fun q rows n ha hp => ⟨0, (r7 _ q rows n).trans (by
  have hp : F1.ok .isN rows = true := hp
  obtain ⟨ds, rfl, hds⟩ := (ha.is 0 rfl rfl).ag (n := 9) (by kernel_rfl)
  simp only [m7_0, m7_1, m7_2, m7_3, sp9, Bool.not_true, cond_false]
  cases h16 : sp16 (.ag ds)
  · rfl
  · cases h10 : !sp10 rows
    · have hl := sp10_len h10
      unfold sp16 at h16
      simp only [Bool.and_eq_true] at h16
      obtain ⟨i6, i3, i4, i7⟩ := h16
      have i4 := leb_e i4
      have l6 := sp21_len i6
      have g4 : ∀ x, ((D.setP [8] (.ag ds) x).at 4) = (D.ag ds).at 4 := fun x => set8_at (by omega)
      have g6 : ∀ x, ((D.setP [8] (.ag ds) x).at 6) = (D.ag ds).at 6 := fun x => set8_at (by omega)
      obtain ⟨k, hk, hk2⟩ := mod70 n.toI
      have e1 : D.setP [8] (.ag ds) (.i (-1)) = .ag (ds.set 8 (.i (-1))) := rfl
      have p1 : pr15 (D.setP [8] (.ag ds) (.i (-1))) rows = true := pr15_of hp hl (by rw [g4]; omega) (by rw [g6]; omega)
      have p2 : pr15 (D.setP [8] (D.setP [8] (.ag ds) (.i (-1))) (.i (k : Int))) rows = true := pr15_of hp hl (by rw [set8_at (by omega), g4]; omega) (by rw [set8_at (by omega), g6]; omega)
      have f1 : full (D.setP [8] (.ag ds) (.i (-1))) rows = full (.ag ds) rows := full_set _ _ _
      have f2 : full (D.setP [8] (D.setP [8] (.ag ds) (.i (-1))) (.i (k : Int))) rows = full (.ag ds) rows := by rw [full_set, full_set]
      have a1 : (sp15 (D.setP [8] (.ag ds) (.i (-1))) rows).toL = full (.ag ds) rows := by
        show ans15 _ _ = _
        rw [ans_full, f1]
        unfold lim15
        rw [set8_8 hds]
        rfl
      have m8 : (D.setP [8] (D.setP [8] (.ag ds) (.i (-1))) (.i (k : Int))).at 8 = .i (k : Int) := by
        rw [e1]; exact set8_8 (by rw [List.length_set]; exact hds)
      have a2 : (sp15 (D.setP [8] (D.setP [8] (.ag ds) (.i (-1))) (.i (k : Int))) rows).toL = (full (.ag ds) rows).take k := by
        show ans15 _ _ = _
        rw [ans_full, f2]
        unfold lim15
        rw [m8, toI_i, leb_t (show (0 : Int) ≤ (k : Int) by omega), cond_true]
        rcases Nat.lt_or_ge k (full (.ag ds) rows).length with h | h
        · rw [ltb_n h]; rfl
        · rw [ltb_f (by omega), cond_false, List.take_of_length_le h]
      have c1 : eqb ((sp15 (D.setP [8] (D.setP [8] (.ag ds) (.i (-1))) (.i (k : Int))) rows).toL.length : Int) (mmI false ((sp15 (D.setP [8] (.ag ds) (.i (-1))) rows).toL.length : Int) [(k : Int)]) = true := by
        rw [a1, a2, List.length_take]
        apply eqb_t
        unfold mmI mmI
        simp only [cond_false]
        split <;> omega
      have c2 : leb ((sp15 (D.setP [8] (D.setP [8] (.ag ds) (.i (-1))) (.i (k : Int))) rows).toL.length : Int) ((sp15 (D.setP [8] (.ag ds) (.i (-1))) rows).toL.length : Int) = true := by
        rw [a1, a2, List.length_take]; exact leb_t (by omega)
      have c3 : leb 0 ((sp15 (D.setP [8] (D.setP [8] (.ag ds) (.i (-1))) (.i (k : Int))) rows).toL.length : Int) = true := leb_t (by omega)
      have c4 : sp17 (sp15 (D.setP [8] (D.setP [8] (.ag ds) (.i (-1))) (.i (k : Int))) rows) (cutD (sp15 (D.setP [8] (.ag ds) (.i (-1))) rows) (((sp15 (D.setP [8] (D.setP [8] (.ag ds) (.i (-1))) (.i (k : Int))) rows).toL.length : Int)).toNat (0 : Int).toNat) = true := sp17_eq (by
        rw [toL_cut, a1, a2, Int.toNat_natCast, List.length_take]
        show _ = List.drop 0 _
        rw [List.drop_zero]
        rcases Nat.le_total k (full (.ag ds) rows).length with h | h
        · rw [Nat.min_eq_left h]
        · rw [Nat.min_eq_right h, List.take_of_length_le h, List.take_length])
      have n70 : (!eqb 70 0) = true := rfl
      have l00 : leb 0 0 = true := rfl
      simp only [Bool.not_true, cond_false, m7_10, hk2, p1, p2, cond_true, n70, m8, toI_i, c1, c2, c3, c4, l00, Bool.and_self, fn7]
    · rfl)⟩
end Go.Vam.C14
