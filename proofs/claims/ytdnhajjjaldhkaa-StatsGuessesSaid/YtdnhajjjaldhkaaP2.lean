/- Chapter 15: what functions come to, part 2. No conditions. -/
import Derived.Test.YtdnhajjjaldhkaaP1
import Derived.KernelRfl
set_option linter.unusedVariables false
set_option linter.unusedSimpArgs false
set_option maxRecDepth 100000
namespace Go.Vam.C15
open Go.Proofs
/-! ### What the program reckons -/
def sp74 (v : D) : Int := bif !eqb (v.at 0).toI 4 then -1 else bif !eqb (v.at 1).toI 0 then 1 else 0
section
variable {R : Type}
def m74_0 (N : Nat) (x0 : D) (Kr : D → Option R) : Option R :=
  (bif (!eqb (x0.at 0).toI 4) then Kr (D.i (-1)) else (bif (!eqb (x0.at 1).toI 0) then Kr (D.i 1) else Kr (D.i 0)))
def s74_0 (x0 : D) : St := sts 9 [(0, V.f x0)] []
def s74_1 (x2 : D) : St := sts 9 [(2, V.f x2)] []
theorem e74_0 (N : Nat) (k : Kn R) (x0 : D) : runC PHI Tb64 N vc74_0 (s74_0 x0) k = m74_0 N x0 (fun x2 => k .ret (s74_1 x2)) := by kernel_rfl
theorem r74 (N : Nat) (x0 : D) : runC PHI Tb64 N vf74.body (enterV vf74 [V.f x0] []) (finish vf74) = m74_0 N x0 (fun x2 => finish vf74 .ret (s74_1 x2)) := 
  Eq.trans (runC_pre (s1 := (s74_0 x0)) (by kernel_rfl) _ _) (Eq.trans (e74_0 N (finish vf74) x0) (by kernel_rfl))
end
def Tb74 : CallF := extend Tb64 74 (fn1 (fun _ => true) fun x => .f (.i (sp74 x)))
theorem ok74 : FnOk Try.prog PHI Tb74 := FnOk.add1 hPHI ok64 (by kernel_rfl) fun x _ _ => ⟨0, (r74 0 x).trans (by
  unfold m74_0 sp74
  cases eqb (x.at 0).toI 4 <;> cases eqb (x.at 1).toI 0 <;> rfl)⟩
def sp75 (t : D) : D := bif ltb t.toI 0 then z0 else sp51 (.b (eqb t.toI 1))
section
variable {R : Type}
def m75_0 (N : Nat) (x0 : D) (Kr : D → Option R) : Option R :=
  (bif (ltb x0.toI 0) then Kr (D.p (D.ag [(D.i 0), (D.i 0), (D.f 0), (D.s [])])) else Kr (D.p (sp51 (D.b (eqb x0.toI 1)))))
def s75_0 (x0 : D) : St := sts 9 [(0, V.f x0)] []
def s75_1 (x2 : D) : St := sts 9 [(2, V.f x2)] []
theorem e75_0 (N : Nat) (k : Kn R) (x0 : D) : runC PHI Tb74 N vc75_0 (s75_0 x0) k = m75_0 N x0 (fun x2 => k .ret (s75_1 x2)) := by kernel_rfl
theorem r75 (N : Nat) (x0 : D) : runC PHI Tb74 N vf75.body (enterV vf75 [V.f x0] []) (finish vf75) = m75_0 N x0 (fun x2 => finish vf75 .ret (s75_1 x2)) := 
  Eq.trans (runC_pre (s1 := (s75_0 x0)) (by kernel_rfl) _ _) (Eq.trans (e75_0 N (finish vf75) x0) (by kernel_rfl))
end
def Tb75 : CallF := extend Tb74 75 (fn1 (fun _ => true) fun x => .f (sp75 x))
theorem ok75 : FnOk Try.prog PHI Tb75 := FnOk.add1 hPHI ok74 (by kernel_rfl) fun x _ _ => ⟨0, (r75 0 x).trans (by
  unfold m75_0 sp75
  cases ltb x.toI 0 <;> rfl)⟩
def w64 (n : Int) : Int := IntKind.wrap IntKind.i64 n
def mulOk (a b : Int) : Bool := eqb (w64 (Int.tdiv (w64 (a * b)) b)) a && (!(eqb a (-1) && eqb b (-9223372036854775808)) && !(eqb b (-1) && eqb a (-9223372036854775808)))
def sp76_0 (o x y : D) : Int := bif eqL o.toS [43] then w64 (x.toI + y.toI) else bif eqL o.toS [45] then w64 (x.toI - y.toI) else bif eqL o.toS [42] then (bif eqb x.toI 0 || eqb y.toI 0 then 0 else w64 (x.toI * y.toI)) else 0
def sp76_1 (o x y : D) : Bool := bif eqL o.toS [43] then (ltb x.toI (w64 (x.toI + y.toI)) == ltb 0 y.toI) else bif eqL o.toS [45] then (ltb (w64 (x.toI - y.toI)) x.toI == ltb 0 y.toI) else bif eqL o.toS [42] then (bif eqb x.toI 0 || eqb y.toI 0 then true else mulOk x.toI y.toI) else false
section
variable {R : Type}
def m76_1 (N : Nat) (x0 x1 x2 : D) (K : D → D → D → Option R) : Option R :=
  K x0 x1 x2
def s76_0 (x0 x1 x2 : D) : St := sts 71 [(0, V.f x0), (1, V.f x1), (2, V.f x2)] []
theorem e76_1 (N : Nat) (k : Kn R) (x0 x1 x2 : D) : runC PHI Tb75 N vc76_1 (s76_0 x0 x1 x2) k = m76_1 N x0 x1 x2 (fun x0 x1 x2 => k .normal (s76_0 x0 x1 x2)) := by
  refine Eq.trans (runC_post _ _ _ k) (Eq.trans (ops_run _ _ _ _) (by kernel_rfl))
def m76_4 (N : Nat) (x0 x1 x2 : D) (K : D → D → D → Option R) : Option R :=
  K x1 x2 x0
def s76_1 (x1 x2 x11 : D) : St := sts 71 [(1, V.f x1), (2, V.f x2), (11, V.f x11)] []
theorem e76_4 (N : Nat) (k : Kn R) (x0 x1 x2 : D) : runC PHI Tb75 N vc76_4 (s76_0 x0 x1 x2) k = m76_4 N x0 x1 x2 (fun x1 x2 x11 => k .normal (s76_1 x1 x2 x11)) := by
  refine Eq.trans (runC_post _ _ _ k) (Eq.trans (ops_run _ _ _ _) (by kernel_rfl))
def m76_7 (N : Nat) (x1 x2 x11 : D) (K : D → D → D → D → Option R) : Option R :=
  K x1 x2 x11 (D.b (eqL x11.toS [43]))
def s76_2 (x1 x2 x11 x12 : D) : St := sts 71 [(1, V.f x1), (2, V.f x2), (11, V.f x11), (12, V.f x12)] []
theorem e76_7 (N : Nat) (k : Kn R) (x1 x2 x11 : D) : runC PHI Tb75 N vc76_7 (s76_1 x1 x2 x11) k = m76_7 N x1 x2 x11 (fun x1 x2 x11 x12 => k .normal (s76_2 x1 x2 x11 x12)) := by
  refine Eq.trans (runC_post _ _ _ k) (Eq.trans (ops_run _ _ _ _) (by kernel_rfl))
def m76_9 (N : Nat) (x1 x2 : D) (Kr : D → D → Option R) : Option R :=
  Kr (D.i (IntKind.wrap IntKind.i64 (x1.toI + x2.toI))) (D.b ((ltb x1.toI (IntKind.wrap IntKind.i64 (x1.toI + x2.toI))) == (ltb 0 x2.toI)))
def s76_3 (x1 x2 : D) : St := sts 71 [(1, V.f x1), (2, V.f x2)] []
def s76_4 (x6 x7 : D) : St := sts 71 [(6, V.f x6), (7, V.f x7)] []
theorem e76_9 (N : Nat) (k : Kn R) (x1 x2 : D) : runC PHI Tb75 N vc76_9 (s76_3 x1 x2) k = m76_9 N x1 x2 (fun x6 x7 => k .ret (s76_4 x6 x7)) := by kernel_rfl
def m76_15 (N : Nat) (x1 x2 x11 : D) (K : D → D → D → D → Option R) : Option R :=
  K x1 x2 x11 (D.b (eqL x11.toS [45]))
def s76_5 (x1 x2 x11 x24 : D) : St := sts 71 [(1, V.f x1), (2, V.f x2), (11, V.f x11), (24, V.f x24)] []
theorem e76_15 (N : Nat) (k : Kn R) (x1 x2 x11 : D) : runC PHI Tb75 N vc76_15 (s76_1 x1 x2 x11) k = m76_15 N x1 x2 x11 (fun x1 x2 x11 x24 => k .normal (s76_5 x1 x2 x11 x24)) := by
  refine Eq.trans (runC_post _ _ _ k) (Eq.trans (ops_run _ _ _ _) (by kernel_rfl))
def m76_17 (N : Nat) (x1 x2 : D) (Kr : D → D → Option R) : Option R :=
  Kr (D.i (IntKind.wrap IntKind.i64 (x1.toI - x2.toI))) (D.b ((ltb (IntKind.wrap IntKind.i64 (x1.toI - x2.toI)) x1.toI) == (ltb 0 x2.toI)))
theorem e76_17 (N : Nat) (k : Kn R) (x1 x2 : D) : runC PHI Tb75 N vc76_17 (s76_3 x1 x2) k = m76_17 N x1 x2 (fun x6 x7 => k .ret (s76_4 x6 x7)) := by kernel_rfl
def m76_23 (N : Nat) (x1 x2 x11 : D) (K : D → D → D → Option R) : Option R :=
  K x1 x2 (D.b (eqL x11.toS [42]))
def s76_6 (x1 x2 x36 : D) : St := sts 71 [(1, V.f x1), (2, V.f x2), (36, V.f x36)] []
theorem e76_23 (N : Nat) (k : Kn R) (x1 x2 x11 : D) : runC PHI Tb75 N vc76_23 (s76_1 x1 x2 x11) k = m76_23 N x1 x2 x11 (fun x1 x2 x36 => k .normal (s76_6 x1 x2 x36)) := by
  refine Eq.trans (runC_post _ _ _ k) (Eq.trans (ops_run _ _ _ _) (by kernel_rfl))
def m76_26 (N : Nat) (x1 x2 : D) (K : D → D → Option R) (Kr : D → D → Option R) : Option R :=
  (bif (eqb x1.toI 0) then (bif true then Kr (D.i 0) (D.b true) else K x1 x2) else (bif (eqb x2.toI 0) then Kr (D.i 0) (D.b true) else K x1 x2))
theorem e76_26 (N : Nat) (k : Kn R) (x1 x2 : D) : runC PHI Tb75 N vc76_26 (s76_3 x1 x2) k = m76_26 N x1 x2 (fun x1 x2 => k .normal (s76_3 x1 x2)) (fun x6 x7 => k .ret (s76_4 x6 x7)) := by kernel_rfl
def m76_33 (N : Nat) (x1 x2 : D) (Kr : D → D → Option R) : Option R :=
  (bif (!eqb x2.toI 0) then (bif (eqb (IntKind.wrap IntKind.i64 (Int.tdiv (IntKind.wrap IntKind.i64 (x1.toI * x2.toI)) x2.toI)) x1.toI) then (bif (eqb x1.toI (-1)) then (bif (!(eqb x2.toI (-9223372036854775808))) then (bif (eqb x2.toI (-1)) then Kr (D.i (IntKind.wrap IntKind.i64 (x1.toI * x2.toI))) (D.b (!(eqb x1.toI (-9223372036854775808)))) else Kr (D.i (IntKind.wrap IntKind.i64 (x1.toI * x2.toI))) (D.b (!false))) else Kr (D.i (IntKind.wrap IntKind.i64 (x1.toI * x2.toI))) (D.b false)) else (bif (!false) then (bif (eqb x2.toI (-1)) then Kr (D.i (IntKind.wrap IntKind.i64 (x1.toI * x2.toI))) (D.b (!(eqb x1.toI (-9223372036854775808)))) else Kr (D.i (IntKind.wrap IntKind.i64 (x1.toI * x2.toI))) (D.b (!false))) else Kr (D.i (IntKind.wrap IntKind.i64 (x1.toI * x2.toI))) (D.b false))) else Kr (D.i (IntKind.wrap IntKind.i64 (x1.toI * x2.toI))) (D.b false)) else none)
theorem e76_33 (N : Nat) (k : Kn R) (x1 x2 : D) : runC PHI Tb75 N vc76_33 (s76_3 x1 x2) k = m76_33 N x1 x2 (fun x6 x7 => k .ret (s76_4 x6 x7)) := by kernel_rfl
def m76_25 (N : Nat) (x1 x2 : D) (Kr : D → D → Option R) : Option R :=
  (m76_26 N x1 x2 (fun y1 y2 => (m76_33 N y1 y2 Kr)) Kr)
theorem e76_25 (N : Nat) (k : Kn R) (x1 x2 : D) : runC PHI Tb75 N vc76_25 (s76_3 x1 x2) k = m76_25 N x1 x2 (fun x6 x7 => k .ret (s76_4 x6 x7)) := by
  have h2 := e76_26 N (kseq PHI Tb75 N vc76_33 k) x1 x2
  have h3 := (funext fun y1 => funext fun y2 => (e76_33 N k y1 y2) : (fun (y1 y2 : D) => (kseq PHI Tb75 N vc76_33 k) .normal (s76_3 y1 y2)) = _)
  refine Eq.trans (runC_seq _ _ _ k) (Eq.trans h2 (Eq.trans (congrArg (fun K => m76_26 N x1 x2 K (fun x6 x7 => (kseq PHI Tb75 N vc76_33 k) .ret (s76_4 x6 x7))) h3) (by kernel_rfl)))
def m76_38 (N : Nat) (K : Option R) : Option R :=
  K
def s76_7 : St := sts 71 [] []
theorem e76_38 (N : Nat) (k : Kn R) : runC PHI Tb75 N vc76_38 s76_7 k = m76_38 N (k .normal s76_7) := by kernel_rfl
def m76_24 (N : Nat) (x1 x2 x36 : D) (K : Option R) (Kr : D → D → Option R) : Option R :=
  (bif x36.toB then (m76_25 N x1 x2 Kr) else (m76_38 N (K)))
theorem e76_24 (N : Nat) (k : Kn R) (x1 x2 x36 : D) : runC PHI Tb75 N vc76_24 (s76_6 x1 x2 x36) k = m76_24 N x1 x2 x36 (k .normal s76_7) (fun x6 x7 => k .ret (s76_4 x6 x7)) := by
  refine Eq.trans (runC_cond (s1 := (s76_3 x1 x2)) (s2 := s76_7) (d := x36) _ _ k (by kernel_rfl) (by kernel_rfl) (by kernel_rfl)) (Eq.trans (congr (congrArg (cond x36.toB) ((e76_25 N k x1 x2))) ((e76_38 N k ))) (by kernel_rfl))
def m76_22 (N : Nat) (x1 x2 x11 : D) (K : Option R) (Kr : D → D → Option R) : Option R :=
  (m76_23 N x1 x2 x11 (fun y1 y2 y36 => (m76_24 N y1 y2 y36 (K) Kr)))
theorem e76_22 (N : Nat) (k : Kn R) (x1 x2 x11 : D) : runC PHI Tb75 N vc76_22 (s76_1 x1 x2 x11) k = m76_22 N x1 x2 x11 (k .normal s76_7) (fun x6 x7 => k .ret (s76_4 x6 x7)) := by
  have h2 := e76_23 N (kseq PHI Tb75 N vc76_24 k) x1 x2 x11
  have h3 := (funext fun y1 => funext fun y2 => funext fun y36 => (e76_24 N k y1 y2 y36) : (fun (y1 y2 y36 : D) => (kseq PHI Tb75 N vc76_24 k) .normal (s76_6 y1 y2 y36)) = _)
  refine Eq.trans (runC_seq _ _ _ k) (Eq.trans h2 (Eq.trans (congrArg (fun K => m76_23 N x1 x2 x11 K) h3) (by kernel_rfl)))
def m76_16 (N : Nat) (x1 x2 x11 x24 : D) (K : Option R) (Kr : D → D → Option R) : Option R :=
  (bif x24.toB then (m76_17 N x1 x2 Kr) else (m76_22 N x1 x2 x11 (K) Kr))
theorem e76_16 (N : Nat) (k : Kn R) (x1 x2 x11 x24 : D) : runC PHI Tb75 N vc76_16 (s76_5 x1 x2 x11 x24) k = m76_16 N x1 x2 x11 x24 (k .normal s76_7) (fun x6 x7 => k .ret (s76_4 x6 x7)) := by
  refine Eq.trans (runC_cond (s1 := (s76_3 x1 x2)) (s2 := (s76_1 x1 x2 x11)) (d := x24) _ _ k (by kernel_rfl) (by kernel_rfl) (by kernel_rfl)) (Eq.trans (congr (congrArg (cond x24.toB) ((e76_17 N k x1 x2))) ((e76_22 N k x1 x2 x11))) (by kernel_rfl))
def m76_14 (N : Nat) (x1 x2 x11 : D) (K : Option R) (Kr : D → D → Option R) : Option R :=
  (m76_15 N x1 x2 x11 (fun y1 y2 y11 y24 => (m76_16 N y1 y2 y11 y24 (K) Kr)))
theorem e76_14 (N : Nat) (k : Kn R) (x1 x2 x11 : D) : runC PHI Tb75 N vc76_14 (s76_1 x1 x2 x11) k = m76_14 N x1 x2 x11 (k .normal s76_7) (fun x6 x7 => k .ret (s76_4 x6 x7)) := by
  have h2 := e76_15 N (kseq PHI Tb75 N vc76_16 k) x1 x2 x11
  have h3 := (funext fun y1 => funext fun y2 => funext fun y11 => funext fun y24 => (e76_16 N k y1 y2 y11 y24) : (fun (y1 y2 y11 y24 : D) => (kseq PHI Tb75 N vc76_16 k) .normal (s76_5 y1 y2 y11 y24)) = _)
  refine Eq.trans (runC_seq _ _ _ k) (Eq.trans h2 (Eq.trans (congrArg (fun K => m76_15 N x1 x2 x11 K) h3) (by kernel_rfl)))
def m76_8 (N : Nat) (x1 x2 x11 x12 : D) (K : Option R) (Kr : D → D → Option R) : Option R :=
  (bif x12.toB then (m76_9 N x1 x2 Kr) else (m76_14 N x1 x2 x11 (K) Kr))
theorem e76_8 (N : Nat) (k : Kn R) (x1 x2 x11 x12 : D) : runC PHI Tb75 N vc76_8 (s76_2 x1 x2 x11 x12) k = m76_8 N x1 x2 x11 x12 (k .normal s76_7) (fun x6 x7 => k .ret (s76_4 x6 x7)) := by
  refine Eq.trans (runC_cond (s1 := (s76_3 x1 x2)) (s2 := (s76_1 x1 x2 x11)) (d := x12) _ _ k (by kernel_rfl) (by kernel_rfl) (by kernel_rfl)) (Eq.trans (congr (congrArg (cond x12.toB) ((e76_9 N k x1 x2))) ((e76_14 N k x1 x2 x11))) (by kernel_rfl))
def m76_6 (N : Nat) (x1 x2 x11 : D) (K : Option R) (Kr : D → D → Option R) : Option R :=
  (m76_7 N x1 x2 x11 (fun y1 y2 y11 y12 => (m76_8 N y1 y2 y11 y12 (K) Kr)))
theorem e76_6 (N : Nat) (k : Kn R) (x1 x2 x11 : D) : runC PHI Tb75 N vc76_6 (s76_1 x1 x2 x11) k = m76_6 N x1 x2 x11 (k .normal s76_7) (fun x6 x7 => k .ret (s76_4 x6 x7)) := by
  have h2 := e76_7 N (kseq PHI Tb75 N vc76_8 k) x1 x2 x11
  have h3 := (funext fun y1 => funext fun y2 => funext fun y11 => funext fun y12 => (e76_8 N k y1 y2 y11 y12) : (fun (y1 y2 y11 y12 : D) => (kseq PHI Tb75 N vc76_8 k) .normal (s76_2 y1 y2 y11 y12)) = _)
  refine Eq.trans (runC_seq _ _ _ k) (Eq.trans h2 (Eq.trans (congrArg (fun K => m76_7 N x1 x2 x11 K) h3) (by kernel_rfl)))
def m76_5 (N : Nat) (x1 x2 x11 : D) (K : Option R) (Kr : D → D → Option R) : Option R :=
  (m76_6 N x1 x2 x11 (K) Kr)
theorem e76_5 (N : Nat) (k : Kn R) (x1 x2 x11 : D) : runC PHI Tb75 N vc76_5 (s76_1 x1 x2 x11) k = m76_5 N x1 x2 x11 (k .normal s76_7) (fun x6 x7 => k .ret (s76_4 x6 x7)) := by
  refine Eq.trans (runC_block _ _ _ k) (Eq.trans (e76_6 N (kblk 0 k) x1 x2 x11) (by kernel_rfl))
def m76_3 (N : Nat) (x0 x1 x2 : D) (K : Option R) (Kr : D → D → Option R) : Option R :=
  (m76_4 N x0 x1 x2 (fun y1 y2 y11 => (m76_5 N y1 y2 y11 (K) Kr)))
theorem e76_3 (N : Nat) (k : Kn R) (x0 x1 x2 : D) : runC PHI Tb75 N vc76_3 (s76_0 x0 x1 x2) k = m76_3 N x0 x1 x2 (k .normal s76_7) (fun x6 x7 => k .ret (s76_4 x6 x7)) := by
  have h2 := e76_4 N (kseq PHI Tb75 N vc76_5 k) x0 x1 x2
  have h3 := (funext fun y1 => funext fun y2 => funext fun y11 => (e76_5 N k y1 y2 y11) : (fun (y1 y2 y11 : D) => (kseq PHI Tb75 N vc76_5 k) .normal (s76_1 y1 y2 y11)) = _)
  refine Eq.trans (runC_seq _ _ _ k) (Eq.trans h2 (Eq.trans (congrArg (fun K => m76_4 N x0 x1 x2 K) h3) (by kernel_rfl)))
def m76_39 (N : Nat) (Kr : D → D → Option R) : Option R :=
  Kr (D.i 0) (D.b false)
theorem e76_39 (N : Nat) (k : Kn R) : runC PHI Tb75 N vc76_39 s76_7 k = m76_39 N (fun x6 x7 => k .ret (s76_4 x6 x7)) := by kernel_rfl
def m76_2 (N : Nat) (x0 x1 x2 : D) (Kr : D → D → Option R) : Option R :=
  (m76_3 N x0 x1 x2 ((m76_39 N Kr)) Kr)
theorem e76_2 (N : Nat) (k : Kn R) (x0 x1 x2 : D) : runC PHI Tb75 N vc76_2 (s76_0 x0 x1 x2) k = m76_2 N x0 x1 x2 (fun x6 x7 => k .ret (s76_4 x6 x7)) := by
  have h2 := e76_3 N (kseq PHI Tb75 N vc76_39 k) x0 x1 x2
  have h3 := ((e76_39 N k ) : ((kseq PHI Tb75 N vc76_39 k) .normal s76_7) = _)
  refine Eq.trans (runC_seq _ _ _ k) (Eq.trans h2 (Eq.trans (congrArg (fun K => m76_3 N x0 x1 x2 K (fun x6 x7 => (kseq PHI Tb75 N vc76_39 k) .ret (s76_4 x6 x7))) h3) (by kernel_rfl)))
def m76_0 (N : Nat) (x0 x1 x2 : D) (Kr : D → D → Option R) : Option R :=
  (m76_1 N x0 x1 x2 (fun y0 y1 y2 => (m76_2 N y0 y1 y2 Kr)))
theorem e76_0 (N : Nat) (k : Kn R) (x0 x1 x2 : D) : runC PHI Tb75 N vc76_0 (s76_0 x0 x1 x2) k = m76_0 N x0 x1 x2 (fun x6 x7 => k .ret (s76_4 x6 x7)) := by
  have h2 := e76_1 N (kseq PHI Tb75 N vc76_2 k) x0 x1 x2
  have h3 := (funext fun y0 => funext fun y1 => funext fun y2 => (e76_2 N k y0 y1 y2) : (fun (y0 y1 y2 : D) => (kseq PHI Tb75 N vc76_2 k) .normal (s76_0 y0 y1 y2)) = _)
  refine Eq.trans (runC_seq _ _ _ k) (Eq.trans h2 (Eq.trans (congrArg (fun K => m76_1 N x0 x1 x2 K) h3) (by kernel_rfl)))
theorem r76 (N : Nat) (x0 x1 x2 : D) : runC PHI Tb75 N vf76.body (enterV vf76 [V.f x0, V.f x1, V.f x2] []) (finish vf76) = m76_0 N x0 x1 x2 (fun x6 x7 => finish vf76 .ret (s76_4 x6 x7)) := 
  Eq.trans (runC_pre (s1 := (s76_0 x0 x1 x2)) (by kernel_rfl) _ _) (Eq.trans (e76_0 N (finish vf76) x0 x1 x2) (by kernel_rfl))
end
def Tb76 : CallF := extend Tb75 76 (fn3 (fun _ _ _ => true) fun o x y => .t [.f (.i (sp76_0 o x y)), .f (.b (sp76_1 o x y))])
theorem ok76 : FnOk Try.prog PHI Tb76 := FnOk.add3 hPHI ok75 (by kernel_rfl) fun o x y _ _ => ⟨0, (r76 0 o x y).trans (by
  simp only [m76_1, m76_4, m76_7, m76_9, m76_15, m76_17, m76_23, m76_26, m76_33, m76_25, m76_38, m76_24, m76_22, m76_16, m76_14, m76_8, m76_6, m76_5, m76_3, m76_39, m76_2, m76_0, toB_b, sp76_0, sp76_1]
  cases eqL o.toS [43]
  · cases eqL o.toS [45]
    · cases eqL o.toS [42]
      · rfl
      · cases eqb x.toI 0
        · cases eqb y.toI 0
          · unfold mulOk w64
            simp only [cond_true, cond_false, Bool.not_false, Bool.or_self]
            cases eqb (IntKind.wrap IntKind.i64 (Int.tdiv (IntKind.wrap IntKind.i64 (x.toI * y.toI)) y.toI)) x.toI
            · rfl
            · cases eqb x.toI (-1) <;> cases eqb y.toI (-9223372036854775808) <;> cases eqb y.toI (-1) <;> cases eqb x.toI (-9223372036854775808) <;> rfl
          · rfl
        · rfl
    · rfl
  · rfl)⟩
def arF (o a b : D) : D := bif eqL o.toS [43] then sp61 (F2.ev .fadd a b) else bif eqL o.toS [45] then sp61 (F2.ev .fsub a b) else bif eqL o.toS [42] then sp61 (F2.ev .fmul a b) else z0
def arA (o a b : D) : D := bif eqb (a.at 0).toI 1 && eqb (b.at 0).toI 1 then (bif sp76_1 o (a.at 1) (b.at 1) then sp60 (.i (sp76_0 o (a.at 1) (b.at 1))) else z0) else bif eqb (a.at 0).toI 2 && eqb (b.at 0).toI 2 then arF o (a.at 2) (b.at 2) else z0
def sp50 (o x y : D) : D := arA o (sp30 x) (sp30 y)
section
variable {R : Type}
def m50_1 (N : Nat) (x0 x1 x2 : D) (K : D → D → D → Option R) : Option R :=
  K x0 x1 x2
def s50_0 (x0 x1 x2 : D) : St := sts 69 [(0, V.f x0), (1, V.f x1), (2, V.f x2)] [V.u, V.u]
def s50_1 (x0 h0 h1 : D) : St := sts 69 [(0, V.f x0), (4, V.m 0 []), (5, V.m 1 []), (6, V.a)] [V.f h0, V.f h1]
theorem e50_1 (N : Nat) (k : Kn R) (x0 x1 x2 : D) : runC PHI Tb76 N vc50_1 (s50_0 x0 x1 x2) k = m50_1 N x0 x1 x2 (fun x0 h0 h1 => k .normal (s50_1 x0 h0 h1)) := by
  refine Eq.trans (runC_post _ _ _ k) (Eq.trans (ops_run _ _ _ _) (by kernel_rfl))
def m50_3 (N : Nat) (x0 h0 h1 : D) (K : D → D → D → Option R) : Option R :=
  K x0 (sp30 h0) (sp30 h1)
theorem e50_3 (N : Nat) (k : Kn R) (x0 h0 h1 : D) : runC PHI Tb76 N vc50_3 (s50_1 x0 h0 h1) k = m50_3 N x0 h0 h1 (fun x0 h0 h1 => k .normal (s50_1 x0 h0 h1)) := by
  refine Eq.trans (runC_post _ _ _ k) (Eq.trans (ops_run _ _ _ _) (by kernel_rfl))
def m50_7 (N : Nat) (x0 h0 h1 : D) (K : D → D → D → D → Option R) : Option R :=
  (bif (eqb (h0.at 0).toI 1) then K x0 (D.b (eqb (h1.at 0).toI 1)) h0 h1 else K x0 (D.b false) h0 h1)
def s50_2 (x0 x13 h0 h1 : D) : St := sts 69 [(0, V.f x0), (4, V.m 0 []), (5, V.m 1 []), (6, V.a), (13, V.f x13)] [V.f h0, V.f h1]
theorem e50_7 (N : Nat) (k : Kn R) (x0 h0 h1 : D) : runC PHI Tb76 N vc50_7 (s50_1 x0 h0 h1) k = m50_7 N x0 h0 h1 (fun x0 x13 h0 h1 => k .normal (s50_2 x0 x13 h0 h1)) := by
  refine Eq.trans (runC_post _ _ _ k) (Eq.trans (ops_run _ _ _ _) (by kernel_rfl))
def m50_9 (N : Nat) (x0 h0 h1 : D) (K : D → D → Option R) (Kr : D → D → D → Option R) : Option R :=
  (bif (sp76_1 x0 (h0.at 1) (h1.at 1)) then Kr (D.p (sp60 (D.i (sp76_0 x0 (h0.at 1) (h1.at 1))))) h0 h1 else K h0 h1)
def s50_3 (h0 h1 : D) : St := sts 69 [(6, V.a)] [V.f h0, V.f h1]
def s50_4 (x6 h0 h1 : D) : St := sts 69 [(6, V.f x6)] [V.f h0, V.f h1]
theorem e50_9 (N : Nat) (k : Kn R) (x0 h0 h1 : D) : runC PHI Tb76 N vc50_9 (s50_1 x0 h0 h1) k = m50_9 N x0 h0 h1 (fun h0 h1 => k .normal (s50_3 h0 h1)) (fun x6 h0 h1 => k .ret (s50_4 x6 h0 h1)) := by kernel_rfl
def m50_19 (N : Nat) (x0 h0 h1 : D) (K : D → D → D → D → Option R) : Option R :=
  (bif (eqb (h0.at 0).toI 2) then K x0 (D.b (eqb (h1.at 0).toI 2)) h0 h1 else K x0 (D.b false) h0 h1)
def s50_5 (x0 x34 h0 h1 : D) : St := sts 69 [(0, V.f x0), (4, V.m 0 []), (5, V.m 1 []), (6, V.a), (34, V.f x34)] [V.f h0, V.f h1]
theorem e50_19 (N : Nat) (k : Kn R) (x0 h0 h1 : D) : runC PHI Tb76 N vc50_19 (s50_1 x0 h0 h1) k = m50_19 N x0 h0 h1 (fun x0 x34 h0 h1 => k .normal (s50_5 x0 x34 h0 h1)) := by
  refine Eq.trans (runC_post _ _ _ k) (Eq.trans (ops_run _ _ _ _) (by kernel_rfl))
def m50_20 (N : Nat) (x0 x34 h0 h1 : D) (K : D → D → Option R) (Kr : D → D → D → Option R) : Option R :=
  (bif x34.toB then (bif (eqL x0.toS [43]) then Kr (D.p (sp61 (F2.ev .fadd (h0.at 2) (h1.at 2)))) h0 h1 else (bif (eqL x0.toS [45]) then Kr (D.p (sp61 (F2.ev .fsub (h0.at 2) (h1.at 2)))) h0 h1 else (bif (eqL x0.toS [42]) then Kr (D.p (sp61 (F2.ev .fmul (h0.at 2) (h1.at 2)))) h0 h1 else K h0 h1))) else K h0 h1)
theorem e50_20 (N : Nat) (k : Kn R) (x0 x34 h0 h1 : D) : runC PHI Tb76 N vc50_20 (s50_5 x0 x34 h0 h1) k = m50_20 N x0 x34 h0 h1 (fun h0 h1 => k .normal (s50_3 h0 h1)) (fun x6 h0 h1 => k .ret (s50_4 x6 h0 h1)) := by kernel_rfl
def m50_18 (N : Nat) (x0 h0 h1 : D) (K : D → D → Option R) (Kr : D → D → D → Option R) : Option R :=
  (m50_19 N x0 h0 h1 (fun y0 y34 h0 h1 => (m50_20 N y0 y34 h0 h1 (fun h0 h1 => K h0 h1) Kr)))
theorem e50_18 (N : Nat) (k : Kn R) (x0 h0 h1 : D) : runC PHI Tb76 N vc50_18 (s50_1 x0 h0 h1) k = m50_18 N x0 h0 h1 (fun h0 h1 => k .normal (s50_3 h0 h1)) (fun x6 h0 h1 => k .ret (s50_4 x6 h0 h1)) := by
  have h2 := e50_19 N (kseq PHI Tb76 N vc50_20 k) x0 h0 h1
  have h3 := (funext fun y0 => funext fun y34 => funext fun h0 => funext fun h1 => (e50_20 N k y0 y34 h0 h1) : (fun (y0 y34 h0 h1 : D) => (kseq PHI Tb76 N vc50_20 k) .normal (s50_5 y0 y34 h0 h1)) = _)
  refine Eq.trans (runC_seq _ _ _ k) (Eq.trans h2 (Eq.trans (congrArg (fun K => m50_19 N x0 h0 h1 K) h3) (by kernel_rfl)))
def m50_8 (N : Nat) (x0 x13 h0 h1 : D) (K : D → D → Option R) (Kr : D → D → D → Option R) : Option R :=
  (bif x13.toB then (m50_9 N x0 h0 h1 (fun h0 h1 => K h0 h1) Kr) else (m50_18 N x0 h0 h1 (fun h0 h1 => K h0 h1) Kr))
theorem e50_8 (N : Nat) (k : Kn R) (x0 x13 h0 h1 : D) : runC PHI Tb76 N vc50_8 (s50_2 x0 x13 h0 h1) k = m50_8 N x0 x13 h0 h1 (fun h0 h1 => k .normal (s50_3 h0 h1)) (fun x6 h0 h1 => k .ret (s50_4 x6 h0 h1)) := by
  refine Eq.trans (runC_cond (s1 := (s50_1 x0 h0 h1)) (s2 := (s50_1 x0 h0 h1)) (d := x13) _ _ k (by kernel_rfl) (by kernel_rfl) (by kernel_rfl)) (Eq.trans (congr (congrArg (cond x13.toB) ((e50_9 N k x0 h0 h1))) ((e50_18 N k x0 h0 h1))) (by kernel_rfl))
def m50_6 (N : Nat) (x0 h0 h1 : D) (K : D → D → Option R) (Kr : D → D → D → Option R) : Option R :=
  (m50_7 N x0 h0 h1 (fun y0 y13 h0 h1 => (m50_8 N y0 y13 h0 h1 (fun h0 h1 => K h0 h1) Kr)))
theorem e50_6 (N : Nat) (k : Kn R) (x0 h0 h1 : D) : runC PHI Tb76 N vc50_6 (s50_1 x0 h0 h1) k = m50_6 N x0 h0 h1 (fun h0 h1 => k .normal (s50_3 h0 h1)) (fun x6 h0 h1 => k .ret (s50_4 x6 h0 h1)) := by
  have h2 := e50_7 N (kseq PHI Tb76 N vc50_8 k) x0 h0 h1
  have h3 := (funext fun y0 => funext fun y13 => funext fun h0 => funext fun h1 => (e50_8 N k y0 y13 h0 h1) : (fun (y0 y13 h0 h1 : D) => (kseq PHI Tb76 N vc50_8 k) .normal (s50_2 y0 y13 h0 h1)) = _)
  refine Eq.trans (runC_seq _ _ _ k) (Eq.trans h2 (Eq.trans (congrArg (fun K => m50_7 N x0 h0 h1 K) h3) (by kernel_rfl)))
def m50_5 (N : Nat) (x0 h0 h1 : D) (K : D → D → Option R) (Kr : D → D → D → Option R) : Option R :=
  (m50_6 N x0 h0 h1 (fun h0 h1 => K h0 h1) Kr)
theorem e50_5 (N : Nat) (k : Kn R) (x0 h0 h1 : D) : runC PHI Tb76 N vc50_5 (s50_1 x0 h0 h1) k = m50_5 N x0 h0 h1 (fun h0 h1 => k .normal (s50_3 h0 h1)) (fun x6 h0 h1 => k .ret (s50_4 x6 h0 h1)) := by
  refine Eq.trans (runC_block _ _ _ k) (Eq.trans (e50_6 N (kblk 0 k) x0 h0 h1) (by kernel_rfl))
def m50_44 (N : Nat) (h0 h1 : D) (Kr : D → D → D → Option R) : Option R :=
  Kr (D.p (D.ag [(D.i 0), (D.i 0), (D.f 0), (D.s [])])) h0 h1
theorem e50_44 (N : Nat) (k : Kn R) (h0 h1 : D) : runC PHI Tb76 N vc50_44 (s50_3 h0 h1) k = m50_44 N h0 h1 (fun x6 h0 h1 => k .ret (s50_4 x6 h0 h1)) := by kernel_rfl
def m50_4 (N : Nat) (x0 h0 h1 : D) (Kr : D → D → D → Option R) : Option R :=
  (m50_5 N x0 h0 h1 (fun h0 h1 => (m50_44 N h0 h1 Kr)) Kr)
theorem e50_4 (N : Nat) (k : Kn R) (x0 h0 h1 : D) : runC PHI Tb76 N vc50_4 (s50_1 x0 h0 h1) k = m50_4 N x0 h0 h1 (fun x6 h0 h1 => k .ret (s50_4 x6 h0 h1)) := by
  have h2 := e50_5 N (kseq PHI Tb76 N vc50_44 k) x0 h0 h1
  have h3 := (funext fun h0 => funext fun h1 => (e50_44 N k h0 h1) : (fun (h0 h1 : D) => (kseq PHI Tb76 N vc50_44 k) .normal (s50_3 h0 h1)) = _)
  refine Eq.trans (runC_seq _ _ _ k) (Eq.trans h2 (Eq.trans (congrArg (fun K => m50_5 N x0 h0 h1 K (fun x6 h0 h1 => (kseq PHI Tb76 N vc50_44 k) .ret (s50_4 x6 h0 h1))) h3) (by kernel_rfl)))
def m50_2 (N : Nat) (x0 h0 h1 : D) (Kr : D → D → D → Option R) : Option R :=
  (m50_3 N x0 h0 h1 (fun y0 h0 h1 => (m50_4 N y0 h0 h1 Kr)))
theorem e50_2 (N : Nat) (k : Kn R) (x0 h0 h1 : D) : runC PHI Tb76 N vc50_2 (s50_1 x0 h0 h1) k = m50_2 N x0 h0 h1 (fun x6 h0 h1 => k .ret (s50_4 x6 h0 h1)) := by
  have h2 := e50_3 N (kseq PHI Tb76 N vc50_4 k) x0 h0 h1
  have h3 := (funext fun y0 => funext fun h0 => funext fun h1 => (e50_4 N k y0 h0 h1) : (fun (y0 h0 h1 : D) => (kseq PHI Tb76 N vc50_4 k) .normal (s50_1 y0 h0 h1)) = _)
  refine Eq.trans (runC_seq _ _ _ k) (Eq.trans h2 (Eq.trans (congrArg (fun K => m50_3 N x0 h0 h1 K) h3) (by kernel_rfl)))
def m50_0 (N : Nat) (x0 x1 x2 : D) (Kr : D → D → D → Option R) : Option R :=
  (m50_1 N x0 x1 x2 (fun y0 h0 h1 => (m50_2 N y0 h0 h1 Kr)))
theorem e50_0 (N : Nat) (k : Kn R) (x0 x1 x2 : D) : runC PHI Tb76 N vc50_0 (s50_0 x0 x1 x2) k = m50_0 N x0 x1 x2 (fun x6 h0 h1 => k .ret (s50_4 x6 h0 h1)) := by
  have h2 := e50_1 N (kseq PHI Tb76 N vc50_2 k) x0 x1 x2
  have h3 := (funext fun y0 => funext fun h0 => funext fun h1 => (e50_2 N k y0 h0 h1) : (fun (y0 h0 h1 : D) => (kseq PHI Tb76 N vc50_2 k) .normal (s50_1 y0 h0 h1)) = _)
  refine Eq.trans (runC_seq _ _ _ k) (Eq.trans h2 (Eq.trans (congrArg (fun K => m50_1 N x0 x1 x2 K) h3) (by kernel_rfl)))
theorem r50 (N : Nat) (x0 x1 x2 : D) : runC PHI Tb76 N vf50.body (enterV vf50 [V.f x0, V.f x1, V.f x2] []) (finish vf50) = m50_0 N x0 x1 x2 (fun x6 h0 h1 => finish vf50 .ret (s50_4 x6 h0 h1)) := 
  Eq.trans (runC_pre (s1 := (s50_0 x0 x1 x2)) (by kernel_rfl) _ _) (Eq.trans (e50_0 N (finish vf50) x0 x1 x2) (by kernel_rfl))
end
def Tb50 : CallF := extend Tb76 50 (fn3 (fun _ _ _ => true) fun o x y => .f (sp50 o x y))
theorem ok50 : FnOk Try.prog PHI Tb50 := FnOk.add3 hPHI ok76 (by kernel_rfl) fun o x y _ _ => ⟨0, (r50 0 o x y).trans (by
  simp only [m50_1, m50_3, m50_7, m50_9, m50_19, m50_20, m50_18, m50_8, m50_6, m50_5, m50_44, m50_4, m50_2, m50_0, toB_b, sp50]
  generalize sp30 x = a
  generalize sp30 y = b
  unfold arA arF
  by_cases h1 : (a.at 0).toI = 1
  · have h2 : ¬ (a.at 0).toI = 2 := by omega
    rw [eqb_t h1, eqb_f h2]
    cases eqb (b.at 0).toI 1
    · rfl
    · simp only [cond_true, Bool.and_self]
      cases sp76_1 o (a.at 1) (b.at 1) <;> rfl
  · rw [eqb_f h1]
    cases eqb (a.at 0).toI 2
    · rfl
    · cases eqb (b.at 0).toI 2
      · rfl
      · simp only [cond_true, cond_false, Bool.and_self, Bool.false_and]
        cases eqL o.toS [43] <;> cases eqL o.toS [45] <;> cases eqL o.toS [42] <;> rfl)⟩
def sp45 (x : D) : D := bif eqb ((sp30 x).at 0).toI 2 then sp61 (F1.ev .fneg ((sp30 x).at 2)) else sp50 (.s [45]) (sp60 (.i 0)) (sp30 x)
section
variable {R : Type}
def m45_0 (N : Nat) (x0 : D) (Kr : D → D → Option R) : Option R :=
  (bif (eqb ((sp30 x0).at 0).toI 2) then Kr (D.p (sp61 (F1.ev .fneg ((sp30 x0).at 2)))) (sp30 x0) else Kr (D.p (sp50 (D.s [45]) (sp60 (D.i 0)) (sp30 x0))) (sp30 x0))
def s45_0 (x0 : D) : St := sts 15 [(0, V.f x0)] [V.u]
def s45_1 (x2 h0 : D) : St := sts 15 [(2, V.f x2)] [V.f h0]
theorem e45_0 (N : Nat) (k : Kn R) (x0 : D) : runC PHI Tb50 N vc45_0 (s45_0 x0) k = m45_0 N x0 (fun x2 h0 => k .ret (s45_1 x2 h0)) := by kernel_rfl
theorem r45 (N : Nat) (x0 : D) : runC PHI Tb50 N vf45.body (enterV vf45 [V.f x0] []) (finish vf45) = m45_0 N x0 (fun x2 h0 => finish vf45 .ret (s45_1 x2 h0)) := 
  Eq.trans (runC_pre (s1 := (s45_0 x0)) (by kernel_rfl) _ _) (Eq.trans (e45_0 N (finish vf45) x0) (by kernel_rfl))
end
def Tb45 : CallF := extend Tb50 45 (fn1 (fun _ => true) fun x => .f (sp45 x))
theorem ok45 : FnOk Try.prog PHI Tb45 := FnOk.add1 hPHI ok50 (by kernel_rfl) fun x _ _ => ⟨0, (r45 0 x).trans (by
  unfold m45_0 sp45
  cases eqb ((sp30 x).at 0).toI 2 <;> rfl)⟩
def sp46 (x : D) : D := bif leb 0 (sp74 x) then sp75 (.i (w64 (1 - sp74 x))) else sp75 (.i (-1))
section
variable {R : Type}
def m46_0 (N : Nat) (x0 : D) (Kr : D → Option R) : Option R :=
  (bif (leb 0 (sp74 x0)) then Kr (D.p (sp75 (D.i (IntKind.wrap IntKind.i64 (1 - (sp74 x0)))))) else Kr (D.p (sp75 (D.i (-1)))))
def s46_0 (x0 : D) : St := sts 12 [(0, V.f x0)] []
def s46_1 (x2 : D) : St := sts 12 [(2, V.f x2)] []
theorem e46_0 (N : Nat) (k : Kn R) (x0 : D) : runC PHI Tb45 N vc46_0 (s46_0 x0) k = m46_0 N x0 (fun x2 => k .ret (s46_1 x2)) := by kernel_rfl
theorem r46 (N : Nat) (x0 : D) : runC PHI Tb45 N vf46.body (enterV vf46 [V.f x0] []) (finish vf46) = m46_0 N x0 (fun x2 => finish vf46 .ret (s46_1 x2)) := 
  Eq.trans (runC_pre (s1 := (s46_0 x0)) (by kernel_rfl) _ _) (Eq.trans (e46_0 N (finish vf46) x0) (by kernel_rfl))
end
def Tb46 : CallF := extend Tb45 46 (fn1 (fun _ => true) fun x => .f (sp46 x))
theorem ok46 : FnOk Try.prog PHI Tb46 := FnOk.add1 hPHI ok45 (by kernel_rfl) fun x _ _ => ⟨0, (r46 0 x).trans (by
  unfold m46_0 sp46
  cases leb 0 (sp74 x) <;> rfl)⟩
def sp47 (x y : D) : D := bif eqb (sp74 x) 0 || eqb (sp74 y) 0 then sp75 (.i 0) else bif ltb (sp74 x) 0 || ltb (sp74 y) 0 then sp75 (.i (-1)) else sp75 (.i 1)
section
variable {R : Type}
def m47_1 (N : Nat) (x0 x1 : D) (K : D → D → Option R) : Option R :=
  K (D.p x0) (D.p x1)
def s47_0 (x0 x1 : D) : St := sts 28 [(0, V.f x0), (1, V.f x1)] []
def s47_1 (x2 x3 : D) : St := sts 28 [(2, V.f x2), (3, V.f x3), (4, V.a)] []
theorem e47_1 (N : Nat) (k : Kn R) (x0 x1 : D) : runC PHI Tb46 N vc47_1 (s47_0 x0 x1) k = m47_1 N x0 x1 (fun x2 x3 => k .normal (s47_1 x2 x3)) := by
  refine Eq.trans (runC_post _ _ _ k) (Eq.trans (ops_run _ _ _ _) (by kernel_rfl))
def m47_3 (N : Nat) (x2 x3 : D) (K : D → D → Option R) : Option R :=
  (bif (isPtrD x2) then (bif (isPtrD x3) then K (D.i (sp74 x2.deref)) (D.i (sp74 x3.deref)) else none) else none)
def s47_2 (x5 x6 : D) : St := sts 28 [(4, V.a), (5, V.f x5), (6, V.f x6)] []
theorem e47_3 (N : Nat) (k : Kn R) (x2 x3 : D) : runC PHI Tb46 N vc47_3 (s47_1 x2 x3) k = m47_3 N x2 x3 (fun x5 x6 => k .normal (s47_2 x5 x6)) := by
  refine Eq.trans (runC_post _ _ _ k) (Eq.trans (ops_run _ _ _ _) (by kernel_rfl))
def m47_7 (N : Nat) (x5 x6 : D) (K : D → D → D → Option R) : Option R :=
  (bif (eqb x5.toI 0) then K x5 x6 (D.b true) else K x5 x6 (D.b (eqb x6.toI 0)))
def s47_3 (x5 x6 x11 : D) : St := sts 28 [(4, V.a), (5, V.f x5), (6, V.f x6), (11, V.f x11)] []
theorem e47_7 (N : Nat) (k : Kn R) (x5 x6 : D) : runC PHI Tb46 N vc47_7 (s47_2 x5 x6) k = m47_7 N x5 x6 (fun x5 x6 x11 => k .normal (s47_3 x5 x6 x11)) := by
  refine Eq.trans (runC_post _ _ _ k) (Eq.trans (ops_run _ _ _ _) (by kernel_rfl))
def m47_8 (N : Nat) (x5 x6 x11 : D) (K : Option R) (Kr : D → Option R) : Option R :=
  (bif x11.toB then Kr (D.p (sp75 (D.i 0))) else (bif (ltb x5.toI 0) then (bif true then Kr (D.p (sp75 (D.i (-1)))) else K) else (bif (ltb x6.toI 0) then Kr (D.p (sp75 (D.i (-1)))) else K)))
def s47_4 : St := sts 28 [(4, V.a)] []
def s47_5 (x4 : D) : St := sts 28 [(4, V.f x4)] []
theorem e47_8 (N : Nat) (k : Kn R) (x5 x6 x11 : D) : runC PHI Tb46 N vc47_8 (s47_3 x5 x6 x11) k = m47_8 N x5 x6 x11 (k .normal s47_4) (fun x4 => k .ret (s47_5 x4)) := by kernel_rfl
def m47_6 (N : Nat) (x5 x6 : D) (K : Option R) (Kr : D → Option R) : Option R :=
  (m47_7 N x5 x6 (fun y5 y6 y11 => (m47_8 N y5 y6 y11 (K) Kr)))
theorem e47_6 (N : Nat) (k : Kn R) (x5 x6 : D) : runC PHI Tb46 N vc47_6 (s47_2 x5 x6) k = m47_6 N x5 x6 (k .normal s47_4) (fun x4 => k .ret (s47_5 x4)) := by
  have h2 := e47_7 N (kseq PHI Tb46 N vc47_8 k) x5 x6
  have h3 := (funext fun y5 => funext fun y6 => funext fun y11 => (e47_8 N k y5 y6 y11) : (fun (y5 y6 y11 : D) => (kseq PHI Tb46 N vc47_8 k) .normal (s47_3 y5 y6 y11)) = _)
  refine Eq.trans (runC_seq _ _ _ k) (Eq.trans h2 (Eq.trans (congrArg (fun K => m47_7 N x5 x6 K) h3) (by kernel_rfl)))
def m47_5 (N : Nat) (x5 x6 : D) (K : Option R) (Kr : D → Option R) : Option R :=
  (m47_6 N x5 x6 (K) Kr)
theorem e47_5 (N : Nat) (k : Kn R) (x5 x6 : D) : runC PHI Tb46 N vc47_5 (s47_2 x5 x6) k = m47_5 N x5 x6 (k .normal s47_4) (fun x4 => k .ret (s47_5 x4)) := by
  refine Eq.trans (runC_block _ _ _ k) (Eq.trans (e47_6 N (kblk 0 k) x5 x6) (by kernel_rfl))
def m47_19 (N : Nat) (Kr : D → Option R) : Option R :=
  Kr (D.p (sp75 (D.i 1)))
theorem e47_19 (N : Nat) (k : Kn R) : runC PHI Tb46 N vc47_19 s47_4 k = m47_19 N (fun x4 => k .ret (s47_5 x4)) := by kernel_rfl
def m47_4 (N : Nat) (x5 x6 : D) (Kr : D → Option R) : Option R :=
  (m47_5 N x5 x6 ((m47_19 N Kr)) Kr)
theorem e47_4 (N : Nat) (k : Kn R) (x5 x6 : D) : runC PHI Tb46 N vc47_4 (s47_2 x5 x6) k = m47_4 N x5 x6 (fun x4 => k .ret (s47_5 x4)) := by
  have h2 := e47_5 N (kseq PHI Tb46 N vc47_19 k) x5 x6
  have h3 := ((e47_19 N k ) : ((kseq PHI Tb46 N vc47_19 k) .normal s47_4) = _)
  refine Eq.trans (runC_seq _ _ _ k) (Eq.trans h2 (Eq.trans (congrArg (fun K => m47_5 N x5 x6 K (fun x4 => (kseq PHI Tb46 N vc47_19 k) .ret (s47_5 x4))) h3) (by kernel_rfl)))
def m47_2 (N : Nat) (x2 x3 : D) (Kr : D → Option R) : Option R :=
  (m47_3 N x2 x3 (fun y5 y6 => (m47_4 N y5 y6 Kr)))
theorem e47_2 (N : Nat) (k : Kn R) (x2 x3 : D) : runC PHI Tb46 N vc47_2 (s47_1 x2 x3) k = m47_2 N x2 x3 (fun x4 => k .ret (s47_5 x4)) := by
  have h2 := e47_3 N (kseq PHI Tb46 N vc47_4 k) x2 x3
  have h3 := (funext fun y5 => funext fun y6 => (e47_4 N k y5 y6) : (fun (y5 y6 : D) => (kseq PHI Tb46 N vc47_4 k) .normal (s47_2 y5 y6)) = _)
  refine Eq.trans (runC_seq _ _ _ k) (Eq.trans h2 (Eq.trans (congrArg (fun K => m47_3 N x2 x3 K) h3) (by kernel_rfl)))
def m47_0 (N : Nat) (x0 x1 : D) (Kr : D → Option R) : Option R :=
  (m47_1 N x0 x1 (fun y2 y3 => (m47_2 N y2 y3 Kr)))
theorem e47_0 (N : Nat) (k : Kn R) (x0 x1 : D) : runC PHI Tb46 N vc47_0 (s47_0 x0 x1) k = m47_0 N x0 x1 (fun x4 => k .ret (s47_5 x4)) := by
  have h2 := e47_1 N (kseq PHI Tb46 N vc47_2 k) x0 x1
  have h3 := (funext fun y2 => funext fun y3 => (e47_2 N k y2 y3) : (fun (y2 y3 : D) => (kseq PHI Tb46 N vc47_2 k) .normal (s47_1 y2 y3)) = _)
  refine Eq.trans (runC_seq _ _ _ k) (Eq.trans h2 (Eq.trans (congrArg (fun K => m47_1 N x0 x1 K) h3) (by kernel_rfl)))
theorem r47 (N : Nat) (x0 x1 : D) : runC PHI Tb46 N vf47.body (enterV vf47 [V.f x0, V.f x1] []) (finish vf47) = m47_0 N x0 x1 (fun x4 => finish vf47 .ret (s47_5 x4)) := 
  Eq.trans (runC_pre (s1 := (s47_0 x0 x1)) (by kernel_rfl) _ _) (Eq.trans (e47_0 N (finish vf47) x0 x1) (by kernel_rfl))
end
def Tb47 : CallF := extend Tb46 47 (fn2 (fun _ _ => true) fun x y => .f (sp47 x y))
theorem ok47 : FnOk Try.prog PHI Tb47 := FnOk.add2 hPHI ok46 (by kernel_rfl) fun x y _ _ => ⟨0, (r47 0 x y).trans (by
  simp only [m47_1, m47_3, m47_7, m47_8, m47_6, m47_5, m47_19, m47_4, m47_2, m47_0, toB_b, toI_i, isPtr_p, deref_p, cond_true, sp47]
  cases eqb (sp74 x) 0 <;> cases eqb (sp74 y) 0 <;> cases ltb (sp74 x) 0 <;> cases ltb (sp74 y) 0 <;> rfl)⟩
def sp48 (x y : D) : D := sp46 (sp47 (sp46 x) (sp46 y))
section
variable {R : Type}
def m48_0 (N : Nat) (x0 x1 : D) (Kr : D → Option R) : Option R :=
  Kr (D.p (sp46 (sp47 (sp46 x0) (sp46 x1))))
def s48_0 (x0 x1 : D) : St := sts 11 [(0, V.f x0), (1, V.f x1)] []
def s48_1 (x4 : D) : St := sts 11 [(4, V.f x4)] []
theorem e48_0 (N : Nat) (k : Kn R) (x0 x1 : D) : runC PHI Tb47 N vc48_0 (s48_0 x0 x1) k = m48_0 N x0 x1 (fun x4 => k .ret (s48_1 x4)) := by kernel_rfl
theorem r48 (N : Nat) (x0 x1 : D) : runC PHI Tb47 N vf48.body (enterV vf48 [V.f x0, V.f x1] []) (finish vf48) = m48_0 N x0 x1 (fun x4 => finish vf48 .ret (s48_1 x4)) := 
  Eq.trans (runC_pre (s1 := (s48_0 x0 x1)) (by kernel_rfl) _ _) (Eq.trans (e48_0 N (finish vf48) x0 x1) (by kernel_rfl))
end
def Tb48 : CallF := extend Tb47 48 (fn2 (fun _ _ => true) fun x y => .f (sp48 x y))
theorem ok48 : FnOk Try.prog PHI Tb48 := FnOk.add2 hPHI ok47 (by kernel_rfl) fun x y _ _ => ⟨0, (r48 0 x y).trans rfl⟩
def cmA (o : D) (c : Int) : D := bif eqL o.toS [61] then sp51 (.b (eqb c 0)) else bif eqL o.toS [60, 62] then sp51 (.b (!eqb c 0)) else bif eqL o.toS [60] then sp51 (.b (ltb c 0)) else bif eqL o.toS [60, 61] then sp51 (.b (leb c 0)) else bif eqL o.toS [62] then sp51 (.b (ltb 0 c)) else bif eqL o.toS [62, 61] then sp51 (.b (leb 0 c)) else z0
def sp49 (o x y : D) : D := bif eqb ((sp30 x).at 0).toI 0 || !eqb ((sp30 x).at 0).toI ((sp30 y).at 0).toI then z0 else cmA o (sp27 (sp30 x) (sp30 y))
section
variable {R : Type}
def m49_1 (N : Nat) (x0 x1 x2 : D) (K : D → D → D → Option R) : Option R :=
  K x0 x1 x2
def s49_0 (x0 x1 x2 : D) : St := sts 58 [(0, V.f x0), (1, V.f x1), (2, V.f x2)] [V.u, V.u]
def s49_1 (x0 h0 h1 : D) : St := sts 58 [(0, V.f x0), (4, V.m 0 []), (5, V.m 1 []), (6, V.a)] [V.f h0, V.f h1]
theorem e49_1 (N : Nat) (k : Kn R) (x0 x1 x2 : D) : runC PHI Tb48 N vc49_1 (s49_0 x0 x1 x2) k = m49_1 N x0 x1 x2 (fun x0 h0 h1 => k .normal (s49_1 x0 h0 h1)) := by
  refine Eq.trans (runC_post _ _ _ k) (Eq.trans (ops_run _ _ _ _) (by kernel_rfl))
def m49_3 (N : Nat) (x0 h0 h1 : D) (K : D → D → D → Option R) : Option R :=
  K x0 (sp30 h0) (sp30 h1)
theorem e49_3 (N : Nat) (k : Kn R) (x0 h0 h1 : D) : runC PHI Tb48 N vc49_3 (s49_1 x0 h0 h1) k = m49_3 N x0 h0 h1 (fun x0 h0 h1 => k .normal (s49_1 x0 h0 h1)) := by
  refine Eq.trans (runC_post _ _ _ k) (Eq.trans (ops_run _ _ _ _) (by kernel_rfl))
def m49_5 (N : Nat) (x0 h0 h1 : D) (K : D → D → D → Option R) (Kr : D → D → D → Option R) : Option R :=
  (bif (eqb (h0.at 0).toI 0) then (bif true then Kr (D.p (D.ag [(D.i 0), (D.i 0), (D.f 0), (D.s [])])) h0 h1 else K x0 h0 h1) else (bif (!eqb (h0.at 0).toI (h1.at 0).toI) then Kr (D.p (D.ag [(D.i 0), (D.i 0), (D.f 0), (D.s [])])) h0 h1 else K x0 h0 h1))
def s49_2 (x6 h0 h1 : D) : St := sts 58 [(6, V.f x6)] [V.f h0, V.f h1]
theorem e49_5 (N : Nat) (k : Kn R) (x0 h0 h1 : D) : runC PHI Tb48 N vc49_5 (s49_1 x0 h0 h1) k = m49_5 N x0 h0 h1 (fun x0 h0 h1 => k .normal (s49_1 x0 h0 h1)) (fun x6 h0 h1 => k .ret (s49_2 x6 h0 h1)) := by kernel_rfl
def m49_12 (N : Nat) (x0 h0 h1 : D) (Kr : D → D → D → Option R) : Option R :=
  (bif (eqL x0.toS [61]) then Kr (D.p (sp51 (D.b (eqb (sp27 h0 h1) 0)))) h0 h1 else (bif (eqL x0.toS [60, 62]) then Kr (D.p (sp51 (D.b (!eqb (sp27 h0 h1) 0)))) h0 h1 else (bif (eqL x0.toS [60]) then Kr (D.p (sp51 (D.b (ltb (sp27 h0 h1) 0)))) h0 h1 else (bif (eqL x0.toS [60, 61]) then Kr (D.p (sp51 (D.b (leb (sp27 h0 h1) 0)))) h0 h1 else (bif (eqL x0.toS [62]) then Kr (D.p (sp51 (D.b (ltb 0 (sp27 h0 h1))))) h0 h1 else (bif (eqL x0.toS [62, 61]) then Kr (D.p (sp51 (D.b (leb 0 (sp27 h0 h1))))) h0 h1 else Kr (D.p (D.ag [(D.i 0), (D.i 0), (D.f 0), (D.s [])])) h0 h1))))))
theorem e49_12 (N : Nat) (k : Kn R) (x0 h0 h1 : D) : runC PHI Tb48 N vc49_12 (s49_1 x0 h0 h1) k = m49_12 N x0 h0 h1 (fun x6 h0 h1 => k .ret (s49_2 x6 h0 h1)) := by kernel_rfl
def m49_4 (N : Nat) (x0 h0 h1 : D) (Kr : D → D → D → Option R) : Option R :=
  (m49_5 N x0 h0 h1 (fun y0 h0 h1 => (m49_12 N y0 h0 h1 Kr)) Kr)
theorem e49_4 (N : Nat) (k : Kn R) (x0 h0 h1 : D) : runC PHI Tb48 N vc49_4 (s49_1 x0 h0 h1) k = m49_4 N x0 h0 h1 (fun x6 h0 h1 => k .ret (s49_2 x6 h0 h1)) := by
  have h2 := e49_5 N (kseq PHI Tb48 N vc49_12 k) x0 h0 h1
  have h3 := (funext fun y0 => funext fun h0 => funext fun h1 => (e49_12 N k y0 h0 h1) : (fun (y0 h0 h1 : D) => (kseq PHI Tb48 N vc49_12 k) .normal (s49_1 y0 h0 h1)) = _)
  refine Eq.trans (runC_seq _ _ _ k) (Eq.trans h2 (Eq.trans (congrArg (fun K => m49_5 N x0 h0 h1 K (fun x6 h0 h1 => (kseq PHI Tb48 N vc49_12 k) .ret (s49_2 x6 h0 h1))) h3) (by kernel_rfl)))
def m49_2 (N : Nat) (x0 h0 h1 : D) (Kr : D → D → D → Option R) : Option R :=
  (m49_3 N x0 h0 h1 (fun y0 h0 h1 => (m49_4 N y0 h0 h1 Kr)))
theorem e49_2 (N : Nat) (k : Kn R) (x0 h0 h1 : D) : runC PHI Tb48 N vc49_2 (s49_1 x0 h0 h1) k = m49_2 N x0 h0 h1 (fun x6 h0 h1 => k .ret (s49_2 x6 h0 h1)) := by
  have h2 := e49_3 N (kseq PHI Tb48 N vc49_4 k) x0 h0 h1
  have h3 := (funext fun y0 => funext fun h0 => funext fun h1 => (e49_4 N k y0 h0 h1) : (fun (y0 h0 h1 : D) => (kseq PHI Tb48 N vc49_4 k) .normal (s49_1 y0 h0 h1)) = _)
  refine Eq.trans (runC_seq _ _ _ k) (Eq.trans h2 (Eq.trans (congrArg (fun K => m49_3 N x0 h0 h1 K) h3) (by kernel_rfl)))
def m49_0 (N : Nat) (x0 x1 x2 : D) (Kr : D → D → D → Option R) : Option R :=
  (m49_1 N x0 x1 x2 (fun y0 h0 h1 => (m49_2 N y0 h0 h1 Kr)))
theorem e49_0 (N : Nat) (k : Kn R) (x0 x1 x2 : D) : runC PHI Tb48 N vc49_0 (s49_0 x0 x1 x2) k = m49_0 N x0 x1 x2 (fun x6 h0 h1 => k .ret (s49_2 x6 h0 h1)) := by
  have h2 := e49_1 N (kseq PHI Tb48 N vc49_2 k) x0 x1 x2
  have h3 := (funext fun y0 => funext fun h0 => funext fun h1 => (e49_2 N k y0 h0 h1) : (fun (y0 h0 h1 : D) => (kseq PHI Tb48 N vc49_2 k) .normal (s49_1 y0 h0 h1)) = _)
  refine Eq.trans (runC_seq _ _ _ k) (Eq.trans h2 (Eq.trans (congrArg (fun K => m49_1 N x0 x1 x2 K) h3) (by kernel_rfl)))
theorem r49 (N : Nat) (x0 x1 x2 : D) : runC PHI Tb48 N vf49.body (enterV vf49 [V.f x0, V.f x1, V.f x2] []) (finish vf49) = m49_0 N x0 x1 x2 (fun x6 h0 h1 => finish vf49 .ret (s49_2 x6 h0 h1)) := 
  Eq.trans (runC_pre (s1 := (s49_0 x0 x1 x2)) (by kernel_rfl) _ _) (Eq.trans (e49_0 N (finish vf49) x0 x1 x2) (by kernel_rfl))
end
def Tb49 : CallF := extend Tb48 49 (fn3 (fun _ _ _ => true) fun o x y => .f (sp49 o x y))
theorem ok49 : FnOk Try.prog PHI Tb49 := FnOk.add3 hPHI ok48 (by kernel_rfl) fun o x y _ _ => ⟨0, (r49 0 o x y).trans (by
  simp only [m49_1, m49_3, m49_5, m49_12, m49_4, m49_2, m49_0, sp49, cmA]
  generalize sp30 x = a
  generalize sp30 y = b
  cases eqb (a.at 0).toI 0
  · cases eqb (a.at 0).toI (b.at 0).toI
    · rfl
    · simp only [cond_true, cond_false, Bool.not_true, Bool.or_self]
      cases eqL o.toS [61]
      · cases eqL o.toS [60, 62]
        · cases eqL o.toS [60]
          · cases eqL o.toS [60, 61]
            · cases eqL o.toS [62]
              · cases eqL o.toS [62, 61] <;> rfl
              · rfl
            · rfl
          · rfl
        · rfl
      · rfl
  · rfl)⟩
/-! ### What the document reckons -/
def sp93 (v : D) : Int := bif !eqb (v.at 0).toI 4 then 1 else bif eqb (v.at 1).toI 0 then 0 else 2
section
variable {R : Type}
def m93_0 (N : Nat) (x0 : D) (Kr : D → Option R) : Option R :=
  (bif (!eqb (x0.at 0).toI 4) then Kr (D.i 1) else (bif (eqb (x0.at 1).toI 0) then Kr (D.i 0) else Kr (D.i 2)))
def s93_0 (x0 : D) : St := sts 9 [(0, V.f x0)] []
def s93_1 (x2 : D) : St := sts 9 [(2, V.f x2)] []
theorem e93_0 (N : Nat) (k : Kn R) (x0 : D) : runC PHI Tb49 N vc93_0 (s93_0 x0) k = m93_0 N x0 (fun x2 => k .ret (s93_1 x2)) := by kernel_rfl
theorem r93 (N : Nat) (x0 : D) : runC PHI Tb49 N vf93.body (enterV vf93 [V.f x0] []) (finish vf93) = m93_0 N x0 (fun x2 => finish vf93 .ret (s93_1 x2)) := 
  Eq.trans (runC_pre (s1 := (s93_0 x0)) (by kernel_rfl) _ _) (Eq.trans (e93_0 N (finish vf93) x0) (by kernel_rfl))
end
def Tb93 : CallF := extend Tb49 93 (fn1 (fun _ => true) fun x => .f (.i (sp93 x)))
theorem ok93 : FnOk Try.prog PHI Tb93 := FnOk.add1 hPHI ok49 (by kernel_rfl) fun x _ _ => ⟨0, (r93 0 x).trans (by
  unfold m93_0 sp93
  cases eqb (x.at 0).toI 4 <;> cases eqb (x.at 1).toI 0 <;> rfl)⟩
def sp63 (x : D) : D := .ag [.i 4, .i (bif x.toB then 1 else 0), .f 0, .s []]
section
variable {R : Type}
def m63_0 (N : Nat) (x0 : D) (Kr : D → Option R) : Option R :=
  (bif x0.toB then Kr (D.p (D.ag [(D.i 4), (D.i 1), (D.f 0), (D.s [])])) else Kr (D.p (D.ag [(D.i 4), (D.i 0), (D.f 0), (D.s [])])))
def s63_0 (x0 : D) : St := sts 6 [(0, V.f x0)] []
def s63_1 (x2 : D) : St := sts 6 [(2, V.f x2)] []
theorem e63_0 (N : Nat) (k : Kn R) (x0 : D) : runC PHI Tb93 N vc63_0 (s63_0 x0) k = m63_0 N x0 (fun x2 => k .ret (s63_1 x2)) := by kernel_rfl
theorem r63 (N : Nat) (x0 : D) : runC PHI Tb93 N vf63.body (enterV vf63 [V.f x0] []) (finish vf63) = m63_0 N x0 (fun x2 => finish vf63 .ret (s63_1 x2)) := 
  Eq.trans (runC_pre (s1 := (s63_0 x0)) (by kernel_rfl) _ _) (Eq.trans (e63_0 N (finish vf63) x0) (by kernel_rfl))
end
def Tb63 : CallF := extend Tb93 63 (fn1 (fun _ => true) fun x => .f (sp63 x))
theorem ok63 : FnOk Try.prog PHI Tb63 := FnOk.add1 hPHI ok93 (by kernel_rfl) fun x _ _ => ⟨0, (r63 0 x).trans (by
  unfold m63_0 sp63
  cases x.toB <;> rfl)⟩
def sp92 (t : D) : D := bif eqb t.toI 1 then z0 else sp63 (.b (eqb t.toI 2))
section
variable {R : Type}
def m92_0 (N : Nat) (x0 : D) (Kr : D → Option R) : Option R :=
  (bif (eqb x0.toI 1) then Kr (D.p (D.ag [(D.i 0), (D.i 0), (D.f 0), (D.s [])])) else Kr (D.p (sp63 (D.b (eqb x0.toI 2)))))
def s92_0 (x0 : D) : St := sts 9 [(0, V.f x0)] []
def s92_1 (x2 : D) : St := sts 9 [(2, V.f x2)] []
theorem e92_0 (N : Nat) (k : Kn R) (x0 : D) : runC PHI Tb63 N vc92_0 (s92_0 x0) k = m92_0 N x0 (fun x2 => k .ret (s92_1 x2)) := by kernel_rfl
theorem r92 (N : Nat) (x0 : D) : runC PHI Tb63 N vf92.body (enterV vf92 [V.f x0] []) (finish vf92) = m92_0 N x0 (fun x2 => finish vf92 .ret (s92_1 x2)) := 
  Eq.trans (runC_pre (s1 := (s92_0 x0)) (by kernel_rfl) _ _) (Eq.trans (e92_0 N (finish vf92) x0) (by kernel_rfl))
end
def Tb92 : CallF := extend Tb63 92 (fn1 (fun _ => true) fun x => .f (sp92 x))
theorem ok92 : FnOk Try.prog PHI Tb92 := FnOk.add1 hPHI ok63 (by kernel_rfl) fun x _ _ => ⟨0, (r92 0 x).trans (by
  unfold m92_0 sp92
  cases eqb x.toI 1 <;> rfl)⟩
def sp66 (v : D) : D := bif eqb ((sp10 v).at 0).toI 2 then sp10 (.ag [.i 2, .i 0, F1.ev .fneg ((sp10 v).at 2), .s []]) else bif !eqb ((sp10 v).at 0).toI 1 || eqb ((sp10 v).at 1).toI (-9223372036854775808) then z0 else .ag [.i 1, .i (w64 (0 - ((sp10 v).at 1).toI)), .f 0, .s []]
section
variable {R : Type}
def m66_0 (N : Nat) (x0 : D) (Kr : D → D → Option R) : Option R :=
  (bif (eqb ((sp10 x0).at 0).toI 2) then Kr (D.p (sp10 (D.ag [(D.i 2), (D.i 0), (F1.ev .fneg ((sp10 x0).at 2)), (D.s [])]))) (sp10 x0) else (bif (!eqb ((sp10 x0).at 0).toI 1) then (bif true then Kr (D.p (D.ag [(D.i 0), (D.i 0), (D.f 0), (D.s [])])) (sp10 x0) else Kr (D.p (D.ag [(D.i 1), (D.i (IntKind.wrap IntKind.i64 (0 - ((sp10 x0).at 1).toI))), (D.f 0), (D.s [])])) (sp10 x0)) else (bif (eqb ((sp10 x0).at 1).toI (-9223372036854775808)) then Kr (D.p (D.ag [(D.i 0), (D.i 0), (D.f 0), (D.s [])])) (sp10 x0) else Kr (D.p (D.ag [(D.i 1), (D.i (IntKind.wrap IntKind.i64 (0 - ((sp10 x0).at 1).toI))), (D.f 0), (D.s [])])) (sp10 x0))))
def s66_0 (x0 : D) : St := sts 26 [(0, V.f x0)] [V.u]
def s66_1 (x2 h0 : D) : St := sts 26 [(2, V.f x2)] [V.f h0]
theorem e66_0 (N : Nat) (k : Kn R) (x0 : D) : runC PHI Tb92 N vc66_0 (s66_0 x0) k = m66_0 N x0 (fun x2 h0 => k .ret (s66_1 x2 h0)) := by kernel_rfl
theorem r66 (N : Nat) (x0 : D) : runC PHI Tb92 N vf66.body (enterV vf66 [V.f x0] []) (finish vf66) = m66_0 N x0 (fun x2 h0 => finish vf66 .ret (s66_1 x2 h0)) := 
  Eq.trans (runC_pre (s1 := (s66_0 x0)) (by kernel_rfl) _ _) (Eq.trans (e66_0 N (finish vf66) x0) (by kernel_rfl))
end
def Tb66 : CallF := extend Tb92 66 (fn1 (fun _ => true) fun x => .f (sp66 x))
theorem ok66 : FnOk Try.prog PHI Tb66 := FnOk.add1 hPHI ok92 (by kernel_rfl) fun x _ _ => ⟨0, (r66 0 x).trans (by
  unfold m66_0 sp66
  generalize sp10 x = a
  cases eqb (a.at 0).toI 2 <;> cases eqb (a.at 0).toI 1 <;> cases eqb (a.at 1).toI (-9223372036854775808) <;> rfl)⟩
def sp68 (v : D) : D := sp92 (.i (w64 (2 - sp93 v)))
section
variable {R : Type}
def m68_0 (N : Nat) (x0 : D) (Kr : D → Option R) : Option R :=
  Kr (D.p (sp92 (D.i (IntKind.wrap IntKind.i64 (2 - (sp93 x0))))))
def s68_0 (x0 : D) : St := sts 7 [(0, V.f x0)] []
def s68_1 (x2 : D) : St := sts 7 [(2, V.f x2)] []
theorem e68_0 (N : Nat) (k : Kn R) (x0 : D) : runC PHI Tb66 N vc68_0 (s68_0 x0) k = m68_0 N x0 (fun x2 => k .ret (s68_1 x2)) := by kernel_rfl
theorem r68 (N : Nat) (x0 : D) : runC PHI Tb66 N vf68.body (enterV vf68 [V.f x0] []) (finish vf68) = m68_0 N x0 (fun x2 => finish vf68 .ret (s68_1 x2)) := 
  Eq.trans (runC_pre (s1 := (s68_0 x0)) (by kernel_rfl) _ _) (Eq.trans (e68_0 N (finish vf68) x0) (by kernel_rfl))
end
def Tb68 : CallF := extend Tb66 68 (fn1 (fun _ => true) fun x => .f (sp68 x))
theorem ok68 : FnOk Try.prog PHI Tb68 := FnOk.add1 hPHI ok66 (by kernel_rfl) fun x _ _ => ⟨0, (r68 0 x).trans rfl⟩
def sp69 (x y : D) : D := sp92 (.i (mmI false (sp93 x) [sp93 y]))
section
variable {R : Type}
def m69_0 (N : Nat) (x0 x1 : D) (Kr : D → Option R) : Option R :=
  Kr (D.p (sp92 (D.i (mmI false (sp93 x0) [(sp93 x1)]))))
def s69_0 (x0 x1 : D) : St := sts 11 [(0, V.f x0), (1, V.f x1)] []
def s69_1 (x4 : D) : St := sts 11 [(4, V.f x4)] []
theorem e69_0 (N : Nat) (k : Kn R) (x0 x1 : D) : runC PHI Tb68 N vc69_0 (s69_0 x0 x1) k = m69_0 N x0 x1 (fun x4 => k .ret (s69_1 x4)) := by kernel_rfl
theorem r69 (N : Nat) (x0 x1 : D) : runC PHI Tb68 N vf69.body (enterV vf69 [V.f x0, V.f x1] []) (finish vf69) = m69_0 N x0 x1 (fun x4 => finish vf69 .ret (s69_1 x4)) := 
  Eq.trans (runC_pre (s1 := (s69_0 x0 x1)) (by kernel_rfl) _ _) (Eq.trans (e69_0 N (finish vf69) x0 x1) (by kernel_rfl))
end
def Tb69 : CallF := extend Tb68 69 (fn2 (fun _ _ => true) fun x y => .f (sp69 x y))
theorem ok69 : FnOk Try.prog PHI Tb69 := FnOk.add2 hPHI ok68 (by kernel_rfl) fun x y _ _ => ⟨0, (r69 0 x y).trans rfl⟩
def sp70 (x y : D) : D := sp92 (.i (mmI true (sp93 x) [sp93 y]))
section
variable {R : Type}
def m70_0 (N : Nat) (x0 x1 : D) (Kr : D → Option R) : Option R :=
  Kr (D.p (sp92 (D.i (mmI true (sp93 x0) [(sp93 x1)]))))
def s70_0 (x0 x1 : D) : St := sts 11 [(0, V.f x0), (1, V.f x1)] []
def s70_1 (x4 : D) : St := sts 11 [(4, V.f x4)] []
theorem e70_0 (N : Nat) (k : Kn R) (x0 x1 : D) : runC PHI Tb69 N vc70_0 (s70_0 x0 x1) k = m70_0 N x0 x1 (fun x4 => k .ret (s70_1 x4)) := by kernel_rfl
theorem r70 (N : Nat) (x0 x1 : D) : runC PHI Tb69 N vf70.body (enterV vf70 [V.f x0, V.f x1] []) (finish vf70) = m70_0 N x0 x1 (fun x4 => finish vf70 .ret (s70_1 x4)) := 
  Eq.trans (runC_pre (s1 := (s70_0 x0 x1)) (by kernel_rfl) _ _) (Eq.trans (e70_0 N (finish vf70) x0 x1) (by kernel_rfl))
end
def Tb70 : CallF := extend Tb69 70 (fn2 (fun _ _ => true) fun x y => .f (sp70 x y))
theorem ok70 : FnOk Try.prog PHI Tb70 := FnOk.add2 hPHI ok69 (by kernel_rfl) fun x y _ _ => ⟨0, (r70 0 x y).trans rfl⟩
def wu (n : Int) : Int := IntKind.wrap IntKind.u64 n
def sp103 (x : D) : Int := bif ltb x.toI 0 then wu (wu (w64 (0 - w64 (x.toI + 1))) + 1) else wu x.toI
section
variable {R : Type}
def m103_0 (N : Nat) (x0 : D) (Kr : D → Option R) : Option R :=
  (bif (ltb x0.toI 0) then Kr (D.i (IntKind.wrap IntKind.u64 ((IntKind.wrap IntKind.u64 (IntKind.wrap IntKind.i64 (0 - (IntKind.wrap IntKind.i64 (x0.toI + 1))))) + 1))) else Kr (D.i (IntKind.wrap IntKind.u64 x0.toI)))
def s103_0 (x0 : D) : St := sts 12 [(0, V.f x0)] []
def s103_1 (x2 : D) : St := sts 12 [(2, V.f x2)] []
theorem e103_0 (N : Nat) (k : Kn R) (x0 : D) : runC PHI Tb70 N vc103_0 (s103_0 x0) k = m103_0 N x0 (fun x2 => k .ret (s103_1 x2)) := by kernel_rfl
theorem r103 (N : Nat) (x0 : D) : runC PHI Tb70 N vf103.body (enterV vf103 [V.f x0] []) (finish vf103) = m103_0 N x0 (fun x2 => finish vf103 .ret (s103_1 x2)) := 
  Eq.trans (runC_pre (s1 := (s103_0 x0)) (by kernel_rfl) _ _) (Eq.trans (e103_0 N (finish vf103) x0) (by kernel_rfl))
end
def Tb103 : CallF := extend Tb70 103 (fn1 (fun _ => true) fun x => .f (.i (sp103 x)))
theorem ok103 : FnOk Try.prog PHI Tb103 := FnOk.add1 hPHI ok70 (by kernel_rfl) fun x _ _ => ⟨0, (r103 0 x).trans (by
  unfold m103_0 sp103
  cases ltb x.toI 0 <;> rfl)⟩
def sp104_0 (b n : D) : Int := bif b.toB && ltb 0 n.toI then w64 (w64 (0 - w64 (wu (n.toI - 1))) - 1) else w64 n.toI
def sp104_1 (b n : D) : Bool := bif b.toB && ltb 0 n.toI then leb n.toI 9223372036854775808 else ltb n.toI 9223372036854775808
section
variable {R : Type}
def m104_0 (N : Nat) (x0 x1 : D) (Kr : D → D → Option R) : Option R :=
  (bif x0.toB then (bif (ltb 0 x1.toI) then Kr (D.i (IntKind.wrap IntKind.i64 ((IntKind.wrap IntKind.i64 (0 - (IntKind.wrap IntKind.i64 (IntKind.wrap IntKind.u64 (x1.toI - 1))))) - 1))) (D.b (leb x1.toI 9223372036854775808)) else Kr (D.i (IntKind.wrap IntKind.i64 x1.toI)) (D.b (ltb x1.toI 9223372036854775808))) else (bif false then Kr (D.i (IntKind.wrap IntKind.i64 ((IntKind.wrap IntKind.i64 (0 - (IntKind.wrap IntKind.i64 (IntKind.wrap IntKind.u64 (x1.toI - 1))))) - 1))) (D.b (leb x1.toI 9223372036854775808)) else Kr (D.i (IntKind.wrap IntKind.i64 x1.toI)) (D.b (ltb x1.toI 9223372036854775808))))
def s104_0 (x0 x1 : D) : St := sts 22 [(0, V.f x0), (1, V.f x1)] []
def s104_1 (x4 x5 : D) : St := sts 22 [(4, V.f x4), (5, V.f x5)] []
theorem e104_0 (N : Nat) (k : Kn R) (x0 x1 : D) : runC PHI Tb103 N vc104_0 (s104_0 x0 x1) k = m104_0 N x0 x1 (fun x4 x5 => k .ret (s104_1 x4 x5)) := by kernel_rfl
theorem r104 (N : Nat) (x0 x1 : D) : runC PHI Tb103 N vf104.body (enterV vf104 [V.f x0, V.f x1] []) (finish vf104) = m104_0 N x0 x1 (fun x4 x5 => finish vf104 .ret (s104_1 x4 x5)) := 
  Eq.trans (runC_pre (s1 := (s104_0 x0 x1)) (by kernel_rfl) _ _) (Eq.trans (e104_0 N (finish vf104) x0 x1) (by kernel_rfl))
end
def Tb104 : CallF := extend Tb103 104 (fn2 (fun _ _ => true) fun b n => .t [.f (.i (sp104_0 b n)), .f (.b (sp104_1 b n))])
theorem ok104 : FnOk Try.prog PHI Tb104 := FnOk.add2 hPHI ok103 (by kernel_rfl) fun b n _ _ => ⟨0, (r104 0 b n).trans (by
  unfold m104_0 sp104_0 sp104_1
  cases b.toB <;> cases ltb 0 n.toI <;> rfl)⟩
def addS (x y : D) : Option (Bool × Int) := bif (ltb x.toI 0 == ltb y.toI 0) then (bif ltb (wu (9223372036854775808 - sp103 y)) (sp103 x) then none else some (ltb x.toI 0, wu (sp103 x + sp103 y))) else bif leb (sp103 y) (sp103 x) then some (ltb x.toI 0, wu (sp103 x - sp103 y)) else some (ltb y.toI 0, wu (sp103 y - sp103 x))
def wh0 (q : Option (Bool × Int)) : Int := match q with | none => 0 | some q => sp104_0 (.b q.1) (.i q.2)
def wh1 (q : Option (Bool × Int)) : Bool := match q with | none => false | some q => sp104_1 (.b q.1) (.i q.2)
def sp94_0 (x y : D) : Int := wh0 (addS x y)
def sp94_1 (x y : D) : Bool := wh1 (addS x y)
section
variable {R : Type}
def m94_0 (N : Nat) (x0 x1 : D) (Kr : D → D → Option R) : Option R :=
  (bif ((ltb x0.toI 0) == (ltb x1.toI 0)) then (bif (ltb (IntKind.wrap IntKind.u64 (9223372036854775808 - (sp103 x1))) (sp103 x0)) then Kr (D.i 0) (D.b false) else (bif ((ltb x0.toI 0) == (ltb x1.toI 0)) then Kr (D.i (sp104_0 (D.b (ltb x0.toI 0)) (D.i (IntKind.wrap IntKind.u64 ((sp103 x0) + (sp103 x1)))))) (D.b (sp104_1 (D.b (ltb x0.toI 0)) (D.i (IntKind.wrap IntKind.u64 ((sp103 x0) + (sp103 x1)))))) else (bif (leb (sp103 x1) (sp103 x0)) then Kr (D.i (sp104_0 (D.b (ltb x0.toI 0)) (D.i (IntKind.wrap IntKind.u64 ((sp103 x0) - (sp103 x1)))))) (D.b (sp104_1 (D.b (ltb x0.toI 0)) (D.i (IntKind.wrap IntKind.u64 ((sp103 x0) - (sp103 x1)))))) else Kr (D.i (sp104_0 (D.b (ltb x1.toI 0)) (D.i (IntKind.wrap IntKind.u64 ((sp103 x1) - (sp103 x0)))))) (D.b (sp104_1 (D.b (ltb x1.toI 0)) (D.i (IntKind.wrap IntKind.u64 ((sp103 x1) - (sp103 x0))))))))) else (bif false then Kr (D.i 0) (D.b false) else (bif ((ltb x0.toI 0) == (ltb x1.toI 0)) then Kr (D.i (sp104_0 (D.b (ltb x0.toI 0)) (D.i (IntKind.wrap IntKind.u64 ((sp103 x0) + (sp103 x1)))))) (D.b (sp104_1 (D.b (ltb x0.toI 0)) (D.i (IntKind.wrap IntKind.u64 ((sp103 x0) + (sp103 x1)))))) else (bif (leb (sp103 x1) (sp103 x0)) then Kr (D.i (sp104_0 (D.b (ltb x0.toI 0)) (D.i (IntKind.wrap IntKind.u64 ((sp103 x0) - (sp103 x1)))))) (D.b (sp104_1 (D.b (ltb x0.toI 0)) (D.i (IntKind.wrap IntKind.u64 ((sp103 x0) - (sp103 x1)))))) else Kr (D.i (sp104_0 (D.b (ltb x1.toI 0)) (D.i (IntKind.wrap IntKind.u64 ((sp103 x1) - (sp103 x0)))))) (D.b (sp104_1 (D.b (ltb x1.toI 0)) (D.i (IntKind.wrap IntKind.u64 ((sp103 x1) - (sp103 x0))))))))))
def s94_0 (x0 x1 : D) : St := sts 58 [(0, V.f x0), (1, V.f x1)] []
def s94_1 (x4 x5 : D) : St := sts 58 [(4, V.f x4), (5, V.f x5)] []
theorem e94_0 (N : Nat) (k : Kn R) (x0 x1 : D) : runC PHI Tb104 N vc94_0 (s94_0 x0 x1) k = m94_0 N x0 x1 (fun x4 x5 => k .ret (s94_1 x4 x5)) := by kernel_rfl
theorem r94 (N : Nat) (x0 x1 : D) : runC PHI Tb104 N vf94.body (enterV vf94 [V.f x0, V.f x1] []) (finish vf94) = m94_0 N x0 x1 (fun x4 x5 => finish vf94 .ret (s94_1 x4 x5)) := 
  Eq.trans (runC_pre (s1 := (s94_0 x0 x1)) (by kernel_rfl) _ _) (Eq.trans (e94_0 N (finish vf94) x0 x1) (by kernel_rfl))
end
def Tb94 : CallF := extend Tb104 94 (fn2 (fun _ _ => true) fun x y => .t [.f (.i (sp94_0 x y)), .f (.b (sp94_1 x y))])
theorem ok94 : FnOk Try.prog PHI Tb94 := FnOk.add2 hPHI ok104 (by kernel_rfl) fun x y _ _ => ⟨0, (r94 0 x y).trans (by
  unfold m94_0 sp94_0 sp94_1 addS
  cases (ltb x.toI 0 == ltb y.toI 0)
  · simp only [cond_false]
    cases leb (sp103 y) (sp103 x) <;> rfl
  · simp only [cond_true]
    have e : IntKind.wrap IntKind.u64 (9223372036854775808 - sp103 y) = wu (9223372036854775808 - sp103 y) := rfl
    rw [e]
    cases ltb (wu (9223372036854775808 - sp103 y)) (sp103 x) <;> rfl)⟩

end Go.Vam.C15
