/- Chapter 14: what functions come to, part 2. No conditions. -/
import Derived.Test.YtcpbgimpopcfoaaP1
import Derived.KernelRfl
set_option linter.unusedVariables false
set_option linter.unusedSimpArgs false
set_option maxRecDepth 100000
namespace Go.Vam.C14
open Go.Proofs
def sp83 (v : D) : Int := bif !eqb (v.at 0).toI 4 then -1 else bif !eqb (v.at 1).toI 0 then 1 else 0
section
variable {R : Type}
def m83_0 (N : Nat) (x0 : D) (Kr : D → Option R) : Option R :=
  (bif (!eqb (x0.at 0).toI 4) then Kr (D.i (-1)) else (bif (!eqb (x0.at 1).toI 0) then Kr (D.i 1) else Kr (D.i 0)))
def s83_0 (x0 : D) : St := sts 9 [(0, V.f x0)] []
def s83_1 (x2 : D) : St := sts 9 [(2, V.f x2)] []
theorem e83_0 (N : Nat) (k : Kn R) (x0 : D) : runC PHI Tb27 N vc83_0 (s83_0 x0) k = m83_0 N x0 (fun x2 => k .ret (s83_1 x2)) := by kernel_rfl
theorem r83 (N : Nat) (x0 : D) : runC PHI Tb27 N vf83.body (enterV vf83 [V.f x0] []) (finish vf83) = m83_0 N x0 (fun x2 => finish vf83 .ret (s83_1 x2)) := 
  Eq.trans (runC_pre (s1 := (s83_0 x0)) (by kernel_rfl) _ _) (Eq.trans (e83_0 N (finish vf83) x0) (by kernel_rfl))
end
def Tb83 : CallF := extend Tb27 83 (fn1 (fun _ => true) fun x => .f (.i (sp83 x)))
theorem ok83 : FnOk Try.prog PHI Tb83 := FnOk.add1 hPHI ok27 (by kernel_rfl) fun x _ _ => ⟨0, (r83 0 x).trans (by
  unfold m83_0 sp83
  cases eqb (x.at 0).toI 4 <;> cases eqb (x.at 1).toI 0 <;> rfl)⟩
def sp84 (t : D) : D := bif ltb t.toI 0 then z0 else sp53 (.b (eqb t.toI 1))
section
variable {R : Type}
def m84_0 (N : Nat) (x0 : D) (Kr : D → Option R) : Option R :=
  (bif (ltb x0.toI 0) then Kr (D.p (D.ag [(D.i 0), (D.i 0), (D.f 0), (D.s [])])) else Kr (D.p (sp53 (D.b (eqb x0.toI 1)))))
def s84_0 (x0 : D) : St := sts 9 [(0, V.f x0)] []
def s84_1 (x2 : D) : St := sts 9 [(2, V.f x2)] []
theorem e84_0 (N : Nat) (k : Kn R) (x0 : D) : runC PHI Tb83 N vc84_0 (s84_0 x0) k = m84_0 N x0 (fun x2 => k .ret (s84_1 x2)) := by kernel_rfl
theorem r84 (N : Nat) (x0 : D) : runC PHI Tb83 N vf84.body (enterV vf84 [V.f x0] []) (finish vf84) = m84_0 N x0 (fun x2 => finish vf84 .ret (s84_1 x2)) := 
  Eq.trans (runC_pre (s1 := (s84_0 x0)) (by kernel_rfl) _ _) (Eq.trans (e84_0 N (finish vf84) x0) (by kernel_rfl))
end
def Tb84 : CallF := extend Tb83 84 (fn1 (fun _ => true) fun x => .f (sp84 x))
theorem ok84 : FnOk Try.prog PHI Tb84 := FnOk.add1 hPHI ok83 (by kernel_rfl) fun x _ _ => ⟨0, (r84 0 x).trans (by
  unfold m84_0 sp84
  cases ltb x.toI 0 <;> rfl)⟩
def w64 (n : Int) : Int := IntKind.i64.wrap n
def mulOk (a b : Int) : Bool := eqb (w64 (Int.tdiv (w64 (a * b)) b)) a && (!(eqb a (-1) && eqb b (-9223372036854775808)) && !(eqb b (-1) && eqb a (-9223372036854775808)))
def sp85_0 (o x y : D) : Int := bif eqL o.toS [43] then w64 (x.toI + y.toI) else bif eqL o.toS [45] then w64 (x.toI - y.toI) else bif eqL o.toS [42] then (bif eqb x.toI 0 || eqb y.toI 0 then 0 else w64 (x.toI * y.toI)) else 0
def sp85_1 (o x y : D) : Bool := bif eqL o.toS [43] then (ltb x.toI (w64 (x.toI + y.toI)) == ltb 0 y.toI) else bif eqL o.toS [45] then (ltb (w64 (x.toI - y.toI)) x.toI == ltb 0 y.toI) else bif eqL o.toS [42] then (bif eqb x.toI 0 || eqb y.toI 0 then true else mulOk x.toI y.toI) else false
section
variable {R : Type}
def m85_1 (N : Nat) (x0 x1 x2 : D) (K : D → D → D → Option R) : Option R :=
  K x0 x1 x2
def s85_0 (x0 x1 x2 : D) : St := sts 71 [(0, V.f x0), (1, V.f x1), (2, V.f x2)] []
theorem e85_1 (N : Nat) (k : Kn R) (x0 x1 x2 : D) : runC PHI Tb84 N vc85_1 (s85_0 x0 x1 x2) k = m85_1 N x0 x1 x2 (fun x0 x1 x2 => k .normal (s85_0 x0 x1 x2)) := by
  refine Eq.trans (runC_post _ _ _ k) (Eq.trans (ops_run _ _ _ _) (by kernel_rfl))
def m85_4 (N : Nat) (x0 x1 x2 : D) (K : D → D → D → Option R) : Option R :=
  K x1 x2 x0
def s85_1 (x1 x2 x11 : D) : St := sts 71 [(1, V.f x1), (2, V.f x2), (11, V.f x11)] []
theorem e85_4 (N : Nat) (k : Kn R) (x0 x1 x2 : D) : runC PHI Tb84 N vc85_4 (s85_0 x0 x1 x2) k = m85_4 N x0 x1 x2 (fun x1 x2 x11 => k .normal (s85_1 x1 x2 x11)) := by
  refine Eq.trans (runC_post _ _ _ k) (Eq.trans (ops_run _ _ _ _) (by kernel_rfl))
def m85_7 (N : Nat) (x1 x2 x11 : D) (K : D → D → D → D → Option R) : Option R :=
  K x1 x2 x11 (D.b (eqL x11.toS [43]))
def s85_2 (x1 x2 x11 x12 : D) : St := sts 71 [(1, V.f x1), (2, V.f x2), (11, V.f x11), (12, V.f x12)] []
theorem e85_7 (N : Nat) (k : Kn R) (x1 x2 x11 : D) : runC PHI Tb84 N vc85_7 (s85_1 x1 x2 x11) k = m85_7 N x1 x2 x11 (fun x1 x2 x11 x12 => k .normal (s85_2 x1 x2 x11 x12)) := by
  refine Eq.trans (runC_post _ _ _ k) (Eq.trans (ops_run _ _ _ _) (by kernel_rfl))
def m85_9 (N : Nat) (x1 x2 : D) (Kr : D → D → Option R) : Option R :=
  Kr (D.i (IntKind.i64.wrap (x1.toI + x2.toI))) (D.b ((ltb x1.toI (IntKind.i64.wrap (x1.toI + x2.toI))) == (ltb 0 x2.toI)))
def s85_3 (x1 x2 : D) : St := sts 71 [(1, V.f x1), (2, V.f x2)] []
def s85_4 (x6 x7 : D) : St := sts 71 [(6, V.f x6), (7, V.f x7)] []
theorem e85_9 (N : Nat) (k : Kn R) (x1 x2 : D) : runC PHI Tb84 N vc85_9 (s85_3 x1 x2) k = m85_9 N x1 x2 (fun x6 x7 => k .ret (s85_4 x6 x7)) := by kernel_rfl
def m85_15 (N : Nat) (x1 x2 x11 : D) (K : D → D → D → D → Option R) : Option R :=
  K x1 x2 x11 (D.b (eqL x11.toS [45]))
def s85_5 (x1 x2 x11 x24 : D) : St := sts 71 [(1, V.f x1), (2, V.f x2), (11, V.f x11), (24, V.f x24)] []
theorem e85_15 (N : Nat) (k : Kn R) (x1 x2 x11 : D) : runC PHI Tb84 N vc85_15 (s85_1 x1 x2 x11) k = m85_15 N x1 x2 x11 (fun x1 x2 x11 x24 => k .normal (s85_5 x1 x2 x11 x24)) := by
  refine Eq.trans (runC_post _ _ _ k) (Eq.trans (ops_run _ _ _ _) (by kernel_rfl))
def m85_17 (N : Nat) (x1 x2 : D) (Kr : D → D → Option R) : Option R :=
  Kr (D.i (IntKind.i64.wrap (x1.toI - x2.toI))) (D.b ((ltb (IntKind.i64.wrap (x1.toI - x2.toI)) x1.toI) == (ltb 0 x2.toI)))
theorem e85_17 (N : Nat) (k : Kn R) (x1 x2 : D) : runC PHI Tb84 N vc85_17 (s85_3 x1 x2) k = m85_17 N x1 x2 (fun x6 x7 => k .ret (s85_4 x6 x7)) := by kernel_rfl
def m85_23 (N : Nat) (x1 x2 x11 : D) (K : D → D → D → Option R) : Option R :=
  K x1 x2 (D.b (eqL x11.toS [42]))
def s85_6 (x1 x2 x36 : D) : St := sts 71 [(1, V.f x1), (2, V.f x2), (36, V.f x36)] []
theorem e85_23 (N : Nat) (k : Kn R) (x1 x2 x11 : D) : runC PHI Tb84 N vc85_23 (s85_1 x1 x2 x11) k = m85_23 N x1 x2 x11 (fun x1 x2 x36 => k .normal (s85_6 x1 x2 x36)) := by
  refine Eq.trans (runC_post _ _ _ k) (Eq.trans (ops_run _ _ _ _) (by kernel_rfl))
def m85_26 (N : Nat) (x1 x2 : D) (K : D → D → Option R) (Kr : D → D → Option R) : Option R :=
  (bif (eqb x1.toI 0) then (bif true then Kr (D.i 0) (D.b true) else K x1 x2) else (bif (eqb x2.toI 0) then Kr (D.i 0) (D.b true) else K x1 x2))
theorem e85_26 (N : Nat) (k : Kn R) (x1 x2 : D) : runC PHI Tb84 N vc85_26 (s85_3 x1 x2) k = m85_26 N x1 x2 (fun x1 x2 => k .normal (s85_3 x1 x2)) (fun x6 x7 => k .ret (s85_4 x6 x7)) := by kernel_rfl
def m85_33 (N : Nat) (x1 x2 : D) (Kr : D → D → Option R) : Option R :=
  (bif (!eqb x2.toI 0) then (bif (eqb (IntKind.i64.wrap (Int.tdiv (IntKind.i64.wrap (x1.toI * x2.toI)) x2.toI)) x1.toI) then (bif (eqb x1.toI (-1)) then (bif (!(eqb x2.toI (-9223372036854775808))) then (bif (eqb x2.toI (-1)) then Kr (D.i (IntKind.i64.wrap (x1.toI * x2.toI))) (D.b (!(eqb x1.toI (-9223372036854775808)))) else Kr (D.i (IntKind.i64.wrap (x1.toI * x2.toI))) (D.b (!false))) else Kr (D.i (IntKind.i64.wrap (x1.toI * x2.toI))) (D.b false)) else (bif (!false) then (bif (eqb x2.toI (-1)) then Kr (D.i (IntKind.i64.wrap (x1.toI * x2.toI))) (D.b (!(eqb x1.toI (-9223372036854775808)))) else Kr (D.i (IntKind.i64.wrap (x1.toI * x2.toI))) (D.b (!false))) else Kr (D.i (IntKind.i64.wrap (x1.toI * x2.toI))) (D.b false))) else Kr (D.i (IntKind.i64.wrap (x1.toI * x2.toI))) (D.b false)) else none)
theorem e85_33 (N : Nat) (k : Kn R) (x1 x2 : D) : runC PHI Tb84 N vc85_33 (s85_3 x1 x2) k = m85_33 N x1 x2 (fun x6 x7 => k .ret (s85_4 x6 x7)) := by kernel_rfl
def m85_25 (N : Nat) (x1 x2 : D) (Kr : D → D → Option R) : Option R :=
  (m85_26 N x1 x2 (fun y1 y2 => (m85_33 N y1 y2 Kr)) Kr)
theorem e85_25 (N : Nat) (k : Kn R) (x1 x2 : D) : runC PHI Tb84 N vc85_25 (s85_3 x1 x2) k = m85_25 N x1 x2 (fun x6 x7 => k .ret (s85_4 x6 x7)) := by
  have h2 := e85_26 N (kseq PHI Tb84 N vc85_33 k) x1 x2
  have h3 := (funext fun y1 => funext fun y2 => (e85_33 N k y1 y2) : (fun (y1 y2 : D) => (kseq PHI Tb84 N vc85_33 k) .normal (s85_3 y1 y2)) = _)
  refine Eq.trans (runC_seq _ _ _ k) (Eq.trans h2 (Eq.trans (congrArg (fun K => m85_26 N x1 x2 K (fun x6 x7 => (kseq PHI Tb84 N vc85_33 k) .ret (s85_4 x6 x7))) h3) (by kernel_rfl)))
def m85_38 (N : Nat) (K : Option R) : Option R :=
  K
def s85_7 : St := sts 71 [] []
theorem e85_38 (N : Nat) (k : Kn R) : runC PHI Tb84 N vc85_38 s85_7 k = m85_38 N (k .normal s85_7) := by kernel_rfl
def m85_24 (N : Nat) (x1 x2 x36 : D) (K : Option R) (Kr : D → D → Option R) : Option R :=
  (bif x36.toB then (m85_25 N x1 x2 Kr) else (m85_38 N (K)))
theorem e85_24 (N : Nat) (k : Kn R) (x1 x2 x36 : D) : runC PHI Tb84 N vc85_24 (s85_6 x1 x2 x36) k = m85_24 N x1 x2 x36 (k .normal s85_7) (fun x6 x7 => k .ret (s85_4 x6 x7)) := by
  refine Eq.trans (runC_cond (s1 := (s85_3 x1 x2)) (s2 := s85_7) (d := x36) _ _ k (by kernel_rfl) (by kernel_rfl) (by kernel_rfl)) (Eq.trans (congr (congrArg (cond x36.toB) ((e85_25 N k x1 x2))) ((e85_38 N k ))) (by kernel_rfl))
def m85_22 (N : Nat) (x1 x2 x11 : D) (K : Option R) (Kr : D → D → Option R) : Option R :=
  (m85_23 N x1 x2 x11 (fun y1 y2 y36 => (m85_24 N y1 y2 y36 (K) Kr)))
theorem e85_22 (N : Nat) (k : Kn R) (x1 x2 x11 : D) : runC PHI Tb84 N vc85_22 (s85_1 x1 x2 x11) k = m85_22 N x1 x2 x11 (k .normal s85_7) (fun x6 x7 => k .ret (s85_4 x6 x7)) := by
  have h2 := e85_23 N (kseq PHI Tb84 N vc85_24 k) x1 x2 x11
  have h3 := (funext fun y1 => funext fun y2 => funext fun y36 => (e85_24 N k y1 y2 y36) : (fun (y1 y2 y36 : D) => (kseq PHI Tb84 N vc85_24 k) .normal (s85_6 y1 y2 y36)) = _)
  refine Eq.trans (runC_seq _ _ _ k) (Eq.trans h2 (Eq.trans (congrArg (fun K => m85_23 N x1 x2 x11 K) h3) (by kernel_rfl)))
def m85_16 (N : Nat) (x1 x2 x11 x24 : D) (K : Option R) (Kr : D → D → Option R) : Option R :=
  (bif x24.toB then (m85_17 N x1 x2 Kr) else (m85_22 N x1 x2 x11 (K) Kr))
theorem e85_16 (N : Nat) (k : Kn R) (x1 x2 x11 x24 : D) : runC PHI Tb84 N vc85_16 (s85_5 x1 x2 x11 x24) k = m85_16 N x1 x2 x11 x24 (k .normal s85_7) (fun x6 x7 => k .ret (s85_4 x6 x7)) := by
  refine Eq.trans (runC_cond (s1 := (s85_3 x1 x2)) (s2 := (s85_1 x1 x2 x11)) (d := x24) _ _ k (by kernel_rfl) (by kernel_rfl) (by kernel_rfl)) (Eq.trans (congr (congrArg (cond x24.toB) ((e85_17 N k x1 x2))) ((e85_22 N k x1 x2 x11))) (by kernel_rfl))
def m85_14 (N : Nat) (x1 x2 x11 : D) (K : Option R) (Kr : D → D → Option R) : Option R :=
  (m85_15 N x1 x2 x11 (fun y1 y2 y11 y24 => (m85_16 N y1 y2 y11 y24 (K) Kr)))
theorem e85_14 (N : Nat) (k : Kn R) (x1 x2 x11 : D) : runC PHI Tb84 N vc85_14 (s85_1 x1 x2 x11) k = m85_14 N x1 x2 x11 (k .normal s85_7) (fun x6 x7 => k .ret (s85_4 x6 x7)) := by
  have h2 := e85_15 N (kseq PHI Tb84 N vc85_16 k) x1 x2 x11
  have h3 := (funext fun y1 => funext fun y2 => funext fun y11 => funext fun y24 => (e85_16 N k y1 y2 y11 y24) : (fun (y1 y2 y11 y24 : D) => (kseq PHI Tb84 N vc85_16 k) .normal (s85_5 y1 y2 y11 y24)) = _)
  refine Eq.trans (runC_seq _ _ _ k) (Eq.trans h2 (Eq.trans (congrArg (fun K => m85_15 N x1 x2 x11 K) h3) (by kernel_rfl)))
def m85_8 (N : Nat) (x1 x2 x11 x12 : D) (K : Option R) (Kr : D → D → Option R) : Option R :=
  (bif x12.toB then (m85_9 N x1 x2 Kr) else (m85_14 N x1 x2 x11 (K) Kr))
theorem e85_8 (N : Nat) (k : Kn R) (x1 x2 x11 x12 : D) : runC PHI Tb84 N vc85_8 (s85_2 x1 x2 x11 x12) k = m85_8 N x1 x2 x11 x12 (k .normal s85_7) (fun x6 x7 => k .ret (s85_4 x6 x7)) := by
  refine Eq.trans (runC_cond (s1 := (s85_3 x1 x2)) (s2 := (s85_1 x1 x2 x11)) (d := x12) _ _ k (by kernel_rfl) (by kernel_rfl) (by kernel_rfl)) (Eq.trans (congr (congrArg (cond x12.toB) ((e85_9 N k x1 x2))) ((e85_14 N k x1 x2 x11))) (by kernel_rfl))
def m85_6 (N : Nat) (x1 x2 x11 : D) (K : Option R) (Kr : D → D → Option R) : Option R :=
  (m85_7 N x1 x2 x11 (fun y1 y2 y11 y12 => (m85_8 N y1 y2 y11 y12 (K) Kr)))
theorem e85_6 (N : Nat) (k : Kn R) (x1 x2 x11 : D) : runC PHI Tb84 N vc85_6 (s85_1 x1 x2 x11) k = m85_6 N x1 x2 x11 (k .normal s85_7) (fun x6 x7 => k .ret (s85_4 x6 x7)) := by
  have h2 := e85_7 N (kseq PHI Tb84 N vc85_8 k) x1 x2 x11
  have h3 := (funext fun y1 => funext fun y2 => funext fun y11 => funext fun y12 => (e85_8 N k y1 y2 y11 y12) : (fun (y1 y2 y11 y12 : D) => (kseq PHI Tb84 N vc85_8 k) .normal (s85_2 y1 y2 y11 y12)) = _)
  refine Eq.trans (runC_seq _ _ _ k) (Eq.trans h2 (Eq.trans (congrArg (fun K => m85_7 N x1 x2 x11 K) h3) (by kernel_rfl)))
def m85_5 (N : Nat) (x1 x2 x11 : D) (K : Option R) (Kr : D → D → Option R) : Option R :=
  (m85_6 N x1 x2 x11 (K) Kr)
theorem e85_5 (N : Nat) (k : Kn R) (x1 x2 x11 : D) : runC PHI Tb84 N vc85_5 (s85_1 x1 x2 x11) k = m85_5 N x1 x2 x11 (k .normal s85_7) (fun x6 x7 => k .ret (s85_4 x6 x7)) := by
  refine Eq.trans (runC_block _ _ _ k) (Eq.trans (e85_6 N (kblk 0 k) x1 x2 x11) (by kernel_rfl))
def m85_3 (N : Nat) (x0 x1 x2 : D) (K : Option R) (Kr : D → D → Option R) : Option R :=
  (m85_4 N x0 x1 x2 (fun y1 y2 y11 => (m85_5 N y1 y2 y11 (K) Kr)))
theorem e85_3 (N : Nat) (k : Kn R) (x0 x1 x2 : D) : runC PHI Tb84 N vc85_3 (s85_0 x0 x1 x2) k = m85_3 N x0 x1 x2 (k .normal s85_7) (fun x6 x7 => k .ret (s85_4 x6 x7)) := by
  have h2 := e85_4 N (kseq PHI Tb84 N vc85_5 k) x0 x1 x2
  have h3 := (funext fun y1 => funext fun y2 => funext fun y11 => (e85_5 N k y1 y2 y11) : (fun (y1 y2 y11 : D) => (kseq PHI Tb84 N vc85_5 k) .normal (s85_1 y1 y2 y11)) = _)
  refine Eq.trans (runC_seq _ _ _ k) (Eq.trans h2 (Eq.trans (congrArg (fun K => m85_4 N x0 x1 x2 K) h3) (by kernel_rfl)))
def m85_39 (N : Nat) (Kr : D → D → Option R) : Option R :=
  Kr (D.i 0) (D.b false)
theorem e85_39 (N : Nat) (k : Kn R) : runC PHI Tb84 N vc85_39 s85_7 k = m85_39 N (fun x6 x7 => k .ret (s85_4 x6 x7)) := by kernel_rfl
def m85_2 (N : Nat) (x0 x1 x2 : D) (Kr : D → D → Option R) : Option R :=
  (m85_3 N x0 x1 x2 ((m85_39 N Kr)) Kr)
theorem e85_2 (N : Nat) (k : Kn R) (x0 x1 x2 : D) : runC PHI Tb84 N vc85_2 (s85_0 x0 x1 x2) k = m85_2 N x0 x1 x2 (fun x6 x7 => k .ret (s85_4 x6 x7)) := by
  have h2 := e85_3 N (kseq PHI Tb84 N vc85_39 k) x0 x1 x2
  have h3 := ((e85_39 N k ) : ((kseq PHI Tb84 N vc85_39 k) .normal s85_7) = _)
  refine Eq.trans (runC_seq _ _ _ k) (Eq.trans h2 (Eq.trans (congrArg (fun K => m85_3 N x0 x1 x2 K (fun x6 x7 => (kseq PHI Tb84 N vc85_39 k) .ret (s85_4 x6 x7))) h3) (by kernel_rfl)))
def m85_0 (N : Nat) (x0 x1 x2 : D) (Kr : D → D → Option R) : Option R :=
  (m85_1 N x0 x1 x2 (fun y0 y1 y2 => (m85_2 N y0 y1 y2 Kr)))
theorem e85_0 (N : Nat) (k : Kn R) (x0 x1 x2 : D) : runC PHI Tb84 N vc85_0 (s85_0 x0 x1 x2) k = m85_0 N x0 x1 x2 (fun x6 x7 => k .ret (s85_4 x6 x7)) := by
  have h2 := e85_1 N (kseq PHI Tb84 N vc85_2 k) x0 x1 x2
  have h3 := (funext fun y0 => funext fun y1 => funext fun y2 => (e85_2 N k y0 y1 y2) : (fun (y0 y1 y2 : D) => (kseq PHI Tb84 N vc85_2 k) .normal (s85_0 y0 y1 y2)) = _)
  refine Eq.trans (runC_seq _ _ _ k) (Eq.trans h2 (Eq.trans (congrArg (fun K => m85_1 N x0 x1 x2 K) h3) (by kernel_rfl)))
theorem r85 (N : Nat) (x0 x1 x2 : D) : runC PHI Tb84 N vf85.body (enterV vf85 [V.f x0, V.f x1, V.f x2] []) (finish vf85) = m85_0 N x0 x1 x2 (fun x6 x7 => finish vf85 .ret (s85_4 x6 x7)) := 
  Eq.trans (runC_pre (s1 := (s85_0 x0 x1 x2)) (by kernel_rfl) _ _) (Eq.trans (e85_0 N (finish vf85) x0 x1 x2) (by kernel_rfl))
end
def Tb85 : CallF := extend Tb84 85 (fn3 (fun _ _ _ => true) fun o x y => .t [.f (.i (sp85_0 o x y)), .f (.b (sp85_1 o x y))])
theorem ok85 : FnOk Try.prog PHI Tb85 := FnOk.add3 hPHI ok84 (by kernel_rfl) fun o x y _ _ => ⟨0, (r85 0 o x y).trans (by
  simp only [m85_1, m85_4, m85_7, m85_9, m85_15, m85_17, m85_23, m85_26, m85_33, m85_25, m85_38, m85_24, m85_22, m85_16, m85_14, m85_8, m85_6, m85_5, m85_3, m85_39, m85_2, m85_0, toB_b, sp85_0, sp85_1]
  cases eqL o.toS [43]
  · cases eqL o.toS [45]
    · cases eqL o.toS [42]
      · rfl
      · cases eqb x.toI 0
        · cases eqb y.toI 0
          · unfold mulOk w64
            simp only [cond_true, cond_false, Bool.not_false, Bool.or_self]
            cases eqb (IntKind.i64.wrap (Int.tdiv (IntKind.i64.wrap (x.toI * y.toI)) y.toI)) x.toI
            · rfl
            · cases eqb x.toI (-1) <;> cases eqb y.toI (-9223372036854775808) <;> cases eqb y.toI (-1) <;> cases eqb x.toI (-9223372036854775808) <;> rfl
          · rfl
        · rfl
    · rfl
  · rfl)⟩
def arF (o a b : D) : D := bif eqL o.toS [43] then sp81 (F2.ev .fadd a b) else bif eqL o.toS [45] then sp81 (F2.ev .fsub a b) else bif eqL o.toS [42] then sp81 (F2.ev .fmul a b) else z0
def arA (o a b : D) : D := bif eqb (a.at 0).toI 1 && eqb (b.at 0).toI 1 then (bif sp85_1 o (a.at 1) (b.at 1) then sp74 (.i (sp85_0 o (a.at 1) (b.at 1))) else z0) else bif eqb (a.at 0).toI 2 && eqb (b.at 0).toI 2 then arF o (a.at 2) (b.at 2) else z0
def sp52 (o x y : D) : D := arA o (sp46 x) (sp46 y)
section
variable {R : Type}
def m52_1 (N : Nat) (x0 x1 x2 : D) (K : D → D → D → Option R) : Option R :=
  K x0 x1 x2
def s52_0 (x0 x1 x2 : D) : St := sts 69 [(0, V.f x0), (1, V.f x1), (2, V.f x2)] [V.u, V.u]
def s52_1 (x0 h0 h1 : D) : St := sts 69 [(0, V.f x0), (4, V.m 0 []), (5, V.m 1 []), (6, V.a)] [V.f h0, V.f h1]
theorem e52_1 (N : Nat) (k : Kn R) (x0 x1 x2 : D) : runC PHI Tb85 N vc52_1 (s52_0 x0 x1 x2) k = m52_1 N x0 x1 x2 (fun x0 h0 h1 => k .normal (s52_1 x0 h0 h1)) := by
  refine Eq.trans (runC_post _ _ _ k) (Eq.trans (ops_run _ _ _ _) (by kernel_rfl))
def m52_3 (N : Nat) (x0 h0 h1 : D) (K : D → D → D → Option R) : Option R :=
  K x0 (sp46 h0) (sp46 h1)
theorem e52_3 (N : Nat) (k : Kn R) (x0 h0 h1 : D) : runC PHI Tb85 N vc52_3 (s52_1 x0 h0 h1) k = m52_3 N x0 h0 h1 (fun x0 h0 h1 => k .normal (s52_1 x0 h0 h1)) := by
  refine Eq.trans (runC_post _ _ _ k) (Eq.trans (ops_run _ _ _ _) (by kernel_rfl))
def m52_7 (N : Nat) (x0 h0 h1 : D) (K : D → D → D → D → Option R) : Option R :=
  (bif (eqb (h0.at 0).toI 1) then K x0 (D.b (eqb (h1.at 0).toI 1)) h0 h1 else K x0 (D.b false) h0 h1)
def s52_2 (x0 x13 h0 h1 : D) : St := sts 69 [(0, V.f x0), (4, V.m 0 []), (5, V.m 1 []), (6, V.a), (13, V.f x13)] [V.f h0, V.f h1]
theorem e52_7 (N : Nat) (k : Kn R) (x0 h0 h1 : D) : runC PHI Tb85 N vc52_7 (s52_1 x0 h0 h1) k = m52_7 N x0 h0 h1 (fun x0 x13 h0 h1 => k .normal (s52_2 x0 x13 h0 h1)) := by
  refine Eq.trans (runC_post _ _ _ k) (Eq.trans (ops_run _ _ _ _) (by kernel_rfl))
def m52_9 (N : Nat) (x0 h0 h1 : D) (K : D → D → Option R) (Kr : D → D → D → Option R) : Option R :=
  (bif (sp85_1 x0 (h0.at 1) (h1.at 1)) then Kr (D.p (sp74 (D.i (sp85_0 x0 (h0.at 1) (h1.at 1))))) h0 h1 else K h0 h1)
def s52_3 (h0 h1 : D) : St := sts 69 [(6, V.a)] [V.f h0, V.f h1]
def s52_4 (x6 h0 h1 : D) : St := sts 69 [(6, V.f x6)] [V.f h0, V.f h1]
theorem e52_9 (N : Nat) (k : Kn R) (x0 h0 h1 : D) : runC PHI Tb85 N vc52_9 (s52_1 x0 h0 h1) k = m52_9 N x0 h0 h1 (fun h0 h1 => k .normal (s52_3 h0 h1)) (fun x6 h0 h1 => k .ret (s52_4 x6 h0 h1)) := by kernel_rfl
def m52_19 (N : Nat) (x0 h0 h1 : D) (K : D → D → D → D → Option R) : Option R :=
  (bif (eqb (h0.at 0).toI 2) then K x0 (D.b (eqb (h1.at 0).toI 2)) h0 h1 else K x0 (D.b false) h0 h1)
def s52_5 (x0 x34 h0 h1 : D) : St := sts 69 [(0, V.f x0), (4, V.m 0 []), (5, V.m 1 []), (6, V.a), (34, V.f x34)] [V.f h0, V.f h1]
theorem e52_19 (N : Nat) (k : Kn R) (x0 h0 h1 : D) : runC PHI Tb85 N vc52_19 (s52_1 x0 h0 h1) k = m52_19 N x0 h0 h1 (fun x0 x34 h0 h1 => k .normal (s52_5 x0 x34 h0 h1)) := by
  refine Eq.trans (runC_post _ _ _ k) (Eq.trans (ops_run _ _ _ _) (by kernel_rfl))
def m52_20 (N : Nat) (x0 x34 h0 h1 : D) (K : D → D → Option R) (Kr : D → D → D → Option R) : Option R :=
  (bif x34.toB then (bif (eqL x0.toS [43]) then Kr (D.p (sp81 (F2.ev .fadd (h0.at 2) (h1.at 2)))) h0 h1 else (bif (eqL x0.toS [45]) then Kr (D.p (sp81 (F2.ev .fsub (h0.at 2) (h1.at 2)))) h0 h1 else (bif (eqL x0.toS [42]) then Kr (D.p (sp81 (F2.ev .fmul (h0.at 2) (h1.at 2)))) h0 h1 else K h0 h1))) else K h0 h1)
theorem e52_20 (N : Nat) (k : Kn R) (x0 x34 h0 h1 : D) : runC PHI Tb85 N vc52_20 (s52_5 x0 x34 h0 h1) k = m52_20 N x0 x34 h0 h1 (fun h0 h1 => k .normal (s52_3 h0 h1)) (fun x6 h0 h1 => k .ret (s52_4 x6 h0 h1)) := by kernel_rfl
def m52_18 (N : Nat) (x0 h0 h1 : D) (K : D → D → Option R) (Kr : D → D → D → Option R) : Option R :=
  (m52_19 N x0 h0 h1 (fun y0 y34 h0 h1 => (m52_20 N y0 y34 h0 h1 (fun h0 h1 => K h0 h1) Kr)))
theorem e52_18 (N : Nat) (k : Kn R) (x0 h0 h1 : D) : runC PHI Tb85 N vc52_18 (s52_1 x0 h0 h1) k = m52_18 N x0 h0 h1 (fun h0 h1 => k .normal (s52_3 h0 h1)) (fun x6 h0 h1 => k .ret (s52_4 x6 h0 h1)) := by
  have h2 := e52_19 N (kseq PHI Tb85 N vc52_20 k) x0 h0 h1
  have h3 := (funext fun y0 => funext fun y34 => funext fun h0 => funext fun h1 => (e52_20 N k y0 y34 h0 h1) : (fun (y0 y34 h0 h1 : D) => (kseq PHI Tb85 N vc52_20 k) .normal (s52_5 y0 y34 h0 h1)) = _)
  refine Eq.trans (runC_seq _ _ _ k) (Eq.trans h2 (Eq.trans (congrArg (fun K => m52_19 N x0 h0 h1 K) h3) (by kernel_rfl)))
def m52_8 (N : Nat) (x0 x13 h0 h1 : D) (K : D → D → Option R) (Kr : D → D → D → Option R) : Option R :=
  (bif x13.toB then (m52_9 N x0 h0 h1 (fun h0 h1 => K h0 h1) Kr) else (m52_18 N x0 h0 h1 (fun h0 h1 => K h0 h1) Kr))
theorem e52_8 (N : Nat) (k : Kn R) (x0 x13 h0 h1 : D) : runC PHI Tb85 N vc52_8 (s52_2 x0 x13 h0 h1) k = m52_8 N x0 x13 h0 h1 (fun h0 h1 => k .normal (s52_3 h0 h1)) (fun x6 h0 h1 => k .ret (s52_4 x6 h0 h1)) := by
  refine Eq.trans (runC_cond (s1 := (s52_1 x0 h0 h1)) (s2 := (s52_1 x0 h0 h1)) (d := x13) _ _ k (by kernel_rfl) (by kernel_rfl) (by kernel_rfl)) (Eq.trans (congr (congrArg (cond x13.toB) ((e52_9 N k x0 h0 h1))) ((e52_18 N k x0 h0 h1))) (by kernel_rfl))
def m52_6 (N : Nat) (x0 h0 h1 : D) (K : D → D → Option R) (Kr : D → D → D → Option R) : Option R :=
  (m52_7 N x0 h0 h1 (fun y0 y13 h0 h1 => (m52_8 N y0 y13 h0 h1 (fun h0 h1 => K h0 h1) Kr)))
theorem e52_6 (N : Nat) (k : Kn R) (x0 h0 h1 : D) : runC PHI Tb85 N vc52_6 (s52_1 x0 h0 h1) k = m52_6 N x0 h0 h1 (fun h0 h1 => k .normal (s52_3 h0 h1)) (fun x6 h0 h1 => k .ret (s52_4 x6 h0 h1)) := by
  have h2 := e52_7 N (kseq PHI Tb85 N vc52_8 k) x0 h0 h1
  have h3 := (funext fun y0 => funext fun y13 => funext fun h0 => funext fun h1 => (e52_8 N k y0 y13 h0 h1) : (fun (y0 y13 h0 h1 : D) => (kseq PHI Tb85 N vc52_8 k) .normal (s52_2 y0 y13 h0 h1)) = _)
  refine Eq.trans (runC_seq _ _ _ k) (Eq.trans h2 (Eq.trans (congrArg (fun K => m52_7 N x0 h0 h1 K) h3) (by kernel_rfl)))
def m52_5 (N : Nat) (x0 h0 h1 : D) (K : D → D → Option R) (Kr : D → D → D → Option R) : Option R :=
  (m52_6 N x0 h0 h1 (fun h0 h1 => K h0 h1) Kr)
theorem e52_5 (N : Nat) (k : Kn R) (x0 h0 h1 : D) : runC PHI Tb85 N vc52_5 (s52_1 x0 h0 h1) k = m52_5 N x0 h0 h1 (fun h0 h1 => k .normal (s52_3 h0 h1)) (fun x6 h0 h1 => k .ret (s52_4 x6 h0 h1)) := by
  refine Eq.trans (runC_block _ _ _ k) (Eq.trans (e52_6 N (kblk 0 k) x0 h0 h1) (by kernel_rfl))
def m52_44 (N : Nat) (h0 h1 : D) (Kr : D → D → D → Option R) : Option R :=
  Kr (D.p (D.ag [(D.i 0), (D.i 0), (D.f 0), (D.s [])])) h0 h1
theorem e52_44 (N : Nat) (k : Kn R) (h0 h1 : D) : runC PHI Tb85 N vc52_44 (s52_3 h0 h1) k = m52_44 N h0 h1 (fun x6 h0 h1 => k .ret (s52_4 x6 h0 h1)) := by kernel_rfl
def m52_4 (N : Nat) (x0 h0 h1 : D) (Kr : D → D → D → Option R) : Option R :=
  (m52_5 N x0 h0 h1 (fun h0 h1 => (m52_44 N h0 h1 Kr)) Kr)
theorem e52_4 (N : Nat) (k : Kn R) (x0 h0 h1 : D) : runC PHI Tb85 N vc52_4 (s52_1 x0 h0 h1) k = m52_4 N x0 h0 h1 (fun x6 h0 h1 => k .ret (s52_4 x6 h0 h1)) := by
  have h2 := e52_5 N (kseq PHI Tb85 N vc52_44 k) x0 h0 h1
  have h3 := (funext fun h0 => funext fun h1 => (e52_44 N k h0 h1) : (fun (h0 h1 : D) => (kseq PHI Tb85 N vc52_44 k) .normal (s52_3 h0 h1)) = _)
  refine Eq.trans (runC_seq _ _ _ k) (Eq.trans h2 (Eq.trans (congrArg (fun K => m52_5 N x0 h0 h1 K (fun x6 h0 h1 => (kseq PHI Tb85 N vc52_44 k) .ret (s52_4 x6 h0 h1))) h3) (by kernel_rfl)))
def m52_2 (N : Nat) (x0 h0 h1 : D) (Kr : D → D → D → Option R) : Option R :=
  (m52_3 N x0 h0 h1 (fun y0 h0 h1 => (m52_4 N y0 h0 h1 Kr)))
theorem e52_2 (N : Nat) (k : Kn R) (x0 h0 h1 : D) : runC PHI Tb85 N vc52_2 (s52_1 x0 h0 h1) k = m52_2 N x0 h0 h1 (fun x6 h0 h1 => k .ret (s52_4 x6 h0 h1)) := by
  have h2 := e52_3 N (kseq PHI Tb85 N vc52_4 k) x0 h0 h1
  have h3 := (funext fun y0 => funext fun h0 => funext fun h1 => (e52_4 N k y0 h0 h1) : (fun (y0 h0 h1 : D) => (kseq PHI Tb85 N vc52_4 k) .normal (s52_1 y0 h0 h1)) = _)
  refine Eq.trans (runC_seq _ _ _ k) (Eq.trans h2 (Eq.trans (congrArg (fun K => m52_3 N x0 h0 h1 K) h3) (by kernel_rfl)))
def m52_0 (N : Nat) (x0 x1 x2 : D) (Kr : D → D → D → Option R) : Option R :=
  (m52_1 N x0 x1 x2 (fun y0 h0 h1 => (m52_2 N y0 h0 h1 Kr)))
theorem e52_0 (N : Nat) (k : Kn R) (x0 x1 x2 : D) : runC PHI Tb85 N vc52_0 (s52_0 x0 x1 x2) k = m52_0 N x0 x1 x2 (fun x6 h0 h1 => k .ret (s52_4 x6 h0 h1)) := by
  have h2 := e52_1 N (kseq PHI Tb85 N vc52_2 k) x0 x1 x2
  have h3 := (funext fun y0 => funext fun h0 => funext fun h1 => (e52_2 N k y0 h0 h1) : (fun (y0 h0 h1 : D) => (kseq PHI Tb85 N vc52_2 k) .normal (s52_1 y0 h0 h1)) = _)
  refine Eq.trans (runC_seq _ _ _ k) (Eq.trans h2 (Eq.trans (congrArg (fun K => m52_1 N x0 x1 x2 K) h3) (by kernel_rfl)))
theorem r52 (N : Nat) (x0 x1 x2 : D) : runC PHI Tb85 N vf52.body (enterV vf52 [V.f x0, V.f x1, V.f x2] []) (finish vf52) = m52_0 N x0 x1 x2 (fun x6 h0 h1 => finish vf52 .ret (s52_4 x6 h0 h1)) := 
  Eq.trans (runC_pre (s1 := (s52_0 x0 x1 x2)) (by kernel_rfl) _ _) (Eq.trans (e52_0 N (finish vf52) x0 x1 x2) (by kernel_rfl))
end
def Tb52 : CallF := extend Tb85 52 (fn3 (fun _ _ _ => true) fun o x y => .f (sp52 o x y))
theorem ok52 : FnOk Try.prog PHI Tb52 := FnOk.add3 hPHI ok85 (by kernel_rfl) fun o x y _ _ => ⟨0, (r52 0 o x y).trans (by
  simp only [m52_1, m52_3, m52_7, m52_9, m52_19, m52_20, m52_18, m52_8, m52_6, m52_5, m52_44, m52_4, m52_2, m52_0, toB_b, sp52]
  generalize sp46 x = a
  generalize sp46 y = b
  unfold arA arF
  by_cases h1 : (a.at 0).toI = 1
  · have h2 : ¬ (a.at 0).toI = 2 := by omega
    rw [eqb_t h1, eqb_f h2]
    cases eqb (b.at 0).toI 1
    · rfl
    · simp only [cond_true, Bool.and_self]
      cases sp85_1 o (a.at 1) (b.at 1) <;> rfl
  · rw [eqb_f h1]
    cases eqb (a.at 0).toI 2
    · rfl
    · cases eqb (b.at 0).toI 2
      · rfl
      · simp only [cond_true, cond_false, Bool.and_self, Bool.false_and]
        cases eqL o.toS [43] <;> cases eqL o.toS [45] <;> cases eqL o.toS [42] <;> rfl)⟩
def sp47 (x : D) : D := bif eqb ((sp46 x).at 0).toI 2 then sp81 (F1.ev .fneg ((sp46 x).at 2)) else sp52 (.s [45]) (sp74 (.i 0)) (sp46 x)
section
variable {R : Type}
def m47_0 (N : Nat) (x0 : D) (Kr : D → D → Option R) : Option R :=
  (bif (eqb ((sp46 x0).at 0).toI 2) then Kr (D.p (sp81 (F1.ev .fneg ((sp46 x0).at 2)))) (sp46 x0) else Kr (D.p (sp52 (D.s [45]) (sp74 (D.i 0)) (sp46 x0))) (sp46 x0))
def s47_0 (x0 : D) : St := sts 15 [(0, V.f x0)] [V.u]
def s47_1 (x2 h0 : D) : St := sts 15 [(2, V.f x2)] [V.f h0]
theorem e47_0 (N : Nat) (k : Kn R) (x0 : D) : runC PHI Tb52 N vc47_0 (s47_0 x0) k = m47_0 N x0 (fun x2 h0 => k .ret (s47_1 x2 h0)) := by kernel_rfl
theorem r47 (N : Nat) (x0 : D) : runC PHI Tb52 N vf47.body (enterV vf47 [V.f x0] []) (finish vf47) = m47_0 N x0 (fun x2 h0 => finish vf47 .ret (s47_1 x2 h0)) := 
  Eq.trans (runC_pre (s1 := (s47_0 x0)) (by kernel_rfl) _ _) (Eq.trans (e47_0 N (finish vf47) x0) (by kernel_rfl))
end
def Tb47 : CallF := extend Tb52 47 (fn1 (fun _ => true) fun x => .f (sp47 x))
theorem ok47 : FnOk Try.prog PHI Tb47 := FnOk.add1 hPHI ok52 (by kernel_rfl) fun x _ _ => ⟨0, (r47 0 x).trans (by
  unfold m47_0 sp47
  cases eqb ((sp46 x).at 0).toI 2 <;> rfl)⟩
def sp48 (x : D) : D := bif leb 0 (sp83 x) then sp84 (.i (w64 (1 - sp83 x))) else sp84 (.i (-1))
section
variable {R : Type}
def m48_0 (N : Nat) (x0 : D) (Kr : D → Option R) : Option R :=
  (bif (leb 0 (sp83 x0)) then Kr (D.p (sp84 (D.i (IntKind.i64.wrap (1 - (sp83 x0)))))) else Kr (D.p (sp84 (D.i (-1)))))
def s48_0 (x0 : D) : St := sts 12 [(0, V.f x0)] []
def s48_1 (x2 : D) : St := sts 12 [(2, V.f x2)] []
theorem e48_0 (N : Nat) (k : Kn R) (x0 : D) : runC PHI Tb47 N vc48_0 (s48_0 x0) k = m48_0 N x0 (fun x2 => k .ret (s48_1 x2)) := by kernel_rfl
theorem r48 (N : Nat) (x0 : D) : runC PHI Tb47 N vf48.body (enterV vf48 [V.f x0] []) (finish vf48) = m48_0 N x0 (fun x2 => finish vf48 .ret (s48_1 x2)) := 
  Eq.trans (runC_pre (s1 := (s48_0 x0)) (by kernel_rfl) _ _) (Eq.trans (e48_0 N (finish vf48) x0) (by kernel_rfl))
end
def Tb48 : CallF := extend Tb47 48 (fn1 (fun _ => true) fun x => .f (sp48 x))
theorem ok48 : FnOk Try.prog PHI Tb48 := FnOk.add1 hPHI ok47 (by kernel_rfl) fun x _ _ => ⟨0, (r48 0 x).trans (by
  unfold m48_0 sp48
  cases leb 0 (sp83 x) <;> rfl)⟩
def sp49 (x y : D) : D := bif eqb (sp83 x) 0 || eqb (sp83 y) 0 then sp84 (.i 0) else bif ltb (sp83 x) 0 || ltb (sp83 y) 0 then sp84 (.i (-1)) else sp84 (.i 1)
section
variable {R : Type}
def m49_1 (N : Nat) (x0 x1 : D) (K : D → D → Option R) : Option R :=
  K (D.p x0) (D.p x1)
def s49_0 (x0 x1 : D) : St := sts 28 [(0, V.f x0), (1, V.f x1)] []
def s49_1 (x2 x3 : D) : St := sts 28 [(2, V.f x2), (3, V.f x3), (4, V.a)] []
theorem e49_1 (N : Nat) (k : Kn R) (x0 x1 : D) : runC PHI Tb48 N vc49_1 (s49_0 x0 x1) k = m49_1 N x0 x1 (fun x2 x3 => k .normal (s49_1 x2 x3)) := by
  refine Eq.trans (runC_post _ _ _ k) (Eq.trans (ops_run _ _ _ _) (by kernel_rfl))
def m49_3 (N : Nat) (x2 x3 : D) (K : D → D → Option R) : Option R :=
  (bif (isPtrD x2) then (bif (isPtrD x3) then K (D.i (sp83 x2.deref)) (D.i (sp83 x3.deref)) else none) else none)
def s49_2 (x5 x6 : D) : St := sts 28 [(4, V.a), (5, V.f x5), (6, V.f x6)] []
theorem e49_3 (N : Nat) (k : Kn R) (x2 x3 : D) : runC PHI Tb48 N vc49_3 (s49_1 x2 x3) k = m49_3 N x2 x3 (fun x5 x6 => k .normal (s49_2 x5 x6)) := by
  refine Eq.trans (runC_post _ _ _ k) (Eq.trans (ops_run _ _ _ _) (by kernel_rfl))
def m49_7 (N : Nat) (x5 x6 : D) (K : D → D → D → Option R) : Option R :=
  (bif (eqb x5.toI 0) then K x5 x6 (D.b true) else K x5 x6 (D.b (eqb x6.toI 0)))
def s49_3 (x5 x6 x11 : D) : St := sts 28 [(4, V.a), (5, V.f x5), (6, V.f x6), (11, V.f x11)] []
theorem e49_7 (N : Nat) (k : Kn R) (x5 x6 : D) : runC PHI Tb48 N vc49_7 (s49_2 x5 x6) k = m49_7 N x5 x6 (fun x5 x6 x11 => k .normal (s49_3 x5 x6 x11)) := by
  refine Eq.trans (runC_post _ _ _ k) (Eq.trans (ops_run _ _ _ _) (by kernel_rfl))
def m49_8 (N : Nat) (x5 x6 x11 : D) (K : Option R) (Kr : D → Option R) : Option R :=
  (bif x11.toB then Kr (D.p (sp84 (D.i 0))) else (bif (ltb x5.toI 0) then (bif true then Kr (D.p (sp84 (D.i (-1)))) else K) else (bif (ltb x6.toI 0) then Kr (D.p (sp84 (D.i (-1)))) else K)))
def s49_4 : St := sts 28 [(4, V.a)] []
def s49_5 (x4 : D) : St := sts 28 [(4, V.f x4)] []
theorem e49_8 (N : Nat) (k : Kn R) (x5 x6 x11 : D) : runC PHI Tb48 N vc49_8 (s49_3 x5 x6 x11) k = m49_8 N x5 x6 x11 (k .normal s49_4) (fun x4 => k .ret (s49_5 x4)) := by kernel_rfl
def m49_6 (N : Nat) (x5 x6 : D) (K : Option R) (Kr : D → Option R) : Option R :=
  (m49_7 N x5 x6 (fun y5 y6 y11 => (m49_8 N y5 y6 y11 (K) Kr)))
theorem e49_6 (N : Nat) (k : Kn R) (x5 x6 : D) : runC PHI Tb48 N vc49_6 (s49_2 x5 x6) k = m49_6 N x5 x6 (k .normal s49_4) (fun x4 => k .ret (s49_5 x4)) := by
  have h2 := e49_7 N (kseq PHI Tb48 N vc49_8 k) x5 x6
  have h3 := (funext fun y5 => funext fun y6 => funext fun y11 => (e49_8 N k y5 y6 y11) : (fun (y5 y6 y11 : D) => (kseq PHI Tb48 N vc49_8 k) .normal (s49_3 y5 y6 y11)) = _)
  refine Eq.trans (runC_seq _ _ _ k) (Eq.trans h2 (Eq.trans (congrArg (fun K => m49_7 N x5 x6 K) h3) (by kernel_rfl)))
def m49_5 (N : Nat) (x5 x6 : D) (K : Option R) (Kr : D → Option R) : Option R :=
  (m49_6 N x5 x6 (K) Kr)
theorem e49_5 (N : Nat) (k : Kn R) (x5 x6 : D) : runC PHI Tb48 N vc49_5 (s49_2 x5 x6) k = m49_5 N x5 x6 (k .normal s49_4) (fun x4 => k .ret (s49_5 x4)) := by
  refine Eq.trans (runC_block _ _ _ k) (Eq.trans (e49_6 N (kblk 0 k) x5 x6) (by kernel_rfl))
def m49_19 (N : Nat) (Kr : D → Option R) : Option R :=
  Kr (D.p (sp84 (D.i 1)))
theorem e49_19 (N : Nat) (k : Kn R) : runC PHI Tb48 N vc49_19 s49_4 k = m49_19 N (fun x4 => k .ret (s49_5 x4)) := by kernel_rfl
def m49_4 (N : Nat) (x5 x6 : D) (Kr : D → Option R) : Option R :=
  (m49_5 N x5 x6 ((m49_19 N Kr)) Kr)
theorem e49_4 (N : Nat) (k : Kn R) (x5 x6 : D) : runC PHI Tb48 N vc49_4 (s49_2 x5 x6) k = m49_4 N x5 x6 (fun x4 => k .ret (s49_5 x4)) := by
  have h2 := e49_5 N (kseq PHI Tb48 N vc49_19 k) x5 x6
  have h3 := ((e49_19 N k ) : ((kseq PHI Tb48 N vc49_19 k) .normal s49_4) = _)
  refine Eq.trans (runC_seq _ _ _ k) (Eq.trans h2 (Eq.trans (congrArg (fun K => m49_5 N x5 x6 K (fun x4 => (kseq PHI Tb48 N vc49_19 k) .ret (s49_5 x4))) h3) (by kernel_rfl)))
def m49_2 (N : Nat) (x2 x3 : D) (Kr : D → Option R) : Option R :=
  (m49_3 N x2 x3 (fun y5 y6 => (m49_4 N y5 y6 Kr)))
theorem e49_2 (N : Nat) (k : Kn R) (x2 x3 : D) : runC PHI Tb48 N vc49_2 (s49_1 x2 x3) k = m49_2 N x2 x3 (fun x4 => k .ret (s49_5 x4)) := by
  have h2 := e49_3 N (kseq PHI Tb48 N vc49_4 k) x2 x3
  have h3 := (funext fun y5 => funext fun y6 => (e49_4 N k y5 y6) : (fun (y5 y6 : D) => (kseq PHI Tb48 N vc49_4 k) .normal (s49_2 y5 y6)) = _)
  refine Eq.trans (runC_seq _ _ _ k) (Eq.trans h2 (Eq.trans (congrArg (fun K => m49_3 N x2 x3 K) h3) (by kernel_rfl)))
def m49_0 (N : Nat) (x0 x1 : D) (Kr : D → Option R) : Option R :=
  (m49_1 N x0 x1 (fun y2 y3 => (m49_2 N y2 y3 Kr)))
theorem e49_0 (N : Nat) (k : Kn R) (x0 x1 : D) : runC PHI Tb48 N vc49_0 (s49_0 x0 x1) k = m49_0 N x0 x1 (fun x4 => k .ret (s49_5 x4)) := by
  have h2 := e49_1 N (kseq PHI Tb48 N vc49_2 k) x0 x1
  have h3 := (funext fun y2 => funext fun y3 => (e49_2 N k y2 y3) : (fun (y2 y3 : D) => (kseq PHI Tb48 N vc49_2 k) .normal (s49_1 y2 y3)) = _)
  refine Eq.trans (runC_seq _ _ _ k) (Eq.trans h2 (Eq.trans (congrArg (fun K => m49_1 N x0 x1 K) h3) (by kernel_rfl)))
theorem r49 (N : Nat) (x0 x1 : D) : runC PHI Tb48 N vf49.body (enterV vf49 [V.f x0, V.f x1] []) (finish vf49) = m49_0 N x0 x1 (fun x4 => finish vf49 .ret (s49_5 x4)) := 
  Eq.trans (runC_pre (s1 := (s49_0 x0 x1)) (by kernel_rfl) _ _) (Eq.trans (e49_0 N (finish vf49) x0 x1) (by kernel_rfl))
end
def Tb49 : CallF := extend Tb48 49 (fn2 (fun _ _ => true) fun x y => .f (sp49 x y))
theorem ok49 : FnOk Try.prog PHI Tb49 := FnOk.add2 hPHI ok48 (by kernel_rfl) fun x y _ _ => ⟨0, (r49 0 x y).trans (by
  simp only [m49_1, m49_3, m49_7, m49_8, m49_6, m49_5, m49_19, m49_4, m49_2, m49_0, toB_b, toI_i, isPtr_p, deref_p, cond_true, sp49]
  cases eqb (sp83 x) 0 <;> cases eqb (sp83 y) 0 <;> cases ltb (sp83 x) 0 <;> cases ltb (sp83 y) 0 <;> rfl)⟩
def sp50 (x y : D) : D := sp48 (sp49 (sp48 x) (sp48 y))
section
variable {R : Type}
def m50_0 (N : Nat) (x0 x1 : D) (Kr : D → Option R) : Option R :=
  Kr (D.p (sp48 (sp49 (sp48 x0) (sp48 x1))))
def s50_0 (x0 x1 : D) : St := sts 11 [(0, V.f x0), (1, V.f x1)] []
def s50_1 (x4 : D) : St := sts 11 [(4, V.f x4)] []
theorem e50_0 (N : Nat) (k : Kn R) (x0 x1 : D) : runC PHI Tb49 N vc50_0 (s50_0 x0 x1) k = m50_0 N x0 x1 (fun x4 => k .ret (s50_1 x4)) := by kernel_rfl
theorem r50 (N : Nat) (x0 x1 : D) : runC PHI Tb49 N vf50.body (enterV vf50 [V.f x0, V.f x1] []) (finish vf50) = m50_0 N x0 x1 (fun x4 => finish vf50 .ret (s50_1 x4)) := 
  Eq.trans (runC_pre (s1 := (s50_0 x0 x1)) (by kernel_rfl) _ _) (Eq.trans (e50_0 N (finish vf50) x0 x1) (by kernel_rfl))
end
def Tb50 : CallF := extend Tb49 50 (fn2 (fun _ _ => true) fun x y => .f (sp50 x y))
theorem ok50 : FnOk Try.prog PHI Tb50 := FnOk.add2 hPHI ok49 (by kernel_rfl) fun x y _ _ => ⟨0, (r50 0 x y).trans rfl⟩
def cmA (o : D) (c : Int) : D := bif eqL o.toS [61] then sp53 (.b (eqb c 0)) else bif eqL o.toS [60, 62] then sp53 (.b (!eqb c 0)) else bif eqL o.toS [60] then sp53 (.b (ltb c 0)) else bif eqL o.toS [60, 61] then sp53 (.b (leb c 0)) else bif eqL o.toS [62] then sp53 (.b (ltb 0 c)) else bif eqL o.toS [62, 61] then sp53 (.b (leb 0 c)) else z0
def sp51 (o x y : D) : D := bif eqb ((sp46 x).at 0).toI 0 || !eqb ((sp46 x).at 0).toI ((sp46 y).at 0).toI then z0 else cmA o (sp27 (sp46 x) (sp46 y))
section
variable {R : Type}
def m51_1 (N : Nat) (x0 x1 x2 : D) (K : D → D → D → Option R) : Option R :=
  K x0 x1 x2
def s51_0 (x0 x1 x2 : D) : St := sts 58 [(0, V.f x0), (1, V.f x1), (2, V.f x2)] [V.u, V.u]
def s51_1 (x0 h0 h1 : D) : St := sts 58 [(0, V.f x0), (4, V.m 0 []), (5, V.m 1 []), (6, V.a)] [V.f h0, V.f h1]
theorem e51_1 (N : Nat) (k : Kn R) (x0 x1 x2 : D) : runC PHI Tb50 N vc51_1 (s51_0 x0 x1 x2) k = m51_1 N x0 x1 x2 (fun x0 h0 h1 => k .normal (s51_1 x0 h0 h1)) := by
  refine Eq.trans (runC_post _ _ _ k) (Eq.trans (ops_run _ _ _ _) (by kernel_rfl))
def m51_3 (N : Nat) (x0 h0 h1 : D) (K : D → D → D → Option R) : Option R :=
  K x0 (sp46 h0) (sp46 h1)
theorem e51_3 (N : Nat) (k : Kn R) (x0 h0 h1 : D) : runC PHI Tb50 N vc51_3 (s51_1 x0 h0 h1) k = m51_3 N x0 h0 h1 (fun x0 h0 h1 => k .normal (s51_1 x0 h0 h1)) := by
  refine Eq.trans (runC_post _ _ _ k) (Eq.trans (ops_run _ _ _ _) (by kernel_rfl))
def m51_5 (N : Nat) (x0 h0 h1 : D) (K : D → D → D → Option R) (Kr : D → D → D → Option R) : Option R :=
  (bif (eqb (h0.at 0).toI 0) then (bif true then Kr (D.p (D.ag [(D.i 0), (D.i 0), (D.f 0), (D.s [])])) h0 h1 else K x0 h0 h1) else (bif (!eqb (h0.at 0).toI (h1.at 0).toI) then Kr (D.p (D.ag [(D.i 0), (D.i 0), (D.f 0), (D.s [])])) h0 h1 else K x0 h0 h1))
def s51_2 (x6 h0 h1 : D) : St := sts 58 [(6, V.f x6)] [V.f h0, V.f h1]
theorem e51_5 (N : Nat) (k : Kn R) (x0 h0 h1 : D) : runC PHI Tb50 N vc51_5 (s51_1 x0 h0 h1) k = m51_5 N x0 h0 h1 (fun x0 h0 h1 => k .normal (s51_1 x0 h0 h1)) (fun x6 h0 h1 => k .ret (s51_2 x6 h0 h1)) := by kernel_rfl
def m51_12 (N : Nat) (x0 h0 h1 : D) (Kr : D → D → D → Option R) : Option R :=
  (bif (eqL x0.toS [61]) then Kr (D.p (sp53 (D.b (eqb (sp27 h0 h1) 0)))) h0 h1 else (bif (eqL x0.toS [60, 62]) then Kr (D.p (sp53 (D.b (!eqb (sp27 h0 h1) 0)))) h0 h1 else (bif (eqL x0.toS [60]) then Kr (D.p (sp53 (D.b (ltb (sp27 h0 h1) 0)))) h0 h1 else (bif (eqL x0.toS [60, 61]) then Kr (D.p (sp53 (D.b (leb (sp27 h0 h1) 0)))) h0 h1 else (bif (eqL x0.toS [62]) then Kr (D.p (sp53 (D.b (ltb 0 (sp27 h0 h1))))) h0 h1 else (bif (eqL x0.toS [62, 61]) then Kr (D.p (sp53 (D.b (leb 0 (sp27 h0 h1))))) h0 h1 else Kr (D.p (D.ag [(D.i 0), (D.i 0), (D.f 0), (D.s [])])) h0 h1))))))
theorem e51_12 (N : Nat) (k : Kn R) (x0 h0 h1 : D) : runC PHI Tb50 N vc51_12 (s51_1 x0 h0 h1) k = m51_12 N x0 h0 h1 (fun x6 h0 h1 => k .ret (s51_2 x6 h0 h1)) := by kernel_rfl
def m51_4 (N : Nat) (x0 h0 h1 : D) (Kr : D → D → D → Option R) : Option R :=
  (m51_5 N x0 h0 h1 (fun y0 h0 h1 => (m51_12 N y0 h0 h1 Kr)) Kr)
theorem e51_4 (N : Nat) (k : Kn R) (x0 h0 h1 : D) : runC PHI Tb50 N vc51_4 (s51_1 x0 h0 h1) k = m51_4 N x0 h0 h1 (fun x6 h0 h1 => k .ret (s51_2 x6 h0 h1)) := by
  have h2 := e51_5 N (kseq PHI Tb50 N vc51_12 k) x0 h0 h1
  have h3 := (funext fun y0 => funext fun h0 => funext fun h1 => (e51_12 N k y0 h0 h1) : (fun (y0 h0 h1 : D) => (kseq PHI Tb50 N vc51_12 k) .normal (s51_1 y0 h0 h1)) = _)
  refine Eq.trans (runC_seq _ _ _ k) (Eq.trans h2 (Eq.trans (congrArg (fun K => m51_5 N x0 h0 h1 K (fun x6 h0 h1 => (kseq PHI Tb50 N vc51_12 k) .ret (s51_2 x6 h0 h1))) h3) (by kernel_rfl)))
def m51_2 (N : Nat) (x0 h0 h1 : D) (Kr : D → D → D → Option R) : Option R :=
  (m51_3 N x0 h0 h1 (fun y0 h0 h1 => (m51_4 N y0 h0 h1 Kr)))
theorem e51_2 (N : Nat) (k : Kn R) (x0 h0 h1 : D) : runC PHI Tb50 N vc51_2 (s51_1 x0 h0 h1) k = m51_2 N x0 h0 h1 (fun x6 h0 h1 => k .ret (s51_2 x6 h0 h1)) := by
  have h2 := e51_3 N (kseq PHI Tb50 N vc51_4 k) x0 h0 h1
  have h3 := (funext fun y0 => funext fun h0 => funext fun h1 => (e51_4 N k y0 h0 h1) : (fun (y0 h0 h1 : D) => (kseq PHI Tb50 N vc51_4 k) .normal (s51_1 y0 h0 h1)) = _)
  refine Eq.trans (runC_seq _ _ _ k) (Eq.trans h2 (Eq.trans (congrArg (fun K => m51_3 N x0 h0 h1 K) h3) (by kernel_rfl)))
def m51_0 (N : Nat) (x0 x1 x2 : D) (Kr : D → D → D → Option R) : Option R :=
  (m51_1 N x0 x1 x2 (fun y0 h0 h1 => (m51_2 N y0 h0 h1 Kr)))
theorem e51_0 (N : Nat) (k : Kn R) (x0 x1 x2 : D) : runC PHI Tb50 N vc51_0 (s51_0 x0 x1 x2) k = m51_0 N x0 x1 x2 (fun x6 h0 h1 => k .ret (s51_2 x6 h0 h1)) := by
  have h2 := e51_1 N (kseq PHI Tb50 N vc51_2 k) x0 x1 x2
  have h3 := (funext fun y0 => funext fun h0 => funext fun h1 => (e51_2 N k y0 h0 h1) : (fun (y0 h0 h1 : D) => (kseq PHI Tb50 N vc51_2 k) .normal (s51_1 y0 h0 h1)) = _)
  refine Eq.trans (runC_seq _ _ _ k) (Eq.trans h2 (Eq.trans (congrArg (fun K => m51_1 N x0 x1 x2 K) h3) (by kernel_rfl)))
theorem r51 (N : Nat) (x0 x1 x2 : D) : runC PHI Tb50 N vf51.body (enterV vf51 [V.f x0, V.f x1, V.f x2] []) (finish vf51) = m51_0 N x0 x1 x2 (fun x6 h0 h1 => finish vf51 .ret (s51_2 x6 h0 h1)) := 
  Eq.trans (runC_pre (s1 := (s51_0 x0 x1 x2)) (by kernel_rfl) _ _) (Eq.trans (e51_0 N (finish vf51) x0 x1 x2) (by kernel_rfl))
end
def Tb51 : CallF := extend Tb50 51 (fn3 (fun _ _ _ => true) fun o x y => .f (sp51 o x y))
theorem ok51 : FnOk Try.prog PHI Tb51 := FnOk.add3 hPHI ok50 (by kernel_rfl) fun o x y _ _ => ⟨0, (r51 0 o x y).trans (by
  simp only [m51_1, m51_3, m51_5, m51_12, m51_4, m51_2, m51_0, sp51, cmA]
  generalize sp46 x = a
  generalize sp46 y = b
  cases eqb (a.at 0).toI 0
  · cases eqb (a.at 0).toI (b.at 0).toI
    · rfl
    · simp only [cond_true, cond_false, Bool.not_true, Bool.or_self]
      cases eqL o.toS [61]
      · cases eqL o.toS [60, 62]
        · cases eqL o.toS [60]
          · cases eqL o.toS [60, 61]
            · cases eqL o.toS [62]
              · cases eqL o.toS [62, 61] <;> rfl
              · rfl
            · rfl
          · rfl
        · rfl
      · rfl
  · rfl)⟩
def sp62 (x : D) : Bool := eqb (sp83 x) 1
end Go.Vam.C14
namespace Go.Vam.C14
open Go.Proofs
def mx : D := .i 9223372036854775807
end Go.Vam.C14
