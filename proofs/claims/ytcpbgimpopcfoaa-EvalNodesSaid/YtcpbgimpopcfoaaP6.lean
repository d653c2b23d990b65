/- Chapter 14: what functions come to, part 6. No conditions. -/
import Derived.Test.YtcpbgimpopcfoaaP5
import Derived.KernelRfl
set_option linter.unusedVariables false
set_option linter.unusedSimpArgs false
set_option maxRecDepth 100000
namespace Go.Vam.C14
open Go.Proofs
/-! ### Are two values one, field by field? -/
def sp44 (x : D) : Bool := ltb (IntKind.wrap IntKind.i64 (x.toF : Int)) 0
def pr44 (x : D) : Bool := !isNan x.toF
section
variable {R : Type}
def m44_0 (N : Nat) (x0 : D) (Kr : D → Option R) : Option R :=
  (bif (!isNan x0.toF) then Kr (D.b (ltb (IntKind.wrap IntKind.i64 (x0.toF : Int)) 0)) else none)
def s44_0 (x0 : D) : St := sts 7 [(0, V.f x0)] []
def s44_1 (x2 : D) : St := sts 7 [(2, V.f x2)] []
theorem e44_0 (N : Nat) (k : Kn R) (x0 : D) : runC PHI Tb24 N vc44_0 (s44_0 x0) k = m44_0 N x0 (fun x2 => k .ret (s44_1 x2)) := by kernel_rfl
theorem r44 (N : Nat) (x0 : D) : runC PHI Tb24 N vf44.body (enterV vf44 [V.f x0] []) (finish vf44) = m44_0 N x0 (fun x2 => finish vf44 .ret (s44_1 x2)) := 
  Eq.trans (runC_pre (s1 := (s44_0 x0)) (by kernel_rfl) _ _) (Eq.trans (e44_0 N (finish vf44) x0) (by kernel_rfl))
end
def Tb44 : CallF := extend Tb24 44 (fn1 pr44 fun x => .f (.b (sp44 x)))
theorem ok44 : FnOk Try.prog PHI Tb44 := FnOk.add1 hPHI ok24 (by kernel_rfl) fun x _ hp => ⟨0, (r44 0 x).trans (by
  unfold m44_0
  rw [show (!isNan x.toF) = true from hp]; rfl)⟩
def sp22 (x y : D) : Bool := eqb (x.at 0).toI (y.at 0).toI && (eqb (x.at 1).toI (y.at 1).toI && (eqL (x.at 3).toS (y.at 3).toS && ((sp43 (x.at 2) == sp43 (y.at 2)) && (!sp43 (x.at 2) || ((F2.ev .feq (x.at 2) (y.at 2)).toB && (sp44 (x.at 2) == sp44 (y.at 2)))))))
theorem feq_nn {x y : D} (h : (F2.ev .feq x y).toB = true) : pr44 x = true ∧ pr44 y = true := by
  rw [feq_o] at h
  have hx : nan x = false := by
    cases hn : nan x
    · rfl
    · rw [(oo_none x y).2 (.inl hn)] at h; cases h
  have hy : nan y = false := by
    cases hn : nan y
    · rfl
    · rw [(oo_none x y).2 (.inr hn)] at h; cases h
  have hx' : isNan x.toF = false := hx
  have hy' : isNan y.toF = false := hy
  unfold pr44
  rw [hx', hy']
  exact ⟨rfl, rfl⟩
section
variable {R : Type}
def m22_0 (N : Nat) (x0 x1 : D) (Kr : D → Option R) : Option R :=
  (bif (eqb (x0.at 0).toI (x1.at 0).toI) then (bif (eqb (x0.at 1).toI (x1.at 1).toI) then (bif (eqL (x0.at 3).toS (x1.at 3).toS) then (bif ((sp43 (x0.at 2)) == (sp43 (x1.at 2))) then (bif (!(sp43 (x0.at 2))) then Kr (D.b true) else (bif (F2.ev .feq (x0.at 2) (x1.at 2)).toB then (bif (pr44 (x0.at 2)) then (bif (pr44 (x1.at 2)) then Kr (D.b ((sp44 (x0.at 2)) == (sp44 (x1.at 2)))) else none) else none) else Kr (D.b false))) else Kr (D.b false)) else Kr (D.b false)) else Kr (D.b false)) else Kr (D.b false))
def s22_0 (x0 x1 : D) : St := sts 55 [(0, V.f x0), (1, V.f x1)] []
def s22_1 (x4 : D) : St := sts 55 [(4, V.f x4)] []
theorem e22_0 (N : Nat) (k : Kn R) (x0 x1 : D) : runC PHI Tb44 N vc22_0 (s22_0 x0 x1) k = m22_0 N x0 x1 (fun x4 => k .ret (s22_1 x4)) := by kernel_rfl
theorem r22 (N : Nat) (x0 x1 : D) : runC PHI Tb44 N vf22.body (enterV vf22 [V.f x0, V.f x1] []) (finish vf22) = m22_0 N x0 x1 (fun x4 => finish vf22 .ret (s22_1 x4)) := 
  Eq.trans (runC_pre (s1 := (s22_0 x0 x1)) (by kernel_rfl) _ _) (Eq.trans (e22_0 N (finish vf22) x0 x1) (by kernel_rfl))
end
def Tb22 : CallF := extend Tb44 22 (fn2 (fun _ _ => true) fun x y => .f (.b (sp22 x y)))
theorem ok22 : FnOk Try.prog PHI Tb22 := FnOk.add2 hPHI ok44 (by kernel_rfl) fun x y _ _ => ⟨0, (r22 0 x y).trans (by
  unfold m22_0 sp22
  cases eqb (x.at 0).toI (y.at 0).toI
  · rfl
  cases eqb (x.at 1).toI (y.at 1).toI
  · rfl
  cases eqL (x.at 3).toS (y.at 3).toS
  · rfl
  cases (sp43 (x.at 2) == sp43 (y.at 2))
  · rfl
  cases sp43 (x.at 2)
  · rfl
  cases hf : (F2.ev .feq (x.at 2) (y.at 2)).toB
  · rfl
  rw [(feq_nn hf).1, (feq_nn hf).2]
  rfl)⟩
theorem eqL_self : ∀ l : List Nat, eqL l l = true
  | [] => rfl
  | a :: l => by simp [eqL, eqL_self l]
theorem exact_Q {x y : D} (h : Q x y) : sp22 x y = true := by
  have hf := fe_feq h.f
  unfold sp22
  rw [h.k, h.n, h.s, eqb_t rfl, eqb_t rfl, eqL_self, s43, s43, hf.n]
  cases hn : nan (y.at 2)
  · have e : (x.at 2).toF = (y.at 2).toF := by
      rcases h.f with e | ⟨_, e⟩
      · exact e
      · have : nan (y.at 2) = true := e
        rw [hn] at this; cases this
    rw [feq_o, hf.l, oo_self _ hn]
    unfold sp44
    rw [e]
    simp
  · rfl
/-! ### Do all hold? -/
def hold (r x : D) : Bool := sp62 (sp23 x r)
theorem hold_Q {x r : D} (hx : Is Try.prog 35 x) (hr : Is Try.prog 23 r) : eqb (sp63 (sp24 x r)) 2 = sp62 (sp23 x r) := by
  have h := ev_Q x.wt x r hx hr
  unfold sp62 sp63 sp83
  have e1 : sp24 x r = evB x.wt x r := rfl
  have e2 : sp23 x r = evA x.wt x r := rfl
  rw [e1, e2, ← h.k, ← h.n]
  cases eqb ((evA x.wt x r).at 0).toI 4 <;> cases eqb ((evA x.wt x r).at 1).toI 0 <;> rfl
def foundH (l r : D) : Int := fst (fun i => !hold r (l.toL.getD i .nil)) l.toL.length 0
def sp25 (l r : D) : Bool := !leb 0 (foundH l r)
section
variable {R : Type}
def m25_1 (N : Nat) (x0 x1 : D) (K : D → D → Option R) : Option R :=
  K x0 x1
def s25_0 (x0 x1 : D) : St := sts 19 [(0, V.f x0), (1, V.f x1)] []
theorem e25_1 (N : Nat) (k : Kn R) (x0 x1 : D) : runC PHI Tb22 N vc25_1 (s25_0 x0 x1) k = m25_1 N x0 x1 (fun x0 x1 => k .normal (s25_0 x0 x1)) := by
  refine Eq.trans (runC_post _ _ _ k) (Eq.trans (ops_run _ _ _ _) (by kernel_rfl))
def m25_4 (N : Nat) (x0 x1 : D) (K : D → D → D → D → Option R) : Option R :=
  K x1 x0 (D.i (x0.toL.length : Int)) (D.i 0)
def s25_1 (x1 x7 x8 x9 : D) : St := sts 19 [(1, V.f x1), (7, V.f x7), (8, V.f x8), (9, V.f x9)] []
theorem e25_4 (N : Nat) (k : Kn R) (x0 x1 : D) : runC PHI Tb22 N vc25_4 (s25_0 x0 x1) k = m25_4 N x0 x1 (fun x1 x7 x8 x9 => k .normal (s25_1 x1 x7 x8 x9)) := by
  refine Eq.trans (runC_post _ _ _ k) (Eq.trans (ops_run _ _ _ _) (by kernel_rfl))
def m25_7 (N : Nat) (x1 x7 x8 x9 : D) (K : D → D → D → D → Option R) (K0 : Option R) (Kr : D → Option R) : Option R :=
  (bif (ltb x9.toI x8.toI) then (bif (inb x9.toI x7.toL.length) then (bif (pr23 (x7.at (x9.toI : Int).toNat) x1) then (bif (!(sp62 (sp23 (x7.at (x9.toI : Int).toNat) x1))) then Kr (D.b false) else K x1 x7 x8 (D.i (IntKind.wrap IntKind.i64 (x9.toI + 1)))) else none) else none) else K0)
def s25_2 : St := sts 19 [] []
def s25_3 (x4 : D) : St := sts 19 [(4, V.f x4)] []
theorem e25_7 (N : Nat) (k : Kn R) (x1 x7 x8 x9 : D) : runC PHI Tb22 N vc25_7 (s25_1 x1 x7 x8 x9) k = m25_7 N x1 x7 x8 x9 (fun x1 x7 x8 x9 => k .normal (s25_1 x1 x7 x8 x9)) (k (.exit 0) s25_2) (fun x4 => k .ret (s25_3 x4)) := by kernel_rfl
def l25_6 (N : Nat) (j : Nat) (x1 x7 x8 x9 : D) (K0 : Option R) (Kr : D → Option R) : Option R :=
  match j with
  | 0 => none
  | j + 1 => (m25_7 N x1 x7 x8 x9 (fun y1 y7 y8 y9 => l25_6 N j y1 y7 y8 y9 K0 Kr) K0 Kr)
def m25_6 (N : Nat) (x1 x7 x8 x9 : D) (K0 : Option R) (Kr : D → Option R) : Option R :=
  l25_6 N N x1 x7 x8 x9 K0 Kr
theorem el25_6 (N : Nat) (k : Kn R) : ∀ (j : Nat) (x1 x7 x8 x9 : D), loopGo (runC PHI Tb22 N vc25_7) j (s25_1 x1 x7 x8 x9) k = l25_6 N j x1 x7 x8 x9 (k (.exit 0) s25_2) (fun x4 => k .ret (s25_3 x4))
  | 0, _, _, _, _ => by kernel_rfl
  | j + 1, x1, x7, x8, x9 => by
    have h2 := e25_7 N (kloop PHI Tb22 N vc25_7 j k) x1 x7 x8 x9
    have h3 : (fun (y1 y7 y8 y9 : D) => (kloop PHI Tb22 N vc25_7 j k) .normal (s25_1 y1 y7 y8 y9)) = (fun (y1 y7 y8 y9 : D) => l25_6 N j y1 y7 y8 y9 (k (.exit 0) s25_2) (fun x4 => k .ret (s25_3 x4))) := funext fun y1 => funext fun y7 => funext fun y8 => funext fun y9 => (el25_6 N k j y1 y7 y8 y9)
    refine Eq.trans (loop_succ _ j _ k) (Eq.trans h2 (Eq.trans (congrArg (fun K => m25_7 N x1 x7 x8 x9 K ((kloop PHI Tb22 N vc25_7 j k) (.exit 0) s25_2) (fun x4 => (kloop PHI Tb22 N vc25_7 j k) .ret (s25_3 x4))) h3) (by kernel_rfl)))
theorem e25_6 (N : Nat) (k : Kn R) (x1 x7 x8 x9 : D) : runC PHI Tb22 N vc25_6 (s25_1 x1 x7 x8 x9) k = m25_6 N x1 x7 x8 x9 (k (.exit 0) s25_2) (fun x4 => k .ret (s25_3 x4)) := by
  refine Eq.trans (runC_loop _ _ k) (Eq.trans (el25_6 N k N x1 x7 x8 x9) (by kernel_rfl))
def m25_5 (N : Nat) (x1 x7 x8 x9 : D) (K : Option R) (Kr : D → Option R) : Option R :=
  (m25_6 N x1 x7 x8 x9 (K) Kr)
theorem e25_5 (N : Nat) (k : Kn R) (x1 x7 x8 x9 : D) : runC PHI Tb22 N vc25_5 (s25_1 x1 x7 x8 x9) k = m25_5 N x1 x7 x8 x9 (k .normal s25_2) (fun x4 => k .ret (s25_3 x4)) := by
  refine Eq.trans (runC_block _ _ _ k) (Eq.trans (e25_6 N (kblk 0 k) x1 x7 x8 x9) (by kernel_rfl))
def m25_3 (N : Nat) (x0 x1 : D) (K : Option R) (Kr : D → Option R) : Option R :=
  (m25_4 N x0 x1 (fun y1 y7 y8 y9 => (m25_5 N y1 y7 y8 y9 (K) Kr)))
theorem e25_3 (N : Nat) (k : Kn R) (x0 x1 : D) : runC PHI Tb22 N vc25_3 (s25_0 x0 x1) k = m25_3 N x0 x1 (k .normal s25_2) (fun x4 => k .ret (s25_3 x4)) := by
  have h2 := e25_4 N (kseq PHI Tb22 N vc25_5 k) x0 x1
  have h3 := (funext fun y1 => funext fun y7 => funext fun y8 => funext fun y9 => (e25_5 N k y1 y7 y8 y9) : (fun (y1 y7 y8 y9 : D) => (kseq PHI Tb22 N vc25_5 k) .normal (s25_1 y1 y7 y8 y9)) = _)
  refine Eq.trans (runC_seq _ _ _ k) (Eq.trans h2 (Eq.trans (congrArg (fun K => m25_4 N x0 x1 K) h3) (by kernel_rfl)))
def m25_25 (N : Nat) (Kr : D → Option R) : Option R :=
  Kr (D.b true)
theorem e25_25 (N : Nat) (k : Kn R) : runC PHI Tb22 N vc25_25 s25_2 k = m25_25 N (fun x4 => k .ret (s25_3 x4)) := by kernel_rfl
def m25_2 (N : Nat) (x0 x1 : D) (Kr : D → Option R) : Option R :=
  (m25_3 N x0 x1 ((m25_25 N Kr)) Kr)
theorem e25_2 (N : Nat) (k : Kn R) (x0 x1 : D) : runC PHI Tb22 N vc25_2 (s25_0 x0 x1) k = m25_2 N x0 x1 (fun x4 => k .ret (s25_3 x4)) := by
  have h2 := e25_3 N (kseq PHI Tb22 N vc25_25 k) x0 x1
  have h3 := ((e25_25 N k ) : ((kseq PHI Tb22 N vc25_25 k) .normal s25_2) = _)
  refine Eq.trans (runC_seq _ _ _ k) (Eq.trans h2 (Eq.trans (congrArg (fun K => m25_3 N x0 x1 K (fun x4 => (kseq PHI Tb22 N vc25_25 k) .ret (s25_3 x4))) h3) (by kernel_rfl)))
def m25_0 (N : Nat) (x0 x1 : D) (Kr : D → Option R) : Option R :=
  (m25_1 N x0 x1 (fun y0 y1 => (m25_2 N y0 y1 Kr)))
theorem e25_0 (N : Nat) (k : Kn R) (x0 x1 : D) : runC PHI Tb22 N vc25_0 (s25_0 x0 x1) k = m25_0 N x0 x1 (fun x4 => k .ret (s25_3 x4)) := by
  have h2 := e25_1 N (kseq PHI Tb22 N vc25_2 k) x0 x1
  have h3 := (funext fun y0 => funext fun y1 => (e25_2 N k y0 y1) : (fun (y0 y1 : D) => (kseq PHI Tb22 N vc25_2 k) .normal (s25_0 y0 y1)) = _)
  refine Eq.trans (runC_seq _ _ _ k) (Eq.trans h2 (Eq.trans (congrArg (fun K => m25_1 N x0 x1 K) h3) (by kernel_rfl)))
theorem r25 (N : Nat) (x0 x1 : D) : runC PHI Tb22 N vf25.body (enterV vf25 [V.f x0, V.f x1] []) (finish vf25) = m25_0 N x0 x1 (fun x4 => finish vf25 .ret (s25_3 x4)) := 
  Eq.trans (runC_pre (s1 := (s25_0 x0 x1)) (by kernel_rfl) _ _) (Eq.trans (e25_0 N (finish vf25) x0 x1) (by kernel_rfl))
end
def Tb25 : CallF := extend Tb22 25 (fn2 (fun _ _ => true) fun l r => .f (.b (sp25 l r)))
theorem ok25 : FnOk Try.prog PHI Tb25 := FnOk.add2 hPHI ok22 (by kernel_rfl) fun l r ha _ => ⟨l.toL.length + 1, (r25 _ l r).trans (by
  have hl := (ha.is 0 rfl rfl).len' (e := 35) (by kernel_rfl)
  simp only [m25_0, m25_1, m25_2, m25_3, m25_4, m25_5, m25_6, m25_25]
  have h := loop_find (fun j i => l25_6 (l.toL.length + 1) j r l (.i (l.toL.length : Int)) (.i (i : Nat)) (finish vf25 .ret (s25_3 (.b true))) (fun x4 => finish vf25 .ret (s25_3 x4))) (fun i => !hold r (l.toL.getD i .nil)) l.toL.length (finish vf25 .ret (s25_3 (.b true))) (fun i => finish vf25 .ret (s25_3 (.b false)))
    (fun j i hi => by
      simp only [l25_6, m25_7, toI_i, cond_true, ltb_n hi, inb_t hi, at_nat, succ_n hi hl, pr23, hold])
    (fun j => by simp only [l25_6, m25_7, toI_i, ltb_self, cond_false])
    l.toL.length 0 (l.toL.length + 1) (by omega) (by omega)
  refine h.trans ?_
  unfold sp25
  rw [show fst (fun i => !hold r (l.toL.getD i .nil)) l.toL.length 0 = foundH l r from rfl]
  cases leb 0 (foundH l r) <;> rfl)⟩
def sp26 (l r : D) : Bool := sp25 l r
section
variable {R : Type}
def m26_1 (N : Nat) (x0 x1 : D) (K : D → D → Option R) : Option R :=
  K x0 x1
def s26_0 (x0 x1 : D) : St := sts 20 [(0, V.f x0), (1, V.f x1)] []
theorem e26_1 (N : Nat) (k : Kn R) (x0 x1 : D) : runC PHI Tb25 N vc26_1 (s26_0 x0 x1) k = m26_1 N x0 x1 (fun x0 x1 => k .normal (s26_0 x0 x1)) := by
  refine Eq.trans (runC_post _ _ _ k) (Eq.trans (ops_run _ _ _ _) (by kernel_rfl))
def m26_4 (N : Nat) (x0 x1 : D) (K : D → D → D → Option R) : Option R :=
  K x0 x1 (D.i 0)
def s26_1 (x0 x1 x5 : D) : St := sts 20 [(0, V.f x0), (1, V.f x1), (5, V.f x5)] []
theorem e26_4 (N : Nat) (k : Kn R) (x0 x1 : D) : runC PHI Tb25 N vc26_4 (s26_0 x0 x1) k = m26_4 N x0 x1 (fun x0 x1 x5 => k .normal (s26_1 x0 x1 x5)) := by
  refine Eq.trans (runC_post _ _ _ k) (Eq.trans (ops_run _ _ _ _) (by kernel_rfl))
def m26_7 (N : Nat) (x0 x1 x5 : D) (K : D → D → D → Option R) (K0 : Option R) (Kr : D → Option R) : Option R :=
  (bif (ltb x5.toI (x0.toL.length : Int)) then (bif (inb x5.toI x0.toL.length) then (bif (pr24 (x0.at (x5.toI : Int).toNat) x1) then (bif (!eqb (sp63 (sp24 (x0.at (x5.toI : Int).toNat) x1)) 2) then Kr (D.b false) else K x0 x1 (D.i (IntKind.wrap IntKind.i64 (x5.toI + 1)))) else none) else none) else K0)
def s26_2 : St := sts 20 [] []
def s26_3 (x4 : D) : St := sts 20 [(4, V.f x4)] []
theorem e26_7 (N : Nat) (k : Kn R) (x0 x1 x5 : D) : runC PHI Tb25 N vc26_7 (s26_1 x0 x1 x5) k = m26_7 N x0 x1 x5 (fun x0 x1 x5 => k .normal (s26_1 x0 x1 x5)) (k (.exit 0) s26_2) (fun x4 => k .ret (s26_3 x4)) := by kernel_rfl
def l26_6 (N : Nat) (j : Nat) (x0 x1 x5 : D) (K0 : Option R) (Kr : D → Option R) : Option R :=
  match j with
  | 0 => none
  | j + 1 => (m26_7 N x0 x1 x5 (fun y0 y1 y5 => l26_6 N j y0 y1 y5 K0 Kr) K0 Kr)
def m26_6 (N : Nat) (x0 x1 x5 : D) (K0 : Option R) (Kr : D → Option R) : Option R :=
  l26_6 N N x0 x1 x5 K0 Kr
theorem el26_6 (N : Nat) (k : Kn R) : ∀ (j : Nat) (x0 x1 x5 : D), loopGo (runC PHI Tb25 N vc26_7) j (s26_1 x0 x1 x5) k = l26_6 N j x0 x1 x5 (k (.exit 0) s26_2) (fun x4 => k .ret (s26_3 x4))
  | 0, _, _, _ => by kernel_rfl
  | j + 1, x0, x1, x5 => by
    have h2 := e26_7 N (kloop PHI Tb25 N vc26_7 j k) x0 x1 x5
    have h3 : (fun (y0 y1 y5 : D) => (kloop PHI Tb25 N vc26_7 j k) .normal (s26_1 y0 y1 y5)) = (fun (y0 y1 y5 : D) => l26_6 N j y0 y1 y5 (k (.exit 0) s26_2) (fun x4 => k .ret (s26_3 x4))) := funext fun y0 => funext fun y1 => funext fun y5 => (el26_6 N k j y0 y1 y5)
    refine Eq.trans (loop_succ _ j _ k) (Eq.trans h2 (Eq.trans (congrArg (fun K => m26_7 N x0 x1 x5 K ((kloop PHI Tb25 N vc26_7 j k) (.exit 0) s26_2) (fun x4 => (kloop PHI Tb25 N vc26_7 j k) .ret (s26_3 x4))) h3) (by kernel_rfl)))
theorem e26_6 (N : Nat) (k : Kn R) (x0 x1 x5 : D) : runC PHI Tb25 N vc26_6 (s26_1 x0 x1 x5) k = m26_6 N x0 x1 x5 (k (.exit 0) s26_2) (fun x4 => k .ret (s26_3 x4)) := by
  refine Eq.trans (runC_loop _ _ k) (Eq.trans (el26_6 N k N x0 x1 x5) (by kernel_rfl))
def m26_5 (N : Nat) (x0 x1 x5 : D) (K : Option R) (Kr : D → Option R) : Option R :=
  (m26_6 N x0 x1 x5 (K) Kr)
theorem e26_5 (N : Nat) (k : Kn R) (x0 x1 x5 : D) : runC PHI Tb25 N vc26_5 (s26_1 x0 x1 x5) k = m26_5 N x0 x1 x5 (k .normal s26_2) (fun x4 => k .ret (s26_3 x4)) := by
  refine Eq.trans (runC_block _ _ _ k) (Eq.trans (e26_6 N (kblk 0 k) x0 x1 x5) (by kernel_rfl))
def m26_3 (N : Nat) (x0 x1 : D) (K : Option R) (Kr : D → Option R) : Option R :=
  (m26_4 N x0 x1 (fun y0 y1 y5 => (m26_5 N y0 y1 y5 (K) Kr)))
theorem e26_3 (N : Nat) (k : Kn R) (x0 x1 : D) : runC PHI Tb25 N vc26_3 (s26_0 x0 x1) k = m26_3 N x0 x1 (k .normal s26_2) (fun x4 => k .ret (s26_3 x4)) := by
  have h2 := e26_4 N (kseq PHI Tb25 N vc26_5 k) x0 x1
  have h3 := (funext fun y0 => funext fun y1 => funext fun y5 => (e26_5 N k y0 y1 y5) : (fun (y0 y1 y5 : D) => (kseq PHI Tb25 N vc26_5 k) .normal (s26_1 y0 y1 y5)) = _)
  refine Eq.trans (runC_seq _ _ _ k) (Eq.trans h2 (Eq.trans (congrArg (fun K => m26_4 N x0 x1 K) h3) (by kernel_rfl)))
def m26_23 (N : Nat) (Kr : D → Option R) : Option R :=
  Kr (D.b true)
theorem e26_23 (N : Nat) (k : Kn R) : runC PHI Tb25 N vc26_23 s26_2 k = m26_23 N (fun x4 => k .ret (s26_3 x4)) := by kernel_rfl
def m26_2 (N : Nat) (x0 x1 : D) (Kr : D → Option R) : Option R :=
  (m26_3 N x0 x1 ((m26_23 N Kr)) Kr)
theorem e26_2 (N : Nat) (k : Kn R) (x0 x1 : D) : runC PHI Tb25 N vc26_2 (s26_0 x0 x1) k = m26_2 N x0 x1 (fun x4 => k .ret (s26_3 x4)) := by
  have h2 := e26_3 N (kseq PHI Tb25 N vc26_23 k) x0 x1
  have h3 := ((e26_23 N k ) : ((kseq PHI Tb25 N vc26_23 k) .normal s26_2) = _)
  refine Eq.trans (runC_seq _ _ _ k) (Eq.trans h2 (Eq.trans (congrArg (fun K => m26_3 N x0 x1 K (fun x4 => (kseq PHI Tb25 N vc26_23 k) .ret (s26_3 x4))) h3) (by kernel_rfl)))
def m26_0 (N : Nat) (x0 x1 : D) (Kr : D → Option R) : Option R :=
  (m26_1 N x0 x1 (fun y0 y1 => (m26_2 N y0 y1 Kr)))
theorem e26_0 (N : Nat) (k : Kn R) (x0 x1 : D) : runC PHI Tb25 N vc26_0 (s26_0 x0 x1) k = m26_0 N x0 x1 (fun x4 => k .ret (s26_3 x4)) := by
  have h2 := e26_1 N (kseq PHI Tb25 N vc26_2 k) x0 x1
  have h3 := (funext fun y0 => funext fun y1 => (e26_2 N k y0 y1) : (fun (y0 y1 : D) => (kseq PHI Tb25 N vc26_2 k) .normal (s26_0 y0 y1)) = _)
  refine Eq.trans (runC_seq _ _ _ k) (Eq.trans h2 (Eq.trans (congrArg (fun K => m26_1 N x0 x1 K) h3) (by kernel_rfl)))
theorem r26 (N : Nat) (x0 x1 : D) : runC PHI Tb25 N vf26.body (enterV vf26 [V.f x0, V.f x1] []) (finish vf26) = m26_0 N x0 x1 (fun x4 => finish vf26 .ret (s26_3 x4)) := 
  Eq.trans (runC_pre (s1 := (s26_0 x0 x1)) (by kernel_rfl) _ _) (Eq.trans (e26_0 N (finish vf26) x0 x1) (by kernel_rfl))
end
def Tb26 : CallF := extend Tb25 26 (fn2 (fun _ _ => true) fun l r => .f (.b (sp26 l r)))
theorem ok26 : FnOk Try.prog PHI Tb26 := FnOk.add2 hPHI ok25 (by kernel_rfl) fun l r ha _ => ⟨l.toL.length + 1, (r26 _ l r).trans (by
  have hl := (ha.is 0 rfl rfl).len' (e := 35) (by kernel_rfl)
  have hr := ha.is 1 rfl rfl
  have hx := (ha.is 0 rfl rfl).elem (e := 35) (by kernel_rfl)
  simp only [m26_0, m26_1, m26_2, m26_3, m26_4, m26_5, m26_6, m26_23]
  have h := loop_find (fun j i => l26_6 (l.toL.length + 1) j l r (.i (i : Nat)) (finish vf26 .ret (s26_3 (.b true))) (fun x4 => finish vf26 .ret (s26_3 x4))) (fun i => !hold r (l.toL.getD i .nil)) l.toL.length (finish vf26 .ret (s26_3 (.b true))) (fun i => finish vf26 .ret (s26_3 (.b false)))
    (fun j i hi => by
      have e : l.toL.getD i .nil = l.toL[i] := getD_at hi
      have e2 : eqb (sp63 (sp24 (l.toL.getD i .nil) r)) 2 = sp62 (sp23 (l.toL.getD i .nil) r) := by rw [e]; exact hold_Q (hx _ (List.getElem_mem hi)) hr
      simp only [l26_6, m26_7, toI_i, cond_true, ltb_n hi, inb_t hi, at_nat, succ_n hi hl, pr24, hold, e2])
    (fun j => by simp only [l26_6, m26_7, toI_i, ltb_self, cond_false])
    l.toL.length 0 (l.toL.length + 1) (by omega) (by omega)
  refine h.trans ?_
  unfold sp26 sp25
  rw [show fst (fun i => !hold r (l.toL.getD i .nil)) l.toL.length 0 = foundH l r from rfl]
  cases leb 0 (foundH l r) <;> rfl)⟩
/-! ### size -/
def szL (f : D → Int → Int) (m : Int) : List D → Int → Int
  | [], k => k
  | y :: r, k => bif ltb m k then k else szL f m r (IntKind.i64.wrap (k + f y (IntKind.i64.wrap (m - k))))
def szN : Nat → D → Int → Int
  | 0, _, _ => 0
  | n + 1, d, m => szL (szN n) m (d.at 6).toL (IntKind.i64.wrap (1 + (((d.at 2).at 3).toS.length : Int)))
def spx42 (n : Nat) (a m : D) : Int := szN n a m.toI
def prx42 (n : Nat) (a _m : D) : Bool := depOk n a
def Tx42 (n : Nat) : CallF := extend Tb26 42 (fn2 (prx42 n) fun a m => .f (.i (spx42 n a m)))
section
variable {R : Type}
def m42_1 (n N : Nat) (x0 x1 : D) (K : D → D → Option R) : Option R :=
  K x1 (D.p x0)
def s42_0 (x0 x1 : D) : St := sts 32 [(0, V.f x0), (1, V.f x1)] []
def s42_1 (x1 x2 : D) : St := sts 32 [(1, V.f x1), (2, V.f x2)] []
theorem e42_1 (n N : Nat) (k : Kn R) (x0 x1 : D) : runC PHI (Tx42 n) N vc42_1 (s42_0 x0 x1) k = m42_1 n N x0 x1 (fun x1 x2 => k .normal (s42_1 x1 x2)) := by
  refine Eq.trans (runC_post _ _ _ k) (Eq.trans (ops_run _ _ _ _) (by kernel_rfl))
def m42_3 (n N : Nat) (x1 x2 : D) (K : D → D → D → Option R) : Option R :=
  (bif (isPtrD x2) then K x1 x2 (D.i (IntKind.wrap IntKind.i64 (1 + (((x2.deref.at 2).at 3).toS.length : Int)))) else none)
def s42_2 (x1 x2 x5 : D) : St := sts 32 [(1, V.f x1), (2, V.f x2), (5, V.f x5)] []
theorem e42_3 (n N : Nat) (k : Kn R) (x1 x2 : D) : runC PHI (Tx42 n) N vc42_3 (s42_1 x1 x2) k = m42_3 n N x1 x2 (fun x1 x2 x5 => k .normal (s42_2 x1 x2 x5)) := by
  refine Eq.trans (runC_post _ _ _ k) (Eq.trans (ops_run _ _ _ _) (by kernel_rfl))
def m42_6 (n N : Nat) (x1 x2 x5 : D) (K : D → D → D → D → D → Option R) : Option R :=
  (bif (isPtrD x2) then K x1 x5 (x2.deref.at 6) (D.i ((x2.deref.at 6).toL.length : Int)) (D.i 0) else none)
def s42_3 (x1 x5 x14 x15 x16 : D) : St := sts 32 [(1, V.f x1), (5, V.f x5), (14, V.f x14), (15, V.f x15), (16, V.f x16)] []
theorem e42_6 (n N : Nat) (k : Kn R) (x1 x2 x5 : D) : runC PHI (Tx42 n) N vc42_6 (s42_2 x1 x2 x5) k = m42_6 n N x1 x2 x5 (fun x1 x5 x14 x15 x16 => k .normal (s42_3 x1 x5 x14 x15 x16)) := by
  refine Eq.trans (runC_post _ _ _ k) (Eq.trans (ops_run _ _ _ _) (by kernel_rfl))
def m42_9 (n N : Nat) (x1 x5 x14 x15 x16 : D) (K : D → D → D → D → D → Option R) (K0 : D → Option R) : Option R :=
  (bif (ltb x16.toI x15.toI) then (bif (inb x16.toI x14.toL.length) then (bif (ltb x1.toI x5.toI) then K0 x5 else (bif (prx42 n (x14.at (x16.toI : Int).toNat) (D.i (IntKind.wrap IntKind.i64 (x1.toI - x5.toI)))) then K x1 (D.i (IntKind.wrap IntKind.i64 (x5.toI + (spx42 n (x14.at (x16.toI : Int).toNat) (D.i (IntKind.wrap IntKind.i64 (x1.toI - x5.toI))))))) x14 x15 (D.i (IntKind.wrap IntKind.i64 (x16.toI + 1))) else none)) else none) else K0 x5)
def s42_4 (x5 : D) : St := sts 32 [(5, V.f x5)] []
theorem e42_9 (n N : Nat) (k : Kn R) (x1 x5 x14 x15 x16 : D) : runC PHI (Tx42 n) N vc42_9 (s42_3 x1 x5 x14 x15 x16) k = m42_9 n N x1 x5 x14 x15 x16 (fun x1 x5 x14 x15 x16 => k .normal (s42_3 x1 x5 x14 x15 x16)) (fun x5 => k (.exit 0) (s42_4 x5)) := by kernel_rfl
def l42_8 (n N : Nat) (j : Nat) (x1 x5 x14 x15 x16 : D) (K0 : D → Option R) : Option R :=
  match j with
  | 0 => none
  | j + 1 => (m42_9 n N x1 x5 x14 x15 x16 (fun y1 y5 y14 y15 y16 => l42_8 n N j y1 y5 y14 y15 y16 K0) K0)
def m42_8 (n N : Nat) (x1 x5 x14 x15 x16 : D) (K0 : D → Option R) : Option R :=
  l42_8 n N N x1 x5 x14 x15 x16 K0
theorem el42_8 (n N : Nat) (k : Kn R) : ∀ (j : Nat) (x1 x5 x14 x15 x16 : D), loopGo (runC PHI (Tx42 n) N vc42_9) j (s42_3 x1 x5 x14 x15 x16) k = l42_8 n N j x1 x5 x14 x15 x16 (fun x5 => k (.exit 0) (s42_4 x5))
  | 0, _, _, _, _, _ => by kernel_rfl
  | j + 1, x1, x5, x14, x15, x16 => by
    have h2 := e42_9 n N (kloop PHI (Tx42 n) N vc42_9 j k) x1 x5 x14 x15 x16
    have h3 : (fun (y1 y5 y14 y15 y16 : D) => (kloop PHI (Tx42 n) N vc42_9 j k) .normal (s42_3 y1 y5 y14 y15 y16)) = (fun (y1 y5 y14 y15 y16 : D) => l42_8 n N j y1 y5 y14 y15 y16 (fun x5 => k (.exit 0) (s42_4 x5))) := funext fun y1 => funext fun y5 => funext fun y14 => funext fun y15 => funext fun y16 => (el42_8 n N k j y1 y5 y14 y15 y16)
    refine Eq.trans (loop_succ _ j _ k) (Eq.trans h2 (Eq.trans (congrArg (fun K => m42_9 n N x1 x5 x14 x15 x16 K (fun x5 => (kloop PHI (Tx42 n) N vc42_9 j k) (.exit 0) (s42_4 x5))) h3) (by kernel_rfl)))
theorem e42_8 (n N : Nat) (k : Kn R) (x1 x5 x14 x15 x16 : D) : runC PHI (Tx42 n) N vc42_8 (s42_3 x1 x5 x14 x15 x16) k = m42_8 n N x1 x5 x14 x15 x16 (fun x5 => k (.exit 0) (s42_4 x5)) := by
  refine Eq.trans (runC_loop _ _ k) (Eq.trans (el42_8 n N k N x1 x5 x14 x15 x16) (by kernel_rfl))
def m42_7 (n N : Nat) (x1 x5 x14 x15 x16 : D) (K : D → Option R) : Option R :=
  (m42_8 n N x1 x5 x14 x15 x16 (fun y5 => K y5))
theorem e42_7 (n N : Nat) (k : Kn R) (x1 x5 x14 x15 x16 : D) : runC PHI (Tx42 n) N vc42_7 (s42_3 x1 x5 x14 x15 x16) k = m42_7 n N x1 x5 x14 x15 x16 (fun x5 => k .normal (s42_4 x5)) := by
  refine Eq.trans (runC_block _ _ _ k) (Eq.trans (e42_8 n N (kblk 0 k) x1 x5 x14 x15 x16) (by kernel_rfl))
def m42_5 (n N : Nat) (x1 x2 x5 : D) (K : D → Option R) : Option R :=
  (m42_6 n N x1 x2 x5 (fun y1 y5 y14 y15 y16 => (m42_7 n N y1 y5 y14 y15 y16 (fun y5 => K y5))))
theorem e42_5 (n N : Nat) (k : Kn R) (x1 x2 x5 : D) : runC PHI (Tx42 n) N vc42_5 (s42_2 x1 x2 x5) k = m42_5 n N x1 x2 x5 (fun x5 => k .normal (s42_4 x5)) := by
  have h2 := e42_6 n N (kseq PHI (Tx42 n) N vc42_7 k) x1 x2 x5
  have h3 := (funext fun y1 => funext fun y5 => funext fun y14 => funext fun y15 => funext fun y16 => (e42_7 n N k y1 y5 y14 y15 y16) : (fun (y1 y5 y14 y15 y16 : D) => (kseq PHI (Tx42 n) N vc42_7 k) .normal (s42_3 y1 y5 y14 y15 y16)) = _)
  refine Eq.trans (runC_seq _ _ _ k) (Eq.trans h2 (Eq.trans (congrArg (fun K => m42_6 n N x1 x2 x5 K) h3) (by kernel_rfl)))
def m42_27 (n N : Nat) (x5 : D) (Kr : D → Option R) : Option R :=
  Kr x5
def s42_5 (x4 : D) : St := sts 32 [(4, V.f x4)] []
theorem e42_27 (n N : Nat) (k : Kn R) (x5 : D) : runC PHI (Tx42 n) N vc42_27 (s42_4 x5) k = m42_27 n N x5 (fun x4 => k .ret (s42_5 x4)) := by kernel_rfl
def m42_4 (n N : Nat) (x1 x2 x5 : D) (Kr : D → Option R) : Option R :=
  (m42_5 n N x1 x2 x5 (fun y5 => (m42_27 n N y5 Kr)))
theorem e42_4 (n N : Nat) (k : Kn R) (x1 x2 x5 : D) : runC PHI (Tx42 n) N vc42_4 (s42_2 x1 x2 x5) k = m42_4 n N x1 x2 x5 (fun x4 => k .ret (s42_5 x4)) := by
  have h2 := e42_5 n N (kseq PHI (Tx42 n) N vc42_27 k) x1 x2 x5
  have h3 := (funext fun y5 => (e42_27 n N k y5) : (fun (y5 : D) => (kseq PHI (Tx42 n) N vc42_27 k) .normal (s42_4 y5)) = _)
  refine Eq.trans (runC_seq _ _ _ k) (Eq.trans h2 (Eq.trans (congrArg (fun K => m42_5 n N x1 x2 x5 K) h3) (by kernel_rfl)))
def m42_2 (n N : Nat) (x1 x2 : D) (Kr : D → Option R) : Option R :=
  (m42_3 n N x1 x2 (fun y1 y2 y5 => (m42_4 n N y1 y2 y5 Kr)))
theorem e42_2 (n N : Nat) (k : Kn R) (x1 x2 : D) : runC PHI (Tx42 n) N vc42_2 (s42_1 x1 x2) k = m42_2 n N x1 x2 (fun x4 => k .ret (s42_5 x4)) := by
  have h2 := e42_3 n N (kseq PHI (Tx42 n) N vc42_4 k) x1 x2
  have h3 := (funext fun y1 => funext fun y2 => funext fun y5 => (e42_4 n N k y1 y2 y5) : (fun (y1 y2 y5 : D) => (kseq PHI (Tx42 n) N vc42_4 k) .normal (s42_2 y1 y2 y5)) = _)
  refine Eq.trans (runC_seq _ _ _ k) (Eq.trans h2 (Eq.trans (congrArg (fun K => m42_3 n N x1 x2 K) h3) (by kernel_rfl)))
def m42_0 (n N : Nat) (x0 x1 : D) (Kr : D → Option R) : Option R :=
  (m42_1 n N x0 x1 (fun y1 y2 => (m42_2 n N y1 y2 Kr)))
theorem e42_0 (n N : Nat) (k : Kn R) (x0 x1 : D) : runC PHI (Tx42 n) N vc42_0 (s42_0 x0 x1) k = m42_0 n N x0 x1 (fun x4 => k .ret (s42_5 x4)) := by
  have h2 := e42_1 n N (kseq PHI (Tx42 n) N vc42_2 k) x0 x1
  have h3 := (funext fun y1 => funext fun y2 => (e42_2 n N k y1 y2) : (fun (y1 y2 : D) => (kseq PHI (Tx42 n) N vc42_2 k) .normal (s42_1 y1 y2)) = _)
  refine Eq.trans (runC_seq _ _ _ k) (Eq.trans h2 (Eq.trans (congrArg (fun K => m42_1 n N x0 x1 K) h3) (by kernel_rfl)))
theorem r42 (n N : Nat) (x0 x1 : D) : runC PHI (Tx42 n) N vf42.body (enterV vf42 [V.f x0, V.f x1] []) (finish vf42) = m42_0 n N x0 x1 (fun x4 => finish vf42 .ret (s42_5 x4)) := 
  Eq.trans (runC_pre (s1 := (s42_0 x0 x1)) (by kernel_rfl) _ _) (Eq.trans (e42_0 n N (finish vf42) x0 x1) (by kernel_rfl))
end
theorem l42 {R : Type} (n N : Nat) (m xs : D) (K0 : D → Option R) (hl : xs.toL.length ≤ 9223372036854775807) (hd : ∀ y ∈ xs.toL, depOk n y = true) : ∀ (k i j : Nat) (s : Int), i + k = xs.toL.length → k < j →
    l42_8 n N j m (.i s) xs (.i (xs.toL.length : Int)) (.i (i : Nat)) K0 = K0 (.i (szL (szN n) m.toI (xs.toL.drop i) s))
  | _, _, 0, _, _, h => by omega
  | 0, i, j + 1, s, h, _ => by
    have : i = xs.toL.length := by omega
    subst this
    simp only [l42_8, m42_9, toI_i, ltb_self, cond_false, List.drop_length, szL]
  | k + 1, i, j + 1, s, h, h' => by
    have hi : i < xs.toL.length := by omega
    have ih := fun s' => l42 n N m xs K0 hl hd k (i + 1) j s' (by omega) (by omega)
    have e : xs.toL.getD i .nil = xs.toL[i] := by rw [List.getD_eq_getElem?_getD, List.getElem?_eq_getElem hi]; rfl
    simp only [l42_8, m42_9, toI_i, ltb_n hi, inb_t hi, cond_true, at_nat, succ_n hi hl, e, prx42, hd _ (List.getElem_mem hi), ih, List.drop_eq_getElem_cons hi, szL, spx42]
    cases ltb m.toI s <;> rfl
theorem okx42 : ∀ n, FnOk Try.prog PHI (Tx42 n) := by
  refine FnOk.rec Try.prog PHI hPHI ok26 (vf := vf42) (by kernel_rfl) (fun n => fn2 (prx42 n) fun a m => .f (.i (spx42 n a m))) (fun args => ?_) (fun n args r H' ha hr => ?_)
  · unfold fn2; split <;> rfl
  · unfold fn2 at hr
    split at hr
    · rename_i a m
      obtain ⟨h1, h2⟩ := toO_some hr
      injection h2 with h2 h3; subst h2; subst h3
      have hl := ((ha.is 0 rfl rfl).fld (k := 6) (ft := 33) (off := 9) (by kernel_rfl)).len' (e := 35) (by kernel_rfl)
      refine ⟨(a.at 6).toL.length + 1, (r42 n _ a m).trans ?_⟩
      simp only [m42_0, m42_1, m42_2, m42_3, m42_4, m42_5, m42_6, m42_7, m42_8, m42_27, isPtr_p, deref_p, cond_true]
      rw [show (0 : Int) = ((0 : Nat) : Int) from rfl, l42 n _ m (a.at 6) _ hl (fun y hy => List.all_eq_true.1 (show ((a.at 6).toL.all (depOk n)) = true from h1) y hy) (a.at 6).toL.length 0 _ _ (by omega) (by omega)]
      rfl
    · cases hr
def sp42 (a m : D) : Int := szN a.wt a m.toI
def pr42 (_ _ : D) : Bool := true
def Tb42 : CallF := extend Tb26 42 (fn2 pr42 fun a m => .f (.i (sp42 a m)))
theorem ok42 : FnOk Try.prog PHI Tb42 := FnOk.lim okx42 fun args r hr => by
  unfold fn2 at hr
  split at hr
  · rename_i a m
    refine ⟨a.wt, ?_⟩
    show toO (prx42 a.wt a m, _, _) = _
    rw [show prx42 a.wt a m = true from depOk_size _ _ (Nat.le_refl _)]
    exact hr
  · cases hr
def foundF (l : D) : Int := fst (fun i => ltb 300 (sp42 (l.toL.getD i .nil) (.i 300))) l.toL.length 0
def sp21 (l : D) : Bool := bif ltb 12 (l.toL.length : Int) then false else !leb 0 (foundF l)
section
variable {R : Type}
def m21_1 (N : Nat) (x0 : D) (K : D → Option R) : Option R :=
  K x0
def s21_0 (x0 : D) : St := sts 18 [(0, V.f x0)] []
theorem e21_1 (N : Nat) (k : Kn R) (x0 : D) : runC PHI Tb42 N vc21_1 (s21_0 x0) k = m21_1 N x0 (fun x0 => k .normal (s21_0 x0)) := by
  refine Eq.trans (runC_post _ _ _ k) (Eq.trans (ops_run _ _ _ _) (by kernel_rfl))
def m21_3 (N : Nat) (x0 : D) (K : D → Option R) (Kr : D → Option R) : Option R :=
  (bif (ltb 12 (x0.toL.length : Int)) then Kr (D.b false) else K x0)
def s21_1 (x2 : D) : St := sts 18 [(2, V.f x2)] []
theorem e21_3 (N : Nat) (k : Kn R) (x0 : D) : runC PHI Tb42 N vc21_3 (s21_0 x0) k = m21_3 N x0 (fun x0 => k .normal (s21_0 x0)) (fun x2 => k .ret (s21_1 x2)) := by kernel_rfl
def m21_12 (N : Nat) (x0 : D) (K : D → D → D → Option R) : Option R :=
  K x0 (D.i (x0.toL.length : Int)) (D.i 0)
def s21_2 (x8 x9 x10 : D) : St := sts 18 [(8, V.f x8), (9, V.f x9), (10, V.f x10)] []
theorem e21_12 (N : Nat) (k : Kn R) (x0 : D) : runC PHI Tb42 N vc21_12 (s21_0 x0) k = m21_12 N x0 (fun x8 x9 x10 => k .normal (s21_2 x8 x9 x10)) := by
  refine Eq.trans (runC_post _ _ _ k) (Eq.trans (ops_run _ _ _ _) (by kernel_rfl))
def m21_15 (N : Nat) (x8 x9 x10 : D) (K : D → D → D → Option R) (K0 : Option R) (Kr : D → Option R) : Option R :=
  (bif (ltb x10.toI x9.toI) then (bif (inb x10.toI x8.toL.length) then (bif (pr42 (x8.at (x10.toI : Int).toNat) (D.i 300)) then (bif (ltb 300 (sp42 (x8.at (x10.toI : Int).toNat) (D.i 300))) then Kr (D.b false) else K x8 x9 (D.i (IntKind.wrap IntKind.i64 (x10.toI + 1)))) else none) else none) else K0)
def s21_3 : St := sts 18 [] []
theorem e21_15 (N : Nat) (k : Kn R) (x8 x9 x10 : D) : runC PHI Tb42 N vc21_15 (s21_2 x8 x9 x10) k = m21_15 N x8 x9 x10 (fun x8 x9 x10 => k .normal (s21_2 x8 x9 x10)) (k (.exit 0) s21_3) (fun x2 => k .ret (s21_1 x2)) := by kernel_rfl
def l21_14 (N : Nat) (j : Nat) (x8 x9 x10 : D) (K0 : Option R) (Kr : D → Option R) : Option R :=
  match j with
  | 0 => none
  | j + 1 => (m21_15 N x8 x9 x10 (fun y8 y9 y10 => l21_14 N j y8 y9 y10 K0 Kr) K0 Kr)
def m21_14 (N : Nat) (x8 x9 x10 : D) (K0 : Option R) (Kr : D → Option R) : Option R :=
  l21_14 N N x8 x9 x10 K0 Kr
theorem el21_14 (N : Nat) (k : Kn R) : ∀ (j : Nat) (x8 x9 x10 : D), loopGo (runC PHI Tb42 N vc21_15) j (s21_2 x8 x9 x10) k = l21_14 N j x8 x9 x10 (k (.exit 0) s21_3) (fun x2 => k .ret (s21_1 x2))
  | 0, _, _, _ => by kernel_rfl
  | j + 1, x8, x9, x10 => by
    have h2 := e21_15 N (kloop PHI Tb42 N vc21_15 j k) x8 x9 x10
    have h3 : (fun (y8 y9 y10 : D) => (kloop PHI Tb42 N vc21_15 j k) .normal (s21_2 y8 y9 y10)) = (fun (y8 y9 y10 : D) => l21_14 N j y8 y9 y10 (k (.exit 0) s21_3) (fun x2 => k .ret (s21_1 x2))) := funext fun y8 => funext fun y9 => funext fun y10 => (el21_14 N k j y8 y9 y10)
    refine Eq.trans (loop_succ _ j _ k) (Eq.trans h2 (Eq.trans (congrArg (fun K => m21_15 N x8 x9 x10 K ((kloop PHI Tb42 N vc21_15 j k) (.exit 0) s21_3) (fun x2 => (kloop PHI Tb42 N vc21_15 j k) .ret (s21_1 x2))) h3) (by kernel_rfl)))
theorem e21_14 (N : Nat) (k : Kn R) (x8 x9 x10 : D) : runC PHI Tb42 N vc21_14 (s21_2 x8 x9 x10) k = m21_14 N x8 x9 x10 (k (.exit 0) s21_3) (fun x2 => k .ret (s21_1 x2)) := by
  refine Eq.trans (runC_loop _ _ k) (Eq.trans (el21_14 N k N x8 x9 x10) (by kernel_rfl))
def m21_13 (N : Nat) (x8 x9 x10 : D) (K : Option R) (Kr : D → Option R) : Option R :=
  (m21_14 N x8 x9 x10 (K) Kr)
theorem e21_13 (N : Nat) (k : Kn R) (x8 x9 x10 : D) : runC PHI Tb42 N vc21_13 (s21_2 x8 x9 x10) k = m21_13 N x8 x9 x10 (k .normal s21_3) (fun x2 => k .ret (s21_1 x2)) := by
  refine Eq.trans (runC_block _ _ _ k) (Eq.trans (e21_14 N (kblk 0 k) x8 x9 x10) (by kernel_rfl))
def m21_11 (N : Nat) (x0 : D) (K : Option R) (Kr : D → Option R) : Option R :=
  (m21_12 N x0 (fun y8 y9 y10 => (m21_13 N y8 y9 y10 (K) Kr)))
theorem e21_11 (N : Nat) (k : Kn R) (x0 : D) : runC PHI Tb42 N vc21_11 (s21_0 x0) k = m21_11 N x0 (k .normal s21_3) (fun x2 => k .ret (s21_1 x2)) := by
  have h2 := e21_12 N (kseq PHI Tb42 N vc21_13 k) x0
  have h3 := (funext fun y8 => funext fun y9 => funext fun y10 => (e21_13 N k y8 y9 y10) : (fun (y8 y9 y10 : D) => (kseq PHI Tb42 N vc21_13 k) .normal (s21_2 y8 y9 y10)) = _)
  refine Eq.trans (runC_seq _ _ _ k) (Eq.trans h2 (Eq.trans (congrArg (fun K => m21_12 N x0 K) h3) (by kernel_rfl)))
def m21_33 (N : Nat) (Kr : D → Option R) : Option R :=
  Kr (D.b true)
theorem e21_33 (N : Nat) (k : Kn R) : runC PHI Tb42 N vc21_33 s21_3 k = m21_33 N (fun x2 => k .ret (s21_1 x2)) := by kernel_rfl
def m21_10 (N : Nat) (x0 : D) (Kr : D → Option R) : Option R :=
  (m21_11 N x0 ((m21_33 N Kr)) Kr)
theorem e21_10 (N : Nat) (k : Kn R) (x0 : D) : runC PHI Tb42 N vc21_10 (s21_0 x0) k = m21_10 N x0 (fun x2 => k .ret (s21_1 x2)) := by
  have h2 := e21_11 N (kseq PHI Tb42 N vc21_33 k) x0
  have h3 := ((e21_33 N k ) : ((kseq PHI Tb42 N vc21_33 k) .normal s21_3) = _)
  refine Eq.trans (runC_seq _ _ _ k) (Eq.trans h2 (Eq.trans (congrArg (fun K => m21_11 N x0 K (fun x2 => (kseq PHI Tb42 N vc21_33 k) .ret (s21_1 x2))) h3) (by kernel_rfl)))
def m21_2 (N : Nat) (x0 : D) (Kr : D → Option R) : Option R :=
  (m21_3 N x0 (fun y0 => (m21_10 N y0 Kr)) Kr)
theorem e21_2 (N : Nat) (k : Kn R) (x0 : D) : runC PHI Tb42 N vc21_2 (s21_0 x0) k = m21_2 N x0 (fun x2 => k .ret (s21_1 x2)) := by
  have h2 := e21_3 N (kseq PHI Tb42 N vc21_10 k) x0
  have h3 := (funext fun y0 => (e21_10 N k y0) : (fun (y0 : D) => (kseq PHI Tb42 N vc21_10 k) .normal (s21_0 y0)) = _)
  refine Eq.trans (runC_seq _ _ _ k) (Eq.trans h2 (Eq.trans (congrArg (fun K => m21_3 N x0 K (fun x2 => (kseq PHI Tb42 N vc21_10 k) .ret (s21_1 x2))) h3) (by kernel_rfl)))
def m21_0 (N : Nat) (x0 : D) (Kr : D → Option R) : Option R :=
  (m21_1 N x0 (fun y0 => (m21_2 N y0 Kr)))
theorem e21_0 (N : Nat) (k : Kn R) (x0 : D) : runC PHI Tb42 N vc21_0 (s21_0 x0) k = m21_0 N x0 (fun x2 => k .ret (s21_1 x2)) := by
  have h2 := e21_1 N (kseq PHI Tb42 N vc21_2 k) x0
  have h3 := (funext fun y0 => (e21_2 N k y0) : (fun (y0 : D) => (kseq PHI Tb42 N vc21_2 k) .normal (s21_0 y0)) = _)
  refine Eq.trans (runC_seq _ _ _ k) (Eq.trans h2 (Eq.trans (congrArg (fun K => m21_1 N x0 K) h3) (by kernel_rfl)))
theorem r21 (N : Nat) (x0 : D) : runC PHI Tb42 N vf21.body (enterV vf21 [V.f x0] []) (finish vf21) = m21_0 N x0 (fun x2 => finish vf21 .ret (s21_1 x2)) := 
  Eq.trans (runC_pre (s1 := (s21_0 x0)) (by kernel_rfl) _ _) (Eq.trans (e21_0 N (finish vf21) x0) (by kernel_rfl))
end
theorem ltb_nf {a : Int} {n : Nat} (h : ltb a (n : Int) = false) : (n : Int) ≤ a := by
  by_cases hh : a < (n : Int)
  · rw [ltb_t hh] at h; cases h
  · omega
def Tb21 : CallF := extend Tb42 21 (fn1 (fun _ => true) fun l => .f (.b (sp21 l)))
theorem ok21 : FnOk Try.prog PHI Tb21 := FnOk.add1 hPHI ok42 (by kernel_rfl) fun l ha _ => ⟨l.toL.length + 1, (r21 _ l).trans (by
  have hl := (ha.is 0 rfl rfl).len' (e := 35) (by kernel_rfl)
  simp only [m21_0, m21_1, m21_2, m21_3, m21_10, m21_11, m21_12, m21_13, m21_14, m21_33, sp21]
  cases ltb 12 (l.toL.length : Int)
  · simp only [cond_false]
    have h := loop_find (fun j i => l21_14 (l.toL.length + 1) j l (.i (l.toL.length : Int)) (.i (i : Nat)) (finish vf21 .ret (s21_1 (.b true))) (fun x4 => finish vf21 .ret (s21_1 x4))) (fun i => ltb 300 (sp42 (l.toL.getD i .nil) (.i 300))) l.toL.length (finish vf21 .ret (s21_1 (.b true))) (fun i => finish vf21 .ret (s21_1 (.b false)))
      (fun j i hi => by simp only [l21_14, m21_15, toI_i, cond_true, ltb_n hi, inb_t hi, at_nat, succ_n hi hl, pr42])
      (fun j => by simp only [l21_14, m21_15, toI_i, ltb_self, cond_false])
      l.toL.length 0 (l.toL.length + 1) (by omega) (by omega)
    refine h.trans ?_
    rw [show fst (fun i => ltb 300 (sp42 (l.toL.getD i .nil) (.i 300))) l.toL.length 0 = foundF l from rfl]
    cases leb 0 (foundF l) <;> rfl
  · rfl)⟩

end Go.Vam.C14
namespace Go.Vam.C14
open Go.Proofs
/-! ### Are rows few and small? -/
def long (row : D) (k : Nat) : Bool := ltb 100 (((row.toL.getD k .nil).at 3).toS.length : Int)
def foundL (row : D) : Int := fst (long row) row.toL.length 0
def badRow (row : D) : Bool := bif ltb 30 (row.toL.length : Int) then true else leb 0 (foundL row)
def foundR (x : D) : Int := fst (fun i => badRow (x.toL.getD i .nil)) x.toL.length 0
def sp10 (x : D) : Bool := bif ltb 60 (x.toL.length : Int) then false else !leb 0 (foundR x)
section
variable {R : Type}
def m10_1 (N : Nat) (x0 : D) (K : D → Option R) : Option R :=
  K x0
def s10_0 (x0 : D) : St := sts 31 [(0, V.f x0)] []
theorem e10_1 (N : Nat) (k : Kn R) (x0 : D) : runC PHI Tb21 N vc10_1 (s10_0 x0) k = m10_1 N x0 (fun x0 => k .normal (s10_0 x0)) := by
  refine Eq.trans (runC_post _ _ _ k) (Eq.trans (ops_run _ _ _ _) (by kernel_rfl))
def m10_3 (N : Nat) (x0 : D) (K : D → Option R) (Kr : D → Option R) : Option R :=
  (bif (ltb 60 (x0.toL.length : Int)) then Kr (D.b false) else K x0)
def s10_1 (x2 : D) : St := sts 31 [(2, V.f x2)] []
theorem e10_3 (N : Nat) (k : Kn R) (x0 : D) : runC PHI Tb21 N vc10_3 (s10_0 x0) k = m10_3 N x0 (fun x0 => k .normal (s10_0 x0)) (fun x2 => k .ret (s10_1 x2)) := by kernel_rfl
def m10_12 (N : Nat) (x0 : D) (K : D → D → D → Option R) : Option R :=
  K x0 (D.i (x0.toL.length : Int)) (D.i 0)
def s10_2 (x10 x11 x12 : D) : St := sts 31 [(10, V.f x10), (11, V.f x11), (12, V.f x12)] []
theorem e10_12 (N : Nat) (k : Kn R) (x0 : D) : runC PHI Tb21 N vc10_12 (s10_0 x0) k = m10_12 N x0 (fun x10 x11 x12 => k .normal (s10_2 x10 x11 x12)) := by
  refine Eq.trans (runC_post _ _ _ k) (Eq.trans (ops_run _ _ _ _) (by kernel_rfl))
def m10_16 (N : Nat) (x10 x11 x12 : D) (K : D → D → D → D → Option R) : Option R :=
  K x10 x11 x12 (D.b (ltb x12.toI x11.toI))
def s10_3 (x10 x11 x12 x13 : D) : St := sts 31 [(10, V.f x10), (11, V.f x11), (12, V.f x12), (13, V.f x13)] []
theorem e10_16 (N : Nat) (k : Kn R) (x10 x11 x12 : D) : runC PHI Tb21 N vc10_16 (s10_2 x10 x11 x12) k = m10_16 N x10 x11 x12 (fun x10 x11 x12 x13 => k .normal (s10_3 x10 x11 x12 x13)) := by
  refine Eq.trans (runC_post _ _ _ k) (Eq.trans (ops_run _ _ _ _) (by kernel_rfl))
def m10_18 (N : Nat) (x10 x11 x12 x13 : D) (K : D → D → D → Option R) (K0 : Option R) : Option R :=
  (bif x13.toB then K x10 x11 x12 else K0)
def s10_4 : St := sts 31 [] []
theorem e10_18 (N : Nat) (k : Kn R) (x10 x11 x12 x13 : D) : runC PHI Tb21 N vc10_18 (s10_3 x10 x11 x12 x13) k = m10_18 N x10 x11 x12 x13 (fun x10 x11 x12 => k .normal (s10_2 x10 x11 x12)) (k (.exit 0) s10_4) := by kernel_rfl
def m10_24 (N : Nat) (x10 x11 x12 : D) (K : D → D → D → D → Option R) : Option R :=
  (bif (inb x12.toI x10.toL.length) then K (x10.at (x12.toI : Int).toNat) x10 x11 x12 else none)
def s10_5 (x4 x10 x11 x12 : D) : St := sts 31 [(4, V.f x4), (10, V.f x10), (11, V.f x11), (12, V.f x12)] []
theorem e10_24 (N : Nat) (k : Kn R) (x10 x11 x12 : D) : runC PHI Tb21 N vc10_24 (s10_2 x10 x11 x12) k = m10_24 N x10 x11 x12 (fun x4 x10 x11 x12 => k .normal (s10_5 x4 x10 x11 x12)) := by
  refine Eq.trans (runC_post _ _ _ k) (Eq.trans (ops_run _ _ _ _) (by kernel_rfl))
def m10_26 (N : Nat) (x4 x10 x11 x12 : D) (K : D → D → D → D → Option R) (Kr : D → Option R) : Option R :=
  (bif (ltb 30 (x4.toL.length : Int)) then Kr (D.b false) else K x4 x10 x11 x12)
theorem e10_26 (N : Nat) (k : Kn R) (x4 x10 x11 x12 : D) : runC PHI Tb21 N vc10_26 (s10_5 x4 x10 x11 x12) k = m10_26 N x4 x10 x11 x12 (fun x4 x10 x11 x12 => k .normal (s10_5 x4 x10 x11 x12)) (fun x2 => k .ret (s10_1 x2)) := by kernel_rfl
def m10_34 (N : Nat) (x4 x10 x11 x12 : D) (K : D → D → D → D → D → D → Option R) : Option R :=
  K x10 x11 x12 x4 (D.i (x4.toL.length : Int)) (D.i 0)
def s10_6 (x10 x11 x12 x19 x20 x21 : D) : St := sts 31 [(10, V.f x10), (11, V.f x11), (12, V.f x12), (19, V.f x19), (20, V.f x20), (21, V.f x21)] []
theorem e10_34 (N : Nat) (k : Kn R) (x4 x10 x11 x12 : D) : runC PHI Tb21 N vc10_34 (s10_5 x4 x10 x11 x12) k = m10_34 N x4 x10 x11 x12 (fun x10 x11 x12 x19 x20 x21 => k .normal (s10_6 x10 x11 x12 x19 x20 x21)) := by
  refine Eq.trans (runC_post _ _ _ k) (Eq.trans (ops_run _ _ _ _) (by kernel_rfl))
def m10_37 (N : Nat) (x10 x11 x12 x19 x20 x21 : D) (K : D → D → D → D → D → D → Option R) (K2 : D → D → D → Option R) (Kr : D → Option R) : Option R :=
  (bif (ltb x21.toI x20.toI) then (bif (inb x21.toI x19.toL.length) then (bif (ltb 100 (((x19.at (x21.toI : Int).toNat).at 3).toS.length : Int)) then Kr (D.b false) else K x10 x11 x12 x19 x20 (D.i (IntKind.wrap IntKind.i64 (x21.toI + 1)))) else none) else K2 x10 x11 x12)
theorem e10_37 (N : Nat) (k : Kn R) (x10 x11 x12 x19 x20 x21 : D) : runC PHI Tb21 N vc10_37 (s10_6 x10 x11 x12 x19 x20 x21) k = m10_37 N x10 x11 x12 x19 x20 x21 (fun x10 x11 x12 x19 x20 x21 => k .normal (s10_6 x10 x11 x12 x19 x20 x21)) (fun x10 x11 x12 => k (.exit 2) (s10_2 x10 x11 x12)) (fun x2 => k .ret (s10_1 x2)) := by kernel_rfl
def l10_36 (N : Nat) (j : Nat) (x10 x11 x12 x19 x20 x21 : D) (K2 : D → D → D → Option R) (Kr : D → Option R) : Option R :=
  match j with
  | 0 => none
  | j + 1 => (m10_37 N x10 x11 x12 x19 x20 x21 (fun y10 y11 y12 y19 y20 y21 => l10_36 N j y10 y11 y12 y19 y20 y21 K2 Kr) K2 Kr)
def m10_36 (N : Nat) (x10 x11 x12 x19 x20 x21 : D) (K2 : D → D → D → Option R) (Kr : D → Option R) : Option R :=
  l10_36 N N x10 x11 x12 x19 x20 x21 K2 Kr
theorem el10_36 (N : Nat) (k : Kn R) : ∀ (j : Nat) (x10 x11 x12 x19 x20 x21 : D), loopGo (runC PHI Tb21 N vc10_37) j (s10_6 x10 x11 x12 x19 x20 x21) k = l10_36 N j x10 x11 x12 x19 x20 x21 (fun x10 x11 x12 => k (.exit 2) (s10_2 x10 x11 x12)) (fun x2 => k .ret (s10_1 x2))
  | 0, _, _, _, _, _, _ => by kernel_rfl
  | j + 1, x10, x11, x12, x19, x20, x21 => by
    have h2 := e10_37 N (kloop PHI Tb21 N vc10_37 j k) x10 x11 x12 x19 x20 x21
    have h3 : (fun (y10 y11 y12 y19 y20 y21 : D) => (kloop PHI Tb21 N vc10_37 j k) .normal (s10_6 y10 y11 y12 y19 y20 y21)) = (fun (y10 y11 y12 y19 y20 y21 : D) => l10_36 N j y10 y11 y12 y19 y20 y21 (fun x10 x11 x12 => k (.exit 2) (s10_2 x10 x11 x12)) (fun x2 => k .ret (s10_1 x2))) := funext fun y10 => funext fun y11 => funext fun y12 => funext fun y19 => funext fun y20 => funext fun y21 => (el10_36 N k j y10 y11 y12 y19 y20 y21)
    refine Eq.trans (loop_succ _ j _ k) (Eq.trans h2 (Eq.trans (congrArg (fun K => m10_37 N x10 x11 x12 x19 x20 x21 K (fun x10 x11 x12 => (kloop PHI Tb21 N vc10_37 j k) (.exit 2) (s10_2 x10 x11 x12)) (fun x2 => (kloop PHI Tb21 N vc10_37 j k) .ret (s10_1 x2))) h3) (by kernel_rfl)))
theorem e10_36 (N : Nat) (k : Kn R) (x10 x11 x12 x19 x20 x21 : D) : runC PHI Tb21 N vc10_36 (s10_6 x10 x11 x12 x19 x20 x21) k = m10_36 N x10 x11 x12 x19 x20 x21 (fun x10 x11 x12 => k (.exit 2) (s10_2 x10 x11 x12)) (fun x2 => k .ret (s10_1 x2)) := by
  refine Eq.trans (runC_loop _ _ k) (Eq.trans (el10_36 N k N x10 x11 x12 x19 x20 x21) (by kernel_rfl))
def m10_35 (N : Nat) (x10 x11 x12 x19 x20 x21 : D) (K : D → D → D → Option R) (Kr : D → Option R) : Option R :=
  (m10_36 N x10 x11 x12 x19 x20 x21 (fun y10 y11 y12 => K y10 y11 y12) Kr)
theorem e10_35 (N : Nat) (k : Kn R) (x10 x11 x12 x19 x20 x21 : D) : runC PHI Tb21 N vc10_35 (s10_6 x10 x11 x12 x19 x20 x21) k = m10_35 N x10 x11 x12 x19 x20 x21 (fun x10 x11 x12 => k .normal (s10_2 x10 x11 x12)) (fun x2 => k .ret (s10_1 x2)) := by
  refine Eq.trans (runC_block _ _ _ k) (Eq.trans (e10_36 N (kblk 2 k) x10 x11 x12 x19 x20 x21) (by kernel_rfl))
def m10_33 (N : Nat) (x4 x10 x11 x12 : D) (K : D → D → D → Option R) (Kr : D → Option R) : Option R :=
  (m10_34 N x4 x10 x11 x12 (fun y10 y11 y12 y19 y20 y21 => (m10_35 N y10 y11 y12 y19 y20 y21 (fun y10 y11 y12 => K y10 y11 y12) Kr)))
theorem e10_33 (N : Nat) (k : Kn R) (x4 x10 x11 x12 : D) : runC PHI Tb21 N vc10_33 (s10_5 x4 x10 x11 x12) k = m10_33 N x4 x10 x11 x12 (fun x10 x11 x12 => k .normal (s10_2 x10 x11 x12)) (fun x2 => k .ret (s10_1 x2)) := by
  have h2 := e10_34 N (kseq PHI Tb21 N vc10_35 k) x4 x10 x11 x12
  have h3 := (funext fun y10 => funext fun y11 => funext fun y12 => funext fun y19 => funext fun y20 => funext fun y21 => (e10_35 N k y10 y11 y12 y19 y20 y21) : (fun (y10 y11 y12 y19 y20 y21 : D) => (kseq PHI Tb21 N vc10_35 k) .normal (s10_6 y10 y11 y12 y19 y20 y21)) = _)
  refine Eq.trans (runC_seq _ _ _ k) (Eq.trans h2 (Eq.trans (congrArg (fun K => m10_34 N x4 x10 x11 x12 K) h3) (by kernel_rfl)))
def m10_25 (N : Nat) (x4 x10 x11 x12 : D) (K : D → D → D → Option R) (Kr : D → Option R) : Option R :=
  (m10_26 N x4 x10 x11 x12 (fun y4 y10 y11 y12 => (m10_33 N y4 y10 y11 y12 (fun y10 y11 y12 => K y10 y11 y12) Kr)) Kr)
theorem e10_25 (N : Nat) (k : Kn R) (x4 x10 x11 x12 : D) : runC PHI Tb21 N vc10_25 (s10_5 x4 x10 x11 x12) k = m10_25 N x4 x10 x11 x12 (fun x10 x11 x12 => k .normal (s10_2 x10 x11 x12)) (fun x2 => k .ret (s10_1 x2)) := by
  have h2 := e10_26 N (kseq PHI Tb21 N vc10_33 k) x4 x10 x11 x12
  have h3 := (funext fun y4 => funext fun y10 => funext fun y11 => funext fun y12 => (e10_33 N k y4 y10 y11 y12) : (fun (y4 y10 y11 y12 : D) => (kseq PHI Tb21 N vc10_33 k) .normal (s10_5 y4 y10 y11 y12)) = _)
  refine Eq.trans (runC_seq _ _ _ k) (Eq.trans h2 (Eq.trans (congrArg (fun K => m10_26 N x4 x10 x11 x12 K (fun x2 => (kseq PHI Tb21 N vc10_33 k) .ret (s10_1 x2))) h3) (by kernel_rfl)))
def m10_23 (N : Nat) (x10 x11 x12 : D) (K : D → D → D → Option R) (Kr : D → Option R) : Option R :=
  (m10_24 N x10 x11 x12 (fun y4 y10 y11 y12 => (m10_25 N y4 y10 y11 y12 (fun y10 y11 y12 => K y10 y11 y12) Kr)))
theorem e10_23 (N : Nat) (k : Kn R) (x10 x11 x12 : D) : runC PHI Tb21 N vc10_23 (s10_2 x10 x11 x12) k = m10_23 N x10 x11 x12 (fun x10 x11 x12 => k .normal (s10_2 x10 x11 x12)) (fun x2 => k .ret (s10_1 x2)) := by
  have h2 := e10_24 N (kseq PHI Tb21 N vc10_25 k) x10 x11 x12
  have h3 := (funext fun y4 => funext fun y10 => funext fun y11 => funext fun y12 => (e10_25 N k y4 y10 y11 y12) : (fun (y4 y10 y11 y12 : D) => (kseq PHI Tb21 N vc10_25 k) .normal (s10_5 y4 y10 y11 y12)) = _)
  refine Eq.trans (runC_seq _ _ _ k) (Eq.trans h2 (Eq.trans (congrArg (fun K => m10_24 N x10 x11 x12 K) h3) (by kernel_rfl)))
def m10_22 (N : Nat) (x10 x11 x12 : D) (K : D → D → D → Option R) (Kr : D → Option R) : Option R :=
  (m10_23 N x10 x11 x12 (fun y10 y11 y12 => K y10 y11 y12) Kr)
theorem e10_22 (N : Nat) (k : Kn R) (x10 x11 x12 : D) : runC PHI Tb21 N vc10_22 (s10_2 x10 x11 x12) k = m10_22 N x10 x11 x12 (fun x10 x11 x12 => k .normal (s10_2 x10 x11 x12)) (fun x2 => k .ret (s10_1 x2)) := by
  refine Eq.trans (runC_block _ _ _ k) (Eq.trans (e10_23 N (kblk 1 k) x10 x11 x12) (by kernel_rfl))
def m10_55 (N : Nat) (x10 x11 x12 : D) (K : D → D → D → Option R) : Option R :=
  K x10 x11 (D.i (IntKind.wrap IntKind.i64 (x12.toI + 1)))
theorem e10_55 (N : Nat) (k : Kn R) (x10 x11 x12 : D) : runC PHI Tb21 N vc10_55 (s10_2 x10 x11 x12) k = m10_55 N x10 x11 x12 (fun x10 x11 x12 => k .normal (s10_2 x10 x11 x12)) := by
  refine Eq.trans (runC_post _ _ _ k) (Eq.trans (ops_run _ _ _ _) (by kernel_rfl))
def m10_21 (N : Nat) (x10 x11 x12 : D) (K : D → D → D → Option R) (Kr : D → Option R) : Option R :=
  (m10_22 N x10 x11 x12 (fun y10 y11 y12 => (m10_55 N y10 y11 y12 (fun y10 y11 y12 => K y10 y11 y12))) Kr)
theorem e10_21 (N : Nat) (k : Kn R) (x10 x11 x12 : D) : runC PHI Tb21 N vc10_21 (s10_2 x10 x11 x12) k = m10_21 N x10 x11 x12 (fun x10 x11 x12 => k .normal (s10_2 x10 x11 x12)) (fun x2 => k .ret (s10_1 x2)) := by
  have h2 := e10_22 N (kseq PHI Tb21 N vc10_55 k) x10 x11 x12
  have h3 := (funext fun y10 => funext fun y11 => funext fun y12 => (e10_55 N k y10 y11 y12) : (fun (y10 y11 y12 : D) => (kseq PHI Tb21 N vc10_55 k) .normal (s10_2 y10 y11 y12)) = _)
  refine Eq.trans (runC_seq _ _ _ k) (Eq.trans h2 (Eq.trans (congrArg (fun K => m10_22 N x10 x11 x12 K (fun x2 => (kseq PHI Tb21 N vc10_55 k) .ret (s10_1 x2))) h3) (by kernel_rfl)))
def m10_17 (N : Nat) (x10 x11 x12 x13 : D) (K : D → D → D → Option R) (K0 : Option R) (Kr : D → Option R) : Option R :=
  (m10_18 N x10 x11 x12 x13 (fun y10 y11 y12 => (m10_21 N y10 y11 y12 (fun y10 y11 y12 => K y10 y11 y12) Kr)) K0)
theorem e10_17 (N : Nat) (k : Kn R) (x10 x11 x12 x13 : D) : runC PHI Tb21 N vc10_17 (s10_3 x10 x11 x12 x13) k = m10_17 N x10 x11 x12 x13 (fun x10 x11 x12 => k .normal (s10_2 x10 x11 x12)) (k (.exit 0) s10_4) (fun x2 => k .ret (s10_1 x2)) := by
  have h2 := e10_18 N (kseq PHI Tb21 N vc10_21 k) x10 x11 x12 x13
  have h3 := (funext fun y10 => funext fun y11 => funext fun y12 => (e10_21 N k y10 y11 y12) : (fun (y10 y11 y12 : D) => (kseq PHI Tb21 N vc10_21 k) .normal (s10_2 y10 y11 y12)) = _)
  refine Eq.trans (runC_seq _ _ _ k) (Eq.trans h2 (Eq.trans (congrArg (fun K => m10_18 N x10 x11 x12 x13 K ((kseq PHI Tb21 N vc10_21 k) (.exit 0) s10_4)) h3) (by kernel_rfl)))
def m10_15 (N : Nat) (x10 x11 x12 : D) (K : D → D → D → Option R) (K0 : Option R) (Kr : D → Option R) : Option R :=
  (m10_16 N x10 x11 x12 (fun y10 y11 y12 y13 => (m10_17 N y10 y11 y12 y13 (fun y10 y11 y12 => K y10 y11 y12) K0 Kr)))
theorem e10_15 (N : Nat) (k : Kn R) (x10 x11 x12 : D) : runC PHI Tb21 N vc10_15 (s10_2 x10 x11 x12) k = m10_15 N x10 x11 x12 (fun x10 x11 x12 => k .normal (s10_2 x10 x11 x12)) (k (.exit 0) s10_4) (fun x2 => k .ret (s10_1 x2)) := by
  have h2 := e10_16 N (kseq PHI Tb21 N vc10_17 k) x10 x11 x12
  have h3 := (funext fun y10 => funext fun y11 => funext fun y12 => funext fun y13 => (e10_17 N k y10 y11 y12 y13) : (fun (y10 y11 y12 y13 : D) => (kseq PHI Tb21 N vc10_17 k) .normal (s10_3 y10 y11 y12 y13)) = _)
  refine Eq.trans (runC_seq _ _ _ k) (Eq.trans h2 (Eq.trans (congrArg (fun K => m10_16 N x10 x11 x12 K) h3) (by kernel_rfl)))
def l10_14 (N : Nat) (j : Nat) (x10 x11 x12 : D) (K0 : Option R) (Kr : D → Option R) : Option R :=
  match j with
  | 0 => none
  | j + 1 => (m10_15 N x10 x11 x12 (fun y10 y11 y12 => l10_14 N j y10 y11 y12 K0 Kr) K0 Kr)
def m10_14 (N : Nat) (x10 x11 x12 : D) (K0 : Option R) (Kr : D → Option R) : Option R :=
  l10_14 N N x10 x11 x12 K0 Kr
theorem el10_14 (N : Nat) (k : Kn R) : ∀ (j : Nat) (x10 x11 x12 : D), loopGo (runC PHI Tb21 N vc10_15) j (s10_2 x10 x11 x12) k = l10_14 N j x10 x11 x12 (k (.exit 0) s10_4) (fun x2 => k .ret (s10_1 x2))
  | 0, _, _, _ => by kernel_rfl
  | j + 1, x10, x11, x12 => by
    have h2 := e10_15 N (kloop PHI Tb21 N vc10_15 j k) x10 x11 x12
    have h3 : (fun (y10 y11 y12 : D) => (kloop PHI Tb21 N vc10_15 j k) .normal (s10_2 y10 y11 y12)) = (fun (y10 y11 y12 : D) => l10_14 N j y10 y11 y12 (k (.exit 0) s10_4) (fun x2 => k .ret (s10_1 x2))) := funext fun y10 => funext fun y11 => funext fun y12 => (el10_14 N k j y10 y11 y12)
    refine Eq.trans (loop_succ _ j _ k) (Eq.trans h2 (Eq.trans (congrArg (fun K => m10_15 N x10 x11 x12 K ((kloop PHI Tb21 N vc10_15 j k) (.exit 0) s10_4) (fun x2 => (kloop PHI Tb21 N vc10_15 j k) .ret (s10_1 x2))) h3) (by kernel_rfl)))
theorem e10_14 (N : Nat) (k : Kn R) (x10 x11 x12 : D) : runC PHI Tb21 N vc10_14 (s10_2 x10 x11 x12) k = m10_14 N x10 x11 x12 (k (.exit 0) s10_4) (fun x2 => k .ret (s10_1 x2)) := by
  refine Eq.trans (runC_loop _ _ k) (Eq.trans (el10_14 N k N x10 x11 x12) (by kernel_rfl))
def m10_13 (N : Nat) (x10 x11 x12 : D) (K : Option R) (Kr : D → Option R) : Option R :=
  (m10_14 N x10 x11 x12 (K) Kr)
theorem e10_13 (N : Nat) (k : Kn R) (x10 x11 x12 : D) : runC PHI Tb21 N vc10_13 (s10_2 x10 x11 x12) k = m10_13 N x10 x11 x12 (k .normal s10_4) (fun x2 => k .ret (s10_1 x2)) := by
  refine Eq.trans (runC_block _ _ _ k) (Eq.trans (e10_14 N (kblk 0 k) x10 x11 x12) (by kernel_rfl))
def m10_11 (N : Nat) (x0 : D) (K : Option R) (Kr : D → Option R) : Option R :=
  (m10_12 N x0 (fun y10 y11 y12 => (m10_13 N y10 y11 y12 (K) Kr)))
theorem e10_11 (N : Nat) (k : Kn R) (x0 : D) : runC PHI Tb21 N vc10_11 (s10_0 x0) k = m10_11 N x0 (k .normal s10_4) (fun x2 => k .ret (s10_1 x2)) := by
  have h2 := e10_12 N (kseq PHI Tb21 N vc10_13 k) x0
  have h3 := (funext fun y10 => funext fun y11 => funext fun y12 => (e10_13 N k y10 y11 y12) : (fun (y10 y11 y12 : D) => (kseq PHI Tb21 N vc10_13 k) .normal (s10_2 y10 y11 y12)) = _)
  refine Eq.trans (runC_seq _ _ _ k) (Eq.trans h2 (Eq.trans (congrArg (fun K => m10_12 N x0 K) h3) (by kernel_rfl)))
def m10_56 (N : Nat) (Kr : D → Option R) : Option R :=
  Kr (D.b true)
theorem e10_56 (N : Nat) (k : Kn R) : runC PHI Tb21 N vc10_56 s10_4 k = m10_56 N (fun x2 => k .ret (s10_1 x2)) := by kernel_rfl
def m10_10 (N : Nat) (x0 : D) (Kr : D → Option R) : Option R :=
  (m10_11 N x0 ((m10_56 N Kr)) Kr)
theorem e10_10 (N : Nat) (k : Kn R) (x0 : D) : runC PHI Tb21 N vc10_10 (s10_0 x0) k = m10_10 N x0 (fun x2 => k .ret (s10_1 x2)) := by
  have h2 := e10_11 N (kseq PHI Tb21 N vc10_56 k) x0
  have h3 := ((e10_56 N k ) : ((kseq PHI Tb21 N vc10_56 k) .normal s10_4) = _)
  refine Eq.trans (runC_seq _ _ _ k) (Eq.trans h2 (Eq.trans (congrArg (fun K => m10_11 N x0 K (fun x2 => (kseq PHI Tb21 N vc10_56 k) .ret (s10_1 x2))) h3) (by kernel_rfl)))
def m10_2 (N : Nat) (x0 : D) (Kr : D → Option R) : Option R :=
  (m10_3 N x0 (fun y0 => (m10_10 N y0 Kr)) Kr)
theorem e10_2 (N : Nat) (k : Kn R) (x0 : D) : runC PHI Tb21 N vc10_2 (s10_0 x0) k = m10_2 N x0 (fun x2 => k .ret (s10_1 x2)) := by
  have h2 := e10_3 N (kseq PHI Tb21 N vc10_10 k) x0
  have h3 := (funext fun y0 => (e10_10 N k y0) : (fun (y0 : D) => (kseq PHI Tb21 N vc10_10 k) .normal (s10_0 y0)) = _)
  refine Eq.trans (runC_seq _ _ _ k) (Eq.trans h2 (Eq.trans (congrArg (fun K => m10_3 N x0 K (fun x2 => (kseq PHI Tb21 N vc10_10 k) .ret (s10_1 x2))) h3) (by kernel_rfl)))
def m10_0 (N : Nat) (x0 : D) (Kr : D → Option R) : Option R :=
  (m10_1 N x0 (fun y0 => (m10_2 N y0 Kr)))
theorem e10_0 (N : Nat) (k : Kn R) (x0 : D) : runC PHI Tb21 N vc10_0 (s10_0 x0) k = m10_0 N x0 (fun x2 => k .ret (s10_1 x2)) := by
  have h2 := e10_1 N (kseq PHI Tb21 N vc10_2 k) x0
  have h3 := (funext fun y0 => (e10_2 N k y0) : (fun (y0 : D) => (kseq PHI Tb21 N vc10_2 k) .normal (s10_0 y0)) = _)
  refine Eq.trans (runC_seq _ _ _ k) (Eq.trans h2 (Eq.trans (congrArg (fun K => m10_1 N x0 K) h3) (by kernel_rfl)))
theorem r10 (N : Nat) (x0 : D) : runC PHI Tb21 N vf10.body (enterV vf10 [V.f x0] []) (finish vf10) = m10_0 N x0 (fun x2 => finish vf10 .ret (s10_1 x2)) := 
  Eq.trans (runC_pre (s1 := (s10_0 x0)) (by kernel_rfl) _ _) (Eq.trans (e10_0 N (finish vf10) x0) (by kernel_rfl))
end
section
variable {R : Type}
theorem in10 (N : Nat) (hN : 30 < N) (x10 x11 x12 row : D) (hr : ltb 30 (row.toL.length : Int) = false) (K2 : D → D → D → Option R) (Kr : D → Option R) :
    l10_36 N N x10 x11 x12 row (.i (row.toL.length : Int)) (.i 0) K2 Kr = bif leb 0 (foundL row) then Kr (.b false) else K2 x10 x11 x12 := by
  have hl := ltb_nf hr
  exact loop_find (fun j i => l10_36 N j x10 x11 x12 row (.i (row.toL.length : Int)) (.i (i : Nat)) K2 Kr) (long row) row.toL.length (K2 x10 x11 x12) (fun _ => Kr (.b false))
    (fun j i hi => by
      simp only [l10_36, m10_37, toI_i, cond_true, ltb_n hi, inb_t hi, at_nat, succ_n hi (show row.toL.length ≤ 9223372036854775807 by omega), long])
    (fun j => by simp only [l10_36, m10_37, toI_i, ltb_self, cond_false])
    row.toL.length 0 N (by omega) (by omega)
end
def Tb10 : CallF := extend Tb21 10 (fn1 (fun _ => true) fun x => .f (.b (sp10 x)))
theorem ok10 : FnOk Try.prog PHI Tb10 := FnOk.add1 hPHI ok21 (by kernel_rfl) fun x ha _ => ⟨100, (r10 _ x).trans (by
  simp only [m10_0, m10_1, m10_2, m10_3, m10_10, m10_11, m10_12, m10_13, m10_14, m10_56, sp10]
  cases h60 : ltb 60 (x.toL.length : Int)
  · have hl := ltb_nf h60
    simp only [cond_false]
    have h := loop_find (fun j i => l10_14 100 j x (.i (x.toL.length : Int)) (.i (i : Nat)) (finish vf10 .ret (s10_1 (.b true))) (fun x2 => finish vf10 .ret (s10_1 x2))) (fun i => badRow (x.toL.getD i .nil)) x.toL.length (finish vf10 .ret (s10_1 (.b true))) (fun i => finish vf10 .ret (s10_1 (.b false)))
      (fun j i hi => by
        simp only [l10_14, m10_15, m10_16, m10_17, m10_18, m10_21, m10_22, m10_23, m10_24, m10_25, m10_26, m10_33, m10_34, m10_35, m10_36, m10_55, toI_i, toB_b, cond_true, ltb_n hi, inb_t hi, at_nat, succ_n hi (show x.toL.length ≤ 9223372036854775807 by omega), badRow]
        cases h30 : ltb 30 ((x.toL.getD i .nil).toL.length : Int)
        · simp only [cond_false]
          rw [in10 100 (by omega) _ _ _ _ h30, toI_i, succ_n hi (show x.toL.length ≤ 9223372036854775807 by omega)]
        · rfl)
      (fun j => by simp only [l10_14, m10_15, m10_16, m10_17, m10_18, toI_i, toB_b, ltb_self, cond_false])
      x.toL.length 0 100 (by omega) (by omega)
    refine h.trans ?_
    rw [show fst (fun i => badRow (x.toL.getD i .nil)) x.toL.length 0 = foundR x from rfl]
    cases leb 0 (foundR x) <;> rfl
  · rfl)⟩
section
variable {R : Type}
def m8_1 (N : Nat) (x0 x1 : D) (K : D → D → Option R) : Option R :=
  K x0 x1
def s8_0 (x0 x1 : D) : St := sts 43 [(0, V.f x0), (1, V.f x1)] []
theorem e8_1 (N : Nat) (k : Kn R) (x0 x1 : D) : runC PHI Tb10 N vc8_1 (s8_0 x0 x1) k = m8_1 N x0 x1 (fun x0 x1 => k .normal (s8_0 x0 x1)) := by
  refine Eq.trans (runC_post _ _ _ k) (Eq.trans (ops_run _ _ _ _) (by kernel_rfl))
def m8_3 (N : Nat) (x0 x1 : D) (K : D → D → Option R) (Kr : D → Option R) : Option R :=
  (bif (!sp9) then (bif true then Kr (D.b sp9) else K x0 x1) else (bif (!(sp21 x0)) then (bif true then Kr (D.b sp9) else K x0 x1) else (bif (!(sp10 (D.sl ([x1] : List D)))) then Kr (D.b sp9) else K x0 x1)))
def s8_1 (x4 : D) : St := sts 43 [(4, V.f x4)] []
theorem e8_3 (N : Nat) (k : Kn R) (x0 x1 : D) : runC PHI Tb10 N vc8_3 (s8_0 x0 x1) k = m8_3 N x0 x1 (fun x0 x1 => k .normal (s8_0 x0 x1)) (fun x4 => k .ret (s8_1 x4)) := by kernel_rfl
def m8_12 (N : Nat) (x0 x1 : D) (K : D → D → D → D → D → Option R) : Option R :=
  K x0 x1 x0 (D.i (x0.toL.length : Int)) (D.i 0)
def s8_2 (x0 x1 x21 x22 x23 : D) : St := sts 43 [(0, V.f x0), (1, V.f x1), (21, V.f x21), (22, V.f x22), (23, V.f x23)] []
theorem e8_12 (N : Nat) (k : Kn R) (x0 x1 : D) : runC PHI Tb10 N vc8_12 (s8_0 x0 x1) k = m8_12 N x0 x1 (fun x0 x1 x21 x22 x23 => k .normal (s8_2 x0 x1 x21 x22 x23)) := by
  refine Eq.trans (runC_post _ _ _ k) (Eq.trans (ops_run _ _ _ _) (by kernel_rfl))
def m8_15 (N : Nat) (x0 x1 x21 x22 x23 : D) (K : D → D → D → D → D → Option R) (K0 : D → D → Option R) (Kr : D → Option R) : Option R :=
  (bif (ltb x23.toI x22.toI) then (bif (inb x23.toI x21.toL.length) then (bif (pr23 (x21.at (x23.toI : Int).toNat) x1) then (bif (pr24 (x21.at (x23.toI : Int).toNat) x1) then (bif (!(sp22 (sp23 (x21.at (x23.toI : Int).toNat) x1) (sp24 (x21.at (x23.toI : Int).toNat) x1))) then Kr (D.b false) else K x0 x1 x21 x22 (D.i (IntKind.wrap IntKind.i64 (x23.toI + 1)))) else none) else none) else none) else K0 x0 x1)
theorem e8_15 (N : Nat) (k : Kn R) (x0 x1 x21 x22 x23 : D) : runC PHI Tb10 N vc8_15 (s8_2 x0 x1 x21 x22 x23) k = m8_15 N x0 x1 x21 x22 x23 (fun x0 x1 x21 x22 x23 => k .normal (s8_2 x0 x1 x21 x22 x23)) (fun x0 x1 => k (.exit 0) (s8_0 x0 x1)) (fun x4 => k .ret (s8_1 x4)) := by kernel_rfl
def l8_14 (N : Nat) (j : Nat) (x0 x1 x21 x22 x23 : D) (K0 : D → D → Option R) (Kr : D → Option R) : Option R :=
  match j with
  | 0 => none
  | j + 1 => (m8_15 N x0 x1 x21 x22 x23 (fun y0 y1 y21 y22 y23 => l8_14 N j y0 y1 y21 y22 y23 K0 Kr) K0 Kr)
def m8_14 (N : Nat) (x0 x1 x21 x22 x23 : D) (K0 : D → D → Option R) (Kr : D → Option R) : Option R :=
  l8_14 N N x0 x1 x21 x22 x23 K0 Kr
theorem el8_14 (N : Nat) (k : Kn R) : ∀ (j : Nat) (x0 x1 x21 x22 x23 : D), loopGo (runC PHI Tb10 N vc8_15) j (s8_2 x0 x1 x21 x22 x23) k = l8_14 N j x0 x1 x21 x22 x23 (fun x0 x1 => k (.exit 0) (s8_0 x0 x1)) (fun x4 => k .ret (s8_1 x4))
  | 0, _, _, _, _, _ => by kernel_rfl
  | j + 1, x0, x1, x21, x22, x23 => by
    have h2 := e8_15 N (kloop PHI Tb10 N vc8_15 j k) x0 x1 x21 x22 x23
    have h3 : (fun (y0 y1 y21 y22 y23 : D) => (kloop PHI Tb10 N vc8_15 j k) .normal (s8_2 y0 y1 y21 y22 y23)) = (fun (y0 y1 y21 y22 y23 : D) => l8_14 N j y0 y1 y21 y22 y23 (fun x0 x1 => k (.exit 0) (s8_0 x0 x1)) (fun x4 => k .ret (s8_1 x4))) := funext fun y0 => funext fun y1 => funext fun y21 => funext fun y22 => funext fun y23 => (el8_14 N k j y0 y1 y21 y22 y23)
    refine Eq.trans (loop_succ _ j _ k) (Eq.trans h2 (Eq.trans (congrArg (fun K => m8_15 N x0 x1 x21 x22 x23 K (fun x0 x1 => (kloop PHI Tb10 N vc8_15 j k) (.exit 0) (s8_0 x0 x1)) (fun x4 => (kloop PHI Tb10 N vc8_15 j k) .ret (s8_1 x4))) h3) (by kernel_rfl)))
theorem e8_14 (N : Nat) (k : Kn R) (x0 x1 x21 x22 x23 : D) : runC PHI Tb10 N vc8_14 (s8_2 x0 x1 x21 x22 x23) k = m8_14 N x0 x1 x21 x22 x23 (fun x0 x1 => k (.exit 0) (s8_0 x0 x1)) (fun x4 => k .ret (s8_1 x4)) := by
  refine Eq.trans (runC_loop _ _ k) (Eq.trans (el8_14 N k N x0 x1 x21 x22 x23) (by kernel_rfl))
def m8_13 (N : Nat) (x0 x1 x21 x22 x23 : D) (K : D → D → Option R) (Kr : D → Option R) : Option R :=
  (m8_14 N x0 x1 x21 x22 x23 (fun y0 y1 => K y0 y1) Kr)
theorem e8_13 (N : Nat) (k : Kn R) (x0 x1 x21 x22 x23 : D) : runC PHI Tb10 N vc8_13 (s8_2 x0 x1 x21 x22 x23) k = m8_13 N x0 x1 x21 x22 x23 (fun x0 x1 => k .normal (s8_0 x0 x1)) (fun x4 => k .ret (s8_1 x4)) := by
  refine Eq.trans (runC_block _ _ _ k) (Eq.trans (e8_14 N (kblk 0 k) x0 x1 x21 x22 x23) (by kernel_rfl))
def m8_11 (N : Nat) (x0 x1 : D) (K : D → D → Option R) (Kr : D → Option R) : Option R :=
  (m8_12 N x0 x1 (fun y0 y1 y21 y22 y23 => (m8_13 N y0 y1 y21 y22 y23 (fun y0 y1 => K y0 y1) Kr)))
theorem e8_11 (N : Nat) (k : Kn R) (x0 x1 : D) : runC PHI Tb10 N vc8_11 (s8_0 x0 x1) k = m8_11 N x0 x1 (fun x0 x1 => k .normal (s8_0 x0 x1)) (fun x4 => k .ret (s8_1 x4)) := by
  have h2 := e8_12 N (kseq PHI Tb10 N vc8_13 k) x0 x1
  have h3 := (funext fun y0 => funext fun y1 => funext fun y21 => funext fun y22 => funext fun y23 => (e8_13 N k y0 y1 y21 y22 y23) : (fun (y0 y1 y21 y22 y23 : D) => (kseq PHI Tb10 N vc8_13 k) .normal (s8_2 y0 y1 y21 y22 y23)) = _)
  refine Eq.trans (runC_seq _ _ _ k) (Eq.trans h2 (Eq.trans (congrArg (fun K => m8_12 N x0 x1 K) h3) (by kernel_rfl)))
def m8_33 (N : Nat) (x0 x1 : D) (Kr : D → Option R) : Option R :=
  Kr (D.b ((sp25 x0 x1) == (sp26 x0 x1)))
theorem e8_33 (N : Nat) (k : Kn R) (x0 x1 : D) : runC PHI Tb10 N vc8_33 (s8_0 x0 x1) k = m8_33 N x0 x1 (fun x4 => k .ret (s8_1 x4)) := by kernel_rfl
def m8_10 (N : Nat) (x0 x1 : D) (Kr : D → Option R) : Option R :=
  (m8_11 N x0 x1 (fun y0 y1 => (m8_33 N y0 y1 Kr)) Kr)
theorem e8_10 (N : Nat) (k : Kn R) (x0 x1 : D) : runC PHI Tb10 N vc8_10 (s8_0 x0 x1) k = m8_10 N x0 x1 (fun x4 => k .ret (s8_1 x4)) := by
  have h2 := e8_11 N (kseq PHI Tb10 N vc8_33 k) x0 x1
  have h3 := (funext fun y0 => funext fun y1 => (e8_33 N k y0 y1) : (fun (y0 y1 : D) => (kseq PHI Tb10 N vc8_33 k) .normal (s8_0 y0 y1)) = _)
  refine Eq.trans (runC_seq _ _ _ k) (Eq.trans h2 (Eq.trans (congrArg (fun K => m8_11 N x0 x1 K (fun x4 => (kseq PHI Tb10 N vc8_33 k) .ret (s8_1 x4))) h3) (by kernel_rfl)))
def m8_2 (N : Nat) (x0 x1 : D) (Kr : D → Option R) : Option R :=
  (m8_3 N x0 x1 (fun y0 y1 => (m8_10 N y0 y1 Kr)) Kr)
theorem e8_2 (N : Nat) (k : Kn R) (x0 x1 : D) : runC PHI Tb10 N vc8_2 (s8_0 x0 x1) k = m8_2 N x0 x1 (fun x4 => k .ret (s8_1 x4)) := by
  have h2 := e8_3 N (kseq PHI Tb10 N vc8_10 k) x0 x1
  have h3 := (funext fun y0 => funext fun y1 => (e8_10 N k y0 y1) : (fun (y0 y1 : D) => (kseq PHI Tb10 N vc8_10 k) .normal (s8_0 y0 y1)) = _)
  refine Eq.trans (runC_seq _ _ _ k) (Eq.trans h2 (Eq.trans (congrArg (fun K => m8_3 N x0 x1 K (fun x4 => (kseq PHI Tb10 N vc8_10 k) .ret (s8_1 x4))) h3) (by kernel_rfl)))
def m8_0 (N : Nat) (x0 x1 : D) (Kr : D → Option R) : Option R :=
  (m8_1 N x0 x1 (fun y0 y1 => (m8_2 N y0 y1 Kr)))
theorem e8_0 (N : Nat) (k : Kn R) (x0 x1 : D) : runC PHI Tb10 N vc8_0 (s8_0 x0 x1) k = m8_0 N x0 x1 (fun x4 => k .ret (s8_1 x4)) := by
  have h2 := e8_1 N (kseq PHI Tb10 N vc8_2 k) x0 x1
  have h3 := (funext fun y0 => funext fun y1 => (e8_2 N k y0 y1) : (fun (y0 y1 : D) => (kseq PHI Tb10 N vc8_2 k) .normal (s8_0 y0 y1)) = _)
  refine Eq.trans (runC_seq _ _ _ k) (Eq.trans h2 (Eq.trans (congrArg (fun K => m8_1 N x0 x1 K) h3) (by kernel_rfl)))
theorem r8 (N : Nat) (x0 x1 : D) : runC PHI Tb10 N vf8.body (enterV vf8 [V.f x0, V.f x1] []) (finish vf8) = m8_0 N x0 x1 (fun x4 => finish vf8 .ret (s8_1 x4)) := 
  Eq.trans (runC_pre (s1 := (s8_0 x0 x1)) (by kernel_rfl) _ _) (Eq.trans (e8_0 N (finish vf8) x0 x1) (by kernel_rfl))
end
def Tb8 : CallF := extend Tb10 8 (fn2 (fun _ _ => true) fun _ _ => .f (.b true))
theorem ok8 : FnOk Try.prog PHI Tb8 := FnOk.add2 hPHI ok10 (by kernel_rfl) fun l r ha _ => ⟨l.toL.length + 1, (r8 _ l r).trans (by
  have hl := (ha.is 0 rfl rfl).len' (e := 35) (by kernel_rfl)
  have hr := ha.is 1 rfl rfl
  have hx := (ha.is 0 rfl rfl).elem (e := 35) (by kernel_rfl)
  have h := loop_find (fun j i => l8_14 (l.toL.length + 1) j l r l (.i (l.toL.length : Int)) (.i (i : Nat)) (fun y0 y1 => finish vf8 .ret (s8_1 (.b true))) (fun x4 => finish vf8 .ret (s8_1 x4))) (fun _ => false) l.toL.length (finish vf8 .ret (s8_1 (.b true))) (fun i => finish vf8 .ret (s8_1 (.b false)))
    (fun j i hi => by
      have e : l.toL.getD i .nil = l.toL[i] := getD_at hi
      have e2 : sp22 (sp23 (l.toL.getD i .nil) r) (sp24 (l.toL.getD i .nil) r) = true := by rw [e]; exact exact_Q (ev_Q _ _ _ (hx _ (List.getElem_mem hi)) hr)
      simp only [l8_14, m8_15, toI_i, cond_true, cond_false, ltb_n hi, inb_t hi, at_nat, succ_n hi hl, pr23, pr24, e2, Bool.not_true])
    (fun j => by simp only [l8_14, m8_15, toI_i, ltb_self, cond_false])
    l.toL.length 0 (l.toL.length + 1) (by omega) (by omega)
  have hf : ∀ k i, fst (fun _ => false) k i = -1 := by
    intro k
    induction k with
    | zero => intro i; rfl
    | succ k ih => intro i; rw [fst]; exact ih _
  rw [hf] at h
  have h' : l8_14 (l.toL.length + 1) (l.toL.length + 1) l r l (.i (l.toL.length : Int)) (.i 0) (fun y0 y1 => finish vf8 .ret (s8_1 (.b true))) (fun x4 => finish vf8 .ret (s8_1 x4)) = some (.f (.b true), []) := h
  have e26 : ∀ a b : D, (sp25 a b == sp26 a b) = true := fun a b => by show (sp25 a b == sp25 a b) = true; simp
  simp only [m8_0, m8_1, m8_2, m8_3, m8_10, m8_11, m8_12, m8_13, m8_14, m8_33, sp9, Bool.not_true, cond_false, cond_true, e26, h']
  cases sp21 l <;> cases sp10 (.sl [r]) <;> rfl)⟩

end Go.Vam.C14
