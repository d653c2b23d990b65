/- Chapter 20: what functions come to, part 2. No conditions. -/
import Derived.Test.YtbpgfdjencpcmaaP1
import Derived.KernelRfl
set_option linter.unusedVariables false
set_option maxRecDepth 100000
namespace Go.Vam.C20
open Go.Proofs
def sp34 (s v : D) : Bool := leb 0 (sp47 s v)
section
variable {R : Type}
def m34_0 (N : Nat) (x0 x1 : D) (Kr : D → Option R) : Option R :=
  Kr (D.b (leb 0 (sp47 x0 x1)))
def s34_0 (x0 x1 : D) : St := sts 9 [(0, V.f x0), (1, V.f x1)] []
def s34_1 (x4 : D) : St := sts 9 [(4, V.f x4)] []
theorem e34_0 (N : Nat) (k : Kn R) (x0 x1 : D) : runC PHI Tb45 N vc34_0 (s34_0 x0 x1) k = m34_0 N x0 x1 (fun x4 => k .ret (s34_1 x4)) := by kernel_rfl
theorem r34 (N : Nat) (x0 x1 : D) : runC PHI Tb45 N vf34.body (enterV vf34 [V.f x0, V.f x1] []) (finish vf34) = m34_0 N x0 x1 (fun x4 => finish vf34 .ret (s34_1 x4)) := 
  Eq.trans (runC_pre (s1 := (s34_0 x0 x1)) (by kernel_rfl) _ _) (Eq.trans (e34_0 N (finish vf34) x0 x1) (by kernel_rfl))
end
def Tb34 : CallF := extend Tb45 34 (fn2 (fun _ _ => true) fun s v => .f (.b (sp34 s v)))
theorem ok34 : FnOk Try.prog PHI Tb34 := FnOk.add2 hPHI ok45 (by kernel_rfl) fun s v ha _ => ⟨0, (r34 0 s v).trans rfl⟩
def sp36 (s v : D) : Bool := leb 0 (sp50 s v)
section
variable {R : Type}
def m36_0 (N : Nat) (x0 x1 : D) (Kr : D → Option R) : Option R :=
  Kr (D.b (leb 0 (sp50 x0 x1)))
def s36_0 (x0 x1 : D) : St := sts 9 [(0, V.f x0), (1, V.f x1)] []
def s36_1 (x4 : D) : St := sts 9 [(4, V.f x4)] []
theorem e36_0 (N : Nat) (k : Kn R) (x0 x1 : D) : runC PHI Tb34 N vc36_0 (s36_0 x0 x1) k = m36_0 N x0 x1 (fun x4 => k .ret (s36_1 x4)) := by kernel_rfl
theorem r36 (N : Nat) (x0 x1 : D) : runC PHI Tb34 N vf36.body (enterV vf36 [V.f x0, V.f x1] []) (finish vf36) = m36_0 N x0 x1 (fun x4 => finish vf36 .ret (s36_1 x4)) := 
  Eq.trans (runC_pre (s1 := (s36_0 x0 x1)) (by kernel_rfl) _ _) (Eq.trans (e36_0 N (finish vf36) x0 x1) (by kernel_rfl))
end
def Tb36 : CallF := extend Tb34 36 (fn2 (fun _ _ => true) fun s v => .f (.b (sp36 s v)))
theorem ok36 : FnOk Try.prog PHI Tb36 := FnOk.add2 hPHI ok34 (by kernel_rfl) fun s v ha _ => ⟨0, (r36 0 s v).trans rfl⟩
/-- Is it known whether it is nil? -/
def okN (d : D) : Bool := F1.ok .isN d
def sp37n (a : D) : Bool := !a.isN
def sp37 (a : D) : List D := a.toL
def pr37 (a : D) : Bool := okN a && leN a.toL.length 1099511627776
theorem leN_le {x y : Nat} (h : leN x y = true) : x ≤ y := of_decide_eq_true h
section
variable {R : Type}
def m37_0 (N : Nat) (x0 : D) (Kr : Bool → List D → Option R) : Option R :=
  (bif (F1.ok .isN x0) then (bif (F1.ev .isN x0).toB then Kr false ([] : List D) else (bif (leN (([] : List D).length + x0.toL.length) 17592186044416 && true) then Kr true (([] : List D) ++ x0.toL) else none)) else none)
def s37_0 (x0 : D) : St := sts 8 [(0, V.f x0)] []
def s37_1 (x2n : Bool) (x2 : List D) : St := sts 8 [(2, V.o x2n x2)] []
theorem e37_0 (N : Nat) (k : Kn R) (x0 : D) : runC PHI Tb36 N vc37_0 (s37_0 x0) k = m37_0 N x0 (fun x2n x2 => k .ret (s37_1 x2n x2)) := by kernel_rfl
theorem r37 (N : Nat) (x0 : D) : runC PHI Tb36 N vf37.body (enterV vf37 [V.f x0] []) (finish vf37) = m37_0 N x0 (fun x2n x2 => finish vf37 .ret (s37_1 x2n x2)) := 
  Eq.trans (runC_pre (s1 := (s37_0 x0)) (by kernel_rfl) _ _) (Eq.trans (e37_0 N (finish vf37) x0) (by kernel_rfl))
end
def Tb37 : CallF := extend Tb36 37 (fn1 pr37 fun a => .o (sp37n a) (sp37 a))
theorem isN_toL {a : D} (h : a.isN = true) : a.toL = [] := by
  cases a <;> simp_all [D.isN, D.toL]
theorem ok37 : FnOk Try.prog PHI Tb37 := FnOk.add1 hPHI ok36 (by kernel_rfl) fun a ha hp => ⟨0, (r37 0 a).trans (by
  simp only [pr37, Bool.and_eq_true] at hp
  have hl := leN_le hp.2
  have h1 : F1.ok .isN a = true := hp.1
  have h3 : ([] : List D).length + a.toL.length ≤ 17592186044416 := by simp; omega
  unfold m37_0
  rw [h1, leN_t h3]
  show (bif a.isN then _ else _) = some (V.o (!a.isN) a.toL, [])
  cases h2 : a.isN
  · rfl
  · rw [isN_toL h2]; rfl)⟩
def sp41 (a : D) : List D := a.toL
section
variable {R : Type}
def m41_0 (N : Nat) (x0 : D) (Kr : List D → Option R) : Option R :=
  (bif (eqb (x0.toL.length : Int) x0.toL.length && eqb (x0.toL.length : Int) x0.toL.length) then Kr x0.toL else none)
def s41_0 (x0 : D) : St := sts 9 [(0, V.f x0)] []
def s41_1 (x2 : List D) : St := sts 9 [(2, V.c x2)] []
theorem e41_0 (N : Nat) (k : Kn R) (x0 : D) : runC PHI Tb37 N vc41_0 (s41_0 x0) k = m41_0 N x0 (fun x2 => k .ret (s41_1 x2)) := by kernel_rfl
theorem r41 (N : Nat) (x0 : D) : runC PHI Tb37 N vf41.body (enterV vf41 [V.f x0] []) (finish vf41) = m41_0 N x0 (fun x2 => finish vf41 .ret (s41_1 x2)) := 
  Eq.trans (runC_pre (s1 := (s41_0 x0)) (by kernel_rfl) _ _) (Eq.trans (e41_0 N (finish vf41) x0) (by kernel_rfl))
end
def Tb41 : CallF := extend Tb37 41 (fn1 (fun _ => true) fun a => .c (sp41 a))
theorem ok41 : FnOk Try.prog PHI Tb41 := FnOk.add1 hPHI ok37 (by kernel_rfl) fun a ha hp => ⟨0, (r41 0 a).trans (by
  unfold m41_0
  rw [eqb_t rfl]; rfl)⟩
def sp42_22 (s : D) : Int := fst (fun i => sp22 (s.toL.getD i .nil)) s.toL.length 0
section
variable {R : Type}
def m42_1 (N : Nat) (x0 : D) (K : D → Option R) : Option R :=
  K x0
def s42_0 (x0 : D) : St := sts 19 [(0, V.f x0), (1, V.fn 22 [] [])] []
theorem e42_1 (N : Nat) (k : Kn R) (x0 : D) : runC PHI Tb41 N vc42_1 (s42_0 x0) k = m42_1 N x0 (fun x0 => k .normal (s42_0 x0)) := by
  refine Eq.trans (runC_post _ _ _ k) (Eq.trans (ops_run _ _ _ _) (by kernel_rfl))
def m42_4 (N : Nat) (x0 : D) (K : D → D → D → Option R) : Option R :=
  K x0 (D.i (x0.toL.length : Int)) (D.i 0)
def s42_1 (x0 x7 x8 : D) : St := sts 19 [(0, V.f x0), (1, V.fn 22 [] []), (7, V.f x7), (8, V.f x8)] []
theorem e42_4 (N : Nat) (k : Kn R) (x0 : D) : runC PHI Tb41 N vc42_4 (s42_0 x0) k = m42_4 N x0 (fun x0 x7 x8 => k .normal (s42_1 x0 x7 x8)) := by
  refine Eq.trans (runC_post _ _ _ k) (Eq.trans (ops_run _ _ _ _) (by kernel_rfl))
def m42_7 (N : Nat) (x0 x7 x8 : D) (K : D → D → D → Option R) (K0 : Option R) (Kr : D → Option R) : Option R :=
  (bif (ltb x8.toI x7.toI) then (bif (inb x8.toI x0.toL.length) then (bif (sp22 (x0.at (x8.toI : Int).toNat)) then Kr x8 else K x0 x7 (D.i (IntKind.wrap IntKind.i64 (x8.toI + 1)))) else none) else K0)
def s42_2 : St := sts 19 [] []
def s42_3 (x4 : D) : St := sts 19 [(4, V.f x4)] []
theorem e42_7 (N : Nat) (k : Kn R) (x0 x7 x8 : D) : runC PHI Tb41 N vc42_7 (s42_1 x0 x7 x8) k = m42_7 N x0 x7 x8 (fun x0 x7 x8 => k .normal (s42_1 x0 x7 x8)) (k (.exit 0) s42_2) (fun x4 => k .ret (s42_3 x4)) := by kernel_rfl
def l42_6 (N : Nat) (j : Nat) (x0 x7 x8 : D) (K0 : Option R) (Kr : D → Option R) : Option R :=
  match j with
  | 0 => none
  | j + 1 => (m42_7 N x0 x7 x8 (fun y0 y7 y8 => l42_6 N j y0 y7 y8 K0 Kr) K0 Kr)
def m42_6 (N : Nat) (x0 x7 x8 : D) (K0 : Option R) (Kr : D → Option R) : Option R :=
  l42_6 N N x0 x7 x8 K0 Kr
theorem el42_6 (N : Nat) (k : Kn R) : ∀ (j : Nat) (x0 x7 x8 : D), loopGo (runC PHI Tb41 N vc42_7) j (s42_1 x0 x7 x8) k = l42_6 N j x0 x7 x8 (k (.exit 0) s42_2) (fun x4 => k .ret (s42_3 x4))
  | 0, _, _, _ => by kernel_rfl
  | j + 1, x0, x7, x8 => by
    have h2 := e42_7 N (kloop PHI Tb41 N vc42_7 j k) x0 x7 x8
    have h3 : (fun (y0 y7 y8 : D) => (kloop PHI Tb41 N vc42_7 j k) .normal (s42_1 y0 y7 y8)) = (fun (y0 y7 y8 : D) => l42_6 N j y0 y7 y8 (k (.exit 0) s42_2) (fun x4 => k .ret (s42_3 x4))) := funext fun y0 => funext fun y7 => funext fun y8 => (el42_6 N k j y0 y7 y8)
    refine Eq.trans (loop_succ _ j _ k) (Eq.trans h2 (Eq.trans (congrArg (fun K => m42_7 N x0 x7 x8 K ((kloop PHI Tb41 N vc42_7 j k) (.exit 0) s42_2) (fun x4 => (kloop PHI Tb41 N vc42_7 j k) .ret (s42_3 x4))) h3) (by kernel_rfl)))
theorem e42_6 (N : Nat) (k : Kn R) (x0 x7 x8 : D) : runC PHI Tb41 N vc42_6 (s42_1 x0 x7 x8) k = m42_6 N x0 x7 x8 (k (.exit 0) s42_2) (fun x4 => k .ret (s42_3 x4)) := by
  refine Eq.trans (runC_loop _ _ k) (Eq.trans (el42_6 N k N x0 x7 x8) (by kernel_rfl))
def m42_5 (N : Nat) (x0 x7 x8 : D) (K : Option R) (Kr : D → Option R) : Option R :=
  (m42_6 N x0 x7 x8 (K) Kr)
theorem e42_5 (N : Nat) (k : Kn R) (x0 x7 x8 : D) : runC PHI Tb41 N vc42_5 (s42_1 x0 x7 x8) k = m42_5 N x0 x7 x8 (k .normal s42_2) (fun x4 => k .ret (s42_3 x4)) := by
  refine Eq.trans (runC_block _ _ _ k) (Eq.trans (e42_6 N (kblk 0 k) x0 x7 x8) (by kernel_rfl))
def m42_3 (N : Nat) (x0 : D) (K : Option R) (Kr : D → Option R) : Option R :=
  (m42_4 N x0 (fun y0 y7 y8 => (m42_5 N y0 y7 y8 (K) Kr)))
theorem e42_3 (N : Nat) (k : Kn R) (x0 : D) : runC PHI Tb41 N vc42_3 (s42_0 x0) k = m42_3 N x0 (k .normal s42_2) (fun x4 => k .ret (s42_3 x4)) := by
  have h2 := e42_4 N (kseq PHI Tb41 N vc42_5 k) x0
  have h3 := (funext fun y0 => funext fun y7 => funext fun y8 => (e42_5 N k y0 y7 y8) : (fun (y0 y7 y8 : D) => (kseq PHI Tb41 N vc42_5 k) .normal (s42_1 y0 y7 y8)) = _)
  refine Eq.trans (runC_seq _ _ _ k) (Eq.trans h2 (Eq.trans (congrArg (fun K => m42_4 N x0 K) h3) (by kernel_rfl)))
def m42_25 (N : Nat) (Kr : D → Option R) : Option R :=
  Kr (D.i (-1))
theorem e42_25 (N : Nat) (k : Kn R) : runC PHI Tb41 N vc42_25 s42_2 k = m42_25 N (fun x4 => k .ret (s42_3 x4)) := by kernel_rfl
def m42_2 (N : Nat) (x0 : D) (Kr : D → Option R) : Option R :=
  (m42_3 N x0 ((m42_25 N Kr)) Kr)
theorem e42_2 (N : Nat) (k : Kn R) (x0 : D) : runC PHI Tb41 N vc42_2 (s42_0 x0) k = m42_2 N x0 (fun x4 => k .ret (s42_3 x4)) := by
  have h2 := e42_3 N (kseq PHI Tb41 N vc42_25 k) x0
  have h3 := ((e42_25 N k ) : ((kseq PHI Tb41 N vc42_25 k) .normal s42_2) = _)
  refine Eq.trans (runC_seq _ _ _ k) (Eq.trans h2 (Eq.trans (congrArg (fun K => m42_3 N x0 K (fun x4 => (kseq PHI Tb41 N vc42_25 k) .ret (s42_3 x4))) h3) (by kernel_rfl)))
def m42_0 (N : Nat) (x0 : D) (Kr : D → Option R) : Option R :=
  (m42_1 N x0 (fun y0 => (m42_2 N y0 Kr)))
theorem e42_0 (N : Nat) (k : Kn R) (x0 : D) : runC PHI Tb41 N vc42_0 (s42_0 x0) k = m42_0 N x0 (fun x4 => k .ret (s42_3 x4)) := by
  have h2 := e42_1 N (kseq PHI Tb41 N vc42_2 k) x0
  have h3 := (funext fun y0 => (e42_2 N k y0) : (fun (y0 : D) => (kseq PHI Tb41 N vc42_2 k) .normal (s42_0 y0)) = _)
  refine Eq.trans (runC_seq _ _ _ k) (Eq.trans h2 (Eq.trans (congrArg (fun K => m42_1 N x0 K) h3) (by kernel_rfl)))
theorem r42 (N : Nat) (x0 : D) : runC PHI Tb41 N vf42.body (enterV vf42 [V.f x0, V.fn 22 [] []] []) (finish vf42) = m42_0 N x0 (fun x4 => finish vf42 .ret (s42_3 x4)) := 
  Eq.trans (runC_pre (s1 := (s42_0 x0)) (by kernel_rfl) _ _) (Eq.trans (e42_0 N (finish vf42) x0) (by kernel_rfl))
end
def Tb42 : CallF := extend Tb41 42 (fc0 22 [] (fun _ => true) fun s => .f (.i (sp42_22 s)))
theorem ok42 : FnOk Try.prog PHI Tb42 := FnOk.addc0 hPHI ok41 (by kernel_rfl) fun s ha _ => ⟨s.toL.length + 1, (r42 _ s).trans (by
  have hl := (ha.is 0 rfl rfl).len' (e := 44) (by kernel_rfl)
  simp only [m42_0, m42_1, m42_2, m42_3, m42_4, m42_5, m42_6, m42_25]
  have h := loop_find (fun j i => l42_6 (s.toL.length + 1) j s (.i (s.toL.length : Int)) (.i (i : Nat)) (finish vf42 .ret (s42_3 (.i (-1)))) (fun x4 => finish vf42 .ret (s42_3 x4))) (fun i => sp22 (s.toL.getD i .nil)) s.toL.length (finish vf42 .ret (s42_3 (.i (-1)))) (fun i => finish vf42 .ret (s42_3 (.i (i : Int))))
    (fun j i hi => by simp only [l42_6, m42_7, toI_i, cond_true, ltb_n hi, inb_t hi, at_nat, succ_n hi hl])
    (fun j => by simp only [l42_6, m42_7, toI_i, ltb_self, cond_false])
    s.toL.length 0 (s.toL.length + 1) (by omega) (by omega)
  exact h.trans (fst_res (K := fun r => finish vf42 .ret (s42_3 (.i r)))))⟩
def sp21_22 (s : D) : Bool := leb 0 (sp42_22 s)
section
variable {R : Type}
def m21_0 (N : Nat) (x0 : D) (Kr : D → Option R) : Option R :=
  Kr (D.b (leb 0 (sp42_22 x0)))
def s21_0 (x0 : D) : St := sts 9 [(0, V.f x0), (1, V.fn 22 [] [])] []
def s21_1 (x4 : D) : St := sts 9 [(4, V.f x4)] []
theorem e21_0 (N : Nat) (k : Kn R) (x0 : D) : runC PHI Tb42 N vc21_0 (s21_0 x0) k = m21_0 N x0 (fun x4 => k .ret (s21_1 x4)) := by kernel_rfl
theorem r21 (N : Nat) (x0 : D) : runC PHI Tb42 N vf21.body (enterV vf21 [V.f x0, V.fn 22 [] []] []) (finish vf21) = m21_0 N x0 (fun x4 => finish vf21 .ret (s21_1 x4)) := 
  Eq.trans (runC_pre (s1 := (s21_0 x0)) (by kernel_rfl) _ _) (Eq.trans (e21_0 N (finish vf21) x0) (by kernel_rfl))
end
def Tb21 : CallF := extend Tb42 21 (fc0 22 [] (fun _ => true) fun s => .f (.b (sp21_22 s)))
theorem ok21 : FnOk Try.prog PHI Tb21 := FnOk.addc0 hPHI ok42 (by kernel_rfl) fun s ha _ => ⟨0, (r21 0 s).trans rfl⟩
def sp39 (d t c : D) : Bool := eqb (d.at 0).toI t.deref.toI && sp40 (d.at 1) c.deref
def pr39 (_ t c : D) : Bool := isPtrD t && isPtrD c
section
variable {R : Type}
def m39_0 (N : Nat) (x0 x1 x2 : D) (Kr : D → Option R) : Option R :=
  (bif (isPtrD x1) then (bif (eqb (x0.at 0).toI x1.deref.toI) then (bif (isPtrD x2) then Kr (D.b (sp40 (x0.at 1) x2.deref)) else none) else Kr (D.b false)) else none)
def s39_0 (x0 x1 x2 : D) : St := sts 15 [(0, V.f x0), (1, V.f x1), (2, V.f x2)] []
def s39_1 (x4 : D) : St := sts 15 [(4, V.f x4)] []
theorem e39_0 (N : Nat) (k : Kn R) (x0 x1 x2 : D) : runC PHI Tb21 N vc39_0 (s39_0 x0 x1 x2) k = m39_0 N x0 x1 x2 (fun x4 => k .ret (s39_1 x4)) := by kernel_rfl
theorem r39 (N : Nat) (x0 x1 x2 : D) : runC PHI Tb21 N vf39.body (enterV vf39 [V.f x0, V.f x1, V.f x2] []) (finish vf39) = m39_0 N x0 x1 x2 (fun x4 => finish vf39 .ret (s39_1 x4)) := 
  Eq.trans (runC_pre (s1 := (s39_0 x0 x1 x2)) (by kernel_rfl) _ _) (Eq.trans (e39_0 N (finish vf39) x0 x1 x2) (by kernel_rfl))
end
def Tb39 : CallF := extend Tb21 39 (fn3 pr39 fun d t c => .f (.b (sp39 d t c)))
theorem ok39 : FnOk Try.prog PHI Tb39 := FnOk.add3 hPHI ok21 (by kernel_rfl) fun d t c ha hp => ⟨0, (r39 0 d t c).trans (by
  simp only [pr39, Bool.and_eq_true] at hp
  unfold m39_0 sp39
  rw [hp.1, hp.2]
  cases eqb (d.at 0).toI t.deref.toI <;> rfl)⟩
def sp51_39 (s t c : D) : Int := fst (fun i => sp39 (s.toL.getD i .nil) t c) s.toL.length 0
def pr51_39 (_ t c : D) : Bool := isPtrD t && isPtrD c
section
variable {R : Type}
def m51_1 (N : Nat) (x0 x1_0 x1_1 : D) (K : D → D → D → Option R) : Option R :=
  K x0 x1_0 x1_1
def s51_0 (x0 x1_0 x1_1 : D) : St := sts 19 [(0, V.f x0), (1, V.fn 39 [V.f x1_0, V.f x1_1] [Ty.p 3, Ty.p 22])] []
theorem e51_1 (N : Nat) (k : Kn R) (x0 x1_0 x1_1 : D) : runC PHI Tb39 N vc51_1 (s51_0 x0 x1_0 x1_1) k = m51_1 N x0 x1_0 x1_1 (fun x0 x1_0 x1_1 => k .normal (s51_0 x0 x1_0 x1_1)) := by
  refine Eq.trans (runC_post _ _ _ k) (Eq.trans (ops_run _ _ _ _) (by kernel_rfl))
def m51_4 (N : Nat) (x0 x1_0 x1_1 : D) (K : D → D → D → D → D → Option R) : Option R :=
  K x0 x1_0 x1_1 (D.i (x0.toL.length : Int)) (D.i 0)
def s51_1 (x0 x1_0 x1_1 x7 x8 : D) : St := sts 19 [(0, V.f x0), (1, V.fn 39 [V.f x1_0, V.f x1_1] [Ty.p 3, Ty.p 22]), (7, V.f x7), (8, V.f x8)] []
theorem e51_4 (N : Nat) (k : Kn R) (x0 x1_0 x1_1 : D) : runC PHI Tb39 N vc51_4 (s51_0 x0 x1_0 x1_1) k = m51_4 N x0 x1_0 x1_1 (fun x0 x1_0 x1_1 x7 x8 => k .normal (s51_1 x0 x1_0 x1_1 x7 x8)) := by
  refine Eq.trans (runC_post _ _ _ k) (Eq.trans (ops_run _ _ _ _) (by kernel_rfl))
def m51_7 (N : Nat) (x0 x1_0 x1_1 x7 x8 : D) (K : D → D → D → D → D → Option R) (K0 : Option R) (Kr : D → Option R) : Option R :=
  (bif (ltb x8.toI x7.toI) then (bif (inb x8.toI x0.toL.length) then (bif (pr39 (x0.at (x8.toI : Int).toNat) x1_0 x1_1) then (bif (sp39 (x0.at (x8.toI : Int).toNat) x1_0 x1_1) then Kr x8 else K x0 x1_0 x1_1 x7 (D.i (IntKind.wrap IntKind.i64 (x8.toI + 1)))) else none) else none) else K0)
def s51_2 : St := sts 19 [] []
def s51_3 (x4 : D) : St := sts 19 [(4, V.f x4)] []
theorem e51_7 (N : Nat) (k : Kn R) (x0 x1_0 x1_1 x7 x8 : D) : runC PHI Tb39 N vc51_7 (s51_1 x0 x1_0 x1_1 x7 x8) k = m51_7 N x0 x1_0 x1_1 x7 x8 (fun x0 x1_0 x1_1 x7 x8 => k .normal (s51_1 x0 x1_0 x1_1 x7 x8)) (k (.exit 0) s51_2) (fun x4 => k .ret (s51_3 x4)) := by kernel_rfl
def l51_6 (N : Nat) (j : Nat) (x0 x1_0 x1_1 x7 x8 : D) (K0 : Option R) (Kr : D → Option R) : Option R :=
  match j with
  | 0 => none
  | j + 1 => (m51_7 N x0 x1_0 x1_1 x7 x8 (fun y0 y1_0 y1_1 y7 y8 => l51_6 N j y0 y1_0 y1_1 y7 y8 K0 Kr) K0 Kr)
def m51_6 (N : Nat) (x0 x1_0 x1_1 x7 x8 : D) (K0 : Option R) (Kr : D → Option R) : Option R :=
  l51_6 N N x0 x1_0 x1_1 x7 x8 K0 Kr
theorem el51_6 (N : Nat) (k : Kn R) : ∀ (j : Nat) (x0 x1_0 x1_1 x7 x8 : D), loopGo (runC PHI Tb39 N vc51_7) j (s51_1 x0 x1_0 x1_1 x7 x8) k = l51_6 N j x0 x1_0 x1_1 x7 x8 (k (.exit 0) s51_2) (fun x4 => k .ret (s51_3 x4))
  | 0, _, _, _, _, _ => by kernel_rfl
  | j + 1, x0, x1_0, x1_1, x7, x8 => by
    have h2 := e51_7 N (kloop PHI Tb39 N vc51_7 j k) x0 x1_0 x1_1 x7 x8
    have h3 : (fun (y0 y1_0 y1_1 y7 y8 : D) => (kloop PHI Tb39 N vc51_7 j k) .normal (s51_1 y0 y1_0 y1_1 y7 y8)) = (fun (y0 y1_0 y1_1 y7 y8 : D) => l51_6 N j y0 y1_0 y1_1 y7 y8 (k (.exit 0) s51_2) (fun x4 => k .ret (s51_3 x4))) := funext fun y0 => funext fun y1_0 => funext fun y1_1 => funext fun y7 => funext fun y8 => (el51_6 N k j y0 y1_0 y1_1 y7 y8)
    refine Eq.trans (loop_succ _ j _ k) (Eq.trans h2 (Eq.trans (congrArg (fun K => m51_7 N x0 x1_0 x1_1 x7 x8 K ((kloop PHI Tb39 N vc51_7 j k) (.exit 0) s51_2) (fun x4 => (kloop PHI Tb39 N vc51_7 j k) .ret (s51_3 x4))) h3) (by kernel_rfl)))
theorem e51_6 (N : Nat) (k : Kn R) (x0 x1_0 x1_1 x7 x8 : D) : runC PHI Tb39 N vc51_6 (s51_1 x0 x1_0 x1_1 x7 x8) k = m51_6 N x0 x1_0 x1_1 x7 x8 (k (.exit 0) s51_2) (fun x4 => k .ret (s51_3 x4)) := by
  refine Eq.trans (runC_loop _ _ k) (Eq.trans (el51_6 N k N x0 x1_0 x1_1 x7 x8) (by kernel_rfl))
def m51_5 (N : Nat) (x0 x1_0 x1_1 x7 x8 : D) (K : Option R) (Kr : D → Option R) : Option R :=
  (m51_6 N x0 x1_0 x1_1 x7 x8 (K) Kr)
theorem e51_5 (N : Nat) (k : Kn R) (x0 x1_0 x1_1 x7 x8 : D) : runC PHI Tb39 N vc51_5 (s51_1 x0 x1_0 x1_1 x7 x8) k = m51_5 N x0 x1_0 x1_1 x7 x8 (k .normal s51_2) (fun x4 => k .ret (s51_3 x4)) := by
  refine Eq.trans (runC_block _ _ _ k) (Eq.trans (e51_6 N (kblk 0 k) x0 x1_0 x1_1 x7 x8) (by kernel_rfl))
def m51_3 (N : Nat) (x0 x1_0 x1_1 : D) (K : Option R) (Kr : D → Option R) : Option R :=
  (m51_4 N x0 x1_0 x1_1 (fun y0 y1_0 y1_1 y7 y8 => (m51_5 N y0 y1_0 y1_1 y7 y8 (K) Kr)))
theorem e51_3 (N : Nat) (k : Kn R) (x0 x1_0 x1_1 : D) : runC PHI Tb39 N vc51_3 (s51_0 x0 x1_0 x1_1) k = m51_3 N x0 x1_0 x1_1 (k .normal s51_2) (fun x4 => k .ret (s51_3 x4)) := by
  have h2 := e51_4 N (kseq PHI Tb39 N vc51_5 k) x0 x1_0 x1_1
  have h3 := (funext fun y0 => funext fun y1_0 => funext fun y1_1 => funext fun y7 => funext fun y8 => (e51_5 N k y0 y1_0 y1_1 y7 y8) : (fun (y0 y1_0 y1_1 y7 y8 : D) => (kseq PHI Tb39 N vc51_5 k) .normal (s51_1 y0 y1_0 y1_1 y7 y8)) = _)
  refine Eq.trans (runC_seq _ _ _ k) (Eq.trans h2 (Eq.trans (congrArg (fun K => m51_4 N x0 x1_0 x1_1 K) h3) (by kernel_rfl)))
def m51_25 (N : Nat) (Kr : D → Option R) : Option R :=
  Kr (D.i (-1))
theorem e51_25 (N : Nat) (k : Kn R) : runC PHI Tb39 N vc51_25 s51_2 k = m51_25 N (fun x4 => k .ret (s51_3 x4)) := by kernel_rfl
def m51_2 (N : Nat) (x0 x1_0 x1_1 : D) (Kr : D → Option R) : Option R :=
  (m51_3 N x0 x1_0 x1_1 ((m51_25 N Kr)) Kr)
theorem e51_2 (N : Nat) (k : Kn R) (x0 x1_0 x1_1 : D) : runC PHI Tb39 N vc51_2 (s51_0 x0 x1_0 x1_1) k = m51_2 N x0 x1_0 x1_1 (fun x4 => k .ret (s51_3 x4)) := by
  have h2 := e51_3 N (kseq PHI Tb39 N vc51_25 k) x0 x1_0 x1_1
  have h3 := ((e51_25 N k ) : ((kseq PHI Tb39 N vc51_25 k) .normal s51_2) = _)
  refine Eq.trans (runC_seq _ _ _ k) (Eq.trans h2 (Eq.trans (congrArg (fun K => m51_3 N x0 x1_0 x1_1 K (fun x4 => (kseq PHI Tb39 N vc51_25 k) .ret (s51_3 x4))) h3) (by kernel_rfl)))
def m51_0 (N : Nat) (x0 x1_0 x1_1 : D) (Kr : D → Option R) : Option R :=
  (m51_1 N x0 x1_0 x1_1 (fun y0 y1_0 y1_1 => (m51_2 N y0 y1_0 y1_1 Kr)))
theorem e51_0 (N : Nat) (k : Kn R) (x0 x1_0 x1_1 : D) : runC PHI Tb39 N vc51_0 (s51_0 x0 x1_0 x1_1) k = m51_0 N x0 x1_0 x1_1 (fun x4 => k .ret (s51_3 x4)) := by
  have h2 := e51_1 N (kseq PHI Tb39 N vc51_2 k) x0 x1_0 x1_1
  have h3 := (funext fun y0 => funext fun y1_0 => funext fun y1_1 => (e51_2 N k y0 y1_0 y1_1) : (fun (y0 y1_0 y1_1 : D) => (kseq PHI Tb39 N vc51_2 k) .normal (s51_0 y0 y1_0 y1_1)) = _)
  refine Eq.trans (runC_seq _ _ _ k) (Eq.trans h2 (Eq.trans (congrArg (fun K => m51_1 N x0 x1_0 x1_1 K) h3) (by kernel_rfl)))
theorem r51 (N : Nat) (x0 x1_0 x1_1 : D) : runC PHI Tb39 N vf51.body (enterV vf51 [V.f x0, V.fn 39 [V.f x1_0, V.f x1_1] [Ty.p 3, Ty.p 22]] []) (finish vf51) = m51_0 N x0 x1_0 x1_1 (fun x4 => finish vf51 .ret (s51_3 x4)) := 
  Eq.trans (runC_pre (s1 := (s51_0 x0 x1_0 x1_1)) (by kernel_rfl) _ _) (Eq.trans (e51_0 N (finish vf51) x0 x1_0 x1_1) (by kernel_rfl))
end
def Tb51 : CallF := extend Tb39 51 (fc2 39 [Ty.p 3, Ty.p 22] pr51_39 fun s t c => .f (.i (sp51_39 s t c)))
theorem ok51 : FnOk Try.prog PHI Tb51 := FnOk.addc2 hPHI ok39 (by kernel_rfl) fun s t c ha hp => ⟨s.toL.length + 1, (r51 _ s t c).trans (by
  have hl := (ha.is 0 rfl rfl).len' (e := 36) (by kernel_rfl)
  simp only [m51_0, m51_1, m51_2, m51_3, m51_4, m51_5, m51_6, m51_25]
  have h := loop_find (fun j i => l51_6 (s.toL.length + 1) j s t c (.i (s.toL.length : Int)) (.i (i : Nat)) (finish vf51 .ret (s51_3 (.i (-1)))) (fun x4 => finish vf51 .ret (s51_3 x4))) (fun i => sp39 (s.toL.getD i .nil) t c) s.toL.length (finish vf51 .ret (s51_3 (.i (-1)))) (fun i => finish vf51 .ret (s51_3 (.i (i : Int))))
    (fun j i hi => by simp only [l51_6, m51_7, toI_i, cond_true, ltb_n hi, inb_t hi, at_nat, succ_n hi hl, show ∀ x, pr39 x t c = true from fun _ => hp])
    (fun j => by simp only [l51_6, m51_7, toI_i, ltb_self, cond_false])
    s.toL.length 0 (s.toL.length + 1) (by omega) (by omega)
  exact h.trans (fst_res (K := fun r => finish vf51 .ret (s51_3 (.i r)))))⟩
def sp38_39 (s t c : D) : Bool := leb 0 (sp51_39 s t c)
def pr38_39 (_ t c : D) : Bool := isPtrD t && isPtrD c
section
variable {R : Type}
def m38_0 (N : Nat) (x0 x1_0 x1_1 : D) (Kr : D → Option R) : Option R :=
  (bif (pr51_39 x0 x1_0 x1_1) then Kr (D.b (leb 0 (sp51_39 x0 x1_0 x1_1))) else none)
def s38_0 (x0 x1_0 x1_1 : D) : St := sts 9 [(0, V.f x0), (1, V.fn 39 [V.f x1_0, V.f x1_1] [Ty.p 3, Ty.p 22])] []
def s38_1 (x4 : D) : St := sts 9 [(4, V.f x4)] []
theorem e38_0 (N : Nat) (k : Kn R) (x0 x1_0 x1_1 : D) : runC PHI Tb51 N vc38_0 (s38_0 x0 x1_0 x1_1) k = m38_0 N x0 x1_0 x1_1 (fun x4 => k .ret (s38_1 x4)) := by kernel_rfl
theorem r38 (N : Nat) (x0 x1_0 x1_1 : D) : runC PHI Tb51 N vf38.body (enterV vf38 [V.f x0, V.fn 39 [V.f x1_0, V.f x1_1] [Ty.p 3, Ty.p 22]] []) (finish vf38) = m38_0 N x0 x1_0 x1_1 (fun x4 => finish vf38 .ret (s38_1 x4)) := 
  Eq.trans (runC_pre (s1 := (s38_0 x0 x1_0 x1_1)) (by kernel_rfl) _ _) (Eq.trans (e38_0 N (finish vf38) x0 x1_0 x1_1) (by kernel_rfl))
end
def Tb38 : CallF := extend Tb51 38 (fc2 39 [Ty.p 3, Ty.p 22] pr38_39 fun s t c => .f (.b (sp38_39 s t c)))
theorem ok38 : FnOk Try.prog PHI Tb38 := FnOk.addc2 hPHI ok51 (by kernel_rfl) fun s t c ha hp => ⟨0, (r38 0 s t c).trans (by
  unfold m38_0
  rw [show pr51_39 s t c = true from hp]; rfl)⟩

end Go.Vam.C20
namespace Go.Vam.C20
open Go.Proofs
/-! ### add -/
def addS (l t : D) (xs : List D) : D :=
  bif (xs.take 3).isEmpty || l.toL.any (fun d => eqb (d.at 0).toI t.toI && sp40 (d.at 1) (.sl (xs.take 3))) then l else .sl (l.toL ++ [.ag [t, .sl (xs.take 3), .b false]])
def sp18 (l t c : D) : D := addS l t c.toL
def pr18 (l _ c : D) : Bool := okN c && leN l.toL.length 1099511627776
theorem take_mm (xs : List D) : ((xs.take (mmI false (xs.length : Int) [3]).toNat).drop (0 : Int).toNat) = xs.take 3 := by
  show (xs.take _).drop 0 = _
  rw [List.drop_zero]
  simp only [mmI, cond_false]
  by_cases h : (3 : Int) < xs.length
  · simp [h]
  · simp only [h, if_false]
    rw [Int.toNat_natCast, List.take_length, List.take_of_length_le (by omega)]
theorem okN_cut {c : D} (hs : c = .sl c.toL ∨ c = .sz c.toL ∨ c = .sq c.toL) (h : okN c = true) (n : Nat) (hn : 0 < n ∨ c.toL = []) : okN (cutD c n 0) = true := by
  generalize c.toL = xs at hs hn
  rcases hs with rfl | rfl | rfl
  · rfl
  · cases xs <;> rfl
  · cases xs with
    | nil => exact absurd h (by decide)
    | cons x xs =>
      rcases hn with hn | hn
      · obtain ⟨m, rfl⟩ : ∃ m, n = m + 1 := ⟨n - 1, by omega⟩
        rfl
      · cases hn
theorem mm_guard (n : Nat) : (leb 0 0 && leb 0 (mmI false (n : Int) [3]) && leb (mmI false (n : Int) [3]) (n : Int)) = true := by
  simp only [mmI, cond_false]
  by_cases h : (3 : Int) < n
  · simp only [h, if_true]; rw [leb_t (show (3 : Int) ≤ n by omega)]; rfl
  · simp only [h, if_false]; rw [leb_t (show (0 : Int) ≤ n by omega), leb_t (show (n : Int) ≤ n by omega)]; rfl
section
variable {R : Type}
def m18_0 (N : Nat) (x0 x1 x2 : D) (Kr : D → Option R) : Option R :=
  (bif (leb 0 0 && leb 0 (mmI false (x2.toL.length : Int) [3]) && leb (mmI false (x2.toL.length : Int) [3]) (x2.toL.length : Int)) then (bif (pr37 (cutD x2 ((mmI false (x2.toL.length : Int) [3]) : Int).toNat (0 : Int).toNat)) then (bif (eqb ((mkD (sp37n (cutD x2 ((mmI false (x2.toL.length : Int) [3]) : Int).toNat (0 : Int).toNat)) (sp37 (cutD x2 ((mmI false (x2.toL.length : Int) [3]) : Int).toNat (0 : Int).toNat))).toL.length : Int) 0) then (bif true then Kr x0 else (bif (leN ((sp41 x0).length + ([(D.ag [x1, (mkD (sp37n (cutD x2 ((mmI false (x2.toL.length : Int) [3]) : Int).toNat (0 : Int).toNat)) (sp37 (cutD x2 ((mmI false (x2.toL.length : Int) [3]) : Int).toNat (0 : Int).toNat))), (D.b false)])] : List D).length) 3518437208883 && (!([(D.ag [x1, (mkD (sp37n (cutD x2 ((mmI false (x2.toL.length : Int) [3]) : Int).toNat (0 : Int).toNat)) (sp37 (cutD x2 ((mmI false (x2.toL.length : Int) [3]) : Int).toNat (0 : Int).toNat))), (D.b false)])] : List D).isEmpty)) then Kr (D.sl ((sp41 x0) ++ ([(D.ag [x1, (mkD (sp37n (cutD x2 ((mmI false (x2.toL.length : Int) [3]) : Int).toNat (0 : Int).toNat)) (sp37 (cutD x2 ((mmI false (x2.toL.length : Int) [3]) : Int).toNat (0 : Int).toNat))), (D.b false)])] : List D))) else none)) else (bif (pr38_39 x0 (D.p x1) (D.p (mkD (sp37n (cutD x2 ((mmI false (x2.toL.length : Int) [3]) : Int).toNat (0 : Int).toNat)) (sp37 (cutD x2 ((mmI false (x2.toL.length : Int) [3]) : Int).toNat (0 : Int).toNat))))) then (bif (sp38_39 x0 (D.p x1) (D.p (mkD (sp37n (cutD x2 ((mmI false (x2.toL.length : Int) [3]) : Int).toNat (0 : Int).toNat)) (sp37 (cutD x2 ((mmI false (x2.toL.length : Int) [3]) : Int).toNat (0 : Int).toNat))))) then Kr x0 else (bif (leN ((sp41 x0).length + ([(D.ag [x1, (mkD (sp37n (cutD x2 ((mmI false (x2.toL.length : Int) [3]) : Int).toNat (0 : Int).toNat)) (sp37 (cutD x2 ((mmI false (x2.toL.length : Int) [3]) : Int).toNat (0 : Int).toNat))), (D.b false)])] : List D).length) 3518437208883 && (!([(D.ag [x1, (mkD (sp37n (cutD x2 ((mmI false (x2.toL.length : Int) [3]) : Int).toNat (0 : Int).toNat)) (sp37 (cutD x2 ((mmI false (x2.toL.length : Int) [3]) : Int).toNat (0 : Int).toNat))), (D.b false)])] : List D).isEmpty)) then Kr (D.sl ((sp41 x0) ++ ([(D.ag [x1, (mkD (sp37n (cutD x2 ((mmI false (x2.toL.length : Int) [3]) : Int).toNat (0 : Int).toNat)) (sp37 (cutD x2 ((mmI false (x2.toL.length : Int) [3]) : Int).toNat (0 : Int).toNat))), (D.b false)])] : List D))) else none)) else none)) else none) else none)
def s18_0 (x0 x1 x2 : D) : St := sts 29 [(0, V.f x0), (1, V.f x1), (2, V.f x2)] [V.u]
def s18_1 (x6 : D) : St := sts 29 [(6, V.f x6)] [V.u]
theorem e18_0 (N : Nat) (k : Kn R) (x0 x1 x2 : D) : runC PHI Tb38 N vc18_0 (s18_0 x0 x1 x2) k = m18_0 N x0 x1 x2 (fun x6 => k .ret (s18_1 x6)) := by kernel_rfl
theorem r18 (N : Nat) (x0 x1 x2 : D) : runC PHI Tb38 N vf18.body (enterV vf18 [V.f x0, V.f x1, V.f x2] []) (finish vf18) = m18_0 N x0 x1 x2 (fun x6 => finish vf18 .ret (s18_1 x6)) := 
  Eq.trans (runC_pre (s1 := (s18_0 x0 x1 x2)) (by kernel_rfl) _ _) (Eq.trans (e18_0 N (finish vf18) x0 x1 x2) (by kernel_rfl))
end
def Tb18 : CallF := extend Tb38 18 (fn3 pr18 fun l t c => .f (sp18 l t c))
theorem fst_any0 (p : D → Bool) (xs : List D) : leb 0 (fst (fun i => p (xs.getD i .nil)) xs.length 0) = xs.any p := by
  rw [fst_any p xs xs.length 0 (by omega)]; rfl
theorem any_fun {p q : D → Bool} {l : List D} (h : ∀ x, p x = q x) : l.any p = l.any q := by rw [show p = q from funext h]
theorem ok18 : FnOk Try.prog PHI Tb18 := FnOk.add3 hPHI ok38 (by kernel_rfl) fun l t c ha hp => ⟨0, (r18 0 l t c).trans (by
  simp only [pr18, Bool.and_eq_true] at hp
  have hll := leN_le hp.2
  have hcs := (ha.is 2 rfl rfl).sl (e := 3) (by kernel_rfl)
  have hX : (cutD c (mmI false (c.toL.length : Int) [3]).toNat (0 : Int).toNat).toL = c.toL.take 3 := by rw [toL_cut]; exact take_mm c.toL
  have hok : okN (cutD c (mmI false (c.toL.length : Int) [3]).toNat (0 : Int).toNat) = true := by
    refine okN_cut hcs hp.1 _ ?_
    simp only [mmI, cond_false]
    by_cases h : (3 : Int) < c.toL.length
    · simp [h]
    · simp only [h, if_false]
      cases hx : c.toL with
      | nil => exact .inr rfl
      | cons x xs => exact .inl (by simp)
  unfold m18_0 sp18 addS
  rw [mm_guard]
  generalize cutD c (mmI false (c.toL.length : Int) [3]).toNat (0 : Int).toNat = X at hX hok
  have hlen : X.toL.length ≤ 3 := by rw [hX]; simp; omega
  have hpr : pr37 X = true := by
    unfold pr37; rw [hok, leN_t (show X.toL.length ≤ 1099511627776 by omega)]; rfl
  rw [hpr, ← hX]
  simp only [cond_true, sp37n, sp37]
  cases hN : X.isN
  · cases hY : X.toL with
    | nil => rfl
    | cons y ys =>
      have e1 : eqb (((mkD (!false) (y :: ys)).toL.length : Nat) : Int) 0 = false := eqb_f (by simp [mkD, D.toL]; omega)
      have e2 : leN ((sp41 l).length + [D.ag [t, mkD (!false) (y :: ys), .b false]].length) 3518437208883 = true := leN_t (by simp only [sp41, List.length_cons, List.length_nil]; omega)
      have e3 : sp38_39 l (.p t) (.p (mkD (!false) (y :: ys))) = l.toL.any (fun d => eqb (d.at 0).toI t.toI && sp40 (d.at 1) (.sl (y :: ys))) := fst_any0 (fun d => sp39 d (.p t) (.p (.sl (y :: ys)))) l.toL
      rw [e1, e2, e3]
      simp only [cond_false, List.isEmpty_cons, Bool.false_or]
      show (bif true then _ else none) = _
      cases l.toL.any (fun d => eqb (d.at 0).toI t.toI && sp40 (d.at 1) (.sl (y :: ys))) <;> rfl
  · rw [isN_toL hN]; rfl)⟩
/-! ### behind -/
def has (xs : List D) (c : D) : Bool := xs.any fun x => eqb c.toI x.toI
def add1 (xs : List D) (c : D) : List D := bif has xs c then xs else xs ++ [c]
/-- A list with others behind it, each once. -/
def uni (xs ys : List D) : List D := ys.foldl add1 xs
theorem sp36_has (s c : D) : sp36 s c = has s.toL c := fst_any0 (fun x => eqb c.toI x.toI) s.toL
theorem toL_mkD (n : Bool) (xs : List D) : (mkD n xs).toL = xs := by cases n <;> rfl
theorem add1_len (xs : List D) (c : D) : (add1 xs c).length ≤ xs.length + 1 := by
  unfold add1; cases has xs c <;> simp
theorem uni_len : ∀ (ys xs : List D), (uni xs ys).length ≤ xs.length + ys.length
  | [], xs => by simp [uni]
  | y :: ys, xs => by
    have h1 := uni_len ys (add1 xs y)
    have h2 := add1_len xs y
    show (uni (add1 xs y) ys).length ≤ _
    simp only [List.length_cons]; omega
def sp19 (a m : D) : D := mkD (sp37n a) (uni a.toL m.toL)
def pr19 (a m : D) : Bool := okN a && (leN a.toL.length 549755813888 && leN m.toL.length 549755813888)
section
variable {R : Type}
def m19_1 (N : Nat) (x0 x1 : D) (K : D → D → Option R) : Option R :=
  K x0 x1
def s19_0 (x0 x1 : D) : St := sts 26 [(0, V.f x0), (1, V.f x1)] []
theorem e19_1 (N : Nat) (k : Kn R) (x0 x1 : D) : runC PHI Tb18 N vc19_1 (s19_0 x0 x1) k = m19_1 N x0 x1 (fun x0 x1 => k .normal (s19_0 x0 x1)) := by
  refine Eq.trans (runC_post _ _ _ k) (Eq.trans (ops_run _ _ _ _) (by kernel_rfl))
def m19_3 (N : Nat) (x0 x1 : D) (K : D → Bool → List D → Option R) : Option R :=
  (bif (pr37 x0) then K x1 (sp37n x0) (sp37 x0) else none)
def s19_1 (x1 : D) (x5n : Bool) (x5 : List D) : St := sts 26 [(1, V.f x1), (5, V.o x5n x5)] []
theorem e19_3 (N : Nat) (k : Kn R) (x0 x1 : D) : runC PHI Tb18 N vc19_3 (s19_0 x0 x1) k = m19_3 N x0 x1 (fun x1 x5n x5 => k .normal (s19_1 x1 x5n x5)) := by
  refine Eq.trans (runC_post _ _ _ k) (Eq.trans (ops_run _ _ _ _) (by kernel_rfl))
def m19_6 (N : Nat) (x1 : D) (x5n : Bool) (x5 : List D) (K : Bool → List D → D → D → D → Option R) : Option R :=
  K x5n x5 x1 (D.i (x1.toL.length : Int)) (D.i 0)
def s19_2 (x5n : Bool) (x5 : List D) (x10 x11 x12 : D) : St := sts 26 [(5, V.o x5n x5), (10, V.f x10), (11, V.f x11), (12, V.f x12)] []
theorem e19_6 (N : Nat) (k : Kn R) (x1 : D) (x5n : Bool) (x5 : List D) : runC PHI Tb18 N vc19_6 (s19_1 x1 x5n x5) k = m19_6 N x1 x5n x5 (fun x5n x5 x10 x11 x12 => k .normal (s19_2 x5n x5 x10 x11 x12)) := by
  refine Eq.trans (runC_post _ _ _ k) (Eq.trans (ops_run _ _ _ _) (by kernel_rfl))
def m19_9 (N : Nat) (x5n : Bool) (x5 : List D) (x10 x11 x12 : D) (K : Bool → List D → D → D → D → Option R) (K0 : Bool → List D → Option R) : Option R :=
  (bif (ltb x12.toI x11.toI) then (bif (inb x12.toI x10.toL.length) then (bif (!(sp36 (mkD x5n x5) (x10.at (x12.toI : Int).toNat))) then (bif (leN (x5.length + ([(x10.at (x12.toI : Int).toNat)] : List D).length) 17592186044416 && true) then K x5n (x5 ++ ([(x10.at (x12.toI : Int).toNat)] : List D)) x10 x11 (D.i (IntKind.wrap IntKind.i64 (x12.toI + 1))) else none) else K x5n x5 x10 x11 (D.i (IntKind.wrap IntKind.i64 (x12.toI + 1)))) else none) else K0 x5n x5)
def s19_3 (x5n : Bool) (x5 : List D) : St := sts 26 [(5, V.o x5n x5)] []
theorem e19_9 (N : Nat) (k : Kn R) (x5n : Bool) (x5 : List D) (x10 x11 x12 : D) : runC PHI Tb18 N vc19_9 (s19_2 x5n x5 x10 x11 x12) k = m19_9 N x5n x5 x10 x11 x12 (fun x5n x5 x10 x11 x12 => k .normal (s19_2 x5n x5 x10 x11 x12)) (fun x5n x5 => k (.exit 0) (s19_3 x5n x5)) := by kernel_rfl
def l19_8 (N : Nat) (j : Nat) (x5n : Bool) (x5 : List D) (x10 x11 x12 : D) (K0 : Bool → List D → Option R) : Option R :=
  match j with
  | 0 => none
  | j + 1 => (m19_9 N x5n x5 x10 x11 x12 (fun y5n y5 y10 y11 y12 => l19_8 N j y5n y5 y10 y11 y12 K0) K0)
def m19_8 (N : Nat) (x5n : Bool) (x5 : List D) (x10 x11 x12 : D) (K0 : Bool → List D → Option R) : Option R :=
  l19_8 N N x5n x5 x10 x11 x12 K0
theorem el19_8 (N : Nat) (k : Kn R) : ∀ (j : Nat) (x5n : Bool) (x5 : List D) (x10 x11 x12 : D), loopGo (runC PHI Tb18 N vc19_9) j (s19_2 x5n x5 x10 x11 x12) k = l19_8 N j x5n x5 x10 x11 x12 (fun x5n x5 => k (.exit 0) (s19_3 x5n x5))
  | 0, _, _, _, _, _ => by kernel_rfl
  | j + 1, x5n, x5, x10, x11, x12 => by
    have h2 := e19_9 N (kloop PHI Tb18 N vc19_9 j k) x5n x5 x10 x11 x12
    have h3 : (fun (y5n : Bool) (y5 : List D) (y10 y11 y12 : D) => (kloop PHI Tb18 N vc19_9 j k) .normal (s19_2 y5n y5 y10 y11 y12)) = (fun (y5n : Bool) (y5 : List D) (y10 y11 y12 : D) => l19_8 N j y5n y5 y10 y11 y12 (fun x5n x5 => k (.exit 0) (s19_3 x5n x5))) := funext fun y5n => funext fun y5 => funext fun y10 => funext fun y11 => funext fun y12 => (el19_8 N k j y5n y5 y10 y11 y12)
    refine Eq.trans (loop_succ _ j _ k) (Eq.trans h2 (Eq.trans (congrArg (fun K => m19_9 N x5n x5 x10 x11 x12 K (fun x5n x5 => (kloop PHI Tb18 N vc19_9 j k) (.exit 0) (s19_3 x5n x5))) h3) (by kernel_rfl)))
theorem e19_8 (N : Nat) (k : Kn R) (x5n : Bool) (x5 : List D) (x10 x11 x12 : D) : runC PHI Tb18 N vc19_8 (s19_2 x5n x5 x10 x11 x12) k = m19_8 N x5n x5 x10 x11 x12 (fun x5n x5 => k (.exit 0) (s19_3 x5n x5)) := by
  refine Eq.trans (runC_loop _ _ k) (Eq.trans (el19_8 N k N x5n x5 x10 x11 x12) (by kernel_rfl))
def m19_7 (N : Nat) (x5n : Bool) (x5 : List D) (x10 x11 x12 : D) (K : Bool → List D → Option R) : Option R :=
  (m19_8 N x5n x5 x10 x11 x12 (fun y5n y5 => K y5n y5))
theorem e19_7 (N : Nat) (k : Kn R) (x5n : Bool) (x5 : List D) (x10 x11 x12 : D) : runC PHI Tb18 N vc19_7 (s19_2 x5n x5 x10 x11 x12) k = m19_7 N x5n x5 x10 x11 x12 (fun x5n x5 => k .normal (s19_3 x5n x5)) := by
  refine Eq.trans (runC_block _ _ _ k) (Eq.trans (e19_8 N (kblk 0 k) x5n x5 x10 x11 x12) (by kernel_rfl))
def m19_5 (N : Nat) (x1 : D) (x5n : Bool) (x5 : List D) (K : Bool → List D → Option R) : Option R :=
  (m19_6 N x1 x5n x5 (fun y5n y5 y10 y11 y12 => (m19_7 N y5n y5 y10 y11 y12 (fun y5n y5 => K y5n y5))))
theorem e19_5 (N : Nat) (k : Kn R) (x1 : D) (x5n : Bool) (x5 : List D) : runC PHI Tb18 N vc19_5 (s19_1 x1 x5n x5) k = m19_5 N x1 x5n x5 (fun x5n x5 => k .normal (s19_3 x5n x5)) := by
  have h2 := e19_6 N (kseq PHI Tb18 N vc19_7 k) x1 x5n x5
  have h3 := (funext fun y5n => funext fun y5 => funext fun y10 => funext fun y11 => funext fun y12 => (e19_7 N k y5n y5 y10 y11 y12) : (fun (y5n : Bool) (y5 : List D) (y10 y11 y12 : D) => (kseq PHI Tb18 N vc19_7 k) .normal (s19_2 y5n y5 y10 y11 y12)) = _)
  refine Eq.trans (runC_seq _ _ _ k) (Eq.trans h2 (Eq.trans (congrArg (fun K => m19_6 N x1 x5n x5 K) h3) (by kernel_rfl)))
def m19_25 (N : Nat) (x5n : Bool) (x5 : List D) (Kr : D → Option R) : Option R :=
  Kr (mkD x5n x5)
def s19_4 (x4 : D) : St := sts 26 [(4, V.f x4)] []
theorem e19_25 (N : Nat) (k : Kn R) (x5n : Bool) (x5 : List D) : runC PHI Tb18 N vc19_25 (s19_3 x5n x5) k = m19_25 N x5n x5 (fun x4 => k .ret (s19_4 x4)) := by kernel_rfl
def m19_4 (N : Nat) (x1 : D) (x5n : Bool) (x5 : List D) (Kr : D → Option R) : Option R :=
  (m19_5 N x1 x5n x5 (fun y5n y5 => (m19_25 N y5n y5 Kr)))
theorem e19_4 (N : Nat) (k : Kn R) (x1 : D) (x5n : Bool) (x5 : List D) : runC PHI Tb18 N vc19_4 (s19_1 x1 x5n x5) k = m19_4 N x1 x5n x5 (fun x4 => k .ret (s19_4 x4)) := by
  have h2 := e19_5 N (kseq PHI Tb18 N vc19_25 k) x1 x5n x5
  have h3 := (funext fun y5n => funext fun y5 => (e19_25 N k y5n y5) : (fun (y5n : Bool) (y5 : List D) => (kseq PHI Tb18 N vc19_25 k) .normal (s19_3 y5n y5)) = _)
  refine Eq.trans (runC_seq _ _ _ k) (Eq.trans h2 (Eq.trans (congrArg (fun K => m19_5 N x1 x5n x5 K) h3) (by kernel_rfl)))
def m19_2 (N : Nat) (x0 x1 : D) (Kr : D → Option R) : Option R :=
  (m19_3 N x0 x1 (fun y1 y5n y5 => (m19_4 N y1 y5n y5 Kr)))
theorem e19_2 (N : Nat) (k : Kn R) (x0 x1 : D) : runC PHI Tb18 N vc19_2 (s19_0 x0 x1) k = m19_2 N x0 x1 (fun x4 => k .ret (s19_4 x4)) := by
  have h2 := e19_3 N (kseq PHI Tb18 N vc19_4 k) x0 x1
  have h3 := (funext fun y1 => funext fun y5n => funext fun y5 => (e19_4 N k y1 y5n y5) : (fun (y1 : D) (y5n : Bool) (y5 : List D) => (kseq PHI Tb18 N vc19_4 k) .normal (s19_1 y1 y5n y5)) = _)
  refine Eq.trans (runC_seq _ _ _ k) (Eq.trans h2 (Eq.trans (congrArg (fun K => m19_3 N x0 x1 K) h3) (by kernel_rfl)))
def m19_0 (N : Nat) (x0 x1 : D) (Kr : D → Option R) : Option R :=
  (m19_1 N x0 x1 (fun y0 y1 => (m19_2 N y0 y1 Kr)))
theorem e19_0 (N : Nat) (k : Kn R) (x0 x1 : D) : runC PHI Tb18 N vc19_0 (s19_0 x0 x1) k = m19_0 N x0 x1 (fun x4 => k .ret (s19_4 x4)) := by
  have h2 := e19_1 N (kseq PHI Tb18 N vc19_2 k) x0 x1
  have h3 := (funext fun y0 => funext fun y1 => (e19_2 N k y0 y1) : (fun (y0 y1 : D) => (kseq PHI Tb18 N vc19_2 k) .normal (s19_0 y0 y1)) = _)
  refine Eq.trans (runC_seq _ _ _ k) (Eq.trans h2 (Eq.trans (congrArg (fun K => m19_1 N x0 x1 K) h3) (by kernel_rfl)))
theorem r19 (N : Nat) (x0 x1 : D) : runC PHI Tb18 N vf19.body (enterV vf19 [V.f x0, V.f x1] []) (finish vf19) = m19_0 N x0 x1 (fun x4 => finish vf19 .ret (s19_4 x4)) := 
  Eq.trans (runC_pre (s1 := (s19_0 x0 x1)) (by kernel_rfl) _ _) (Eq.trans (e19_0 N (finish vf19) x0 x1) (by kernel_rfl))
end
def Tb19 : CallF := extend Tb18 19 (fn2 pr19 fun a m => .f (sp19 a m))
theorem ok19 : FnOk Try.prog PHI Tb19 := FnOk.add2 hPHI ok18 (by kernel_rfl) fun a m ha hp => ⟨m.toL.length + 1, (r19 _ a m).trans (by
  simp only [pr19, Bool.and_eq_true] at hp
  have h1 := leN_le hp.2.1
  have h2 := leN_le hp.2.2
  have hpr : pr37 a = true := by
    unfold pr37; rw [hp.1, leN_t (show a.toL.length ≤ 1099511627776 by omega)]; rfl
  simp only [m19_0, m19_1, m19_2, m19_3, m19_4, m19_5, m19_6, m19_7, m19_8, m19_25, hpr, cond_true]
  unfold sp19
  have h := loop_fold (fun j i s => l19_8 (m.toL.length + 1) j (sp37n a) s m (.i (m.toL.length : Int)) (.i (i : Nat)) fun y5n y5 => finish vf19 .ret (s19_4 (mkD y5n y5))) (fun s => finish vf19 .ret (s19_4 (mkD (sp37n a) s))) m.toL.length (fun i s => add1 s (m.toL.getD i .nil)) (fun i s => s.length ≤ a.toL.length + i)
    (fun j i s hi hs => by
      simp only [l19_8, m19_9, toI_i, cond_true, ltb_n hi, inb_t hi, at_nat, succ_n hi (show m.toL.length ≤ 9223372036854775807 by omega), sp36_has, toL_mkD, Bool.and_true]
      have e : leN (s.length + [m.toL.getD i D.nil].length) 17592186044416 = true := leN_t (by simp only [List.length_cons, List.length_nil]; omega)
      rw [e]
      unfold add1
      cases has s (m.toL.getD i .nil) <;> rfl)
    (fun i s hi hs => by have := add1_len s (m.toL.getD i .nil); omega)
    (fun j s hs => by simp only [l19_8, m19_9, toI_i, ltb_self, cond_false])
    m.toL.length 0 (m.toL.length + 1) a.toL (by omega) (by omega) (by omega)
  refine h.trans ?_
  rw [foldI_list (g := add1) m.toL m.toL.length 0 a.toL (by omega)]
  rfl)⟩

end Go.Vam.C20
namespace Go.Vam.C20
open Go.Proofs
/-! ### reads -/
theorem of_eq {q : D} {a f : Int} (hf : 0 ≤ f) (d : D) (hd : d.toI = a) : (sp33_2 q d && eqb (sp33_0 q d) f) = eqb (sp43 q d) f := by
  unfold sp33_2 sp33_0 sp43
  generalize rawT q d.toI = r
  by_cases h : 0 ≤ r
  · simp only [leb_t h, Bool.true_and, cond_true]
    by_cases h2 : r < ((q.at 0).toL.length : Int)
    · simp only [ltb_t h2, Bool.true_and, cond_true]
    · simp only [ltb_f h2, Bool.false_and, cond_false]
      rw [eqb_f (by omega)]
  · simp only [leb_f h, Bool.false_and, cond_false]
    rw [eqb_f (by omega)]
/-- Has a node a column of a table? -/
def rdN : Nat → D → D → Int → Bool
  | 0, _, _, _ => false
  | n + 1, q, x, f => bif eqb (x.at 0).toI 2 then eqb (sp43 q (x.at 3)) f else (x.at 6).toL.any fun y => rdN n q y f
def spx35 (n : Nat) (q x f : D) : Bool := rdN n q x f.toI
def prx35 (n : Nat) (_ x f : D) : Bool := leb 0 f.toI && depOk n x
def Tx35 (n : Nat) : CallF := extend Tb19 35 (fn3 (prx35 n) fun q x f => .f (.b (spx35 n q x f)))
def spx49 (n : Nat) (x q f : D) : Bool := rdN n q.deref x f.deref.toI
def prx49 (n : Nat) (x q f : D) : Bool := isPtrD q && (isPtrD f && prx35 n q.deref x f.deref)
section
variable {R : Type}
def m49_0 (n N : Nat) (x0 x1 x2 : D) (Kr : D → Option R) : Option R :=
  (bif (isPtrD x1) then (bif (isPtrD x2) then (bif (prx35 n x1.deref x0 x2.deref) then Kr (D.b (spx35 n x1.deref x0 x2.deref)) else none) else none) else none)
def s49_0 (x0 x1 x2 : D) : St := sts 9 [(0, V.f x0), (1, V.f x1), (2, V.f x2)] []
def s49_1 (x4 : D) : St := sts 9 [(4, V.f x4)] []
theorem e49_0 (n N : Nat) (k : Kn R) (x0 x1 x2 : D) : runC PHI (Tx35 n) N vc49_0 (s49_0 x0 x1 x2) k = m49_0 n N x0 x1 x2 (fun x4 => k .ret (s49_1 x4)) := by kernel_rfl
theorem r49 (n N : Nat) (x0 x1 x2 : D) : runC PHI (Tx35 n) N vf49.body (enterV vf49 [V.f x0, V.f x1, V.f x2] []) (finish vf49) = m49_0 n N x0 x1 x2 (fun x4 => finish vf49 .ret (s49_1 x4)) := 
  Eq.trans (runC_pre (s1 := (s49_0 x0 x1 x2)) (by kernel_rfl) _ _) (Eq.trans (e49_0 n N (finish vf49) x0 x1 x2) (by kernel_rfl))
end
def Tx49 (n : Nat) : CallF := extend (Tx35 n) 49 (fn3 (prx49 n) fun x q f => .f (.b (spx49 n x q f)))
theorem okx49 (n : Nat) (h : FnOk Try.prog PHI (Tx35 n)) : FnOk Try.prog PHI (Tx49 n) := FnOk.add3 hPHI h (by kernel_rfl) fun x q f ha hp => ⟨0, (r49 n 0 x q f).trans (by
  simp only [prx49, Bool.and_eq_true] at hp
  unfold m49_0
  rw [hp.1, hp.2.1, hp.2.2]; rfl)⟩
def spx52_49 (n : Nat) (s q f : D) : Int := fst (fun i => spx49 n (s.toL.getD i .nil) q f) s.toL.length 0
def prx52_49 (n : Nat) (s q f : D) : Bool := isPtrD q && (isPtrD f && (leb 0 f.deref.toI && s.toL.all (depOk n)))
section
variable {R : Type}
def m52_1 (n N : Nat) (x0 x1_0 x1_1 : D) (K : D → D → D → Option R) : Option R :=
  K x0 x1_0 x1_1
def s52_0 (x0 x1_0 x1_1 : D) : St := sts 19 [(0, V.f x0), (1, V.fn 49 [V.f x1_0, V.f x1_1] [Ty.p 26, Ty.p 3])] []
theorem e52_1 (n N : Nat) (k : Kn R) (x0 x1_0 x1_1 : D) : runC PHI (Tx49 n) N vc52_1 (s52_0 x0 x1_0 x1_1) k = m52_1 n N x0 x1_0 x1_1 (fun x0 x1_0 x1_1 => k .normal (s52_0 x0 x1_0 x1_1)) := by
  refine Eq.trans (runC_post _ _ _ k) (Eq.trans (ops_run _ _ _ _) (by kernel_rfl))
def m52_4 (n N : Nat) (x0 x1_0 x1_1 : D) (K : D → D → D → D → D → Option R) : Option R :=
  K x0 x1_0 x1_1 (D.i (x0.toL.length : Int)) (D.i 0)
def s52_1 (x0 x1_0 x1_1 x7 x8 : D) : St := sts 19 [(0, V.f x0), (1, V.fn 49 [V.f x1_0, V.f x1_1] [Ty.p 26, Ty.p 3]), (7, V.f x7), (8, V.f x8)] []
theorem e52_4 (n N : Nat) (k : Kn R) (x0 x1_0 x1_1 : D) : runC PHI (Tx49 n) N vc52_4 (s52_0 x0 x1_0 x1_1) k = m52_4 n N x0 x1_0 x1_1 (fun x0 x1_0 x1_1 x7 x8 => k .normal (s52_1 x0 x1_0 x1_1 x7 x8)) := by
  refine Eq.trans (runC_post _ _ _ k) (Eq.trans (ops_run _ _ _ _) (by kernel_rfl))
def m52_7 (n N : Nat) (x0 x1_0 x1_1 x7 x8 : D) (K : D → D → D → D → D → Option R) (K0 : Option R) (Kr : D → Option R) : Option R :=
  (bif (ltb x8.toI x7.toI) then (bif (inb x8.toI x0.toL.length) then (bif (prx49 n (x0.at (x8.toI : Int).toNat) x1_0 x1_1) then (bif (spx49 n (x0.at (x8.toI : Int).toNat) x1_0 x1_1) then Kr x8 else K x0 x1_0 x1_1 x7 (D.i (IntKind.wrap IntKind.i64 (x8.toI + 1)))) else none) else none) else K0)
def s52_2 : St := sts 19 [] []
def s52_3 (x4 : D) : St := sts 19 [(4, V.f x4)] []
theorem e52_7 (n N : Nat) (k : Kn R) (x0 x1_0 x1_1 x7 x8 : D) : runC PHI (Tx49 n) N vc52_7 (s52_1 x0 x1_0 x1_1 x7 x8) k = m52_7 n N x0 x1_0 x1_1 x7 x8 (fun x0 x1_0 x1_1 x7 x8 => k .normal (s52_1 x0 x1_0 x1_1 x7 x8)) (k (.exit 0) s52_2) (fun x4 => k .ret (s52_3 x4)) := by kernel_rfl
def l52_6 (n N : Nat) (j : Nat) (x0 x1_0 x1_1 x7 x8 : D) (K0 : Option R) (Kr : D → Option R) : Option R :=
  match j with
  | 0 => none
  | j + 1 => (m52_7 n N x0 x1_0 x1_1 x7 x8 (fun y0 y1_0 y1_1 y7 y8 => l52_6 n N j y0 y1_0 y1_1 y7 y8 K0 Kr) K0 Kr)
def m52_6 (n N : Nat) (x0 x1_0 x1_1 x7 x8 : D) (K0 : Option R) (Kr : D → Option R) : Option R :=
  l52_6 n N N x0 x1_0 x1_1 x7 x8 K0 Kr
theorem el52_6 (n N : Nat) (k : Kn R) : ∀ (j : Nat) (x0 x1_0 x1_1 x7 x8 : D), loopGo (runC PHI (Tx49 n) N vc52_7) j (s52_1 x0 x1_0 x1_1 x7 x8) k = l52_6 n N j x0 x1_0 x1_1 x7 x8 (k (.exit 0) s52_2) (fun x4 => k .ret (s52_3 x4))
  | 0, _, _, _, _, _ => by kernel_rfl
  | j + 1, x0, x1_0, x1_1, x7, x8 => by
    have h2 := e52_7 n N (kloop PHI (Tx49 n) N vc52_7 j k) x0 x1_0 x1_1 x7 x8
    have h3 : (fun (y0 y1_0 y1_1 y7 y8 : D) => (kloop PHI (Tx49 n) N vc52_7 j k) .normal (s52_1 y0 y1_0 y1_1 y7 y8)) = (fun (y0 y1_0 y1_1 y7 y8 : D) => l52_6 n N j y0 y1_0 y1_1 y7 y8 (k (.exit 0) s52_2) (fun x4 => k .ret (s52_3 x4))) := funext fun y0 => funext fun y1_0 => funext fun y1_1 => funext fun y7 => funext fun y8 => (el52_6 n N k j y0 y1_0 y1_1 y7 y8)
    refine Eq.trans (loop_succ _ j _ k) (Eq.trans h2 (Eq.trans (congrArg (fun K => m52_7 n N x0 x1_0 x1_1 x7 x8 K ((kloop PHI (Tx49 n) N vc52_7 j k) (.exit 0) s52_2) (fun x4 => (kloop PHI (Tx49 n) N vc52_7 j k) .ret (s52_3 x4))) h3) (by kernel_rfl)))
theorem e52_6 (n N : Nat) (k : Kn R) (x0 x1_0 x1_1 x7 x8 : D) : runC PHI (Tx49 n) N vc52_6 (s52_1 x0 x1_0 x1_1 x7 x8) k = m52_6 n N x0 x1_0 x1_1 x7 x8 (k (.exit 0) s52_2) (fun x4 => k .ret (s52_3 x4)) := by
  refine Eq.trans (runC_loop _ _ k) (Eq.trans (el52_6 n N k N x0 x1_0 x1_1 x7 x8) (by kernel_rfl))
def m52_5 (n N : Nat) (x0 x1_0 x1_1 x7 x8 : D) (K : Option R) (Kr : D → Option R) : Option R :=
  (m52_6 n N x0 x1_0 x1_1 x7 x8 (K) Kr)
theorem e52_5 (n N : Nat) (k : Kn R) (x0 x1_0 x1_1 x7 x8 : D) : runC PHI (Tx49 n) N vc52_5 (s52_1 x0 x1_0 x1_1 x7 x8) k = m52_5 n N x0 x1_0 x1_1 x7 x8 (k .normal s52_2) (fun x4 => k .ret (s52_3 x4)) := by
  refine Eq.trans (runC_block _ _ _ k) (Eq.trans (e52_6 n N (kblk 0 k) x0 x1_0 x1_1 x7 x8) (by kernel_rfl))
def m52_3 (n N : Nat) (x0 x1_0 x1_1 : D) (K : Option R) (Kr : D → Option R) : Option R :=
  (m52_4 n N x0 x1_0 x1_1 (fun y0 y1_0 y1_1 y7 y8 => (m52_5 n N y0 y1_0 y1_1 y7 y8 (K) Kr)))
theorem e52_3 (n N : Nat) (k : Kn R) (x0 x1_0 x1_1 : D) : runC PHI (Tx49 n) N vc52_3 (s52_0 x0 x1_0 x1_1) k = m52_3 n N x0 x1_0 x1_1 (k .normal s52_2) (fun x4 => k .ret (s52_3 x4)) := by
  have h2 := e52_4 n N (kseq PHI (Tx49 n) N vc52_5 k) x0 x1_0 x1_1
  have h3 := (funext fun y0 => funext fun y1_0 => funext fun y1_1 => funext fun y7 => funext fun y8 => (e52_5 n N k y0 y1_0 y1_1 y7 y8) : (fun (y0 y1_0 y1_1 y7 y8 : D) => (kseq PHI (Tx49 n) N vc52_5 k) .normal (s52_1 y0 y1_0 y1_1 y7 y8)) = _)
  refine Eq.trans (runC_seq _ _ _ k) (Eq.trans h2 (Eq.trans (congrArg (fun K => m52_4 n N x0 x1_0 x1_1 K) h3) (by kernel_rfl)))
def m52_25 (n N : Nat) (Kr : D → Option R) : Option R :=
  Kr (D.i (-1))
theorem e52_25 (n N : Nat) (k : Kn R) : runC PHI (Tx49 n) N vc52_25 s52_2 k = m52_25 n N (fun x4 => k .ret (s52_3 x4)) := by kernel_rfl
def m52_2 (n N : Nat) (x0 x1_0 x1_1 : D) (Kr : D → Option R) : Option R :=
  (m52_3 n N x0 x1_0 x1_1 ((m52_25 n N Kr)) Kr)
theorem e52_2 (n N : Nat) (k : Kn R) (x0 x1_0 x1_1 : D) : runC PHI (Tx49 n) N vc52_2 (s52_0 x0 x1_0 x1_1) k = m52_2 n N x0 x1_0 x1_1 (fun x4 => k .ret (s52_3 x4)) := by
  have h2 := e52_3 n N (kseq PHI (Tx49 n) N vc52_25 k) x0 x1_0 x1_1
  have h3 := ((e52_25 n N k ) : ((kseq PHI (Tx49 n) N vc52_25 k) .normal s52_2) = _)
  refine Eq.trans (runC_seq _ _ _ k) (Eq.trans h2 (Eq.trans (congrArg (fun K => m52_3 n N x0 x1_0 x1_1 K (fun x4 => (kseq PHI (Tx49 n) N vc52_25 k) .ret (s52_3 x4))) h3) (by kernel_rfl)))
def m52_0 (n N : Nat) (x0 x1_0 x1_1 : D) (Kr : D → Option R) : Option R :=
  (m52_1 n N x0 x1_0 x1_1 (fun y0 y1_0 y1_1 => (m52_2 n N y0 y1_0 y1_1 Kr)))
theorem e52_0 (n N : Nat) (k : Kn R) (x0 x1_0 x1_1 : D) : runC PHI (Tx49 n) N vc52_0 (s52_0 x0 x1_0 x1_1) k = m52_0 n N x0 x1_0 x1_1 (fun x4 => k .ret (s52_3 x4)) := by
  have h2 := e52_1 n N (kseq PHI (Tx49 n) N vc52_2 k) x0 x1_0 x1_1
  have h3 := (funext fun y0 => funext fun y1_0 => funext fun y1_1 => (e52_2 n N k y0 y1_0 y1_1) : (fun (y0 y1_0 y1_1 : D) => (kseq PHI (Tx49 n) N vc52_2 k) .normal (s52_0 y0 y1_0 y1_1)) = _)
  refine Eq.trans (runC_seq _ _ _ k) (Eq.trans h2 (Eq.trans (congrArg (fun K => m52_1 n N x0 x1_0 x1_1 K) h3) (by kernel_rfl)))
theorem r52 (n N : Nat) (x0 x1_0 x1_1 : D) : runC PHI (Tx49 n) N vf52.body (enterV vf52 [V.f x0, V.fn 49 [V.f x1_0, V.f x1_1] [Ty.p 26, Ty.p 3]] []) (finish vf52) = m52_0 n N x0 x1_0 x1_1 (fun x4 => finish vf52 .ret (s52_3 x4)) := 
  Eq.trans (runC_pre (s1 := (s52_0 x0 x1_0 x1_1)) (by kernel_rfl) _ _) (Eq.trans (e52_0 n N (finish vf52) x0 x1_0 x1_1) (by kernel_rfl))
end
def Tx52 (n : Nat) : CallF := extend (Tx49 n) 52 (fc2 49 [Ty.p 26, Ty.p 3] (prx52_49 n) fun s q f => .f (.i (spx52_49 n s q f)))
theorem okx52 (n : Nat) (h : FnOk Try.prog PHI (Tx49 n)) : FnOk Try.prog PHI (Tx52 n) := FnOk.addc2 hPHI h (by kernel_rfl) fun s t c ha hp => ⟨s.toL.length + 1, (r52 n _ s t c).trans (by
  simp only [prx52_49, Bool.and_eq_true, List.all_eq_true] at hp
  have hl := (ha.is 0 rfl rfl).len' (e := 42) (by kernel_rfl)
  simp only [m52_0, m52_1, m52_2, m52_3, m52_4, m52_5, m52_6, m52_25]
  have h := loop_find (fun j i => l52_6 n (s.toL.length + 1) j s t c (.i (s.toL.length : Int)) (.i (i : Nat)) (finish vf52 .ret (s52_3 (.i (-1)))) (fun x4 => finish vf52 .ret (s52_3 x4))) (fun i => spx49 n (s.toL.getD i .nil) t c) s.toL.length (finish vf52 .ret (s52_3 (.i (-1)))) (fun i => finish vf52 .ret (s52_3 (.i (i : Int))))
    (fun j i hi => by
      have e : s.toL.getD i .nil = s.toL[i] := by rw [List.getD_eq_getElem?_getD, List.getElem?_eq_getElem hi]; rfl
      simp only [l52_6, m52_7, toI_i, cond_true, ltb_n hi, inb_t hi, at_nat, succ_n hi hl, e, prx49, prx35, hp.1, hp.2.1, hp.2.2.1, hp.2.2.2 _ (List.getElem_mem hi), Bool.and_self])
    (fun j => by simp only [l52_6, m52_7, toI_i, ltb_self, cond_false])
    s.toL.length 0 (s.toL.length + 1) (by omega) (by omega)
  exact h.trans (fst_res (K := fun r => finish vf52 .ret (s52_3 (.i r)))))⟩
def spx48_49 (n : Nat) (s q f : D) : Bool := leb 0 (spx52_49 n s q f)
def prx48_49 (n : Nat) (s q f : D) : Bool := prx52_49 n s q f
section
variable {R : Type}
def m48_0 (n N : Nat) (x0 x1_0 x1_1 : D) (Kr : D → Option R) : Option R :=
  (bif (prx52_49 n x0 x1_0 x1_1) then Kr (D.b (leb 0 (spx52_49 n x0 x1_0 x1_1))) else none)
def s48_0 (x0 x1_0 x1_1 : D) : St := sts 9 [(0, V.f x0), (1, V.fn 49 [V.f x1_0, V.f x1_1] [Ty.p 26, Ty.p 3])] []
def s48_1 (x4 : D) : St := sts 9 [(4, V.f x4)] []
theorem e48_0 (n N : Nat) (k : Kn R) (x0 x1_0 x1_1 : D) : runC PHI (Tx52 n) N vc48_0 (s48_0 x0 x1_0 x1_1) k = m48_0 n N x0 x1_0 x1_1 (fun x4 => k .ret (s48_1 x4)) := by kernel_rfl
theorem r48 (n N : Nat) (x0 x1_0 x1_1 : D) : runC PHI (Tx52 n) N vf48.body (enterV vf48 [V.f x0, V.fn 49 [V.f x1_0, V.f x1_1] [Ty.p 26, Ty.p 3]] []) (finish vf48) = m48_0 n N x0 x1_0 x1_1 (fun x4 => finish vf48 .ret (s48_1 x4)) := 
  Eq.trans (runC_pre (s1 := (s48_0 x0 x1_0 x1_1)) (by kernel_rfl) _ _) (Eq.trans (e48_0 n N (finish vf48) x0 x1_0 x1_1) (by kernel_rfl))
end
def Tx48 (n : Nat) : CallF := extend (Tx52 n) 48 (fc2 49 [Ty.p 26, Ty.p 3] (prx48_49 n) fun s q f => .f (.b (spx48_49 n s q f)))
theorem okx48 (n : Nat) (h : FnOk Try.prog PHI (Tx52 n)) : FnOk Try.prog PHI (Tx48 n) := FnOk.addc2 hPHI h (by kernel_rfl) fun s t c ha hp => ⟨0, (r48 n 0 s t c).trans (by
  unfold m48_0
  rw [show prx52_49 n s t c = true from hp]; rfl)⟩
section
variable {R : Type}
def m35_0 (n N : Nat) (x0 x1 x2 : D) (Kr : D → Option R) : Option R :=
  (bif (eqb (x1.at 0).toI 2) then (bif (sp33_2 x0 (x1.at 3)) then Kr (D.b (eqb (sp33_0 x0 (x1.at 3)) x2.toI)) else Kr (D.b false)) else (bif (prx48_49 n (x1.at 6) (D.p x0) (D.p x2)) then Kr (D.b (spx48_49 n (x1.at 6) (D.p x0) (D.p x2))) else none))
def s35_0 (x0 x1 x2 : D) : St := sts 31 [(0, V.f x0), (1, V.f x1), (2, V.f x2)] []
def s35_1 (x6 : D) : St := sts 31 [(6, V.f x6)] []
theorem e35_0 (n N : Nat) (k : Kn R) (x0 x1 x2 : D) : runC PHI (Tx48 n) N vc35_0 (s35_0 x0 x1 x2) k = m35_0 n N x0 x1 x2 (fun x6 => k .ret (s35_1 x6)) := by kernel_rfl
theorem r35 (n N : Nat) (x0 x1 x2 : D) : runC PHI (Tx48 n) N vf35.body (enterV vf35 [V.f x0, V.f x1, V.f x2] []) (finish vf35) = m35_0 n N x0 x1 x2 (fun x6 => finish vf35 .ret (s35_1 x6)) := 
  Eq.trans (runC_pre (s1 := (s35_0 x0 x1 x2)) (by kernel_rfl) _ _) (Eq.trans (e35_0 n N (finish vf35) x0 x1 x2) (by kernel_rfl))
end
theorem okx35 : ∀ n, FnOk Try.prog PHI (Tx35 n) := by
  refine FnOk.rec2 Try.prog PHI hPHI ok19 (vf := vf35) (by kernel_rfl) (fun n => fn3 (prx35 n) fun q x f => .f (.b (spx35 n q x f))) (fun args => ?_) (fun n hn => ⟨Tx48 n, okx48 n (okx52 n (okx49 n hn)), fun args r H' ha hr => ?_⟩)
  · unfold fn3; split
    · simp [prx35, depOk, toO]
    · rfl
  · unfold fn3 at hr
    split at hr
    · rename_i q x f
      obtain ⟨h1, h2⟩ := toO_some hr
      injection h2 with h2 h3; subst h2; subst h3
      simp only [prx35, Bool.and_eq_true] at h1
      refine ⟨0, (r35 n 0 q x f).trans ?_⟩
      have hpr : prx48_49 n (x.at 6) (.p q) (.p f) = true := by
        simp only [prx48_49, prx52_49, isPtr_p, deref_p, h1.1, Bool.true_and]
        exact h1.2
      have hsp : spx48_49 n (x.at 6) (.p q) (.p f) = (x.at 6).toL.any fun y => rdN n q y f.toI := fst_any0 (fun y => spx49 n y (.p q) (.p f)) (x.at 6).toL
      unfold m35_0
      rw [hpr, hsp]
      show _ = some (V.f (.b (rdN (n + 1) q x f.toI)), [])
      rw [rdN, ← of_eq (of_decide_eq_true h1.1) (x.at 3) rfl]
      cases eqb (x.at 0).toI 2
      · rfl
      · cases sp33_2 q (x.at 3) <;> rfl
    · cases hr
def sp35 (q x f : D) : Bool := rdN x.wt q x f.toI
def pr35 (_ _ f : D) : Bool := leb 0 f.toI
def Tb35 : CallF := extend Tb19 35 (fn3 pr35 fun q x f => .f (.b (sp35 q x f)))
theorem ok35 : FnOk Try.prog PHI Tb35 := FnOk.lim okx35 fun args r hr => by
  unfold fn3 at hr
  split at hr
  · rename_i q x f
    refine ⟨x.wt, ?_⟩
    obtain ⟨h1, h2⟩ := toO_some hr
    show toO (prx35 x.wt q x f, _, _) = _
    rw [show prx35 x.wt q x f = true by simp only [prx35, depOk_size _ _ (Nat.le_refl _), Bool.and_true]; exact h1, ← h2]
    rfl
  · cases hr
/-! ### reads, the document's -/
def spx44 (n : Nat) (q x f : D) : Bool := rdN n q x f.toI
def prx44 (n : Nat) (_ x _f : D) : Bool := depOk n x
def Tx44 (n : Nat) : CallF := extend Tb35 44 (fn3 (prx44 n) fun q x f => .f (.b (spx44 n q x f)))
section
variable {R : Type}
def m44_1 (n N : Nat) (x0 x1 x2 : D) (K : D → D → D → Option R) : Option R :=
  K x2 (D.p x0) (D.p x1)
def s44_0 (x0 x1 x2 : D) : St := sts 32 [(0, V.f x0), (1, V.f x1), (2, V.f x2)] []
def s44_1 (x2 x3 x4 : D) : St := sts 32 [(2, V.f x2), (3, V.f x3), (4, V.f x4)] []
theorem e44_1 (n N : Nat) (k : Kn R) (x0 x1 x2 : D) : runC PHI (Tx44 n) N vc44_1 (s44_0 x0 x1 x2) k = m44_1 n N x0 x1 x2 (fun x2 x3 x4 => k .normal (s44_1 x2 x3 x4)) := by
  refine Eq.trans (runC_post _ _ _ k) (Eq.trans (ops_run _ _ _ _) (by kernel_rfl))
def m44_3 (n N : Nat) (x2 x3 x4 : D) (K : D → D → D → Option R) (Kr : D → Option R) : Option R :=
  (bif (isPtrD x4) then (bif (eqb (x4.deref.at 0).toI 2) then (bif (isPtrD x3) then (bif (isPtrD x4) then Kr (D.b (eqb (sp43 x3.deref (x4.deref.at 3)) x2.toI)) else none) else none) else K x2 x3 x4) else none)
def s44_2 (x6 : D) : St := sts 32 [(6, V.f x6)] []
theorem e44_3 (n N : Nat) (k : Kn R) (x2 x3 x4 : D) : runC PHI (Tx44 n) N vc44_3 (s44_1 x2 x3 x4) k = m44_3 n N x2 x3 x4 (fun x2 x3 x4 => k .normal (s44_1 x2 x3 x4)) (fun x6 => k .ret (s44_2 x6)) := by kernel_rfl
def m44_12 (n N : Nat) (x2 x3 x4 : D) (K : D → D → D → D → Option R) : Option R :=
  K x2 x3 x4 (D.i 0)
def s44_3 (x2 x3 x4 x7 : D) : St := sts 32 [(2, V.f x2), (3, V.f x3), (4, V.f x4), (7, V.f x7)] []
theorem e44_12 (n N : Nat) (k : Kn R) (x2 x3 x4 : D) : runC PHI (Tx44 n) N vc44_12 (s44_1 x2 x3 x4) k = m44_12 n N x2 x3 x4 (fun x2 x3 x4 x7 => k .normal (s44_3 x2 x3 x4 x7)) := by
  refine Eq.trans (runC_post _ _ _ k) (Eq.trans (ops_run _ _ _ _) (by kernel_rfl))
def m44_15 (n N : Nat) (x2 x3 x4 x7 : D) (K : D → D → D → D → Option R) (K0 : Option R) (Kr : D → Option R) : Option R :=
  (bif (isPtrD x4) then (bif (ltb x7.toI ((x4.deref.at 6).toL.length : Int)) then (bif (isPtrD x3) then (bif (isPtrD x4) then (bif (inb x7.toI (x4.deref.at 6).toL.length) then (bif (prx44 n x3.deref ((x4.deref.at 6).at (x7.toI : Int).toNat) x2) then (bif (spx44 n x3.deref ((x4.deref.at 6).at (x7.toI : Int).toNat) x2) then Kr (D.b true) else K x2 x3 x4 (D.i (IntKind.wrap IntKind.i64 (x7.toI + 1)))) else none) else none) else none) else none) else K0) else none)
def s44_4 : St := sts 32 [] []
theorem e44_15 (n N : Nat) (k : Kn R) (x2 x3 x4 x7 : D) : runC PHI (Tx44 n) N vc44_15 (s44_3 x2 x3 x4 x7) k = m44_15 n N x2 x3 x4 x7 (fun x2 x3 x4 x7 => k .normal (s44_3 x2 x3 x4 x7)) (k (.exit 0) s44_4) (fun x6 => k .ret (s44_2 x6)) := by kernel_rfl
def l44_14 (n N : Nat) (j : Nat) (x2 x3 x4 x7 : D) (K0 : Option R) (Kr : D → Option R) : Option R :=
  match j with
  | 0 => none
  | j + 1 => (m44_15 n N x2 x3 x4 x7 (fun y2 y3 y4 y7 => l44_14 n N j y2 y3 y4 y7 K0 Kr) K0 Kr)
def m44_14 (n N : Nat) (x2 x3 x4 x7 : D) (K0 : Option R) (Kr : D → Option R) : Option R :=
  l44_14 n N N x2 x3 x4 x7 K0 Kr
theorem el44_14 (n N : Nat) (k : Kn R) : ∀ (j : Nat) (x2 x3 x4 x7 : D), loopGo (runC PHI (Tx44 n) N vc44_15) j (s44_3 x2 x3 x4 x7) k = l44_14 n N j x2 x3 x4 x7 (k (.exit 0) s44_4) (fun x6 => k .ret (s44_2 x6))
  | 0, _, _, _, _ => by kernel_rfl
  | j + 1, x2, x3, x4, x7 => by
    have h2 := e44_15 n N (kloop PHI (Tx44 n) N vc44_15 j k) x2 x3 x4 x7
    have h3 : (fun (y2 y3 y4 y7 : D) => (kloop PHI (Tx44 n) N vc44_15 j k) .normal (s44_3 y2 y3 y4 y7)) = (fun (y2 y3 y4 y7 : D) => l44_14 n N j y2 y3 y4 y7 (k (.exit 0) s44_4) (fun x6 => k .ret (s44_2 x6))) := funext fun y2 => funext fun y3 => funext fun y4 => funext fun y7 => (el44_14 n N k j y2 y3 y4 y7)
    refine Eq.trans (loop_succ _ j _ k) (Eq.trans h2 (Eq.trans (congrArg (fun K => m44_15 n N x2 x3 x4 x7 K ((kloop PHI (Tx44 n) N vc44_15 j k) (.exit 0) s44_4) (fun x6 => (kloop PHI (Tx44 n) N vc44_15 j k) .ret (s44_2 x6))) h3) (by kernel_rfl)))
theorem e44_14 (n N : Nat) (k : Kn R) (x2 x3 x4 x7 : D) : runC PHI (Tx44 n) N vc44_14 (s44_3 x2 x3 x4 x7) k = m44_14 n N x2 x3 x4 x7 (k (.exit 0) s44_4) (fun x6 => k .ret (s44_2 x6)) := by
  refine Eq.trans (runC_loop _ _ k) (Eq.trans (el44_14 n N k N x2 x3 x4 x7) (by kernel_rfl))
def m44_13 (n N : Nat) (x2 x3 x4 x7 : D) (K : Option R) (Kr : D → Option R) : Option R :=
  (m44_14 n N x2 x3 x4 x7 (K) Kr)
theorem e44_13 (n N : Nat) (k : Kn R) (x2 x3 x4 x7 : D) : runC PHI (Tx44 n) N vc44_13 (s44_3 x2 x3 x4 x7) k = m44_13 n N x2 x3 x4 x7 (k .normal s44_4) (fun x6 => k .ret (s44_2 x6)) := by
  refine Eq.trans (runC_block _ _ _ k) (Eq.trans (e44_14 n N (kblk 0 k) x2 x3 x4 x7) (by kernel_rfl))
def m44_11 (n N : Nat) (x2 x3 x4 : D) (K : Option R) (Kr : D → Option R) : Option R :=
  (m44_12 n N x2 x3 x4 (fun y2 y3 y4 y7 => (m44_13 n N y2 y3 y4 y7 (K) Kr)))
theorem e44_11 (n N : Nat) (k : Kn R) (x2 x3 x4 : D) : runC PHI (Tx44 n) N vc44_11 (s44_1 x2 x3 x4) k = m44_11 n N x2 x3 x4 (k .normal s44_4) (fun x6 => k .ret (s44_2 x6)) := by
  have h2 := e44_12 n N (kseq PHI (Tx44 n) N vc44_13 k) x2 x3 x4
  have h3 := (funext fun y2 => funext fun y3 => funext fun y4 => funext fun y7 => (e44_13 n N k y2 y3 y4 y7) : (fun (y2 y3 y4 y7 : D) => (kseq PHI (Tx44 n) N vc44_13 k) .normal (s44_3 y2 y3 y4 y7)) = _)
  refine Eq.trans (runC_seq _ _ _ k) (Eq.trans h2 (Eq.trans (congrArg (fun K => m44_12 n N x2 x3 x4 K) h3) (by kernel_rfl)))
def m44_31 (n N : Nat) (Kr : D → Option R) : Option R :=
  Kr (D.b false)
theorem e44_31 (n N : Nat) (k : Kn R) : runC PHI (Tx44 n) N vc44_31 s44_4 k = m44_31 n N (fun x6 => k .ret (s44_2 x6)) := by kernel_rfl
def m44_10 (n N : Nat) (x2 x3 x4 : D) (Kr : D → Option R) : Option R :=
  (m44_11 n N x2 x3 x4 ((m44_31 n N Kr)) Kr)
theorem e44_10 (n N : Nat) (k : Kn R) (x2 x3 x4 : D) : runC PHI (Tx44 n) N vc44_10 (s44_1 x2 x3 x4) k = m44_10 n N x2 x3 x4 (fun x6 => k .ret (s44_2 x6)) := by
  have h2 := e44_11 n N (kseq PHI (Tx44 n) N vc44_31 k) x2 x3 x4
  have h3 := ((e44_31 n N k ) : ((kseq PHI (Tx44 n) N vc44_31 k) .normal s44_4) = _)
  refine Eq.trans (runC_seq _ _ _ k) (Eq.trans h2 (Eq.trans (congrArg (fun K => m44_11 n N x2 x3 x4 K (fun x6 => (kseq PHI (Tx44 n) N vc44_31 k) .ret (s44_2 x6))) h3) (by kernel_rfl)))
def m44_2 (n N : Nat) (x2 x3 x4 : D) (Kr : D → Option R) : Option R :=
  (m44_3 n N x2 x3 x4 (fun y2 y3 y4 => (m44_10 n N y2 y3 y4 Kr)) Kr)
theorem e44_2 (n N : Nat) (k : Kn R) (x2 x3 x4 : D) : runC PHI (Tx44 n) N vc44_2 (s44_1 x2 x3 x4) k = m44_2 n N x2 x3 x4 (fun x6 => k .ret (s44_2 x6)) := by
  have h2 := e44_3 n N (kseq PHI (Tx44 n) N vc44_10 k) x2 x3 x4
  have h3 := (funext fun y2 => funext fun y3 => funext fun y4 => (e44_10 n N k y2 y3 y4) : (fun (y2 y3 y4 : D) => (kseq PHI (Tx44 n) N vc44_10 k) .normal (s44_1 y2 y3 y4)) = _)
  refine Eq.trans (runC_seq _ _ _ k) (Eq.trans h2 (Eq.trans (congrArg (fun K => m44_3 n N x2 x3 x4 K (fun x6 => (kseq PHI (Tx44 n) N vc44_10 k) .ret (s44_2 x6))) h3) (by kernel_rfl)))
def m44_0 (n N : Nat) (x0 x1 x2 : D) (Kr : D → Option R) : Option R :=
  (m44_1 n N x0 x1 x2 (fun y2 y3 y4 => (m44_2 n N y2 y3 y4 Kr)))
theorem e44_0 (n N : Nat) (k : Kn R) (x0 x1 x2 : D) : runC PHI (Tx44 n) N vc44_0 (s44_0 x0 x1 x2) k = m44_0 n N x0 x1 x2 (fun x6 => k .ret (s44_2 x6)) := by
  have h2 := e44_1 n N (kseq PHI (Tx44 n) N vc44_2 k) x0 x1 x2
  have h3 := (funext fun y2 => funext fun y3 => funext fun y4 => (e44_2 n N k y2 y3 y4) : (fun (y2 y3 y4 : D) => (kseq PHI (Tx44 n) N vc44_2 k) .normal (s44_1 y2 y3 y4)) = _)
  refine Eq.trans (runC_seq _ _ _ k) (Eq.trans h2 (Eq.trans (congrArg (fun K => m44_1 n N x0 x1 x2 K) h3) (by kernel_rfl)))
theorem r44 (n N : Nat) (x0 x1 x2 : D) : runC PHI (Tx44 n) N vf44.body (enterV vf44 [V.f x0, V.f x1, V.f x2] []) (finish vf44) = m44_0 n N x0 x1 x2 (fun x6 => finish vf44 .ret (s44_2 x6)) := 
  Eq.trans (runC_pre (s1 := (s44_0 x0 x1 x2)) (by kernel_rfl) _ _) (Eq.trans (e44_0 n N (finish vf44) x0 x1 x2) (by kernel_rfl))
end
theorem okx44 : ∀ n, FnOk Try.prog PHI (Tx44 n) := by
  refine FnOk.rec Try.prog PHI hPHI ok35 (vf := vf44) (by kernel_rfl) (fun n => fn3 (prx44 n) fun q x f => .f (.b (spx44 n q x f))) (fun args => ?_) (fun n args r H' ha hr => ?_)
  · unfold fn3; split <;> rfl
  · unfold fn3 at hr
    split at hr
    · rename_i q x f
      obtain ⟨h1, h2⟩ := toO_some hr
      injection h2 with h2 h3; subst h2; subst h3
      have hl := ((ha.is 1 rfl rfl).fld (k := 6) (ft := 23) (off := 9) (by kernel_rfl)).len' (e := 42) (by kernel_rfl)
      have hd : ∀ y ∈ (x.at 6).toL, depOk n y = true := fun y hy => List.all_eq_true.1 (show ((x.at 6).toL.all (depOk n)) = true from h1) y hy
      refine ⟨(x.at 6).toL.length + 1, (r44 n _ q x f).trans ?_⟩
      simp only [m44_0, m44_1, m44_2, m44_3, m44_10, m44_11, m44_12, m44_13, m44_14, m44_31, isPtr_p, deref_p, cond_true]
      show _ = some (V.f (.b (rdN (n + 1) q x f.toI)), [])
      rw [rdN]
      cases eqb (x.at 0).toI 2
      · simp only [cond_false]
        have h := loop_find (fun j i => l44_14 n ((x.at 6).toL.length + 1) j f (.p q) (.p x) (.i (i : Nat)) (finish vf44 .ret (s44_2 (.b false))) (fun x6 => finish vf44 .ret (s44_2 x6))) (fun i => rdN n q ((x.at 6).toL.getD i .nil) f.toI) (x.at 6).toL.length (finish vf44 .ret (s44_2 (.b false))) (fun i => finish vf44 .ret (s44_2 (.b true)))
          (fun j i hi => by
            have e : (x.at 6).toL.getD i .nil = (x.at 6).toL[i] := by rw [List.getD_eq_getElem?_getD, List.getElem?_eq_getElem hi]; rfl
            simp only [l44_14, m44_15, isPtr_p, deref_p, toI_i, cond_true, ltb_n hi, inb_t hi, at_nat, succ_n hi hl, e, prx44, hd _ (List.getElem_mem hi), spx44])
          (fun j => by simp only [l44_14, m44_15, isPtr_p, deref_p, cond_true, toI_i, ltb_self, cond_false])
          (x.at 6).toL.length 0 ((x.at 6).toL.length + 1) (by omega) (by omega)
        refine h.trans ?_
        rw [fst_any0 (fun y => rdN n q y f.toI)]
        cases (x.at 6).toL.any fun y => rdN n q y f.toI <;> rfl
      · rfl
    · cases hr
def sp44 (q x f : D) : Bool := rdN x.wt q x f.toI
def pr44 (_ _ _ : D) : Bool := true
def Tb44 : CallF := extend Tb35 44 (fn3 pr44 fun q x f => .f (.b (sp44 q x f)))
theorem ok44 : FnOk Try.prog PHI Tb44 := FnOk.lim okx44 fun args r hr => by
  unfold fn3 at hr
  split at hr
  · rename_i q x f
    refine ⟨x.wt, ?_⟩
    show toO (prx44 x.wt q x f, _, _) = _
    rw [show prx44 x.wt q x f = true from depOk_size _ _ (Nat.le_refl _)]
    exact hr
  · cases hr

end Go.Vam.C20
