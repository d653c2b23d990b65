/- Chapter 15: what functions come to, part 5. No conditions. -/
import Derived.Test.YtdnhajjjaldhkaaP4
import Derived.KernelRfl
set_option linter.unusedVariables false
set_option linter.unusedSimpArgs false
set_option maxRecDepth 100000
namespace Go.Vam.C15
open Go.Proofs
theorem eqL_eq : ∀ {a b : List Nat}, eqL a b = true → a = b
  | [], [], _ => rfl
  | [], _ :: _, h => by cases h
  | _ :: _, [], h => by cases h
  | a :: x, b :: y, h => by
    simp only [eqL, Bool.and_eq_true, decide_eq_true_eq] at h
    rw [h.1, eqL_eq h.2]
theorem eqL_comm (a b : List Nat) : eqL a b = eqL b a := by
  cases h : eqL a b
  · cases h' : eqL b a
    · rfl
    · rw [eqL_eq h', eqL_self] at h; cases h
  · rw [eqL_eq h, eqL_self]
/-! ### Signs -/
def sp14 (x : D) : D := bif eqL x.toS [60] then .s [62] else bif eqL x.toS [60, 61] then .s [62, 61] else bif eqL x.toS [62] then .s [60] else bif eqL x.toS [62, 61] then .s [60, 61] else x
section
variable {R : Type}
def m14_0 (N : Nat) (x0 : D) (Kr : D → Option R) : Option R :=
  (bif (eqL x0.toS [60]) then Kr (D.s [62]) else (bif (eqL x0.toS [60, 61]) then Kr (D.s [62, 61]) else (bif (eqL x0.toS [62]) then Kr (D.s [60]) else (bif (eqL x0.toS [62, 61]) then Kr (D.s [60, 61]) else Kr x0))))
def s14_0 (x0 : D) : St := sts 13 [(0, V.f x0)] []
def s14_1 (x2 : D) : St := sts 13 [(2, V.f x2)] []
theorem e14_0 (N : Nat) (k : Kn R) (x0 : D) : runC PHI Tb19 N vc14_0 (s14_0 x0) k = m14_0 N x0 (fun x2 => k .ret (s14_1 x2)) := by kernel_rfl
theorem r14 (N : Nat) (x0 : D) : runC PHI Tb19 N vf14.body (enterV vf14 [V.f x0] []) (finish vf14) = m14_0 N x0 (fun x2 => finish vf14 .ret (s14_1 x2)) := 
  Eq.trans (runC_pre (s1 := (s14_0 x0)) (by kernel_rfl) _ _) (Eq.trans (e14_0 N (finish vf14) x0) (by kernel_rfl))
end
def Tb14 : CallF := extend Tb19 14 (fn1 (fun _ => true) fun x => .f (sp14 x))
theorem ok14 : FnOk Try.prog PHI Tb14 := FnOk.add1 hPHI ok19 (by kernel_rfl) fun x _ _ => ⟨0, (r14 0 x).trans (by
  unfold m14_0 sp14
  cases eqL x.toS [60] <;> cases eqL x.toS [60, 61] <;> cases eqL x.toS [62] <;> cases eqL x.toS [62, 61] <;> rfl)⟩
def sp15 (x : D) : D := sp14 x
section
variable {R : Type}
def m15_1 (N : Nat) (x0 : D) (K : D → Option R) : Option R :=
  K x0
def s15_0 (x0 : D) : St := sts 23 [(0, V.f x0)] []
theorem e15_1 (N : Nat) (k : Kn R) (x0 : D) : runC PHI Tb14 N vc15_1 (s15_0 x0) k = m15_1 N x0 (fun x0 => k .normal (s15_0 x0)) := by
  refine Eq.trans (runC_post _ _ _ k) (Eq.trans (ops_run _ _ _ _) (by kernel_rfl))
def m15_3 (N : Nat) (x0 : D) (K : D → D → D → Option R) : Option R :=
  K x0 (D.sl ([(D.s [60]), (D.s [60, 61]), (D.s [62]), (D.s [62, 61])] : List D)) (D.sl ([(D.s [62]), (D.s [62, 61]), (D.s [60]), (D.s [60, 61])] : List D))
def s15_1 (x0 x3 x4 : D) : St := sts 23 [(0, V.f x0), (3, V.f x3), (4, V.f x4)] []
theorem e15_3 (N : Nat) (k : Kn R) (x0 : D) : runC PHI Tb14 N vc15_3 (s15_0 x0) k = m15_3 N x0 (fun x0 x3 x4 => k .normal (s15_1 x0 x3 x4)) := by
  refine Eq.trans (runC_post _ _ _ k) (Eq.trans (ops_run _ _ _ _) (by kernel_rfl))
def m15_6 (N : Nat) (x0 x3 x4 : D) (K : D → D → D → D → Option R) : Option R :=
  K x0 x3 x4 (D.i 0)
def s15_2 (x0 x3 x4 x5 : D) : St := sts 23 [(0, V.f x0), (3, V.f x3), (4, V.f x4), (5, V.f x5)] []
theorem e15_6 (N : Nat) (k : Kn R) (x0 x3 x4 : D) : runC PHI Tb14 N vc15_6 (s15_1 x0 x3 x4) k = m15_6 N x0 x3 x4 (fun x0 x3 x4 x5 => k .normal (s15_2 x0 x3 x4 x5)) := by
  refine Eq.trans (runC_post _ _ _ k) (Eq.trans (ops_run _ _ _ _) (by kernel_rfl))
def m15_9 (N : Nat) (x0 x3 x4 x5 : D) (K : D → D → D → D → Option R) (K0 : D → Option R) (Kr : D → Option R) : Option R :=
  (bif (ltb x5.toI 4) then (bif (inb x5.toI x3.toL.length) then (bif (eqL (x3.at (x5.toI : Int).toNat).toS x0.toS) then (bif (inb x5.toI x4.toL.length) then Kr (x4.at (x5.toI : Int).toNat) else none) else K x0 x3 x4 (D.i (IntKind.wrap IntKind.i64 (x5.toI + 1)))) else none) else K0 x0)
def s15_3 (x2 : D) : St := sts 23 [(2, V.f x2)] []
theorem e15_9 (N : Nat) (k : Kn R) (x0 x3 x4 x5 : D) : runC PHI Tb14 N vc15_9 (s15_2 x0 x3 x4 x5) k = m15_9 N x0 x3 x4 x5 (fun x0 x3 x4 x5 => k .normal (s15_2 x0 x3 x4 x5)) (fun x0 => k (.exit 0) (s15_0 x0)) (fun x2 => k .ret (s15_3 x2)) := by kernel_rfl
def l15_8 (N : Nat) (j : Nat) (x0 x3 x4 x5 : D) (K0 : D → Option R) (Kr : D → Option R) : Option R :=
  match j with
  | 0 => none
  | j + 1 => (m15_9 N x0 x3 x4 x5 (fun y0 y3 y4 y5 => l15_8 N j y0 y3 y4 y5 K0 Kr) K0 Kr)
def m15_8 (N : Nat) (x0 x3 x4 x5 : D) (K0 : D → Option R) (Kr : D → Option R) : Option R :=
  l15_8 N N x0 x3 x4 x5 K0 Kr
theorem el15_8 (N : Nat) (k : Kn R) : ∀ (j : Nat) (x0 x3 x4 x5 : D), loopGo (runC PHI Tb14 N vc15_9) j (s15_2 x0 x3 x4 x5) k = l15_8 N j x0 x3 x4 x5 (fun x0 => k (.exit 0) (s15_0 x0)) (fun x2 => k .ret (s15_3 x2))
  | 0, _, _, _, _ => by kernel_rfl
  | j + 1, x0, x3, x4, x5 => by
    have h2 := e15_9 N (kloop PHI Tb14 N vc15_9 j k) x0 x3 x4 x5
    have h3 : (fun (y0 y3 y4 y5 : D) => (kloop PHI Tb14 N vc15_9 j k) .normal (s15_2 y0 y3 y4 y5)) = (fun (y0 y3 y4 y5 : D) => l15_8 N j y0 y3 y4 y5 (fun x0 => k (.exit 0) (s15_0 x0)) (fun x2 => k .ret (s15_3 x2))) := funext fun y0 => funext fun y3 => funext fun y4 => funext fun y5 => (el15_8 N k j y0 y3 y4 y5)
    refine Eq.trans (loop_succ _ j _ k) (Eq.trans h2 (Eq.trans (congrArg (fun K => m15_9 N x0 x3 x4 x5 K (fun x0 => (kloop PHI Tb14 N vc15_9 j k) (.exit 0) (s15_0 x0)) (fun x2 => (kloop PHI Tb14 N vc15_9 j k) .ret (s15_3 x2))) h3) (by kernel_rfl)))
theorem e15_8 (N : Nat) (k : Kn R) (x0 x3 x4 x5 : D) : runC PHI Tb14 N vc15_8 (s15_2 x0 x3 x4 x5) k = m15_8 N x0 x3 x4 x5 (fun x0 => k (.exit 0) (s15_0 x0)) (fun x2 => k .ret (s15_3 x2)) := by
  refine Eq.trans (runC_loop _ _ k) (Eq.trans (el15_8 N k N x0 x3 x4 x5) (by kernel_rfl))
def m15_7 (N : Nat) (x0 x3 x4 x5 : D) (K : D → Option R) (Kr : D → Option R) : Option R :=
  (m15_8 N x0 x3 x4 x5 (fun y0 => K y0) Kr)
theorem e15_7 (N : Nat) (k : Kn R) (x0 x3 x4 x5 : D) : runC PHI Tb14 N vc15_7 (s15_2 x0 x3 x4 x5) k = m15_7 N x0 x3 x4 x5 (fun x0 => k .normal (s15_0 x0)) (fun x2 => k .ret (s15_3 x2)) := by
  refine Eq.trans (runC_block _ _ _ k) (Eq.trans (e15_8 N (kblk 0 k) x0 x3 x4 x5) (by kernel_rfl))
def m15_5 (N : Nat) (x0 x3 x4 : D) (K : D → Option R) (Kr : D → Option R) : Option R :=
  (m15_6 N x0 x3 x4 (fun y0 y3 y4 y5 => (m15_7 N y0 y3 y4 y5 (fun y0 => K y0) Kr)))
theorem e15_5 (N : Nat) (k : Kn R) (x0 x3 x4 : D) : runC PHI Tb14 N vc15_5 (s15_1 x0 x3 x4) k = m15_5 N x0 x3 x4 (fun x0 => k .normal (s15_0 x0)) (fun x2 => k .ret (s15_3 x2)) := by
  have h2 := e15_6 N (kseq PHI Tb14 N vc15_7 k) x0 x3 x4
  have h3 := (funext fun y0 => funext fun y3 => funext fun y4 => funext fun y5 => (e15_7 N k y0 y3 y4 y5) : (fun (y0 y3 y4 y5 : D) => (kseq PHI Tb14 N vc15_7 k) .normal (s15_2 y0 y3 y4 y5)) = _)
  refine Eq.trans (runC_seq _ _ _ k) (Eq.trans h2 (Eq.trans (congrArg (fun K => m15_6 N x0 x3 x4 K) h3) (by kernel_rfl)))
def m15_25 (N : Nat) (x0 : D) (Kr : D → Option R) : Option R :=
  Kr x0
theorem e15_25 (N : Nat) (k : Kn R) (x0 : D) : runC PHI Tb14 N vc15_25 (s15_0 x0) k = m15_25 N x0 (fun x2 => k .ret (s15_3 x2)) := by kernel_rfl
def m15_4 (N : Nat) (x0 x3 x4 : D) (Kr : D → Option R) : Option R :=
  (m15_5 N x0 x3 x4 (fun y0 => (m15_25 N y0 Kr)) Kr)
theorem e15_4 (N : Nat) (k : Kn R) (x0 x3 x4 : D) : runC PHI Tb14 N vc15_4 (s15_1 x0 x3 x4) k = m15_4 N x0 x3 x4 (fun x2 => k .ret (s15_3 x2)) := by
  have h2 := e15_5 N (kseq PHI Tb14 N vc15_25 k) x0 x3 x4
  have h3 := (funext fun y0 => (e15_25 N k y0) : (fun (y0 : D) => (kseq PHI Tb14 N vc15_25 k) .normal (s15_0 y0)) = _)
  refine Eq.trans (runC_seq _ _ _ k) (Eq.trans h2 (Eq.trans (congrArg (fun K => m15_5 N x0 x3 x4 K (fun x2 => (kseq PHI Tb14 N vc15_25 k) .ret (s15_3 x2))) h3) (by kernel_rfl)))
def m15_2 (N : Nat) (x0 : D) (Kr : D → Option R) : Option R :=
  (m15_3 N x0 (fun y0 y3 y4 => (m15_4 N y0 y3 y4 Kr)))
theorem e15_2 (N : Nat) (k : Kn R) (x0 : D) : runC PHI Tb14 N vc15_2 (s15_0 x0) k = m15_2 N x0 (fun x2 => k .ret (s15_3 x2)) := by
  have h2 := e15_3 N (kseq PHI Tb14 N vc15_4 k) x0
  have h3 := (funext fun y0 => funext fun y3 => funext fun y4 => (e15_4 N k y0 y3 y4) : (fun (y0 y3 y4 : D) => (kseq PHI Tb14 N vc15_4 k) .normal (s15_1 y0 y3 y4)) = _)
  refine Eq.trans (runC_seq _ _ _ k) (Eq.trans h2 (Eq.trans (congrArg (fun K => m15_3 N x0 K) h3) (by kernel_rfl)))
def m15_0 (N : Nat) (x0 : D) (Kr : D → Option R) : Option R :=
  (m15_1 N x0 (fun y0 => (m15_2 N y0 Kr)))
theorem e15_0 (N : Nat) (k : Kn R) (x0 : D) : runC PHI Tb14 N vc15_0 (s15_0 x0) k = m15_0 N x0 (fun x2 => k .ret (s15_3 x2)) := by
  have h2 := e15_1 N (kseq PHI Tb14 N vc15_2 k) x0
  have h3 := (funext fun y0 => (e15_2 N k y0) : (fun (y0 : D) => (kseq PHI Tb14 N vc15_2 k) .normal (s15_0 y0)) = _)
  refine Eq.trans (runC_seq _ _ _ k) (Eq.trans h2 (Eq.trans (congrArg (fun K => m15_1 N x0 K) h3) (by kernel_rfl)))
theorem r15 (N : Nat) (x0 : D) : runC PHI Tb14 N vf15.body (enterV vf15 [V.f x0] []) (finish vf15) = m15_0 N x0 (fun x2 => finish vf15 .ret (s15_3 x2)) := 
  Eq.trans (runC_pre (s1 := (s15_0 x0)) (by kernel_rfl) _ _) (Eq.trans (e15_0 N (finish vf15) x0) (by kernel_rfl))
end
theorem l15 {R : Type} (x : D) (K0 Kr : D → Option R) : l15_8 9 9 x (D.sl ([(D.s [60]), (D.s [60, 61]), (D.s [62]), (D.s [62, 61])] : List D)) (D.sl ([(D.s [62]), (D.s [62, 61]), (D.s [60]), (D.s [60, 61])] : List D)) (.i 0) K0 Kr =
    bif eqL [60] x.toS then Kr (.s [62]) else bif eqL [60, 61] x.toS then Kr (.s [62, 61]) else bif eqL [62] x.toS then Kr (.s [60]) else bif eqL [62, 61] x.toS then Kr (.s [60, 61]) else K0 x := by kernel_rfl
def Tb15 : CallF := extend Tb14 15 (fn1 (fun _ => true) fun x => .f (sp15 x))
theorem ok15 : FnOk Try.prog PHI Tb15 := FnOk.add1 hPHI ok14 (by kernel_rfl) fun x _ _ => ⟨9, (r15 9 x).trans (by
  simp only [m15_0, m15_1, m15_2, m15_3, m15_4, m15_5, m15_6, m15_7, m15_8, m15_25, l15, sp15, sp14, eqL_comm _ x.toS]
  cases eqL x.toS [60] <;> cases eqL x.toS [60, 61] <;> cases eqL x.toS [62] <;> cases eqL x.toS [62, 61] <;> rfl)⟩
/-! ### What may be -/
def near (x r : Int) : Int := mmI true 0 [mmI false x [r]]
theorem near_r {x r : Int} (h : 0 ≤ r) : 0 ≤ near x r ∧ near x r ≤ r := by
  have e : near x r = (if (if r < x then r else x) > 0 then (if r < x then r else x) else 0) := rfl
  rw [e]
  split <;> split <;> omega
def big : Int := 1099511627776
def sp36 (x r : D) : Int := near x.toI r.toI
section
variable {R : Type}
def m36_0 (N : Nat) (x0 x1 : D) (Kr : D → Option R) : Option R :=
  Kr (D.i (mmI true 0 [(mmI false x0.toI [x1.toI])]))
def s36_0 (x0 x1 : D) : St := sts 9 [(0, V.f x0), (1, V.f x1)] []
def s36_1 (x4 : D) : St := sts 9 [(4, V.f x4)] []
theorem e36_0 (N : Nat) (k : Kn R) (x0 x1 : D) : runC PHI Tb15 N vc36_0 (s36_0 x0 x1) k = m36_0 N x0 x1 (fun x4 => k .ret (s36_1 x4)) := by kernel_rfl
theorem r36 (N : Nat) (x0 x1 : D) : runC PHI Tb15 N vf36.body (enterV vf36 [V.f x0, V.f x1] []) (finish vf36) = m36_0 N x0 x1 (fun x4 => finish vf36 .ret (s36_1 x4)) := 
  Eq.trans (runC_pre (s1 := (s36_0 x0 x1)) (by kernel_rfl) _ _) (Eq.trans (e36_0 N (finish vf36) x0 x1) (by kernel_rfl))
end
def Tb36 : CallF := extend Tb15 36 (fn2 (fun _ _ => true) fun x y => .f (.i (sp36 x y)))
theorem ok36 : FnOk Try.prog PHI Tb36 := FnOk.add2 hPHI ok15 (by kernel_rfl) fun x y _ _ => ⟨0, (r36 0 x y).trans rfl⟩
def sp29_0 (r _c : D) : Int := near r.toI big
def sp29_1 (r c : D) : D := D.setP [0] (D.setP [1] c (.i (near (c.at 1).toI (near r.toI big)))) (.i (near ((D.setP [1] c (.i (near (c.at 1).toI (near r.toI big)))).at 0).toI (near r.toI big)))
theorem sp29_e (r a b c : D) : sp29_1 r (.ag [a, b, c]) = .ag [.i (near a.toI (near r.toI big)), .i (near b.toI (near r.toI big)), c] := rfl
section
variable {R : Type}
def m29_0 (N : Nat) (x0 x1 : D) (Kr : D → D → D → Option R) : Option R :=
  Kr (D.i (mmI true 0 [(mmI false x0.toI [1099511627776])])) (D.p (D.setP [0] (D.setP [1] x1 (D.i (mmI true 0 [(mmI false (x1.at 1).toI [(mmI true 0 [(mmI false x0.toI [1099511627776])])])]))) (D.i (mmI true 0 [(mmI false ((D.setP [1] x1 (D.i (mmI true 0 [(mmI false (x1.at 1).toI [(mmI true 0 [(mmI false x0.toI [1099511627776])])])]))).at 0).toI [(mmI true 0 [(mmI false x0.toI [1099511627776])])])])))) (D.setP [0] (D.setP [1] x1 (D.i (mmI true 0 [(mmI false (x1.at 1).toI [(mmI true 0 [(mmI false x0.toI [1099511627776])])])]))) (D.i (mmI true 0 [(mmI false ((D.setP [1] x1 (D.i (mmI true 0 [(mmI false (x1.at 1).toI [(mmI true 0 [(mmI false x0.toI [1099511627776])])])]))).at 0).toI [(mmI true 0 [(mmI false x0.toI [1099511627776])])])])))
def s29_0 (x0 x1 : D) : St := sts 23 [(0, V.f x0), (1, V.f x1)] [V.u]
def s29_1 (x4 x5 h0 : D) : St := sts 23 [(4, V.f x4), (5, V.f x5)] [V.f h0]
theorem e29_0 (N : Nat) (k : Kn R) (x0 x1 : D) : runC PHI Tb36 N vc29_0 (s29_0 x0 x1) k = m29_0 N x0 x1 (fun x4 x5 h0 => k .ret (s29_1 x4 x5 h0)) := by kernel_rfl
theorem r29 (N : Nat) (x0 x1 : D) : runC PHI Tb36 N vf29.body (enterV vf29 [V.f x0, V.f x1] []) (finish vf29) = m29_0 N x0 x1 (fun x4 x5 h0 => finish vf29 .ret (s29_1 x4 x5 h0)) := 
  Eq.trans (runC_pre (s1 := (s29_0 x0 x1)) (by kernel_rfl) _ _) (Eq.trans (e29_0 N (finish vf29) x0 x1) (by kernel_rfl))
end
def Tb29 : CallF := extend Tb36 29 (fn2 (fun _ _ => true) fun r c => .t [.f (.i (sp29_0 r c)), .f (sp29_1 r c)])
theorem ok29 : FnOk Try.prog PHI Tb29 := FnOk.add2 hPHI ok36 (by kernel_rfl) fun x y _ _ => ⟨0, (r29 0 x y).trans rfl⟩
/-! ### How many bounds lie on a side -/
def cmpB (k : Nat) (b x : Int) : Bool := bif Nat.beq k 32 then ltb b x else bif Nat.beq k 33 then leb b x else bif Nat.beq k 34 then ltb x b else leb x b
def pc (_b a : D) : Bool := isPtrD a
def sp32 (b a : D) : Bool := cmpB 32 b.toI (a.deref.at 1).toI
def pr32 (b a : D) : Bool := pc b a
section
variable {R : Type}
def m32_0 (N : Nat) (x0 x1 : D) (Kr : D → Option R) : Option R :=
  (bif (isPtrD x1) then Kr (D.b (ltb x0.toI (x1.deref.at 1).toI)) else none)
def s32_0 (x0 x1 : D) : St := sts 8 [(0, V.f x0), (1, V.f x1)] []
def s32_1 (x3 : D) : St := sts 8 [(3, V.f x3)] []
theorem e32_0 (N : Nat) (k : Kn R) (x0 x1 : D) : runC PHI Tb29 N vc32_0 (s32_0 x0 x1) k = m32_0 N x0 x1 (fun x3 => k .ret (s32_1 x3)) := by kernel_rfl
theorem r32 (N : Nat) (x0 x1 : D) : runC PHI Tb29 N vf32.body (enterV vf32 [V.f x0, V.f x1] []) (finish vf32) = m32_0 N x0 x1 (fun x3 => finish vf32 .ret (s32_1 x3)) := 
  Eq.trans (runC_pre (s1 := (s32_0 x0 x1)) (by kernel_rfl) _ _) (Eq.trans (e32_0 N (finish vf32) x0 x1) (by kernel_rfl))
end
def Tb32 : CallF := extend Tb29 32 (fn2 pr32 fun b a => .f (.b (sp32 b a)))
def sp33 (b a : D) : Bool := cmpB 33 b.toI (a.deref.at 1).toI
def pr33 (b a : D) : Bool := pc b a
section
variable {R : Type}
def m33_0 (N : Nat) (x0 x1 : D) (Kr : D → Option R) : Option R :=
  (bif (isPtrD x1) then Kr (D.b (leb x0.toI (x1.deref.at 1).toI)) else none)
def s33_0 (x0 x1 : D) : St := sts 8 [(0, V.f x0), (1, V.f x1)] []
def s33_1 (x3 : D) : St := sts 8 [(3, V.f x3)] []
theorem e33_0 (N : Nat) (k : Kn R) (x0 x1 : D) : runC PHI Tb32 N vc33_0 (s33_0 x0 x1) k = m33_0 N x0 x1 (fun x3 => k .ret (s33_1 x3)) := by kernel_rfl
theorem r33 (N : Nat) (x0 x1 : D) : runC PHI Tb32 N vf33.body (enterV vf33 [V.f x0, V.f x1] []) (finish vf33) = m33_0 N x0 x1 (fun x3 => finish vf33 .ret (s33_1 x3)) := 
  Eq.trans (runC_pre (s1 := (s33_0 x0 x1)) (by kernel_rfl) _ _) (Eq.trans (e33_0 N (finish vf33) x0 x1) (by kernel_rfl))
end
def Tb33 : CallF := extend Tb32 33 (fn2 pr33 fun b a => .f (.b (sp33 b a)))
def sp34 (b a : D) : Bool := cmpB 34 b.toI (a.deref.at 1).toI
def pr34 (b a : D) : Bool := pc b a
section
variable {R : Type}
def m34_0 (N : Nat) (x0 x1 : D) (Kr : D → Option R) : Option R :=
  (bif (isPtrD x1) then Kr (D.b (ltb (x1.deref.at 1).toI x0.toI)) else none)
def s34_0 (x0 x1 : D) : St := sts 8 [(0, V.f x0), (1, V.f x1)] []
def s34_1 (x3 : D) : St := sts 8 [(3, V.f x3)] []
theorem e34_0 (N : Nat) (k : Kn R) (x0 x1 : D) : runC PHI Tb33 N vc34_0 (s34_0 x0 x1) k = m34_0 N x0 x1 (fun x3 => k .ret (s34_1 x3)) := by kernel_rfl
theorem r34 (N : Nat) (x0 x1 : D) : runC PHI Tb33 N vf34.body (enterV vf34 [V.f x0, V.f x1] []) (finish vf34) = m34_0 N x0 x1 (fun x3 => finish vf34 .ret (s34_1 x3)) := 
  Eq.trans (runC_pre (s1 := (s34_0 x0 x1)) (by kernel_rfl) _ _) (Eq.trans (e34_0 N (finish vf34) x0 x1) (by kernel_rfl))
end
def Tb34 : CallF := extend Tb33 34 (fn2 pr34 fun b a => .f (.b (sp34 b a)))
def sp35 (b a : D) : Bool := cmpB 35 b.toI (a.deref.at 1).toI
def pr35 (b a : D) : Bool := pc b a
section
variable {R : Type}
def m35_0 (N : Nat) (x0 x1 : D) (Kr : D → Option R) : Option R :=
  (bif (isPtrD x1) then Kr (D.b (leb (x1.deref.at 1).toI x0.toI)) else none)
def s35_0 (x0 x1 : D) : St := sts 8 [(0, V.f x0), (1, V.f x1)] []
def s35_1 (x3 : D) : St := sts 8 [(3, V.f x3)] []
theorem e35_0 (N : Nat) (k : Kn R) (x0 x1 : D) : runC PHI Tb34 N vc35_0 (s35_0 x0 x1) k = m35_0 N x0 x1 (fun x3 => k .ret (s35_1 x3)) := by kernel_rfl
theorem r35 (N : Nat) (x0 x1 : D) : runC PHI Tb34 N vf35.body (enterV vf35 [V.f x0, V.f x1] []) (finish vf35) = m35_0 N x0 x1 (fun x3 => finish vf35 .ret (s35_1 x3)) := 
  Eq.trans (runC_pre (s1 := (s35_0 x0 x1)) (by kernel_rfl) _ _) (Eq.trans (e35_0 N (finish vf35) x0 x1) (by kernel_rfl))
end
def Tb35 : CallF := extend Tb34 35 (fn2 pr35 fun b a => .f (.b (sp35 b a)))
theorem ok32 : FnOk Try.prog PHI Tb32 := FnOk.add2 hPHI ok29 (by kernel_rfl) fun b a _ hp => ⟨0, (r32 0 b a).trans (by unfold m32_0; rw [show isPtrD a = true from hp]; rfl)⟩
theorem ok33 : FnOk Try.prog PHI Tb33 := FnOk.add2 hPHI ok32 (by kernel_rfl) fun b a _ hp => ⟨0, (r33 0 b a).trans (by unfold m33_0; rw [show isPtrD a = true from hp]; rfl)⟩
theorem ok34 : FnOk Try.prog PHI Tb34 := FnOk.add2 hPHI ok33 (by kernel_rfl) fun b a _ hp => ⟨0, (r34 0 b a).trans (by unfold m34_0; rw [show isPtrD a = true from hp]; rfl)⟩
theorem ok35 : FnOk Try.prog PHI Tb35 := FnOk.add2 hPHI ok34 (by kernel_rfl) fun b a _ hp => ⟨0, (r35 0 b a).trans (by unfold m35_0; rw [show isPtrD a = true from hp]; rfl)⟩
def cntF (p : Int → Bool) (l : List D) (i : Nat) (s : Int) : Int := s + bif p (l.getD i .nil).toI then 1 else 0
def cntP (p : Int → Bool) (l : List D) : Int := foldI (cntF p l) l.length 0 0
theorem cntF_r (p : Int → Bool) (l : List D) : ∀ i s, i < l.length → (0 ≤ s ∧ s ≤ (i : Int)) → (0 ≤ cntF p l i s ∧ cntF p l i s ≤ ((i + 1 : Nat) : Int)) := by
  intro i s _ h
  unfold cntF
  cases p (l.getD i .nil).toI <;> simp only [cond_true, cond_false] <;> omega
theorem cntP_r (p : Int → Bool) (l : List D) : 0 ≤ cntP p l ∧ cntP p l ≤ (l.length : Int) := foldI_inv (I := fun i s => 0 ≤ s ∧ s ≤ (i : Int)) (cntF_r p l) l.length 0 0 (by omega) (by omega)
def blw (k : Nat) (kv x : Int) (bs : List D) (ba : Int) : Int := bif !eqb kv 1 then w64 (Int.tdiv ba 3) else bif eqb (bs.length : Int) 0 then w64 (Int.tdiv ba 3) else w64 (Int.tdiv (w64 (ba * cntP (fun b => cmpB k b x) bs)) (bs.length : Int))
def sp31 (k : Nat) (a v c b : D) : Int := blw k (v.deref.at 0).toI (a.deref.at 1).toI (c.deref.at 2).toL b.deref.toI
def pr31 (a v c b : D) : Bool := isPtrD a && (isPtrD v && (isPtrD c && isPtrD b))
def sp31_32 (a v c b : D) : Int := sp31 32 a v c b
def pr31_32 (a v c b : D) : Bool := pr31 a v c b
section
variable {R : Type}
def m31a_1 (N : Nat) (x0_0 x1 x2 x3 : D) (K : D → D → D → D → Option R) : Option R :=
  K x0_0 x1 x2 x3
def s31a_0 (x0_0 x1 x2 x3 : D) : St := sts 40 [(0, V.fn 32 [V.f x0_0] [Ty.p 35]), (1, V.f x1), (2, V.f x2), (3, V.f x3)] []
theorem e31a_1 (N : Nat) (k : Kn R) (x0_0 x1 x2 x3 : D) : runC PHI Tb35 N vc31_1 (s31a_0 x0_0 x1 x2 x3) k = m31a_1 N x0_0 x1 x2 x3 (fun x0_0 x1 x2 x3 => k .normal (s31a_0 x0_0 x1 x2 x3)) := by
  refine Eq.trans (runC_post _ _ _ k) (Eq.trans (ops_run _ _ _ _) (by kernel_rfl))
def m31a_3 (N : Nat) (x0_0 x1 x2 x3 : D) (K : D → D → D → Option R) (Kr : D → Option R) : Option R :=
  (bif (isPtrD x1) then (bif (!eqb (x1.deref.at 0).toI 1) then (bif true then (bif (isPtrD x3) then (bif (!eqb 3 0) then Kr (D.i (IntKind.wrap IntKind.i64 (Int.tdiv x3.deref.toI 3))) else none) else none) else K x0_0 x2 x3) else (bif (isPtrD x2) then (bif (eqb ((x2.deref.at 2).toL.length : Int) 0) then (bif (isPtrD x3) then (bif (!eqb 3 0) then Kr (D.i (IntKind.wrap IntKind.i64 (Int.tdiv x3.deref.toI 3))) else none) else none) else K x0_0 x2 x3) else none)) else none)
def s31a_1 (x0_0 x2 x3 : D) : St := sts 40 [(0, V.fn 32 [V.f x0_0] [Ty.p 35]), (2, V.f x2), (3, V.f x3)] []
def s31a_2 (x5 : D) : St := sts 40 [(5, V.f x5)] []
theorem e31a_3 (N : Nat) (k : Kn R) (x0_0 x1 x2 x3 : D) : runC PHI Tb35 N vc31_3 (s31a_0 x0_0 x1 x2 x3) k = m31a_3 N x0_0 x1 x2 x3 (fun x0_0 x2 x3 => k .normal (s31a_1 x0_0 x2 x3)) (fun x5 => k .ret (s31a_2 x5)) := by kernel_rfl
def m31a_11 (N : Nat) (x0_0 x2 x3 : D) (K : D → D → D → D → Option R) : Option R :=
  K x0_0 x2 x3 (D.i 0)
def s31a_3 (x0_0 x2 x3 x6 : D) : St := sts 40 [(0, V.fn 32 [V.f x0_0] [Ty.p 35]), (2, V.f x2), (3, V.f x3), (6, V.f x6)] []
theorem e31a_11 (N : Nat) (k : Kn R) (x0_0 x2 x3 : D) : runC PHI Tb35 N vc31_11 (s31a_1 x0_0 x2 x3) k = m31a_11 N x0_0 x2 x3 (fun x0_0 x2 x3 x6 => k .normal (s31a_3 x0_0 x2 x3 x6)) := by
  refine Eq.trans (runC_post _ _ _ k) (Eq.trans (ops_run _ _ _ _) (by kernel_rfl))
def m31a_14 (N : Nat) (x0_0 x2 x3 x6 : D) (K : D → D → D → D → D → D → D → Option R) : Option R :=
  (bif (isPtrD x2) then K x0_0 x2 x3 x6 (x2.deref.at 2) (D.i ((x2.deref.at 2).toL.length : Int)) (D.i 0) else none)
def s31a_4 (x0_0 x2 x3 x6 x21 x22 x23 : D) : St := sts 40 [(0, V.fn 32 [V.f x0_0] [Ty.p 35]), (2, V.f x2), (3, V.f x3), (6, V.f x6), (21, V.f x21), (22, V.f x22), (23, V.f x23)] []
theorem e31a_14 (N : Nat) (k : Kn R) (x0_0 x2 x3 x6 : D) : runC PHI Tb35 N vc31_14 (s31a_3 x0_0 x2 x3 x6) k = m31a_14 N x0_0 x2 x3 x6 (fun x0_0 x2 x3 x6 x21 x22 x23 => k .normal (s31a_4 x0_0 x2 x3 x6 x21 x22 x23)) := by
  refine Eq.trans (runC_post _ _ _ k) (Eq.trans (ops_run _ _ _ _) (by kernel_rfl))
def m31a_17 (N : Nat) (x0_0 x2 x3 x6 x21 x22 x23 : D) (K : D → D → D → D → D → D → D → Option R) (K0 : D → D → D → Option R) : Option R :=
  (bif (ltb x23.toI x22.toI) then (bif (inb x23.toI x21.toL.length) then (bif (pr32 (x21.at (x23.toI : Int).toNat) x0_0) then (bif (sp32 (x21.at (x23.toI : Int).toNat) x0_0) then K x0_0 x2 x3 (D.i (IntKind.wrap IntKind.i64 (x6.toI + 1))) x21 x22 (D.i (IntKind.wrap IntKind.i64 (x23.toI + 1))) else K x0_0 x2 x3 x6 x21 x22 (D.i (IntKind.wrap IntKind.i64 (x23.toI + 1)))) else none) else none) else K0 x2 x3 x6)
def s31a_5 (x2 x3 x6 : D) : St := sts 40 [(2, V.f x2), (3, V.f x3), (6, V.f x6)] []
theorem e31a_17 (N : Nat) (k : Kn R) (x0_0 x2 x3 x6 x21 x22 x23 : D) : runC PHI Tb35 N vc31_17 (s31a_4 x0_0 x2 x3 x6 x21 x22 x23) k = m31a_17 N x0_0 x2 x3 x6 x21 x22 x23 (fun x0_0 x2 x3 x6 x21 x22 x23 => k .normal (s31a_4 x0_0 x2 x3 x6 x21 x22 x23)) (fun x2 x3 x6 => k (.exit 0) (s31a_5 x2 x3 x6)) := by kernel_rfl
def l31a_16 (N : Nat) (j : Nat) (x0_0 x2 x3 x6 x21 x22 x23 : D) (K0 : D → D → D → Option R) : Option R :=
  match j with
  | 0 => none
  | j + 1 => (m31a_17 N x0_0 x2 x3 x6 x21 x22 x23 (fun y0_0 y2 y3 y6 y21 y22 y23 => l31a_16 N j y0_0 y2 y3 y6 y21 y22 y23 K0) K0)
def m31a_16 (N : Nat) (x0_0 x2 x3 x6 x21 x22 x23 : D) (K0 : D → D → D → Option R) : Option R :=
  l31a_16 N N x0_0 x2 x3 x6 x21 x22 x23 K0
theorem el31a_16 (N : Nat) (k : Kn R) : ∀ (j : Nat) (x0_0 x2 x3 x6 x21 x22 x23 : D), loopGo (runC PHI Tb35 N vc31_17) j (s31a_4 x0_0 x2 x3 x6 x21 x22 x23) k = l31a_16 N j x0_0 x2 x3 x6 x21 x22 x23 (fun x2 x3 x6 => k (.exit 0) (s31a_5 x2 x3 x6))
  | 0, _, _, _, _, _, _, _ => by kernel_rfl
  | j + 1, x0_0, x2, x3, x6, x21, x22, x23 => by
    have h2 := e31a_17 N (kloop PHI Tb35 N vc31_17 j k) x0_0 x2 x3 x6 x21 x22 x23
    have h3 : (fun (y0_0 y2 y3 y6 y21 y22 y23 : D) => (kloop PHI Tb35 N vc31_17 j k) .normal (s31a_4 y0_0 y2 y3 y6 y21 y22 y23)) = (fun (y0_0 y2 y3 y6 y21 y22 y23 : D) => l31a_16 N j y0_0 y2 y3 y6 y21 y22 y23 (fun x2 x3 x6 => k (.exit 0) (s31a_5 x2 x3 x6))) := funext fun y0_0 => funext fun y2 => funext fun y3 => funext fun y6 => funext fun y21 => funext fun y22 => funext fun y23 => (el31a_16 N k j y0_0 y2 y3 y6 y21 y22 y23)
    refine Eq.trans (loop_succ _ j _ k) (Eq.trans h2 (Eq.trans (congrArg (fun K => m31a_17 N x0_0 x2 x3 x6 x21 x22 x23 K (fun x2 x3 x6 => (kloop PHI Tb35 N vc31_17 j k) (.exit 0) (s31a_5 x2 x3 x6))) h3) (by kernel_rfl)))
theorem e31a_16 (N : Nat) (k : Kn R) (x0_0 x2 x3 x6 x21 x22 x23 : D) : runC PHI Tb35 N vc31_16 (s31a_4 x0_0 x2 x3 x6 x21 x22 x23) k = m31a_16 N x0_0 x2 x3 x6 x21 x22 x23 (fun x2 x3 x6 => k (.exit 0) (s31a_5 x2 x3 x6)) := by
  refine Eq.trans (runC_loop _ _ k) (Eq.trans (el31a_16 N k N x0_0 x2 x3 x6 x21 x22 x23) (by kernel_rfl))
def m31a_15 (N : Nat) (x0_0 x2 x3 x6 x21 x22 x23 : D) (K : D → D → D → Option R) : Option R :=
  (m31a_16 N x0_0 x2 x3 x6 x21 x22 x23 (fun y2 y3 y6 => K y2 y3 y6))
theorem e31a_15 (N : Nat) (k : Kn R) (x0_0 x2 x3 x6 x21 x22 x23 : D) : runC PHI Tb35 N vc31_15 (s31a_4 x0_0 x2 x3 x6 x21 x22 x23) k = m31a_15 N x0_0 x2 x3 x6 x21 x22 x23 (fun x2 x3 x6 => k .normal (s31a_5 x2 x3 x6)) := by
  refine Eq.trans (runC_block _ _ _ k) (Eq.trans (e31a_16 N (kblk 0 k) x0_0 x2 x3 x6 x21 x22 x23) (by kernel_rfl))
def m31a_13 (N : Nat) (x0_0 x2 x3 x6 : D) (K : D → D → D → Option R) : Option R :=
  (m31a_14 N x0_0 x2 x3 x6 (fun y0_0 y2 y3 y6 y21 y22 y23 => (m31a_15 N y0_0 y2 y3 y6 y21 y22 y23 (fun y2 y3 y6 => K y2 y3 y6))))
theorem e31a_13 (N : Nat) (k : Kn R) (x0_0 x2 x3 x6 : D) : runC PHI Tb35 N vc31_13 (s31a_3 x0_0 x2 x3 x6) k = m31a_13 N x0_0 x2 x3 x6 (fun x2 x3 x6 => k .normal (s31a_5 x2 x3 x6)) := by
  have h2 := e31a_14 N (kseq PHI Tb35 N vc31_15 k) x0_0 x2 x3 x6
  have h3 := (funext fun y0_0 => funext fun y2 => funext fun y3 => funext fun y6 => funext fun y21 => funext fun y22 => funext fun y23 => (e31a_15 N k y0_0 y2 y3 y6 y21 y22 y23) : (fun (y0_0 y2 y3 y6 y21 y22 y23 : D) => (kseq PHI Tb35 N vc31_15 k) .normal (s31a_4 y0_0 y2 y3 y6 y21 y22 y23)) = _)
  refine Eq.trans (runC_seq _ _ _ k) (Eq.trans h2 (Eq.trans (congrArg (fun K => m31a_14 N x0_0 x2 x3 x6 K) h3) (by kernel_rfl)))
def m31a_33 (N : Nat) (x2 x3 x6 : D) (Kr : D → Option R) : Option R :=
  (bif (isPtrD x3) then (bif (isPtrD x2) then (bif (!eqb ((x2.deref.at 2).toL.length : Int) 0) then Kr (D.i (IntKind.wrap IntKind.i64 (Int.tdiv (IntKind.wrap IntKind.i64 (x3.deref.toI * x6.toI)) ((x2.deref.at 2).toL.length : Int)))) else none) else none) else none)
theorem e31a_33 (N : Nat) (k : Kn R) (x2 x3 x6 : D) : runC PHI Tb35 N vc31_33 (s31a_5 x2 x3 x6) k = m31a_33 N x2 x3 x6 (fun x5 => k .ret (s31a_2 x5)) := by kernel_rfl
def m31a_12 (N : Nat) (x0_0 x2 x3 x6 : D) (Kr : D → Option R) : Option R :=
  (m31a_13 N x0_0 x2 x3 x6 (fun y2 y3 y6 => (m31a_33 N y2 y3 y6 Kr)))
theorem e31a_12 (N : Nat) (k : Kn R) (x0_0 x2 x3 x6 : D) : runC PHI Tb35 N vc31_12 (s31a_3 x0_0 x2 x3 x6) k = m31a_12 N x0_0 x2 x3 x6 (fun x5 => k .ret (s31a_2 x5)) := by
  have h2 := e31a_13 N (kseq PHI Tb35 N vc31_33 k) x0_0 x2 x3 x6
  have h3 := (funext fun y2 => funext fun y3 => funext fun y6 => (e31a_33 N k y2 y3 y6) : (fun (y2 y3 y6 : D) => (kseq PHI Tb35 N vc31_33 k) .normal (s31a_5 y2 y3 y6)) = _)
  refine Eq.trans (runC_seq _ _ _ k) (Eq.trans h2 (Eq.trans (congrArg (fun K => m31a_13 N x0_0 x2 x3 x6 K) h3) (by kernel_rfl)))
def m31a_10 (N : Nat) (x0_0 x2 x3 : D) (Kr : D → Option R) : Option R :=
  (m31a_11 N x0_0 x2 x3 (fun y0_0 y2 y3 y6 => (m31a_12 N y0_0 y2 y3 y6 Kr)))
theorem e31a_10 (N : Nat) (k : Kn R) (x0_0 x2 x3 : D) : runC PHI Tb35 N vc31_10 (s31a_1 x0_0 x2 x3) k = m31a_10 N x0_0 x2 x3 (fun x5 => k .ret (s31a_2 x5)) := by
  have h2 := e31a_11 N (kseq PHI Tb35 N vc31_12 k) x0_0 x2 x3
  have h3 := (funext fun y0_0 => funext fun y2 => funext fun y3 => funext fun y6 => (e31a_12 N k y0_0 y2 y3 y6) : (fun (y0_0 y2 y3 y6 : D) => (kseq PHI Tb35 N vc31_12 k) .normal (s31a_3 y0_0 y2 y3 y6)) = _)
  refine Eq.trans (runC_seq _ _ _ k) (Eq.trans h2 (Eq.trans (congrArg (fun K => m31a_11 N x0_0 x2 x3 K) h3) (by kernel_rfl)))
def m31a_2 (N : Nat) (x0_0 x1 x2 x3 : D) (Kr : D → Option R) : Option R :=
  (m31a_3 N x0_0 x1 x2 x3 (fun y0_0 y2 y3 => (m31a_10 N y0_0 y2 y3 Kr)) Kr)
theorem e31a_2 (N : Nat) (k : Kn R) (x0_0 x1 x2 x3 : D) : runC PHI Tb35 N vc31_2 (s31a_0 x0_0 x1 x2 x3) k = m31a_2 N x0_0 x1 x2 x3 (fun x5 => k .ret (s31a_2 x5)) := by
  have h2 := e31a_3 N (kseq PHI Tb35 N vc31_10 k) x0_0 x1 x2 x3
  have h3 := (funext fun y0_0 => funext fun y2 => funext fun y3 => (e31a_10 N k y0_0 y2 y3) : (fun (y0_0 y2 y3 : D) => (kseq PHI Tb35 N vc31_10 k) .normal (s31a_1 y0_0 y2 y3)) = _)
  refine Eq.trans (runC_seq _ _ _ k) (Eq.trans h2 (Eq.trans (congrArg (fun K => m31a_3 N x0_0 x1 x2 x3 K (fun x5 => (kseq PHI Tb35 N vc31_10 k) .ret (s31a_2 x5))) h3) (by kernel_rfl)))
def m31a_0 (N : Nat) (x0_0 x1 x2 x3 : D) (Kr : D → Option R) : Option R :=
  (m31a_1 N x0_0 x1 x2 x3 (fun y0_0 y1 y2 y3 => (m31a_2 N y0_0 y1 y2 y3 Kr)))
theorem e31a_0 (N : Nat) (k : Kn R) (x0_0 x1 x2 x3 : D) : runC PHI Tb35 N vc31_0 (s31a_0 x0_0 x1 x2 x3) k = m31a_0 N x0_0 x1 x2 x3 (fun x5 => k .ret (s31a_2 x5)) := by
  have h2 := e31a_1 N (kseq PHI Tb35 N vc31_2 k) x0_0 x1 x2 x3
  have h3 := (funext fun y0_0 => funext fun y1 => funext fun y2 => funext fun y3 => (e31a_2 N k y0_0 y1 y2 y3) : (fun (y0_0 y1 y2 y3 : D) => (kseq PHI Tb35 N vc31_2 k) .normal (s31a_0 y0_0 y1 y2 y3)) = _)
  refine Eq.trans (runC_seq _ _ _ k) (Eq.trans h2 (Eq.trans (congrArg (fun K => m31a_1 N x0_0 x1 x2 x3 K) h3) (by kernel_rfl)))
theorem r31a (N : Nat) (x0_0 x1 x2 x3 : D) : runC PHI Tb35 N vf31.body (enterV vf31 [V.fn 32 [V.f x0_0] [Ty.p 35], V.f x1, V.f x2, V.f x3] []) (finish vf31) = m31a_0 N x0_0 x1 x2 x3 (fun x5 => finish vf31 .ret (s31a_2 x5)) := 
  Eq.trans (runC_pre (s1 := (s31a_0 x0_0 x1 x2 x3)) (by kernel_rfl) _ _) (Eq.trans (e31a_0 N (finish vf31) x0_0 x1 x2 x3) (by kernel_rfl))
end
theorem in31a {R : Type} (N : Nat) (a c b : D) (ha : isPtrD a = true) (bs : D) (hl : bs.toL.length ≤ 9223372036854775807) (hN : bs.toL.length < N) (K0 : D → D → D → Option R) : l31a_16 N N a c b (.i 0) bs (.i (bs.toL.length : Int)) (.i 0) K0 = K0 c b (.i (cntP (fun x => cmpB 32 x (a.deref.at 1).toI) bs.toL)) := by
  exact loop_fold (fun j i s => l31a_16 N j a c b (.i s) bs (.i (bs.toL.length : Int)) (.i (i : Nat)) K0) (fun s => K0 c b (.i s)) bs.toL.length (cntF (fun x => cmpB 32 x (a.deref.at 1).toI) bs.toL) (fun i s => 0 ≤ s ∧ s ≤ (i : Int))
    (fun j i s hi h => by
      simp only [l31a_16, m31a_17, toI_i, cond_true, ltb_n hi, inb_t hi, at_nat, succ_n hi hl, pr32, pc, ha, sp32, cntF]
      cases cmpB 32 (bs.toL.getD i .nil).toI (a.deref.at 1).toI
      · simp only [cond_false, Int.add_zero]
      · rw [cond_true, cond_true, wrap64_id (by omega) (by omega)])
    (cntF_r _ _)
    (fun j s _ => by simp only [l31a_16, m31a_17, toI_i, ltb_self, cond_false])
    bs.toL.length 0 N 0 (by omega) hN (by omega)
theorem run31a (N : Nat) (a v c b : D) (hp : pr31 a v c b = true) (hl : (c.deref.at 2).toL.length ≤ 9223372036854775807) (hN : (c.deref.at 2).toL.length < N) : runC PHI Tb35 N vf31.body (enterV vf31 [.fn 32 [.f a] [Ty.p 35], .f v, .f c, .f b] []) (finish vf31) = some (.f (.i (sp31_32 a v c b)), []) := by
  refine (r31a N a v c b).trans ?_
  simp only [pr31, Bool.and_eq_true] at hp
  obtain ⟨h1, h2, h3, h4⟩ := hp
  simp only [m31a_0, m31a_1, m31a_2, m31a_3, m31a_10, m31a_11, m31a_12, m31a_13, m31a_14, m31a_15, m31a_16, m31a_33, h2, h3, h4, cond_true, sp31_32, sp31, blw, show (!eqb 3 0) = true from rfl]
  cases eqb (v.deref.at 0).toI 1
  · rfl
  · simp only [Bool.not_true, cond_false]
    by_cases hz : ((c.deref.at 2).toL.length : Int) = 0
    · rw [eqb_t hz]; rfl
    · rw [eqb_f hz, cond_false, in31a N a c b h1 (c.deref.at 2) hl hN]
      simp only [h3, h4, eqb_f hz, cond_true, Bool.not_false]
      rfl
def sp31_33 (a v c b : D) : Int := sp31 33 a v c b
def pr31_33 (a v c b : D) : Bool := pr31 a v c b
section
variable {R : Type}
def m31b_1 (N : Nat) (x0_0 x1 x2 x3 : D) (K : D → D → D → D → Option R) : Option R :=
  K x0_0 x1 x2 x3
def s31b_0 (x0_0 x1 x2 x3 : D) : St := sts 40 [(0, V.fn 33 [V.f x0_0] [Ty.p 35]), (1, V.f x1), (2, V.f x2), (3, V.f x3)] []
theorem e31b_1 (N : Nat) (k : Kn R) (x0_0 x1 x2 x3 : D) : runC PHI Tb35 N vc31_1 (s31b_0 x0_0 x1 x2 x3) k = m31b_1 N x0_0 x1 x2 x3 (fun x0_0 x1 x2 x3 => k .normal (s31b_0 x0_0 x1 x2 x3)) := by
  refine Eq.trans (runC_post _ _ _ k) (Eq.trans (ops_run _ _ _ _) (by kernel_rfl))
def m31b_3 (N : Nat) (x0_0 x1 x2 x3 : D) (K : D → D → D → Option R) (Kr : D → Option R) : Option R :=
  (bif (isPtrD x1) then (bif (!eqb (x1.deref.at 0).toI 1) then (bif true then (bif (isPtrD x3) then (bif (!eqb 3 0) then Kr (D.i (IntKind.wrap IntKind.i64 (Int.tdiv x3.deref.toI 3))) else none) else none) else K x0_0 x2 x3) else (bif (isPtrD x2) then (bif (eqb ((x2.deref.at 2).toL.length : Int) 0) then (bif (isPtrD x3) then (bif (!eqb 3 0) then Kr (D.i (IntKind.wrap IntKind.i64 (Int.tdiv x3.deref.toI 3))) else none) else none) else K x0_0 x2 x3) else none)) else none)
def s31b_1 (x0_0 x2 x3 : D) : St := sts 40 [(0, V.fn 33 [V.f x0_0] [Ty.p 35]), (2, V.f x2), (3, V.f x3)] []
def s31b_2 (x5 : D) : St := sts 40 [(5, V.f x5)] []
theorem e31b_3 (N : Nat) (k : Kn R) (x0_0 x1 x2 x3 : D) : runC PHI Tb35 N vc31_3 (s31b_0 x0_0 x1 x2 x3) k = m31b_3 N x0_0 x1 x2 x3 (fun x0_0 x2 x3 => k .normal (s31b_1 x0_0 x2 x3)) (fun x5 => k .ret (s31b_2 x5)) := by kernel_rfl
def m31b_11 (N : Nat) (x0_0 x2 x3 : D) (K : D → D → D → D → Option R) : Option R :=
  K x0_0 x2 x3 (D.i 0)
def s31b_3 (x0_0 x2 x3 x6 : D) : St := sts 40 [(0, V.fn 33 [V.f x0_0] [Ty.p 35]), (2, V.f x2), (3, V.f x3), (6, V.f x6)] []
theorem e31b_11 (N : Nat) (k : Kn R) (x0_0 x2 x3 : D) : runC PHI Tb35 N vc31_11 (s31b_1 x0_0 x2 x3) k = m31b_11 N x0_0 x2 x3 (fun x0_0 x2 x3 x6 => k .normal (s31b_3 x0_0 x2 x3 x6)) := by
  refine Eq.trans (runC_post _ _ _ k) (Eq.trans (ops_run _ _ _ _) (by kernel_rfl))
def m31b_14 (N : Nat) (x0_0 x2 x3 x6 : D) (K : D → D → D → D → D → D → D → Option R) : Option R :=
  (bif (isPtrD x2) then K x0_0 x2 x3 x6 (x2.deref.at 2) (D.i ((x2.deref.at 2).toL.length : Int)) (D.i 0) else none)
def s31b_4 (x0_0 x2 x3 x6 x21 x22 x23 : D) : St := sts 40 [(0, V.fn 33 [V.f x0_0] [Ty.p 35]), (2, V.f x2), (3, V.f x3), (6, V.f x6), (21, V.f x21), (22, V.f x22), (23, V.f x23)] []
theorem e31b_14 (N : Nat) (k : Kn R) (x0_0 x2 x3 x6 : D) : runC PHI Tb35 N vc31_14 (s31b_3 x0_0 x2 x3 x6) k = m31b_14 N x0_0 x2 x3 x6 (fun x0_0 x2 x3 x6 x21 x22 x23 => k .normal (s31b_4 x0_0 x2 x3 x6 x21 x22 x23)) := by
  refine Eq.trans (runC_post _ _ _ k) (Eq.trans (ops_run _ _ _ _) (by kernel_rfl))
def m31b_17 (N : Nat) (x0_0 x2 x3 x6 x21 x22 x23 : D) (K : D → D → D → D → D → D → D → Option R) (K0 : D → D → D → Option R) : Option R :=
  (bif (ltb x23.toI x22.toI) then (bif (inb x23.toI x21.toL.length) then (bif (pr33 (x21.at (x23.toI : Int).toNat) x0_0) then (bif (sp33 (x21.at (x23.toI : Int).toNat) x0_0) then K x0_0 x2 x3 (D.i (IntKind.wrap IntKind.i64 (x6.toI + 1))) x21 x22 (D.i (IntKind.wrap IntKind.i64 (x23.toI + 1))) else K x0_0 x2 x3 x6 x21 x22 (D.i (IntKind.wrap IntKind.i64 (x23.toI + 1)))) else none) else none) else K0 x2 x3 x6)
def s31b_5 (x2 x3 x6 : D) : St := sts 40 [(2, V.f x2), (3, V.f x3), (6, V.f x6)] []
theorem e31b_17 (N : Nat) (k : Kn R) (x0_0 x2 x3 x6 x21 x22 x23 : D) : runC PHI Tb35 N vc31_17 (s31b_4 x0_0 x2 x3 x6 x21 x22 x23) k = m31b_17 N x0_0 x2 x3 x6 x21 x22 x23 (fun x0_0 x2 x3 x6 x21 x22 x23 => k .normal (s31b_4 x0_0 x2 x3 x6 x21 x22 x23)) (fun x2 x3 x6 => k (.exit 0) (s31b_5 x2 x3 x6)) := by kernel_rfl
def l31b_16 (N : Nat) (j : Nat) (x0_0 x2 x3 x6 x21 x22 x23 : D) (K0 : D → D → D → Option R) : Option R :=
  match j with
  | 0 => none
  | j + 1 => (m31b_17 N x0_0 x2 x3 x6 x21 x22 x23 (fun y0_0 y2 y3 y6 y21 y22 y23 => l31b_16 N j y0_0 y2 y3 y6 y21 y22 y23 K0) K0)
def m31b_16 (N : Nat) (x0_0 x2 x3 x6 x21 x22 x23 : D) (K0 : D → D → D → Option R) : Option R :=
  l31b_16 N N x0_0 x2 x3 x6 x21 x22 x23 K0
theorem el31b_16 (N : Nat) (k : Kn R) : ∀ (j : Nat) (x0_0 x2 x3 x6 x21 x22 x23 : D), loopGo (runC PHI Tb35 N vc31_17) j (s31b_4 x0_0 x2 x3 x6 x21 x22 x23) k = l31b_16 N j x0_0 x2 x3 x6 x21 x22 x23 (fun x2 x3 x6 => k (.exit 0) (s31b_5 x2 x3 x6))
  | 0, _, _, _, _, _, _, _ => by kernel_rfl
  | j + 1, x0_0, x2, x3, x6, x21, x22, x23 => by
    have h2 := e31b_17 N (kloop PHI Tb35 N vc31_17 j k) x0_0 x2 x3 x6 x21 x22 x23
    have h3 : (fun (y0_0 y2 y3 y6 y21 y22 y23 : D) => (kloop PHI Tb35 N vc31_17 j k) .normal (s31b_4 y0_0 y2 y3 y6 y21 y22 y23)) = (fun (y0_0 y2 y3 y6 y21 y22 y23 : D) => l31b_16 N j y0_0 y2 y3 y6 y21 y22 y23 (fun x2 x3 x6 => k (.exit 0) (s31b_5 x2 x3 x6))) := funext fun y0_0 => funext fun y2 => funext fun y3 => funext fun y6 => funext fun y21 => funext fun y22 => funext fun y23 => (el31b_16 N k j y0_0 y2 y3 y6 y21 y22 y23)
    refine Eq.trans (loop_succ _ j _ k) (Eq.trans h2 (Eq.trans (congrArg (fun K => m31b_17 N x0_0 x2 x3 x6 x21 x22 x23 K (fun x2 x3 x6 => (kloop PHI Tb35 N vc31_17 j k) (.exit 0) (s31b_5 x2 x3 x6))) h3) (by kernel_rfl)))
theorem e31b_16 (N : Nat) (k : Kn R) (x0_0 x2 x3 x6 x21 x22 x23 : D) : runC PHI Tb35 N vc31_16 (s31b_4 x0_0 x2 x3 x6 x21 x22 x23) k = m31b_16 N x0_0 x2 x3 x6 x21 x22 x23 (fun x2 x3 x6 => k (.exit 0) (s31b_5 x2 x3 x6)) := by
  refine Eq.trans (runC_loop _ _ k) (Eq.trans (el31b_16 N k N x0_0 x2 x3 x6 x21 x22 x23) (by kernel_rfl))
def m31b_15 (N : Nat) (x0_0 x2 x3 x6 x21 x22 x23 : D) (K : D → D → D → Option R) : Option R :=
  (m31b_16 N x0_0 x2 x3 x6 x21 x22 x23 (fun y2 y3 y6 => K y2 y3 y6))
theorem e31b_15 (N : Nat) (k : Kn R) (x0_0 x2 x3 x6 x21 x22 x23 : D) : runC PHI Tb35 N vc31_15 (s31b_4 x0_0 x2 x3 x6 x21 x22 x23) k = m31b_15 N x0_0 x2 x3 x6 x21 x22 x23 (fun x2 x3 x6 => k .normal (s31b_5 x2 x3 x6)) := by
  refine Eq.trans (runC_block _ _ _ k) (Eq.trans (e31b_16 N (kblk 0 k) x0_0 x2 x3 x6 x21 x22 x23) (by kernel_rfl))
def m31b_13 (N : Nat) (x0_0 x2 x3 x6 : D) (K : D → D → D → Option R) : Option R :=
  (m31b_14 N x0_0 x2 x3 x6 (fun y0_0 y2 y3 y6 y21 y22 y23 => (m31b_15 N y0_0 y2 y3 y6 y21 y22 y23 (fun y2 y3 y6 => K y2 y3 y6))))
theorem e31b_13 (N : Nat) (k : Kn R) (x0_0 x2 x3 x6 : D) : runC PHI Tb35 N vc31_13 (s31b_3 x0_0 x2 x3 x6) k = m31b_13 N x0_0 x2 x3 x6 (fun x2 x3 x6 => k .normal (s31b_5 x2 x3 x6)) := by
  have h2 := e31b_14 N (kseq PHI Tb35 N vc31_15 k) x0_0 x2 x3 x6
  have h3 := (funext fun y0_0 => funext fun y2 => funext fun y3 => funext fun y6 => funext fun y21 => funext fun y22 => funext fun y23 => (e31b_15 N k y0_0 y2 y3 y6 y21 y22 y23) : (fun (y0_0 y2 y3 y6 y21 y22 y23 : D) => (kseq PHI Tb35 N vc31_15 k) .normal (s31b_4 y0_0 y2 y3 y6 y21 y22 y23)) = _)
  refine Eq.trans (runC_seq _ _ _ k) (Eq.trans h2 (Eq.trans (congrArg (fun K => m31b_14 N x0_0 x2 x3 x6 K) h3) (by kernel_rfl)))
def m31b_33 (N : Nat) (x2 x3 x6 : D) (Kr : D → Option R) : Option R :=
  (bif (isPtrD x3) then (bif (isPtrD x2) then (bif (!eqb ((x2.deref.at 2).toL.length : Int) 0) then Kr (D.i (IntKind.wrap IntKind.i64 (Int.tdiv (IntKind.wrap IntKind.i64 (x3.deref.toI * x6.toI)) ((x2.deref.at 2).toL.length : Int)))) else none) else none) else none)
theorem e31b_33 (N : Nat) (k : Kn R) (x2 x3 x6 : D) : runC PHI Tb35 N vc31_33 (s31b_5 x2 x3 x6) k = m31b_33 N x2 x3 x6 (fun x5 => k .ret (s31b_2 x5)) := by kernel_rfl
def m31b_12 (N : Nat) (x0_0 x2 x3 x6 : D) (Kr : D → Option R) : Option R :=
  (m31b_13 N x0_0 x2 x3 x6 (fun y2 y3 y6 => (m31b_33 N y2 y3 y6 Kr)))
theorem e31b_12 (N : Nat) (k : Kn R) (x0_0 x2 x3 x6 : D) : runC PHI Tb35 N vc31_12 (s31b_3 x0_0 x2 x3 x6) k = m31b_12 N x0_0 x2 x3 x6 (fun x5 => k .ret (s31b_2 x5)) := by
  have h2 := e31b_13 N (kseq PHI Tb35 N vc31_33 k) x0_0 x2 x3 x6
  have h3 := (funext fun y2 => funext fun y3 => funext fun y6 => (e31b_33 N k y2 y3 y6) : (fun (y2 y3 y6 : D) => (kseq PHI Tb35 N vc31_33 k) .normal (s31b_5 y2 y3 y6)) = _)
  refine Eq.trans (runC_seq _ _ _ k) (Eq.trans h2 (Eq.trans (congrArg (fun K => m31b_13 N x0_0 x2 x3 x6 K) h3) (by kernel_rfl)))
def m31b_10 (N : Nat) (x0_0 x2 x3 : D) (Kr : D → Option R) : Option R :=
  (m31b_11 N x0_0 x2 x3 (fun y0_0 y2 y3 y6 => (m31b_12 N y0_0 y2 y3 y6 Kr)))
theorem e31b_10 (N : Nat) (k : Kn R) (x0_0 x2 x3 : D) : runC PHI Tb35 N vc31_10 (s31b_1 x0_0 x2 x3) k = m31b_10 N x0_0 x2 x3 (fun x5 => k .ret (s31b_2 x5)) := by
  have h2 := e31b_11 N (kseq PHI Tb35 N vc31_12 k) x0_0 x2 x3
  have h3 := (funext fun y0_0 => funext fun y2 => funext fun y3 => funext fun y6 => (e31b_12 N k y0_0 y2 y3 y6) : (fun (y0_0 y2 y3 y6 : D) => (kseq PHI Tb35 N vc31_12 k) .normal (s31b_3 y0_0 y2 y3 y6)) = _)
  refine Eq.trans (runC_seq _ _ _ k) (Eq.trans h2 (Eq.trans (congrArg (fun K => m31b_11 N x0_0 x2 x3 K) h3) (by kernel_rfl)))
def m31b_2 (N : Nat) (x0_0 x1 x2 x3 : D) (Kr : D → Option R) : Option R :=
  (m31b_3 N x0_0 x1 x2 x3 (fun y0_0 y2 y3 => (m31b_10 N y0_0 y2 y3 Kr)) Kr)
theorem e31b_2 (N : Nat) (k : Kn R) (x0_0 x1 x2 x3 : D) : runC PHI Tb35 N vc31_2 (s31b_0 x0_0 x1 x2 x3) k = m31b_2 N x0_0 x1 x2 x3 (fun x5 => k .ret (s31b_2 x5)) := by
  have h2 := e31b_3 N (kseq PHI Tb35 N vc31_10 k) x0_0 x1 x2 x3
  have h3 := (funext fun y0_0 => funext fun y2 => funext fun y3 => (e31b_10 N k y0_0 y2 y3) : (fun (y0_0 y2 y3 : D) => (kseq PHI Tb35 N vc31_10 k) .normal (s31b_1 y0_0 y2 y3)) = _)
  refine Eq.trans (runC_seq _ _ _ k) (Eq.trans h2 (Eq.trans (congrArg (fun K => m31b_3 N x0_0 x1 x2 x3 K (fun x5 => (kseq PHI Tb35 N vc31_10 k) .ret (s31b_2 x5))) h3) (by kernel_rfl)))
def m31b_0 (N : Nat) (x0_0 x1 x2 x3 : D) (Kr : D → Option R) : Option R :=
  (m31b_1 N x0_0 x1 x2 x3 (fun y0_0 y1 y2 y3 => (m31b_2 N y0_0 y1 y2 y3 Kr)))
theorem e31b_0 (N : Nat) (k : Kn R) (x0_0 x1 x2 x3 : D) : runC PHI Tb35 N vc31_0 (s31b_0 x0_0 x1 x2 x3) k = m31b_0 N x0_0 x1 x2 x3 (fun x5 => k .ret (s31b_2 x5)) := by
  have h2 := e31b_1 N (kseq PHI Tb35 N vc31_2 k) x0_0 x1 x2 x3
  have h3 := (funext fun y0_0 => funext fun y1 => funext fun y2 => funext fun y3 => (e31b_2 N k y0_0 y1 y2 y3) : (fun (y0_0 y1 y2 y3 : D) => (kseq PHI Tb35 N vc31_2 k) .normal (s31b_0 y0_0 y1 y2 y3)) = _)
  refine Eq.trans (runC_seq _ _ _ k) (Eq.trans h2 (Eq.trans (congrArg (fun K => m31b_1 N x0_0 x1 x2 x3 K) h3) (by kernel_rfl)))
theorem r31b (N : Nat) (x0_0 x1 x2 x3 : D) : runC PHI Tb35 N vf31.body (enterV vf31 [V.fn 33 [V.f x0_0] [Ty.p 35], V.f x1, V.f x2, V.f x3] []) (finish vf31) = m31b_0 N x0_0 x1 x2 x3 (fun x5 => finish vf31 .ret (s31b_2 x5)) := 
  Eq.trans (runC_pre (s1 := (s31b_0 x0_0 x1 x2 x3)) (by kernel_rfl) _ _) (Eq.trans (e31b_0 N (finish vf31) x0_0 x1 x2 x3) (by kernel_rfl))
end
theorem in31b {R : Type} (N : Nat) (a c b : D) (ha : isPtrD a = true) (bs : D) (hl : bs.toL.length ≤ 9223372036854775807) (hN : bs.toL.length < N) (K0 : D → D → D → Option R) : l31b_16 N N a c b (.i 0) bs (.i (bs.toL.length : Int)) (.i 0) K0 = K0 c b (.i (cntP (fun x => cmpB 33 x (a.deref.at 1).toI) bs.toL)) := by
  exact loop_fold (fun j i s => l31b_16 N j a c b (.i s) bs (.i (bs.toL.length : Int)) (.i (i : Nat)) K0) (fun s => K0 c b (.i s)) bs.toL.length (cntF (fun x => cmpB 33 x (a.deref.at 1).toI) bs.toL) (fun i s => 0 ≤ s ∧ s ≤ (i : Int))
    (fun j i s hi h => by
      simp only [l31b_16, m31b_17, toI_i, cond_true, ltb_n hi, inb_t hi, at_nat, succ_n hi hl, pr33, pc, ha, sp33, cntF]
      cases cmpB 33 (bs.toL.getD i .nil).toI (a.deref.at 1).toI
      · simp only [cond_false, Int.add_zero]
      · rw [cond_true, cond_true, wrap64_id (by omega) (by omega)])
    (cntF_r _ _)
    (fun j s _ => by simp only [l31b_16, m31b_17, toI_i, ltb_self, cond_false])
    bs.toL.length 0 N 0 (by omega) hN (by omega)
theorem run31b (N : Nat) (a v c b : D) (hp : pr31 a v c b = true) (hl : (c.deref.at 2).toL.length ≤ 9223372036854775807) (hN : (c.deref.at 2).toL.length < N) : runC PHI Tb35 N vf31.body (enterV vf31 [.fn 33 [.f a] [Ty.p 35], .f v, .f c, .f b] []) (finish vf31) = some (.f (.i (sp31_33 a v c b)), []) := by
  refine (r31b N a v c b).trans ?_
  simp only [pr31, Bool.and_eq_true] at hp
  obtain ⟨h1, h2, h3, h4⟩ := hp
  simp only [m31b_0, m31b_1, m31b_2, m31b_3, m31b_10, m31b_11, m31b_12, m31b_13, m31b_14, m31b_15, m31b_16, m31b_33, h2, h3, h4, cond_true, sp31_33, sp31, blw, show (!eqb 3 0) = true from rfl]
  cases eqb (v.deref.at 0).toI 1
  · rfl
  · simp only [Bool.not_true, cond_false]
    by_cases hz : ((c.deref.at 2).toL.length : Int) = 0
    · rw [eqb_t hz]; rfl
    · rw [eqb_f hz, cond_false, in31b N a c b h1 (c.deref.at 2) hl hN]
      simp only [h3, h4, eqb_f hz, cond_true, Bool.not_false]
      rfl
def sp31_34 (a v c b : D) : Int := sp31 34 a v c b
def pr31_34 (a v c b : D) : Bool := pr31 a v c b
section
variable {R : Type}
def m31c_1 (N : Nat) (x0_0 x1 x2 x3 : D) (K : D → D → D → D → Option R) : Option R :=
  K x0_0 x1 x2 x3
def s31c_0 (x0_0 x1 x2 x3 : D) : St := sts 40 [(0, V.fn 34 [V.f x0_0] [Ty.p 35]), (1, V.f x1), (2, V.f x2), (3, V.f x3)] []
theorem e31c_1 (N : Nat) (k : Kn R) (x0_0 x1 x2 x3 : D) : runC PHI Tb35 N vc31_1 (s31c_0 x0_0 x1 x2 x3) k = m31c_1 N x0_0 x1 x2 x3 (fun x0_0 x1 x2 x3 => k .normal (s31c_0 x0_0 x1 x2 x3)) := by
  refine Eq.trans (runC_post _ _ _ k) (Eq.trans (ops_run _ _ _ _) (by kernel_rfl))
def m31c_3 (N : Nat) (x0_0 x1 x2 x3 : D) (K : D → D → D → Option R) (Kr : D → Option R) : Option R :=
  (bif (isPtrD x1) then (bif (!eqb (x1.deref.at 0).toI 1) then (bif true then (bif (isPtrD x3) then (bif (!eqb 3 0) then Kr (D.i (IntKind.wrap IntKind.i64 (Int.tdiv x3.deref.toI 3))) else none) else none) else K x0_0 x2 x3) else (bif (isPtrD x2) then (bif (eqb ((x2.deref.at 2).toL.length : Int) 0) then (bif (isPtrD x3) then (bif (!eqb 3 0) then Kr (D.i (IntKind.wrap IntKind.i64 (Int.tdiv x3.deref.toI 3))) else none) else none) else K x0_0 x2 x3) else none)) else none)
def s31c_1 (x0_0 x2 x3 : D) : St := sts 40 [(0, V.fn 34 [V.f x0_0] [Ty.p 35]), (2, V.f x2), (3, V.f x3)] []
def s31c_2 (x5 : D) : St := sts 40 [(5, V.f x5)] []
theorem e31c_3 (N : Nat) (k : Kn R) (x0_0 x1 x2 x3 : D) : runC PHI Tb35 N vc31_3 (s31c_0 x0_0 x1 x2 x3) k = m31c_3 N x0_0 x1 x2 x3 (fun x0_0 x2 x3 => k .normal (s31c_1 x0_0 x2 x3)) (fun x5 => k .ret (s31c_2 x5)) := by kernel_rfl
def m31c_11 (N : Nat) (x0_0 x2 x3 : D) (K : D → D → D → D → Option R) : Option R :=
  K x0_0 x2 x3 (D.i 0)
def s31c_3 (x0_0 x2 x3 x6 : D) : St := sts 40 [(0, V.fn 34 [V.f x0_0] [Ty.p 35]), (2, V.f x2), (3, V.f x3), (6, V.f x6)] []
theorem e31c_11 (N : Nat) (k : Kn R) (x0_0 x2 x3 : D) : runC PHI Tb35 N vc31_11 (s31c_1 x0_0 x2 x3) k = m31c_11 N x0_0 x2 x3 (fun x0_0 x2 x3 x6 => k .normal (s31c_3 x0_0 x2 x3 x6)) := by
  refine Eq.trans (runC_post _ _ _ k) (Eq.trans (ops_run _ _ _ _) (by kernel_rfl))
def m31c_14 (N : Nat) (x0_0 x2 x3 x6 : D) (K : D → D → D → D → D → D → D → Option R) : Option R :=
  (bif (isPtrD x2) then K x0_0 x2 x3 x6 (x2.deref.at 2) (D.i ((x2.deref.at 2).toL.length : Int)) (D.i 0) else none)
def s31c_4 (x0_0 x2 x3 x6 x21 x22 x23 : D) : St := sts 40 [(0, V.fn 34 [V.f x0_0] [Ty.p 35]), (2, V.f x2), (3, V.f x3), (6, V.f x6), (21, V.f x21), (22, V.f x22), (23, V.f x23)] []
theorem e31c_14 (N : Nat) (k : Kn R) (x0_0 x2 x3 x6 : D) : runC PHI Tb35 N vc31_14 (s31c_3 x0_0 x2 x3 x6) k = m31c_14 N x0_0 x2 x3 x6 (fun x0_0 x2 x3 x6 x21 x22 x23 => k .normal (s31c_4 x0_0 x2 x3 x6 x21 x22 x23)) := by
  refine Eq.trans (runC_post _ _ _ k) (Eq.trans (ops_run _ _ _ _) (by kernel_rfl))
def m31c_17 (N : Nat) (x0_0 x2 x3 x6 x21 x22 x23 : D) (K : D → D → D → D → D → D → D → Option R) (K0 : D → D → D → Option R) : Option R :=
  (bif (ltb x23.toI x22.toI) then (bif (inb x23.toI x21.toL.length) then (bif (pr34 (x21.at (x23.toI : Int).toNat) x0_0) then (bif (sp34 (x21.at (x23.toI : Int).toNat) x0_0) then K x0_0 x2 x3 (D.i (IntKind.wrap IntKind.i64 (x6.toI + 1))) x21 x22 (D.i (IntKind.wrap IntKind.i64 (x23.toI + 1))) else K x0_0 x2 x3 x6 x21 x22 (D.i (IntKind.wrap IntKind.i64 (x23.toI + 1)))) else none) else none) else K0 x2 x3 x6)
def s31c_5 (x2 x3 x6 : D) : St := sts 40 [(2, V.f x2), (3, V.f x3), (6, V.f x6)] []
theorem e31c_17 (N : Nat) (k : Kn R) (x0_0 x2 x3 x6 x21 x22 x23 : D) : runC PHI Tb35 N vc31_17 (s31c_4 x0_0 x2 x3 x6 x21 x22 x23) k = m31c_17 N x0_0 x2 x3 x6 x21 x22 x23 (fun x0_0 x2 x3 x6 x21 x22 x23 => k .normal (s31c_4 x0_0 x2 x3 x6 x21 x22 x23)) (fun x2 x3 x6 => k (.exit 0) (s31c_5 x2 x3 x6)) := by kernel_rfl
def l31c_16 (N : Nat) (j : Nat) (x0_0 x2 x3 x6 x21 x22 x23 : D) (K0 : D → D → D → Option R) : Option R :=
  match j with
  | 0 => none
  | j + 1 => (m31c_17 N x0_0 x2 x3 x6 x21 x22 x23 (fun y0_0 y2 y3 y6 y21 y22 y23 => l31c_16 N j y0_0 y2 y3 y6 y21 y22 y23 K0) K0)
def m31c_16 (N : Nat) (x0_0 x2 x3 x6 x21 x22 x23 : D) (K0 : D → D → D → Option R) : Option R :=
  l31c_16 N N x0_0 x2 x3 x6 x21 x22 x23 K0
theorem el31c_16 (N : Nat) (k : Kn R) : ∀ (j : Nat) (x0_0 x2 x3 x6 x21 x22 x23 : D), loopGo (runC PHI Tb35 N vc31_17) j (s31c_4 x0_0 x2 x3 x6 x21 x22 x23) k = l31c_16 N j x0_0 x2 x3 x6 x21 x22 x23 (fun x2 x3 x6 => k (.exit 0) (s31c_5 x2 x3 x6))
  | 0, _, _, _, _, _, _, _ => by kernel_rfl
  | j + 1, x0_0, x2, x3, x6, x21, x22, x23 => by
    have h2 := e31c_17 N (kloop PHI Tb35 N vc31_17 j k) x0_0 x2 x3 x6 x21 x22 x23
    have h3 : (fun (y0_0 y2 y3 y6 y21 y22 y23 : D) => (kloop PHI Tb35 N vc31_17 j k) .normal (s31c_4 y0_0 y2 y3 y6 y21 y22 y23)) = (fun (y0_0 y2 y3 y6 y21 y22 y23 : D) => l31c_16 N j y0_0 y2 y3 y6 y21 y22 y23 (fun x2 x3 x6 => k (.exit 0) (s31c_5 x2 x3 x6))) := funext fun y0_0 => funext fun y2 => funext fun y3 => funext fun y6 => funext fun y21 => funext fun y22 => funext fun y23 => (el31c_16 N k j y0_0 y2 y3 y6 y21 y22 y23)
    refine Eq.trans (loop_succ _ j _ k) (Eq.trans h2 (Eq.trans (congrArg (fun K => m31c_17 N x0_0 x2 x3 x6 x21 x22 x23 K (fun x2 x3 x6 => (kloop PHI Tb35 N vc31_17 j k) (.exit 0) (s31c_5 x2 x3 x6))) h3) (by kernel_rfl)))
theorem e31c_16 (N : Nat) (k : Kn R) (x0_0 x2 x3 x6 x21 x22 x23 : D) : runC PHI Tb35 N vc31_16 (s31c_4 x0_0 x2 x3 x6 x21 x22 x23) k = m31c_16 N x0_0 x2 x3 x6 x21 x22 x23 (fun x2 x3 x6 => k (.exit 0) (s31c_5 x2 x3 x6)) := by
  refine Eq.trans (runC_loop _ _ k) (Eq.trans (el31c_16 N k N x0_0 x2 x3 x6 x21 x22 x23) (by kernel_rfl))
def m31c_15 (N : Nat) (x0_0 x2 x3 x6 x21 x22 x23 : D) (K : D → D → D → Option R) : Option R :=
  (m31c_16 N x0_0 x2 x3 x6 x21 x22 x23 (fun y2 y3 y6 => K y2 y3 y6))
theorem e31c_15 (N : Nat) (k : Kn R) (x0_0 x2 x3 x6 x21 x22 x23 : D) : runC PHI Tb35 N vc31_15 (s31c_4 x0_0 x2 x3 x6 x21 x22 x23) k = m31c_15 N x0_0 x2 x3 x6 x21 x22 x23 (fun x2 x3 x6 => k .normal (s31c_5 x2 x3 x6)) := by
  refine Eq.trans (runC_block _ _ _ k) (Eq.trans (e31c_16 N (kblk 0 k) x0_0 x2 x3 x6 x21 x22 x23) (by kernel_rfl))
def m31c_13 (N : Nat) (x0_0 x2 x3 x6 : D) (K : D → D → D → Option R) : Option R :=
  (m31c_14 N x0_0 x2 x3 x6 (fun y0_0 y2 y3 y6 y21 y22 y23 => (m31c_15 N y0_0 y2 y3 y6 y21 y22 y23 (fun y2 y3 y6 => K y2 y3 y6))))
theorem e31c_13 (N : Nat) (k : Kn R) (x0_0 x2 x3 x6 : D) : runC PHI Tb35 N vc31_13 (s31c_3 x0_0 x2 x3 x6) k = m31c_13 N x0_0 x2 x3 x6 (fun x2 x3 x6 => k .normal (s31c_5 x2 x3 x6)) := by
  have h2 := e31c_14 N (kseq PHI Tb35 N vc31_15 k) x0_0 x2 x3 x6
  have h3 := (funext fun y0_0 => funext fun y2 => funext fun y3 => funext fun y6 => funext fun y21 => funext fun y22 => funext fun y23 => (e31c_15 N k y0_0 y2 y3 y6 y21 y22 y23) : (fun (y0_0 y2 y3 y6 y21 y22 y23 : D) => (kseq PHI Tb35 N vc31_15 k) .normal (s31c_4 y0_0 y2 y3 y6 y21 y22 y23)) = _)
  refine Eq.trans (runC_seq _ _ _ k) (Eq.trans h2 (Eq.trans (congrArg (fun K => m31c_14 N x0_0 x2 x3 x6 K) h3) (by kernel_rfl)))
def m31c_33 (N : Nat) (x2 x3 x6 : D) (Kr : D → Option R) : Option R :=
  (bif (isPtrD x3) then (bif (isPtrD x2) then (bif (!eqb ((x2.deref.at 2).toL.length : Int) 0) then Kr (D.i (IntKind.wrap IntKind.i64 (Int.tdiv (IntKind.wrap IntKind.i64 (x3.deref.toI * x6.toI)) ((x2.deref.at 2).toL.length : Int)))) else none) else none) else none)
theorem e31c_33 (N : Nat) (k : Kn R) (x2 x3 x6 : D) : runC PHI Tb35 N vc31_33 (s31c_5 x2 x3 x6) k = m31c_33 N x2 x3 x6 (fun x5 => k .ret (s31c_2 x5)) := by kernel_rfl
def m31c_12 (N : Nat) (x0_0 x2 x3 x6 : D) (Kr : D → Option R) : Option R :=
  (m31c_13 N x0_0 x2 x3 x6 (fun y2 y3 y6 => (m31c_33 N y2 y3 y6 Kr)))
theorem e31c_12 (N : Nat) (k : Kn R) (x0_0 x2 x3 x6 : D) : runC PHI Tb35 N vc31_12 (s31c_3 x0_0 x2 x3 x6) k = m31c_12 N x0_0 x2 x3 x6 (fun x5 => k .ret (s31c_2 x5)) := by
  have h2 := e31c_13 N (kseq PHI Tb35 N vc31_33 k) x0_0 x2 x3 x6
  have h3 := (funext fun y2 => funext fun y3 => funext fun y6 => (e31c_33 N k y2 y3 y6) : (fun (y2 y3 y6 : D) => (kseq PHI Tb35 N vc31_33 k) .normal (s31c_5 y2 y3 y6)) = _)
  refine Eq.trans (runC_seq _ _ _ k) (Eq.trans h2 (Eq.trans (congrArg (fun K => m31c_13 N x0_0 x2 x3 x6 K) h3) (by kernel_rfl)))
def m31c_10 (N : Nat) (x0_0 x2 x3 : D) (Kr : D → Option R) : Option R :=
  (m31c_11 N x0_0 x2 x3 (fun y0_0 y2 y3 y6 => (m31c_12 N y0_0 y2 y3 y6 Kr)))
theorem e31c_10 (N : Nat) (k : Kn R) (x0_0 x2 x3 : D) : runC PHI Tb35 N vc31_10 (s31c_1 x0_0 x2 x3) k = m31c_10 N x0_0 x2 x3 (fun x5 => k .ret (s31c_2 x5)) := by
  have h2 := e31c_11 N (kseq PHI Tb35 N vc31_12 k) x0_0 x2 x3
  have h3 := (funext fun y0_0 => funext fun y2 => funext fun y3 => funext fun y6 => (e31c_12 N k y0_0 y2 y3 y6) : (fun (y0_0 y2 y3 y6 : D) => (kseq PHI Tb35 N vc31_12 k) .normal (s31c_3 y0_0 y2 y3 y6)) = _)
  refine Eq.trans (runC_seq _ _ _ k) (Eq.trans h2 (Eq.trans (congrArg (fun K => m31c_11 N x0_0 x2 x3 K) h3) (by kernel_rfl)))
def m31c_2 (N : Nat) (x0_0 x1 x2 x3 : D) (Kr : D → Option R) : Option R :=
  (m31c_3 N x0_0 x1 x2 x3 (fun y0_0 y2 y3 => (m31c_10 N y0_0 y2 y3 Kr)) Kr)
theorem e31c_2 (N : Nat) (k : Kn R) (x0_0 x1 x2 x3 : D) : runC PHI Tb35 N vc31_2 (s31c_0 x0_0 x1 x2 x3) k = m31c_2 N x0_0 x1 x2 x3 (fun x5 => k .ret (s31c_2 x5)) := by
  have h2 := e31c_3 N (kseq PHI Tb35 N vc31_10 k) x0_0 x1 x2 x3
  have h3 := (funext fun y0_0 => funext fun y2 => funext fun y3 => (e31c_10 N k y0_0 y2 y3) : (fun (y0_0 y2 y3 : D) => (kseq PHI Tb35 N vc31_10 k) .normal (s31c_1 y0_0 y2 y3)) = _)
  refine Eq.trans (runC_seq _ _ _ k) (Eq.trans h2 (Eq.trans (congrArg (fun K => m31c_3 N x0_0 x1 x2 x3 K (fun x5 => (kseq PHI Tb35 N vc31_10 k) .ret (s31c_2 x5))) h3) (by kernel_rfl)))
def m31c_0 (N : Nat) (x0_0 x1 x2 x3 : D) (Kr : D → Option R) : Option R :=
  (m31c_1 N x0_0 x1 x2 x3 (fun y0_0 y1 y2 y3 => (m31c_2 N y0_0 y1 y2 y3 Kr)))
theorem e31c_0 (N : Nat) (k : Kn R) (x0_0 x1 x2 x3 : D) : runC PHI Tb35 N vc31_0 (s31c_0 x0_0 x1 x2 x3) k = m31c_0 N x0_0 x1 x2 x3 (fun x5 => k .ret (s31c_2 x5)) := by
  have h2 := e31c_1 N (kseq PHI Tb35 N vc31_2 k) x0_0 x1 x2 x3
  have h3 := (funext fun y0_0 => funext fun y1 => funext fun y2 => funext fun y3 => (e31c_2 N k y0_0 y1 y2 y3) : (fun (y0_0 y1 y2 y3 : D) => (kseq PHI Tb35 N vc31_2 k) .normal (s31c_0 y0_0 y1 y2 y3)) = _)
  refine Eq.trans (runC_seq _ _ _ k) (Eq.trans h2 (Eq.trans (congrArg (fun K => m31c_1 N x0_0 x1 x2 x3 K) h3) (by kernel_rfl)))
theorem r31c (N : Nat) (x0_0 x1 x2 x3 : D) : runC PHI Tb35 N vf31.body (enterV vf31 [V.fn 34 [V.f x0_0] [Ty.p 35], V.f x1, V.f x2, V.f x3] []) (finish vf31) = m31c_0 N x0_0 x1 x2 x3 (fun x5 => finish vf31 .ret (s31c_2 x5)) := 
  Eq.trans (runC_pre (s1 := (s31c_0 x0_0 x1 x2 x3)) (by kernel_rfl) _ _) (Eq.trans (e31c_0 N (finish vf31) x0_0 x1 x2 x3) (by kernel_rfl))
end
theorem in31c {R : Type} (N : Nat) (a c b : D) (ha : isPtrD a = true) (bs : D) (hl : bs.toL.length ≤ 9223372036854775807) (hN : bs.toL.length < N) (K0 : D → D → D → Option R) : l31c_16 N N a c b (.i 0) bs (.i (bs.toL.length : Int)) (.i 0) K0 = K0 c b (.i (cntP (fun x => cmpB 34 x (a.deref.at 1).toI) bs.toL)) := by
  exact loop_fold (fun j i s => l31c_16 N j a c b (.i s) bs (.i (bs.toL.length : Int)) (.i (i : Nat)) K0) (fun s => K0 c b (.i s)) bs.toL.length (cntF (fun x => cmpB 34 x (a.deref.at 1).toI) bs.toL) (fun i s => 0 ≤ s ∧ s ≤ (i : Int))
    (fun j i s hi h => by
      simp only [l31c_16, m31c_17, toI_i, cond_true, ltb_n hi, inb_t hi, at_nat, succ_n hi hl, pr34, pc, ha, sp34, cntF]
      cases cmpB 34 (bs.toL.getD i .nil).toI (a.deref.at 1).toI
      · simp only [cond_false, Int.add_zero]
      · rw [cond_true, cond_true, wrap64_id (by omega) (by omega)])
    (cntF_r _ _)
    (fun j s _ => by simp only [l31c_16, m31c_17, toI_i, ltb_self, cond_false])
    bs.toL.length 0 N 0 (by omega) hN (by omega)
theorem run31c (N : Nat) (a v c b : D) (hp : pr31 a v c b = true) (hl : (c.deref.at 2).toL.length ≤ 9223372036854775807) (hN : (c.deref.at 2).toL.length < N) : runC PHI Tb35 N vf31.body (enterV vf31 [.fn 34 [.f a] [Ty.p 35], .f v, .f c, .f b] []) (finish vf31) = some (.f (.i (sp31_34 a v c b)), []) := by
  refine (r31c N a v c b).trans ?_
  simp only [pr31, Bool.and_eq_true] at hp
  obtain ⟨h1, h2, h3, h4⟩ := hp
  simp only [m31c_0, m31c_1, m31c_2, m31c_3, m31c_10, m31c_11, m31c_12, m31c_13, m31c_14, m31c_15, m31c_16, m31c_33, h2, h3, h4, cond_true, sp31_34, sp31, blw, show (!eqb 3 0) = true from rfl]
  cases eqb (v.deref.at 0).toI 1
  · rfl
  · simp only [Bool.not_true, cond_false]
    by_cases hz : ((c.deref.at 2).toL.length : Int) = 0
    · rw [eqb_t hz]; rfl
    · rw [eqb_f hz, cond_false, in31c N a c b h1 (c.deref.at 2) hl hN]
      simp only [h3, h4, eqb_f hz, cond_true, Bool.not_false]
      rfl
def sp31_35 (a v c b : D) : Int := sp31 35 a v c b
def pr31_35 (a v c b : D) : Bool := pr31 a v c b
section
variable {R : Type}
def m31d_1 (N : Nat) (x0_0 x1 x2 x3 : D) (K : D → D → D → D → Option R) : Option R :=
  K x0_0 x1 x2 x3
def s31d_0 (x0_0 x1 x2 x3 : D) : St := sts 40 [(0, V.fn 35 [V.f x0_0] [Ty.p 35]), (1, V.f x1), (2, V.f x2), (3, V.f x3)] []
theorem e31d_1 (N : Nat) (k : Kn R) (x0_0 x1 x2 x3 : D) : runC PHI Tb35 N vc31_1 (s31d_0 x0_0 x1 x2 x3) k = m31d_1 N x0_0 x1 x2 x3 (fun x0_0 x1 x2 x3 => k .normal (s31d_0 x0_0 x1 x2 x3)) := by
  refine Eq.trans (runC_post _ _ _ k) (Eq.trans (ops_run _ _ _ _) (by kernel_rfl))
def m31d_3 (N : Nat) (x0_0 x1 x2 x3 : D) (K : D → D → D → Option R) (Kr : D → Option R) : Option R :=
  (bif (isPtrD x1) then (bif (!eqb (x1.deref.at 0).toI 1) then (bif true then (bif (isPtrD x3) then (bif (!eqb 3 0) then Kr (D.i (IntKind.wrap IntKind.i64 (Int.tdiv x3.deref.toI 3))) else none) else none) else K x0_0 x2 x3) else (bif (isPtrD x2) then (bif (eqb ((x2.deref.at 2).toL.length : Int) 0) then (bif (isPtrD x3) then (bif (!eqb 3 0) then Kr (D.i (IntKind.wrap IntKind.i64 (Int.tdiv x3.deref.toI 3))) else none) else none) else K x0_0 x2 x3) else none)) else none)
def s31d_1 (x0_0 x2 x3 : D) : St := sts 40 [(0, V.fn 35 [V.f x0_0] [Ty.p 35]), (2, V.f x2), (3, V.f x3)] []
def s31d_2 (x5 : D) : St := sts 40 [(5, V.f x5)] []
theorem e31d_3 (N : Nat) (k : Kn R) (x0_0 x1 x2 x3 : D) : runC PHI Tb35 N vc31_3 (s31d_0 x0_0 x1 x2 x3) k = m31d_3 N x0_0 x1 x2 x3 (fun x0_0 x2 x3 => k .normal (s31d_1 x0_0 x2 x3)) (fun x5 => k .ret (s31d_2 x5)) := by kernel_rfl
def m31d_11 (N : Nat) (x0_0 x2 x3 : D) (K : D → D → D → D → Option R) : Option R :=
  K x0_0 x2 x3 (D.i 0)
def s31d_3 (x0_0 x2 x3 x6 : D) : St := sts 40 [(0, V.fn 35 [V.f x0_0] [Ty.p 35]), (2, V.f x2), (3, V.f x3), (6, V.f x6)] []
theorem e31d_11 (N : Nat) (k : Kn R) (x0_0 x2 x3 : D) : runC PHI Tb35 N vc31_11 (s31d_1 x0_0 x2 x3) k = m31d_11 N x0_0 x2 x3 (fun x0_0 x2 x3 x6 => k .normal (s31d_3 x0_0 x2 x3 x6)) := by
  refine Eq.trans (runC_post _ _ _ k) (Eq.trans (ops_run _ _ _ _) (by kernel_rfl))
def m31d_14 (N : Nat) (x0_0 x2 x3 x6 : D) (K : D → D → D → D → D → D → D → Option R) : Option R :=
  (bif (isPtrD x2) then K x0_0 x2 x3 x6 (x2.deref.at 2) (D.i ((x2.deref.at 2).toL.length : Int)) (D.i 0) else none)
def s31d_4 (x0_0 x2 x3 x6 x21 x22 x23 : D) : St := sts 40 [(0, V.fn 35 [V.f x0_0] [Ty.p 35]), (2, V.f x2), (3, V.f x3), (6, V.f x6), (21, V.f x21), (22, V.f x22), (23, V.f x23)] []
theorem e31d_14 (N : Nat) (k : Kn R) (x0_0 x2 x3 x6 : D) : runC PHI Tb35 N vc31_14 (s31d_3 x0_0 x2 x3 x6) k = m31d_14 N x0_0 x2 x3 x6 (fun x0_0 x2 x3 x6 x21 x22 x23 => k .normal (s31d_4 x0_0 x2 x3 x6 x21 x22 x23)) := by
  refine Eq.trans (runC_post _ _ _ k) (Eq.trans (ops_run _ _ _ _) (by kernel_rfl))
def m31d_17 (N : Nat) (x0_0 x2 x3 x6 x21 x22 x23 : D) (K : D → D → D → D → D → D → D → Option R) (K0 : D → D → D → Option R) : Option R :=
  (bif (ltb x23.toI x22.toI) then (bif (inb x23.toI x21.toL.length) then (bif (pr35 (x21.at (x23.toI : Int).toNat) x0_0) then (bif (sp35 (x21.at (x23.toI : Int).toNat) x0_0) then K x0_0 x2 x3 (D.i (IntKind.wrap IntKind.i64 (x6.toI + 1))) x21 x22 (D.i (IntKind.wrap IntKind.i64 (x23.toI + 1))) else K x0_0 x2 x3 x6 x21 x22 (D.i (IntKind.wrap IntKind.i64 (x23.toI + 1)))) else none) else none) else K0 x2 x3 x6)
def s31d_5 (x2 x3 x6 : D) : St := sts 40 [(2, V.f x2), (3, V.f x3), (6, V.f x6)] []
theorem e31d_17 (N : Nat) (k : Kn R) (x0_0 x2 x3 x6 x21 x22 x23 : D) : runC PHI Tb35 N vc31_17 (s31d_4 x0_0 x2 x3 x6 x21 x22 x23) k = m31d_17 N x0_0 x2 x3 x6 x21 x22 x23 (fun x0_0 x2 x3 x6 x21 x22 x23 => k .normal (s31d_4 x0_0 x2 x3 x6 x21 x22 x23)) (fun x2 x3 x6 => k (.exit 0) (s31d_5 x2 x3 x6)) := by kernel_rfl
def l31d_16 (N : Nat) (j : Nat) (x0_0 x2 x3 x6 x21 x22 x23 : D) (K0 : D → D → D → Option R) : Option R :=
  match j with
  | 0 => none
  | j + 1 => (m31d_17 N x0_0 x2 x3 x6 x21 x22 x23 (fun y0_0 y2 y3 y6 y21 y22 y23 => l31d_16 N j y0_0 y2 y3 y6 y21 y22 y23 K0) K0)
def m31d_16 (N : Nat) (x0_0 x2 x3 x6 x21 x22 x23 : D) (K0 : D → D → D → Option R) : Option R :=
  l31d_16 N N x0_0 x2 x3 x6 x21 x22 x23 K0
theorem el31d_16 (N : Nat) (k : Kn R) : ∀ (j : Nat) (x0_0 x2 x3 x6 x21 x22 x23 : D), loopGo (runC PHI Tb35 N vc31_17) j (s31d_4 x0_0 x2 x3 x6 x21 x22 x23) k = l31d_16 N j x0_0 x2 x3 x6 x21 x22 x23 (fun x2 x3 x6 => k (.exit 0) (s31d_5 x2 x3 x6))
  | 0, _, _, _, _, _, _, _ => by kernel_rfl
  | j + 1, x0_0, x2, x3, x6, x21, x22, x23 => by
    have h2 := e31d_17 N (kloop PHI Tb35 N vc31_17 j k) x0_0 x2 x3 x6 x21 x22 x23
    have h3 : (fun (y0_0 y2 y3 y6 y21 y22 y23 : D) => (kloop PHI Tb35 N vc31_17 j k) .normal (s31d_4 y0_0 y2 y3 y6 y21 y22 y23)) = (fun (y0_0 y2 y3 y6 y21 y22 y23 : D) => l31d_16 N j y0_0 y2 y3 y6 y21 y22 y23 (fun x2 x3 x6 => k (.exit 0) (s31d_5 x2 x3 x6))) := funext fun y0_0 => funext fun y2 => funext fun y3 => funext fun y6 => funext fun y21 => funext fun y22 => funext fun y23 => (el31d_16 N k j y0_0 y2 y3 y6 y21 y22 y23)
    refine Eq.trans (loop_succ _ j _ k) (Eq.trans h2 (Eq.trans (congrArg (fun K => m31d_17 N x0_0 x2 x3 x6 x21 x22 x23 K (fun x2 x3 x6 => (kloop PHI Tb35 N vc31_17 j k) (.exit 0) (s31d_5 x2 x3 x6))) h3) (by kernel_rfl)))
theorem e31d_16 (N : Nat) (k : Kn R) (x0_0 x2 x3 x6 x21 x22 x23 : D) : runC PHI Tb35 N vc31_16 (s31d_4 x0_0 x2 x3 x6 x21 x22 x23) k = m31d_16 N x0_0 x2 x3 x6 x21 x22 x23 (fun x2 x3 x6 => k (.exit 0) (s31d_5 x2 x3 x6)) := by
  refine Eq.trans (runC_loop _ _ k) (Eq.trans (el31d_16 N k N x0_0 x2 x3 x6 x21 x22 x23) (by kernel_rfl))
def m31d_15 (N : Nat) (x0_0 x2 x3 x6 x21 x22 x23 : D) (K : D → D → D → Option R) : Option R :=
  (m31d_16 N x0_0 x2 x3 x6 x21 x22 x23 (fun y2 y3 y6 => K y2 y3 y6))
theorem e31d_15 (N : Nat) (k : Kn R) (x0_0 x2 x3 x6 x21 x22 x23 : D) : runC PHI Tb35 N vc31_15 (s31d_4 x0_0 x2 x3 x6 x21 x22 x23) k = m31d_15 N x0_0 x2 x3 x6 x21 x22 x23 (fun x2 x3 x6 => k .normal (s31d_5 x2 x3 x6)) := by
  refine Eq.trans (runC_block _ _ _ k) (Eq.trans (e31d_16 N (kblk 0 k) x0_0 x2 x3 x6 x21 x22 x23) (by kernel_rfl))
def m31d_13 (N : Nat) (x0_0 x2 x3 x6 : D) (K : D → D → D → Option R) : Option R :=
  (m31d_14 N x0_0 x2 x3 x6 (fun y0_0 y2 y3 y6 y21 y22 y23 => (m31d_15 N y0_0 y2 y3 y6 y21 y22 y23 (fun y2 y3 y6 => K y2 y3 y6))))
theorem e31d_13 (N : Nat) (k : Kn R) (x0_0 x2 x3 x6 : D) : runC PHI Tb35 N vc31_13 (s31d_3 x0_0 x2 x3 x6) k = m31d_13 N x0_0 x2 x3 x6 (fun x2 x3 x6 => k .normal (s31d_5 x2 x3 x6)) := by
  have h2 := e31d_14 N (kseq PHI Tb35 N vc31_15 k) x0_0 x2 x3 x6
  have h3 := (funext fun y0_0 => funext fun y2 => funext fun y3 => funext fun y6 => funext fun y21 => funext fun y22 => funext fun y23 => (e31d_15 N k y0_0 y2 y3 y6 y21 y22 y23) : (fun (y0_0 y2 y3 y6 y21 y22 y23 : D) => (kseq PHI Tb35 N vc31_15 k) .normal (s31d_4 y0_0 y2 y3 y6 y21 y22 y23)) = _)
  refine Eq.trans (runC_seq _ _ _ k) (Eq.trans h2 (Eq.trans (congrArg (fun K => m31d_14 N x0_0 x2 x3 x6 K) h3) (by kernel_rfl)))
def m31d_33 (N : Nat) (x2 x3 x6 : D) (Kr : D → Option R) : Option R :=
  (bif (isPtrD x3) then (bif (isPtrD x2) then (bif (!eqb ((x2.deref.at 2).toL.length : Int) 0) then Kr (D.i (IntKind.wrap IntKind.i64 (Int.tdiv (IntKind.wrap IntKind.i64 (x3.deref.toI * x6.toI)) ((x2.deref.at 2).toL.length : Int)))) else none) else none) else none)
theorem e31d_33 (N : Nat) (k : Kn R) (x2 x3 x6 : D) : runC PHI Tb35 N vc31_33 (s31d_5 x2 x3 x6) k = m31d_33 N x2 x3 x6 (fun x5 => k .ret (s31d_2 x5)) := by kernel_rfl
def m31d_12 (N : Nat) (x0_0 x2 x3 x6 : D) (Kr : D → Option R) : Option R :=
  (m31d_13 N x0_0 x2 x3 x6 (fun y2 y3 y6 => (m31d_33 N y2 y3 y6 Kr)))
theorem e31d_12 (N : Nat) (k : Kn R) (x0_0 x2 x3 x6 : D) : runC PHI Tb35 N vc31_12 (s31d_3 x0_0 x2 x3 x6) k = m31d_12 N x0_0 x2 x3 x6 (fun x5 => k .ret (s31d_2 x5)) := by
  have h2 := e31d_13 N (kseq PHI Tb35 N vc31_33 k) x0_0 x2 x3 x6
  have h3 := (funext fun y2 => funext fun y3 => funext fun y6 => (e31d_33 N k y2 y3 y6) : (fun (y2 y3 y6 : D) => (kseq PHI Tb35 N vc31_33 k) .normal (s31d_5 y2 y3 y6)) = _)
  refine Eq.trans (runC_seq _ _ _ k) (Eq.trans h2 (Eq.trans (congrArg (fun K => m31d_13 N x0_0 x2 x3 x6 K) h3) (by kernel_rfl)))
def m31d_10 (N : Nat) (x0_0 x2 x3 : D) (Kr : D → Option R) : Option R :=
  (m31d_11 N x0_0 x2 x3 (fun y0_0 y2 y3 y6 => (m31d_12 N y0_0 y2 y3 y6 Kr)))
theorem e31d_10 (N : Nat) (k : Kn R) (x0_0 x2 x3 : D) : runC PHI Tb35 N vc31_10 (s31d_1 x0_0 x2 x3) k = m31d_10 N x0_0 x2 x3 (fun x5 => k .ret (s31d_2 x5)) := by
  have h2 := e31d_11 N (kseq PHI Tb35 N vc31_12 k) x0_0 x2 x3
  have h3 := (funext fun y0_0 => funext fun y2 => funext fun y3 => funext fun y6 => (e31d_12 N k y0_0 y2 y3 y6) : (fun (y0_0 y2 y3 y6 : D) => (kseq PHI Tb35 N vc31_12 k) .normal (s31d_3 y0_0 y2 y3 y6)) = _)
  refine Eq.trans (runC_seq _ _ _ k) (Eq.trans h2 (Eq.trans (congrArg (fun K => m31d_11 N x0_0 x2 x3 K) h3) (by kernel_rfl)))
def m31d_2 (N : Nat) (x0_0 x1 x2 x3 : D) (Kr : D → Option R) : Option R :=
  (m31d_3 N x0_0 x1 x2 x3 (fun y0_0 y2 y3 => (m31d_10 N y0_0 y2 y3 Kr)) Kr)
theorem e31d_2 (N : Nat) (k : Kn R) (x0_0 x1 x2 x3 : D) : runC PHI Tb35 N vc31_2 (s31d_0 x0_0 x1 x2 x3) k = m31d_2 N x0_0 x1 x2 x3 (fun x5 => k .ret (s31d_2 x5)) := by
  have h2 := e31d_3 N (kseq PHI Tb35 N vc31_10 k) x0_0 x1 x2 x3
  have h3 := (funext fun y0_0 => funext fun y2 => funext fun y3 => (e31d_10 N k y0_0 y2 y3) : (fun (y0_0 y2 y3 : D) => (kseq PHI Tb35 N vc31_10 k) .normal (s31d_1 y0_0 y2 y3)) = _)
  refine Eq.trans (runC_seq _ _ _ k) (Eq.trans h2 (Eq.trans (congrArg (fun K => m31d_3 N x0_0 x1 x2 x3 K (fun x5 => (kseq PHI Tb35 N vc31_10 k) .ret (s31d_2 x5))) h3) (by kernel_rfl)))
def m31d_0 (N : Nat) (x0_0 x1 x2 x3 : D) (Kr : D → Option R) : Option R :=
  (m31d_1 N x0_0 x1 x2 x3 (fun y0_0 y1 y2 y3 => (m31d_2 N y0_0 y1 y2 y3 Kr)))
theorem e31d_0 (N : Nat) (k : Kn R) (x0_0 x1 x2 x3 : D) : runC PHI Tb35 N vc31_0 (s31d_0 x0_0 x1 x2 x3) k = m31d_0 N x0_0 x1 x2 x3 (fun x5 => k .ret (s31d_2 x5)) := by
  have h2 := e31d_1 N (kseq PHI Tb35 N vc31_2 k) x0_0 x1 x2 x3
  have h3 := (funext fun y0_0 => funext fun y1 => funext fun y2 => funext fun y3 => (e31d_2 N k y0_0 y1 y2 y3) : (fun (y0_0 y1 y2 y3 : D) => (kseq PHI Tb35 N vc31_2 k) .normal (s31d_0 y0_0 y1 y2 y3)) = _)
  refine Eq.trans (runC_seq _ _ _ k) (Eq.trans h2 (Eq.trans (congrArg (fun K => m31d_1 N x0_0 x1 x2 x3 K) h3) (by kernel_rfl)))
theorem r31d (N : Nat) (x0_0 x1 x2 x3 : D) : runC PHI Tb35 N vf31.body (enterV vf31 [V.fn 35 [V.f x0_0] [Ty.p 35], V.f x1, V.f x2, V.f x3] []) (finish vf31) = m31d_0 N x0_0 x1 x2 x3 (fun x5 => finish vf31 .ret (s31d_2 x5)) := 
  Eq.trans (runC_pre (s1 := (s31d_0 x0_0 x1 x2 x3)) (by kernel_rfl) _ _) (Eq.trans (e31d_0 N (finish vf31) x0_0 x1 x2 x3) (by kernel_rfl))
end
theorem in31d {R : Type} (N : Nat) (a c b : D) (ha : isPtrD a = true) (bs : D) (hl : bs.toL.length ≤ 9223372036854775807) (hN : bs.toL.length < N) (K0 : D → D → D → Option R) : l31d_16 N N a c b (.i 0) bs (.i (bs.toL.length : Int)) (.i 0) K0 = K0 c b (.i (cntP (fun x => cmpB 35 x (a.deref.at 1).toI) bs.toL)) := by
  exact loop_fold (fun j i s => l31d_16 N j a c b (.i s) bs (.i (bs.toL.length : Int)) (.i (i : Nat)) K0) (fun s => K0 c b (.i s)) bs.toL.length (cntF (fun x => cmpB 35 x (a.deref.at 1).toI) bs.toL) (fun i s => 0 ≤ s ∧ s ≤ (i : Int))
    (fun j i s hi h => by
      simp only [l31d_16, m31d_17, toI_i, cond_true, ltb_n hi, inb_t hi, at_nat, succ_n hi hl, pr35, pc, ha, sp35, cntF]
      cases cmpB 35 (bs.toL.getD i .nil).toI (a.deref.at 1).toI
      · simp only [cond_false, Int.add_zero]
      · rw [cond_true, cond_true, wrap64_id (by omega) (by omega)])
    (cntF_r _ _)
    (fun j s _ => by simp only [l31d_16, m31d_17, toI_i, ltb_self, cond_false])
    bs.toL.length 0 N 0 (by omega) hN (by omega)
theorem run31d (N : Nat) (a v c b : D) (hp : pr31 a v c b = true) (hl : (c.deref.at 2).toL.length ≤ 9223372036854775807) (hN : (c.deref.at 2).toL.length < N) : runC PHI Tb35 N vf31.body (enterV vf31 [.fn 35 [.f a] [Ty.p 35], .f v, .f c, .f b] []) (finish vf31) = some (.f (.i (sp31_35 a v c b)), []) := by
  refine (r31d N a v c b).trans ?_
  simp only [pr31, Bool.and_eq_true] at hp
  obtain ⟨h1, h2, h3, h4⟩ := hp
  simp only [m31d_0, m31d_1, m31d_2, m31d_3, m31d_10, m31d_11, m31d_12, m31d_13, m31d_14, m31d_15, m31d_16, m31d_33, h2, h3, h4, cond_true, sp31_35, sp31, blw, show (!eqb 3 0) = true from rfl]
  cases eqb (v.deref.at 0).toI 1
  · rfl
  · simp only [Bool.not_true, cond_false]
    by_cases hz : ((c.deref.at 2).toL.length : Int) = 0
    · rw [eqb_t hz]; rfl
    · rw [eqb_f hz, cond_false, in31d N a c b h1 (c.deref.at 2) hl hN]
      simp only [h3, h4, eqb_f hz, cond_true, Bool.not_false]
      rfl
def F31 : List V → CRes
  | [.fn k [.f a] tys, .f v, .f c, .f b] => ((Nat.beq k 32 || (Nat.beq k 33 || (Nat.beq k 34 || Nat.beq k 35))) && (Ty.eqAll tys [Ty.p 35] && pr31 a v c b), .f (.i (sp31 k a v c b)), [])
  | _ => (false, .u, [])
def Tb31 : CallF := extend Tb35 31 F31
theorem ok31 : FnOk Try.prog PHI Tb31 := by
  refine FnOk.add Try.prog PHI hPHI ok35 (vf := vf31) (by kernel_rfl) _ fun args r H' ha hr => ?_
  unfold F31 at hr
  split at hr
  · rename_i k a tys v c b
    obtain ⟨h1, h2⟩ := toO_some hr
    injection h2 with h2 h3; subst h2; subst h3
    simp only [Bool.and_eq_true, Bool.or_eq_true] at h1
    obtain ⟨hk, ht, hp⟩ := h1
    have e2 := Ty.eqAll_eq _ _ ht
    subst e2
    have hp' := hp
    simp only [pr31, Bool.and_eq_true] at hp'
    have hc := ha.isP (t := 31) 2 rfl rfl hp'.2.2.1
    have hl := (hc.fld (k := 2) (ft := 29) (off := 2) (by kernel_rfl)).len' (e := 2) (by kernel_rfl)
    refine ⟨(c.deref.at 2).toL.length + 1, ?_⟩
    rcases hk with hk | hk | hk | hk <;> have hk := Nat.eq_of_beq_eq_true hk <;> subst hk
    · exact run31a _ a v c b hp hl (by omega)
    · exact run31b _ a v c b hp hl (by omega)
    · exact run31c _ a v c b hp hl (by omega)
    · exact run31d _ a v c b hp hl (by omega)
  · cases hr

end Go.Vam.C15
namespace Go.Vam.C15
open Go.Proofs
/-! ### Share -/
def bas (r nu : Int) : Int := w64 (Int.tdiv (w64 (1000 * w64 (r - nu))) r)
def sam (di ba : Int) : Int := bif ltb 0 di then mmI true 1 [w64 (Int.tdiv ba di)] else 0
def shO (di ba : Int) (o : List Nat) (kv x : Int) (bs : List D) : Int :=
  bif eqL o [61] then sam di ba else bif eqL o [60, 62] then mmI true 0 [w64 (ba - sam di ba)] else
  bif eqL o [60] then blw 32 kv x bs ba else bif eqL o [60, 61] then blw 33 kv x bs ba else bif eqL o [62] then blw 34 kv x bs ba else bif eqL o [62, 61] then blw 35 kv x bs ba else w64 (Int.tdiv ba 3)
def shA (r nu di : Int) (o : List Nat) (kv x : Int) (bs : List D) : Int := bif eqb r 0 then 0 else bif eqb kv 0 then 0 else shO di (bas r nu) o kv x bs
def sp12 (r c o v : D) : Int := shA (near r.toI big) (near (c.at 1).toI (near r.toI big)) (near (c.at 0).toI (near r.toI big)) o.toS (kd v) (num v) (c.at 2).toL
theorem blw_x {k : Nat} {kv x y : Int} {bs : List D} {ba : Int} (h : kv = 1 → x = y) : blw k kv x bs ba = blw k kv y bs ba := by
  unfold blw
  by_cases hk : kv = 1
  · rw [h hk]
  · rw [eqb_f hk]; rfl
def fn4 (p : D → D → D → D → Bool) (s : D → D → D → D → V) : List V → CRes
  | [.f a, .f b, .f c, .f d] => (p a b c d, s a b c d, [])
  | _ => (false, .u, [])
theorem add4 {F : CallF} {g : Nat} {vf : VFunc} (hF : FnOk Try.prog PHI F) (hvf : PHI g = some vf) {p : D → D → D → D → Bool} {s : D → D → D → D → V}
    (hg : ∀ a b c d, Args Try.prog PHI vf [.f a, .f b, .f c, .f d] → p a b c d = true → ∃ N, runC PHI F N vf.body (enterV vf [.f a, .f b, .f c, .f d] []) (finish vf) = some (s a b c d, [])) : FnOk Try.prog PHI (extend F g (fn4 p s)) := by
  refine FnOk.add Try.prog PHI hPHI hF hvf _ fun args r H' ha hr => ?_
  unfold fn4 at hr
  split at hr
  · obtain ⟨h1, h2⟩ := toO_some hr; injection h2 with h2 h3; subst h2; subst h3; exact hg _ _ _ _ ha h1
  · cases hr
theorem num_of {v : D} (h : kd v = 1) : ((sp30 v).at 1).toI = num v := (cl46 v).n (by omega) (by omega)
section
variable {R : Type}
def m12_1 (N : Nat) (x0 x1 x2 x3 : D) (K : D → D → D → D → Option R) : Option R :=
  K x0 x2 x1 x3
def s12_0 (x0 x1 x2 x3 : D) : St := sts 75 [(0, V.f x0), (1, V.f x1), (2, V.f x2), (3, V.f x3)] [V.u, V.u]
def s12_1 (x0 x2 h0 h1 : D) : St := sts 75 [(0, V.f x0), (2, V.f x2), (5, V.m 0 []), (7, V.m 1 [])] [V.f h0, V.f h1]
theorem e12_1 (N : Nat) (k : Kn R) (x0 x1 x2 x3 : D) : runC PHI Tb31 N vc12_1 (s12_0 x0 x1 x2 x3) k = m12_1 N x0 x1 x2 x3 (fun x0 x2 h0 h1 => k .normal (s12_1 x0 x2 h0 h1)) := by
  refine Eq.trans (runC_post _ _ _ k) (Eq.trans (ops_run _ _ _ _) (by kernel_rfl))
def m12_3 (N : Nat) (x0 x2 h0 h1 : D) (K : D → D → D → D → Option R) : Option R :=
  K (D.i (sp29_0 x0 h0)) x2 (sp29_1 x0 h0) h1
theorem e12_3 (N : Nat) (k : Kn R) (x0 x2 h0 h1 : D) : runC PHI Tb31 N vc12_3 (s12_1 x0 x2 h0 h1) k = m12_3 N x0 x2 h0 h1 (fun x0 x2 h0 h1 => k .normal (s12_1 x0 x2 h0 h1)) := by
  refine Eq.trans (runC_post _ _ _ k) (Eq.trans (ops_run _ _ _ _) (by kernel_rfl))
def m12_5 (N : Nat) (x0 x2 x5 h1 : D) (K : D → D → D → D → Option R) : Option R :=
  K x0 x2 x5 (sp30 h1)
def s12_2 (x0 x2 x5 h1 : D) : St := sts 75 [(0, V.f x0), (2, V.f x2), (5, V.f x5), (7, V.m 1 [])] [V.u, V.f h1]
theorem e12_5 (N : Nat) (k : Kn R) (x0 x2 x5 h1 : D) : runC PHI Tb31 N vc12_5 (s12_2 x0 x2 x5 h1) k = m12_5 N x0 x2 x5 h1 (fun x0 x2 x5 h1 => k .normal (s12_2 x0 x2 x5 h1)) := by
  refine Eq.trans (runC_post _ _ _ k) (Eq.trans (ops_run _ _ _ _) (by kernel_rfl))
def m12_7 (N : Nat) (x0 x2 x5 x7 : D) (K : D → D → D → D → Option R) (Kr : D → Option R) : Option R :=
  (bif (eqb x0.toI 0) then (bif true then Kr (D.i 0) else K x0 x2 x5 x7) else (bif (isPtrD x7) then (bif (eqb (x7.deref.at 0).toI 0) then Kr (D.i 0) else K x0 x2 x5 x7) else none))
def s12_3 (x0 x2 x5 x7 : D) : St := sts 75 [(0, V.f x0), (2, V.f x2), (5, V.f x5), (7, V.f x7)] [V.u, V.u]
def s12_4 (x8 : D) : St := sts 75 [(8, V.f x8)] [V.u, V.u]
theorem e12_7 (N : Nat) (k : Kn R) (x0 x2 x5 x7 : D) : runC PHI Tb31 N vc12_7 (s12_3 x0 x2 x5 x7) k = m12_7 N x0 x2 x5 x7 (fun x0 x2 x5 x7 => k .normal (s12_3 x0 x2 x5 x7)) (fun x8 => k .ret (s12_4 x8)) := by kernel_rfl
def m12_15 (N : Nat) (x0 x2 x5 x7 : D) (K : D → D → D → D → Option R) : Option R :=
  (bif (isPtrD x5) then (bif (!eqb x0.toI 0) then K x2 x5 x7 (D.p (D.i (IntKind.wrap IntKind.i64 (Int.tdiv (IntKind.wrap IntKind.i64 (1000 * (IntKind.wrap IntKind.i64 (x0.toI - (x5.deref.at 1).toI)))) x0.toI)))) else none) else none)
def s12_5 (x2 x5 x7 x9 : D) : St := sts 75 [(2, V.f x2), (5, V.f x5), (7, V.f x7), (9, V.f x9)] [V.u, V.u]
theorem e12_15 (N : Nat) (k : Kn R) (x0 x2 x5 x7 : D) : runC PHI Tb31 N vc12_15 (s12_3 x0 x2 x5 x7) k = m12_15 N x0 x2 x5 x7 (fun x2 x5 x7 x9 => k .normal (s12_5 x2 x5 x7 x9)) := by
  refine Eq.trans (runC_post _ _ _ k) (Eq.trans (ops_run _ _ _ _) (by kernel_rfl))
def m12_17 (N : Nat) (x2 x5 x7 x9 : D) (K : D → D → D → D → D → Option R) : Option R :=
  K x2 x5 x7 x9 (D.i 0)
def s12_6 (x2 x5 x7 x9 x10 : D) : St := sts 75 [(2, V.f x2), (5, V.f x5), (7, V.f x7), (9, V.f x9), (10, V.f x10)] [V.u, V.u]
theorem e12_17 (N : Nat) (k : Kn R) (x2 x5 x7 x9 : D) : runC PHI Tb31 N vc12_17 (s12_5 x2 x5 x7 x9) k = m12_17 N x2 x5 x7 x9 (fun x2 x5 x7 x9 x10 => k .normal (s12_6 x2 x5 x7 x9 x10)) := by
  refine Eq.trans (runC_post _ _ _ k) (Eq.trans (ops_run _ _ _ _) (by kernel_rfl))
def m12_19 (N : Nat) (x2 x5 x7 x9 x10 : D) (K : D → D → D → D → D → Option R) : Option R :=
  (bif (isPtrD x5) then (bif (ltb 0 (x5.deref.at 0).toI) then (bif (isPtrD x9) then (bif (isPtrD x5) then (bif (!eqb (x5.deref.at 0).toI 0) then K x2 x5 x7 x9 (D.i (mmI true 1 [(IntKind.wrap IntKind.i64 (Int.tdiv x9.deref.toI (x5.deref.at 0).toI))])) else none) else none) else none) else K x2 x5 x7 x9 x10) else none)
theorem e12_19 (N : Nat) (k : Kn R) (x2 x5 x7 x9 x10 : D) : runC PHI Tb31 N vc12_19 (s12_6 x2 x5 x7 x9 x10) k = m12_19 N x2 x5 x7 x9 x10 (fun x2 x5 x7 x9 x10 => k .normal (s12_6 x2 x5 x7 x9 x10)) := by kernel_rfl
def m12_24 (N : Nat) (x2 x5 x7 x9 x10 : D) (Kr : D → Option R) : Option R :=
  (bif (eqL x2.toS [61]) then Kr x10 else (bif (eqL x2.toS [60, 62]) then (bif (isPtrD x9) then Kr (D.i (mmI true 0 [(IntKind.wrap IntKind.i64 (x9.deref.toI - x10.toI))])) else none) else (bif (eqL x2.toS [60]) then (bif (pr31_32 x7 x7 x5 x9) then Kr (D.i (sp31_32 x7 x7 x5 x9)) else none) else (bif (eqL x2.toS [60, 61]) then (bif (pr31_33 x7 x7 x5 x9) then Kr (D.i (sp31_33 x7 x7 x5 x9)) else none) else (bif (eqL x2.toS [62]) then (bif (pr31_34 x7 x7 x5 x9) then Kr (D.i (sp31_34 x7 x7 x5 x9)) else none) else (bif (eqL x2.toS [62, 61]) then (bif (pr31_35 x7 x7 x5 x9) then Kr (D.i (sp31_35 x7 x7 x5 x9)) else none) else (bif (isPtrD x9) then (bif (!eqb 3 0) then Kr (D.i (IntKind.wrap IntKind.i64 (Int.tdiv x9.deref.toI 3))) else none) else none)))))))
theorem e12_24 (N : Nat) (k : Kn R) (x2 x5 x7 x9 x10 : D) : runC PHI Tb31 N vc12_24 (s12_6 x2 x5 x7 x9 x10) k = m12_24 N x2 x5 x7 x9 x10 (fun x8 => k .ret (s12_4 x8)) := by kernel_rfl
def m12_18 (N : Nat) (x2 x5 x7 x9 x10 : D) (Kr : D → Option R) : Option R :=
  (m12_19 N x2 x5 x7 x9 x10 (fun y2 y5 y7 y9 y10 => (m12_24 N y2 y5 y7 y9 y10 Kr)))
theorem e12_18 (N : Nat) (k : Kn R) (x2 x5 x7 x9 x10 : D) : runC PHI Tb31 N vc12_18 (s12_6 x2 x5 x7 x9 x10) k = m12_18 N x2 x5 x7 x9 x10 (fun x8 => k .ret (s12_4 x8)) := by
  have h2 := e12_19 N (kseq PHI Tb31 N vc12_24 k) x2 x5 x7 x9 x10
  have h3 := (funext fun y2 => funext fun y5 => funext fun y7 => funext fun y9 => funext fun y10 => (e12_24 N k y2 y5 y7 y9 y10) : (fun (y2 y5 y7 y9 y10 : D) => (kseq PHI Tb31 N vc12_24 k) .normal (s12_6 y2 y5 y7 y9 y10)) = _)
  refine Eq.trans (runC_seq _ _ _ k) (Eq.trans h2 (Eq.trans (congrArg (fun K => m12_19 N x2 x5 x7 x9 x10 K) h3) (by kernel_rfl)))
def m12_16 (N : Nat) (x2 x5 x7 x9 : D) (Kr : D → Option R) : Option R :=
  (m12_17 N x2 x5 x7 x9 (fun y2 y5 y7 y9 y10 => (m12_18 N y2 y5 y7 y9 y10 Kr)))
theorem e12_16 (N : Nat) (k : Kn R) (x2 x5 x7 x9 : D) : runC PHI Tb31 N vc12_16 (s12_5 x2 x5 x7 x9) k = m12_16 N x2 x5 x7 x9 (fun x8 => k .ret (s12_4 x8)) := by
  have h2 := e12_17 N (kseq PHI Tb31 N vc12_18 k) x2 x5 x7 x9
  have h3 := (funext fun y2 => funext fun y5 => funext fun y7 => funext fun y9 => funext fun y10 => (e12_18 N k y2 y5 y7 y9 y10) : (fun (y2 y5 y7 y9 y10 : D) => (kseq PHI Tb31 N vc12_18 k) .normal (s12_6 y2 y5 y7 y9 y10)) = _)
  refine Eq.trans (runC_seq _ _ _ k) (Eq.trans h2 (Eq.trans (congrArg (fun K => m12_17 N x2 x5 x7 x9 K) h3) (by kernel_rfl)))
def m12_14 (N : Nat) (x0 x2 x5 x7 : D) (Kr : D → Option R) : Option R :=
  (m12_15 N x0 x2 x5 x7 (fun y2 y5 y7 y9 => (m12_16 N y2 y5 y7 y9 Kr)))
theorem e12_14 (N : Nat) (k : Kn R) (x0 x2 x5 x7 : D) : runC PHI Tb31 N vc12_14 (s12_3 x0 x2 x5 x7) k = m12_14 N x0 x2 x5 x7 (fun x8 => k .ret (s12_4 x8)) := by
  have h2 := e12_15 N (kseq PHI Tb31 N vc12_16 k) x0 x2 x5 x7
  have h3 := (funext fun y2 => funext fun y5 => funext fun y7 => funext fun y9 => (e12_16 N k y2 y5 y7 y9) : (fun (y2 y5 y7 y9 : D) => (kseq PHI Tb31 N vc12_16 k) .normal (s12_5 y2 y5 y7 y9)) = _)
  refine Eq.trans (runC_seq _ _ _ k) (Eq.trans h2 (Eq.trans (congrArg (fun K => m12_15 N x0 x2 x5 x7 K) h3) (by kernel_rfl)))
def m12_6 (N : Nat) (x0 x2 x5 x7 : D) (Kr : D → Option R) : Option R :=
  (m12_7 N x0 x2 x5 x7 (fun y0 y2 y5 y7 => (m12_14 N y0 y2 y5 y7 Kr)) Kr)
theorem e12_6 (N : Nat) (k : Kn R) (x0 x2 x5 x7 : D) : runC PHI Tb31 N vc12_6 (s12_3 x0 x2 x5 x7) k = m12_6 N x0 x2 x5 x7 (fun x8 => k .ret (s12_4 x8)) := by
  have h2 := e12_7 N (kseq PHI Tb31 N vc12_14 k) x0 x2 x5 x7
  have h3 := (funext fun y0 => funext fun y2 => funext fun y5 => funext fun y7 => (e12_14 N k y0 y2 y5 y7) : (fun (y0 y2 y5 y7 : D) => (kseq PHI Tb31 N vc12_14 k) .normal (s12_3 y0 y2 y5 y7)) = _)
  refine Eq.trans (runC_seq _ _ _ k) (Eq.trans h2 (Eq.trans (congrArg (fun K => m12_7 N x0 x2 x5 x7 K (fun x8 => (kseq PHI Tb31 N vc12_14 k) .ret (s12_4 x8))) h3) (by kernel_rfl)))
def m12_4 (N : Nat) (x0 x2 x5 h1 : D) (Kr : D → Option R) : Option R :=
  (m12_5 N x0 x2 x5 h1 (fun y0 y2 y5 h1 => (m12_6 N y0 y2 y5 (D.p h1) Kr)))
theorem e12_4 (N : Nat) (k : Kn R) (x0 x2 x5 h1 : D) : runC PHI Tb31 N vc12_4 (s12_2 x0 x2 x5 h1) k = m12_4 N x0 x2 x5 h1 (fun x8 => k .ret (s12_4 x8)) := by
  have h2 := e12_5 N (kseq PHI Tb31 N (.pre (.frz 1) vc12_6) k) x0 x2 x5 h1
  have h3 := (funext fun y0 => funext fun y2 => funext fun y5 => funext fun h1 => (Eq.trans (runC_pre (s1 := (s12_3 y0 y2 y5 (D.p h1))) (by kernel_rfl) _ _) <| e12_6 N k y0 y2 y5 (D.p h1)) : (fun (y0 y2 y5 h1 : D) => (kseq PHI Tb31 N (.pre (.frz 1) vc12_6) k) .normal (s12_2 y0 y2 y5 h1)) = _)
  refine Eq.trans (runC_seq _ _ _ k) (Eq.trans h2 (Eq.trans (congrArg (fun K => m12_5 N x0 x2 x5 h1 K) h3) (by kernel_rfl)))
def m12_2 (N : Nat) (x0 x2 h0 h1 : D) (Kr : D → Option R) : Option R :=
  (m12_3 N x0 x2 h0 h1 (fun y0 y2 h0 h1 => (m12_4 N y0 y2 (D.p h0) h1 Kr)))
theorem e12_2 (N : Nat) (k : Kn R) (x0 x2 h0 h1 : D) : runC PHI Tb31 N vc12_2 (s12_1 x0 x2 h0 h1) k = m12_2 N x0 x2 h0 h1 (fun x8 => k .ret (s12_4 x8)) := by
  have h2 := e12_3 N (kseq PHI Tb31 N (.pre (.frz 0) vc12_4) k) x0 x2 h0 h1
  have h3 := (funext fun y0 => funext fun y2 => funext fun h0 => funext fun h1 => (Eq.trans (runC_pre (s1 := (s12_2 y0 y2 (D.p h0) h1)) (by kernel_rfl) _ _) <| e12_4 N k y0 y2 (D.p h0) h1) : (fun (y0 y2 h0 h1 : D) => (kseq PHI Tb31 N (.pre (.frz 0) vc12_4) k) .normal (s12_1 y0 y2 h0 h1)) = _)
  refine Eq.trans (runC_seq _ _ _ k) (Eq.trans h2 (Eq.trans (congrArg (fun K => m12_3 N x0 x2 h0 h1 K) h3) (by kernel_rfl)))
def m12_0 (N : Nat) (x0 x1 x2 x3 : D) (Kr : D → Option R) : Option R :=
  (m12_1 N x0 x1 x2 x3 (fun y0 y2 h0 h1 => (m12_2 N y0 y2 h0 h1 Kr)))
theorem e12_0 (N : Nat) (k : Kn R) (x0 x1 x2 x3 : D) : runC PHI Tb31 N vc12_0 (s12_0 x0 x1 x2 x3) k = m12_0 N x0 x1 x2 x3 (fun x8 => k .ret (s12_4 x8)) := by
  have h2 := e12_1 N (kseq PHI Tb31 N vc12_2 k) x0 x1 x2 x3
  have h3 := (funext fun y0 => funext fun y2 => funext fun h0 => funext fun h1 => (e12_2 N k y0 y2 h0 h1) : (fun (y0 y2 h0 h1 : D) => (kseq PHI Tb31 N vc12_2 k) .normal (s12_1 y0 y2 h0 h1)) = _)
  refine Eq.trans (runC_seq _ _ _ k) (Eq.trans h2 (Eq.trans (congrArg (fun K => m12_1 N x0 x1 x2 x3 K) h3) (by kernel_rfl)))
theorem r12 (N : Nat) (x0 x1 x2 x3 : D) : runC PHI Tb31 N vf12.body (enterV vf12 [V.f x0, V.f x1, V.f x2, V.f x3] []) (finish vf12) = m12_0 N x0 x1 x2 x3 (fun x8 => finish vf12 .ret (s12_4 x8)) := 
  Eq.trans (runC_pre (s1 := (s12_0 x0 x1 x2 x3)) (by kernel_rfl) _ _) (Eq.trans (e12_0 N (finish vf12) x0 x1 x2 x3) (by kernel_rfl))
end
def Tb12 : CallF := extend Tb31 12 (fn4 (fun _ _ _ _ => true) fun r c o v => .f (.i (sp12 r c o v)))
theorem ok12 : FnOk Try.prog PHI Tb12 := add4 ok31 (by kernel_rfl) fun r c o v ha _ => ⟨0, (r12 0 r c o v).trans (by
  obtain ⟨d, n, b, rfl⟩ := (ha.is 1 rfl rfl).ag3 (by kernel_rfl)
  simp only [m12_0, m12_1, m12_2, m12_3, m12_4, m12_5, m12_6, m12_7, m12_14, m12_15, m12_16, m12_17, m12_18, m12_19, isPtr_p, deref_p, toI_i, cond_true, sp12, shA, sp29_e, sp29_0, (cl46 v).k, show ∀ a b c : D, (D.ag [a, b, c]).at 0 = a from fun _ _ _ => rfl, show ∀ a b c : D, (D.ag [a, b, c]).at 1 = b from fun _ _ _ => rfl, show ∀ a b c : D, (D.ag [a, b, c]).at 2 = c from fun _ _ _ => rfl]
  generalize near r.toI big = R
  generalize near n.toI R = NU
  generalize near d.toI R = DI
  by_cases hR : R = 0
  · rw [eqb_t hR]; rfl
  rw [eqb_f hR]
  simp only [cond_false, Bool.not_false, cond_true]
  cases hk : eqb (kd v) 0
  · simp only [cond_false]
    have hb : IntKind.wrap IntKind.i64 (Int.tdiv (IntKind.wrap IntKind.i64 (1000 * (IntKind.wrap IntKind.i64 (R - NU)))) R) = bas R NU := rfl
    rw [hb]
    have fin : ∀ x10, x10 = D.i (sam DI (bas R NU)) → m12_24 0 o (D.p (D.ag [.i DI, .i NU, b])) (D.p (sp30 v)) (D.p (.i (bas R NU))) x10 (fun x8 => finish vf12 .ret (s12_4 x8)) = some (.f (.i (shO DI (bas R NU) o.toS (kd v) (num v) b.toL)), []) := by
      intro x10 hx
      subst hx
      have hx : ∀ k, blw k (kd v) ((sp30 v).at 1).toI b.toL (bas R NU) = blw k (kd v) (num v) b.toL (bas R NU) := fun k => blw_x num_of
      have e : ∀ k, sp31 k (D.p (sp30 v)) (D.p (sp30 v)) (D.p (D.ag [.i DI, .i NU, b])) (D.p (.i (bas R NU))) = blw k (kd v) (num v) b.toL (bas R NU) := fun k => by
        rw [← hx, ← (cl46 v).k]; rfl
      have ep : pr31 (D.p (sp30 v)) (D.p (sp30 v)) (D.p (D.ag [.i DI, .i NU, b])) (D.p (.i (bas R NU))) = true := rfl
      simp only [m12_24, pr31_32, pr31_33, pr31_34, pr31_35, ep, sp31_32, sp31_33, sp31_34, sp31_35, e, shO, isPtr_p, deref_p, toI_i, cond_true, show (!eqb 3 0) = true from rfl]
      cases eqL o.toS [61]
      · cases eqL o.toS [60, 62]
        · cases eqL o.toS [60]
          · cases eqL o.toS [60, 61]
            · cases eqL o.toS [62]
              · cases eqL o.toS [62, 61] <;> rfl
              · rfl
            · rfl
          · rfl
        · rfl
      · rfl
    by_cases hd : 0 < DI
    · rw [ltb_t hd, eqb_f (show ¬ DI = 0 by omega)]
      exact fin _ (by unfold sam; rw [ltb_t hd]; rfl)
    · rw [ltb_f hd]
      exact fin _ (by unfold sam; rw [ltb_f hd]; rfl)
  · rfl)⟩
/-! ### .. the document's -/
def sp13 (r c o v : D) : Int := sp12 r c o v
theorem cmp_b {k : Nat} {o : List Nat} (h : (o = [60] ∧ k = 32) ∨ (o = [60, 61] ∧ k = 33) ∨ (o = [62] ∧ k = 34) ∨ (o = [62, 61] ∧ k = 35)) (x : D) (v : D) (hv : kd v = 1) :
    ((sp37 (.s o) (.ag [.i 1, x, .f 0, .s []]) (sp10 v)).at 1).toI = bif cmpB k x.toI (num v) then 1 else 0 := by
  have e1 : ((sp10 (.ag [.i 1, x, .f 0, .s []])).at 0).toI = 1 := rfl
  have e2 : ((sp10 (sp10 v)).at 0).toI = 1 := by rw [(cl30 _).k, kd_30, hv]
  have e3 : sp64 (sp10 (.ag [.i 1, x, .f 0, .s []])) (sp10 (sp10 v)) = cmpI x.toI (num v) := by
    rw [t29]
    unfold T
    rw [kd_30, hv, num_30]
    rfl
  unfold sp37
  rw [e1, e2, e3]
  have hc : ∀ a b : Int, (eqb (cmpI a b) 0 = eqb a b) ∧ (ltb (cmpI a b) 0 = ltb a b) ∧ (leb (cmpI a b) 0 = leb a b) ∧ (ltb 0 (cmpI a b) = ltb b a) ∧ (leb 0 (cmpI a b) = leb b a) := by
    intro a b
    unfold cmpI
    by_cases h1 : a < b
    · rw [ltb_t h1, eqb_f (show ¬ a = b by omega), leb_t (show a ≤ b by omega), ltb_f (show ¬ b < a by omega), leb_f (show ¬ b ≤ a by omega)]
      exact ⟨rfl, rfl, rfl, rfl, rfl⟩
    · by_cases h2 : b < a
      · rw [ltb_f h1, eqb_f (show ¬ a = b by omega), leb_f (show ¬ a ≤ b by omega), ltb_t h2, leb_t (show b ≤ a by omega)]
        exact ⟨rfl, rfl, rfl, rfl, rfl⟩
      · rw [ltb_f h1, eqb_t (show a = b by omega), leb_t (show a ≤ b by omega), ltb_f h2, leb_t (show b ≤ a by omega)]
        exact ⟨rfl, rfl, rfl, rfl, rfl⟩
  obtain ⟨c1, c2, c3, c4, c5⟩ := hc x.toI (num v)
  rcases h with ⟨rfl, rfl⟩ | ⟨rfl, rfl⟩ | ⟨rfl, rfl⟩ | ⟨rfl, rfl⟩
  · show ((sp51 (.b (ltb (cmpI x.toI (num v)) 0))).at 1).toI = _
    rw [c2]; rfl
  · show ((sp51 (.b (leb (cmpI x.toI (num v)) 0))).at 1).toI = _
    rw [c3]; rfl
  · show ((sp51 (.b (ltb 0 (cmpI x.toI (num v))))).at 1).toI = _
    rw [c4]; rfl
  · show ((sp51 (.b (leb 0 (cmpI x.toI (num v))))).at 1).toI = _
    rw [c5]; rfl
section
variable {R : Type}
def m13_1 (N : Nat) (x0 x1 x2 x3 : D) (K : D → D → D → D → Option R) : Option R :=
  K x0 x2 (D.p x1) x3
def s13_0 (x0 x1 x2 x3 : D) : St := sts 110 [(0, V.f x0), (1, V.f x1), (2, V.f x2), (3, V.f x3)] [V.u]
def s13_1 (x0 x2 x5 h0 : D) : St := sts 110 [(0, V.f x0), (2, V.f x2), (5, V.f x5), (7, V.m 0 [])] [V.f h0]
theorem e13_1 (N : Nat) (k : Kn R) (x0 x1 x2 x3 : D) : runC PHI Tb12 N vc13_1 (s13_0 x0 x1 x2 x3) k = m13_1 N x0 x1 x2 x3 (fun x0 x2 x5 h0 => k .normal (s13_1 x0 x2 x5 h0)) := by
  refine Eq.trans (runC_post _ _ _ k) (Eq.trans (ops_run _ _ _ _) (by kernel_rfl))
def m13_3 (N : Nat) (x0 x2 x5 h0 : D) (K : D → D → D → D → Option R) : Option R :=
  K (D.i (sp36 x0 (D.i 1099511627776))) x2 x5 h0
theorem e13_3 (N : Nat) (k : Kn R) (x0 x2 x5 h0 : D) : runC PHI Tb12 N vc13_3 (s13_1 x0 x2 x5 h0) k = m13_3 N x0 x2 x5 h0 (fun x0 x2 x5 h0 => k .normal (s13_1 x0 x2 x5 h0)) := by
  refine Eq.trans (runC_post _ _ _ k) (Eq.trans (ops_run _ _ _ _) (by kernel_rfl))
def m13_5 (N : Nat) (x0 x2 x5 h0 : D) (K : D → D → D → D → Option R) : Option R :=
  K x0 x2 x5 (sp10 h0)
theorem e13_5 (N : Nat) (k : Kn R) (x0 x2 x5 h0 : D) : runC PHI Tb12 N vc13_5 (s13_1 x0 x2 x5 h0) k = m13_5 N x0 x2 x5 h0 (fun x0 x2 x5 h0 => k .normal (s13_1 x0 x2 x5 h0)) := by
  refine Eq.trans (runC_post _ _ _ k) (Eq.trans (ops_run _ _ _ _) (by kernel_rfl))
def m13_7 (N : Nat) (x0 x2 x5 h0 : D) (K : D → D → D → D → Option R) (Kr : D → D → Option R) : Option R :=
  (bif (eqb x0.toI 0) then (bif true then Kr (D.i 0) h0 else K x0 x2 x5 h0) else (bif (eqb (h0.at 0).toI 0) then Kr (D.i 0) h0 else K x0 x2 x5 h0))
def s13_2 (x8 h0 : D) : St := sts 110 [(8, V.f x8)] [V.f h0]
theorem e13_7 (N : Nat) (k : Kn R) (x0 x2 x5 h0 : D) : runC PHI Tb12 N vc13_7 (s13_1 x0 x2 x5 h0) k = m13_7 N x0 x2 x5 h0 (fun x0 x2 x5 h0 => k .normal (s13_1 x0 x2 x5 h0)) (fun x8 h0 => k .ret (s13_2 x8 h0)) := by kernel_rfl
def m13_15 (N : Nat) (x0 x2 x5 h0 : D) (K : D → D → D → D → D → D → Option R) : Option R :=
  (bif (isPtrD x5) then (bif (isPtrD x5) then K x0 x2 x5 (D.i (sp36 (x5.deref.at 1) x0)) (D.i (sp36 (x5.deref.at 0) x0)) h0 else none) else none)
def s13_3 (x0 x2 x5 x9 x10 h0 : D) : St := sts 110 [(0, V.f x0), (2, V.f x2), (5, V.f x5), (7, V.m 0 []), (9, V.f x9), (10, V.f x10)] [V.f h0]
theorem e13_15 (N : Nat) (k : Kn R) (x0 x2 x5 h0 : D) : runC PHI Tb12 N vc13_15 (s13_1 x0 x2 x5 h0) k = m13_15 N x0 x2 x5 h0 (fun x0 x2 x5 x9 x10 h0 => k .normal (s13_3 x0 x2 x5 x9 x10 h0)) := by
  refine Eq.trans (runC_post _ _ _ k) (Eq.trans (ops_run _ _ _ _) (by kernel_rfl))
def m13_17 (N : Nat) (x0 x2 x5 x9 x10 h0 : D) (K : D → D → D → D → D → D → Option R) : Option R :=
  (bif (!eqb x0.toI 0) then K x2 x5 x10 (D.i (IntKind.wrap IntKind.i64 (Int.tdiv (IntKind.wrap IntKind.i64 (1000 * (IntKind.wrap IntKind.i64 (x0.toI - x9.toI)))) x0.toI))) (D.i 0) h0 else none)
def s13_4 (x2 x5 x10 x11 x12 h0 : D) : St := sts 110 [(2, V.f x2), (5, V.f x5), (7, V.m 0 []), (10, V.f x10), (11, V.f x11), (12, V.f x12)] [V.f h0]
theorem e13_17 (N : Nat) (k : Kn R) (x0 x2 x5 x9 x10 h0 : D) : runC PHI Tb12 N vc13_17 (s13_3 x0 x2 x5 x9 x10 h0) k = m13_17 N x0 x2 x5 x9 x10 h0 (fun x2 x5 x10 x11 x12 h0 => k .normal (s13_4 x2 x5 x10 x11 x12 h0)) := by
  refine Eq.trans (runC_post _ _ _ k) (Eq.trans (ops_run _ _ _ _) (by kernel_rfl))
def m13_19 (N : Nat) (x2 x5 x10 x11 x12 h0 : D) (K : D → D → D → D → D → Option R) : Option R :=
  (bif (ltb 0 x10.toI) then (bif (!eqb x10.toI 0) then K x2 x5 x11 (D.i (mmI true 1 [(IntKind.wrap IntKind.i64 (Int.tdiv x11.toI x10.toI))])) h0 else none) else K x2 x5 x11 x12 h0)
def s13_5 (x2 x5 x11 x12 h0 : D) : St := sts 110 [(2, V.f x2), (5, V.f x5), (7, V.m 0 []), (11, V.f x11), (12, V.f x12)] [V.f h0]
theorem e13_19 (N : Nat) (k : Kn R) (x2 x5 x10 x11 x12 h0 : D) : runC PHI Tb12 N vc13_19 (s13_4 x2 x5 x10 x11 x12 h0) k = m13_19 N x2 x5 x10 x11 x12 h0 (fun x2 x5 x11 x12 h0 => k .normal (s13_5 x2 x5 x11 x12 h0)) := by kernel_rfl
def m13_25 (N : Nat) (x2 x5 x11 x12 h0 : D) (K : D → D → D → D → D → Option R) (Kr : D → D → Option R) : Option R :=
  (bif (eqL x2.toS [61]) then Kr x12 h0 else K x2 x5 x11 x12 h0)
theorem e13_25 (N : Nat) (k : Kn R) (x2 x5 x11 x12 h0 : D) : runC PHI Tb12 N vc13_25 (s13_5 x2 x5 x11 x12 h0) k = m13_25 N x2 x5 x11 x12 h0 (fun x2 x5 x11 x12 h0 => k .normal (s13_5 x2 x5 x11 x12 h0)) (fun x8 h0 => k .ret (s13_2 x8 h0)) := by kernel_rfl
def m13_33 (N : Nat) (x2 x5 x11 x12 h0 : D) (K : D → D → D → D → Option R) (Kr : D → D → Option R) : Option R :=
  (bif (eqL x2.toS [60, 62]) then Kr (D.i (mmI true 0 [(IntKind.wrap IntKind.i64 (x11.toI - x12.toI))])) h0 else K x2 x5 x11 h0)
def s13_6 (x2 x5 x11 h0 : D) : St := sts 110 [(2, V.f x2), (5, V.f x5), (7, V.m 0 []), (11, V.f x11)] [V.f h0]
theorem e13_33 (N : Nat) (k : Kn R) (x2 x5 x11 x12 h0 : D) : runC PHI Tb12 N vc13_33 (s13_5 x2 x5 x11 x12 h0) k = m13_33 N x2 x5 x11 x12 h0 (fun x2 x5 x11 h0 => k .normal (s13_6 x2 x5 x11 h0)) (fun x8 h0 => k .ret (s13_2 x8 h0)) := by kernel_rfl
def m13_42 (N : Nat) (x2 x5 x11 h0 : D) (K : D → D → D → D → D → Option R) : Option R :=
  (bif (!eqb (h0.at 0).toI 1) then K x2 x5 x11 (D.b true) h0 else (bif (isPtrD x5) then (bif (eqb ((x5.deref.at 2).toL.length : Int) 0) then K x2 x5 x11 (D.b true) h0 else (bif (!eqL x2.toS [60]) then (bif (!eqL x2.toS [60, 61]) then (bif (!eqL x2.toS [62]) then K x2 x5 x11 (D.b (!eqL x2.toS [62, 61])) h0 else K x2 x5 x11 (D.b false) h0) else K x2 x5 x11 (D.b false) h0) else K x2 x5 x11 (D.b false) h0)) else none))
def s13_7 (x2 x5 x11 x80 h0 : D) : St := sts 110 [(2, V.f x2), (5, V.f x5), (7, V.m 0 []), (11, V.f x11), (80, V.f x80)] [V.f h0]
theorem e13_42 (N : Nat) (k : Kn R) (x2 x5 x11 h0 : D) : runC PHI Tb12 N vc13_42 (s13_6 x2 x5 x11 h0) k = m13_42 N x2 x5 x11 h0 (fun x2 x5 x11 x80 h0 => k .normal (s13_7 x2 x5 x11 x80 h0)) := by
  refine Eq.trans (runC_post _ _ _ k) (Eq.trans (ops_run _ _ _ _) (by kernel_rfl))
def m13_43 (N : Nat) (x2 x5 x11 x80 h0 : D) (K : D → D → D → D → Option R) (Kr : D → D → Option R) : Option R :=
  (bif x80.toB then (bif (!eqb 3 0) then Kr (D.i (IntKind.wrap IntKind.i64 (Int.tdiv x11.toI 3))) h0 else none) else K x2 x5 x11 h0)
theorem e13_43 (N : Nat) (k : Kn R) (x2 x5 x11 x80 h0 : D) : runC PHI Tb12 N vc13_43 (s13_7 x2 x5 x11 x80 h0) k = m13_43 N x2 x5 x11 x80 h0 (fun x2 x5 x11 h0 => k .normal (s13_6 x2 x5 x11 h0)) (fun x8 h0 => k .ret (s13_2 x8 h0)) := by kernel_rfl
def m13_41 (N : Nat) (x2 x5 x11 h0 : D) (K : D → D → D → D → Option R) (Kr : D → D → Option R) : Option R :=
  (m13_42 N x2 x5 x11 h0 (fun y2 y5 y11 y80 h0 => (m13_43 N y2 y5 y11 y80 h0 (fun y2 y5 y11 h0 => K y2 y5 y11 h0) Kr)))
theorem e13_41 (N : Nat) (k : Kn R) (x2 x5 x11 h0 : D) : runC PHI Tb12 N vc13_41 (s13_6 x2 x5 x11 h0) k = m13_41 N x2 x5 x11 h0 (fun x2 x5 x11 h0 => k .normal (s13_6 x2 x5 x11 h0)) (fun x8 h0 => k .ret (s13_2 x8 h0)) := by
  have h2 := e13_42 N (kseq PHI Tb12 N vc13_43 k) x2 x5 x11 h0
  have h3 := (funext fun y2 => funext fun y5 => funext fun y11 => funext fun y80 => funext fun h0 => (e13_43 N k y2 y5 y11 y80 h0) : (fun (y2 y5 y11 y80 h0 : D) => (kseq PHI Tb12 N vc13_43 k) .normal (s13_7 y2 y5 y11 y80 h0)) = _)
  refine Eq.trans (runC_seq _ _ _ k) (Eq.trans h2 (Eq.trans (congrArg (fun K => m13_42 N x2 x5 x11 h0 K) h3) (by kernel_rfl)))
def m13_49 (N : Nat) (x2 x5 x11 h0 : D) (K : D → D → D → D → D → Option R) : Option R :=
  K x2 x5 x11 (D.i 0) h0
def s13_8 (x2 x5 x11 x13 h0 : D) : St := sts 110 [(2, V.f x2), (5, V.f x5), (7, V.m 0 []), (11, V.f x11), (13, V.f x13)] [V.f h0]
theorem e13_49 (N : Nat) (k : Kn R) (x2 x5 x11 h0 : D) : runC PHI Tb12 N vc13_49 (s13_6 x2 x5 x11 h0) k = m13_49 N x2 x5 x11 h0 (fun x2 x5 x11 x13 h0 => k .normal (s13_8 x2 x5 x11 x13 h0)) := by
  refine Eq.trans (runC_post _ _ _ k) (Eq.trans (ops_run _ _ _ _) (by kernel_rfl))
def m13_52 (N : Nat) (x2 x5 x11 x13 h0 : D) (K : D → D → D → D → D → D → Option R) : Option R :=
  K x2 x5 x11 x13 (D.i 0) h0
def s13_9 (x2 x5 x11 x13 x14 h0 : D) : St := sts 110 [(2, V.f x2), (5, V.f x5), (7, V.m 0 []), (11, V.f x11), (13, V.f x13), (14, V.f x14)] [V.f h0]
theorem e13_52 (N : Nat) (k : Kn R) (x2 x5 x11 x13 h0 : D) : runC PHI Tb12 N vc13_52 (s13_8 x2 x5 x11 x13 h0) k = m13_52 N x2 x5 x11 x13 h0 (fun x2 x5 x11 x13 x14 h0 => k .normal (s13_9 x2 x5 x11 x13 x14 h0)) := by
  refine Eq.trans (runC_post _ _ _ k) (Eq.trans (ops_run _ _ _ _) (by kernel_rfl))
def m13_55 (N : Nat) (x2 x5 x11 x13 x14 h0 : D) (K : D → D → D → D → D → D → Option R) (K0 : D → D → D → D → Option R) : Option R :=
  (bif (isPtrD x5) then (bif (ltb x14.toI ((x5.deref.at 2).toL.length : Int)) then (bif (isPtrD x5) then (bif (inb x14.toI (x5.deref.at 2).toL.length) then K x2 x5 x11 (D.i (IntKind.wrap IntKind.i64 (x13.toI + ((sp37 x2 (D.ag [(D.i 1), ((x5.deref.at 2).at (x14.toI : Int).toNat), (D.f 0), (D.s [])]) h0).at 1).toI))) (D.i (IntKind.wrap IntKind.i64 (x14.toI + 1))) h0 else none) else none) else K0 x5 x11 x13 h0) else none)
def s13_10 (x5 x11 x13 h0 : D) : St := sts 110 [(5, V.f x5), (11, V.f x11), (13, V.f x13)] [V.f h0]
theorem e13_55 (N : Nat) (k : Kn R) (x2 x5 x11 x13 x14 h0 : D) : runC PHI Tb12 N vc13_55 (s13_9 x2 x5 x11 x13 x14 h0) k = m13_55 N x2 x5 x11 x13 x14 h0 (fun x2 x5 x11 x13 x14 h0 => k .normal (s13_9 x2 x5 x11 x13 x14 h0)) (fun x5 x11 x13 h0 => k (.exit 0) (s13_10 x5 x11 x13 h0)) := by kernel_rfl
def l13_54 (N : Nat) (j : Nat) (x2 x5 x11 x13 x14 h0 : D) (K0 : D → D → D → D → Option R) : Option R :=
  match j with
  | 0 => none
  | j + 1 => (m13_55 N x2 x5 x11 x13 x14 h0 (fun y2 y5 y11 y13 y14 h0 => l13_54 N j y2 y5 y11 y13 y14 h0 K0) K0)
def m13_54 (N : Nat) (x2 x5 x11 x13 x14 h0 : D) (K0 : D → D → D → D → Option R) : Option R :=
  l13_54 N N x2 x5 x11 x13 x14 h0 K0
theorem el13_54 (N : Nat) (k : Kn R) : ∀ (j : Nat) (x2 x5 x11 x13 x14 h0 : D), loopGo (runC PHI Tb12 N vc13_55) j (s13_9 x2 x5 x11 x13 x14 h0) k = l13_54 N j x2 x5 x11 x13 x14 h0 (fun x5 x11 x13 h0 => k (.exit 0) (s13_10 x5 x11 x13 h0))
  | 0, _, _, _, _, _, _ => by kernel_rfl
  | j + 1, x2, x5, x11, x13, x14, h0 => by
    have h2 := e13_55 N (kloop PHI Tb12 N vc13_55 j k) x2 x5 x11 x13 x14 h0
    have h3 : (fun (y2 y5 y11 y13 y14 h0 : D) => (kloop PHI Tb12 N vc13_55 j k) .normal (s13_9 y2 y5 y11 y13 y14 h0)) = (fun (y2 y5 y11 y13 y14 h0 : D) => l13_54 N j y2 y5 y11 y13 y14 h0 (fun x5 x11 x13 h0 => k (.exit 0) (s13_10 x5 x11 x13 h0))) := funext fun y2 => funext fun y5 => funext fun y11 => funext fun y13 => funext fun y14 => funext fun h0 => (el13_54 N k j y2 y5 y11 y13 y14 h0)
    refine Eq.trans (loop_succ _ j _ k) (Eq.trans h2 (Eq.trans (congrArg (fun K => m13_55 N x2 x5 x11 x13 x14 h0 K (fun x5 x11 x13 h0 => (kloop PHI Tb12 N vc13_55 j k) (.exit 0) (s13_10 x5 x11 x13 h0))) h3) (by kernel_rfl)))
theorem e13_54 (N : Nat) (k : Kn R) (x2 x5 x11 x13 x14 h0 : D) : runC PHI Tb12 N vc13_54 (s13_9 x2 x5 x11 x13 x14 h0) k = m13_54 N x2 x5 x11 x13 x14 h0 (fun x5 x11 x13 h0 => k (.exit 0) (s13_10 x5 x11 x13 h0)) := by
  refine Eq.trans (runC_loop _ _ k) (Eq.trans (el13_54 N k N x2 x5 x11 x13 x14 h0) (by kernel_rfl))
def m13_53 (N : Nat) (x2 x5 x11 x13 x14 h0 : D) (K : D → D → D → D → Option R) : Option R :=
  (m13_54 N x2 x5 x11 x13 x14 h0 (fun y5 y11 y13 h0 => K y5 y11 y13 h0))
theorem e13_53 (N : Nat) (k : Kn R) (x2 x5 x11 x13 x14 h0 : D) : runC PHI Tb12 N vc13_53 (s13_9 x2 x5 x11 x13 x14 h0) k = m13_53 N x2 x5 x11 x13 x14 h0 (fun x5 x11 x13 h0 => k .normal (s13_10 x5 x11 x13 h0)) := by
  refine Eq.trans (runC_block _ _ _ k) (Eq.trans (e13_54 N (kblk 0 k) x2 x5 x11 x13 x14 h0) (by kernel_rfl))
def m13_51 (N : Nat) (x2 x5 x11 x13 h0 : D) (K : D → D → D → D → Option R) : Option R :=
  (m13_52 N x2 x5 x11 x13 h0 (fun y2 y5 y11 y13 y14 h0 => (m13_53 N y2 y5 y11 y13 y14 h0 (fun y5 y11 y13 h0 => K y5 y11 y13 h0))))
theorem e13_51 (N : Nat) (k : Kn R) (x2 x5 x11 x13 h0 : D) : runC PHI Tb12 N vc13_51 (s13_8 x2 x5 x11 x13 h0) k = m13_51 N x2 x5 x11 x13 h0 (fun x5 x11 x13 h0 => k .normal (s13_10 x5 x11 x13 h0)) := by
  have h2 := e13_52 N (kseq PHI Tb12 N vc13_53 k) x2 x5 x11 x13 h0
  have h3 := (funext fun y2 => funext fun y5 => funext fun y11 => funext fun y13 => funext fun y14 => funext fun h0 => (e13_53 N k y2 y5 y11 y13 y14 h0) : (fun (y2 y5 y11 y13 y14 h0 : D) => (kseq PHI Tb12 N vc13_53 k) .normal (s13_9 y2 y5 y11 y13 y14 h0)) = _)
  refine Eq.trans (runC_seq _ _ _ k) (Eq.trans h2 (Eq.trans (congrArg (fun K => m13_52 N x2 x5 x11 x13 h0 K) h3) (by kernel_rfl)))
def m13_67 (N : Nat) (x5 x11 x13 h0 : D) (Kr : D → D → Option R) : Option R :=
  (bif (isPtrD x5) then (bif (!eqb ((x5.deref.at 2).toL.length : Int) 0) then Kr (D.i (IntKind.wrap IntKind.i64 (Int.tdiv (IntKind.wrap IntKind.i64 (x11.toI * x13.toI)) ((x5.deref.at 2).toL.length : Int)))) h0 else none) else none)
theorem e13_67 (N : Nat) (k : Kn R) (x5 x11 x13 h0 : D) : runC PHI Tb12 N vc13_67 (s13_10 x5 x11 x13 h0) k = m13_67 N x5 x11 x13 h0 (fun x8 h0 => k .ret (s13_2 x8 h0)) := by kernel_rfl
def m13_50 (N : Nat) (x2 x5 x11 x13 h0 : D) (Kr : D → D → Option R) : Option R :=
  (m13_51 N x2 x5 x11 x13 h0 (fun y5 y11 y13 h0 => (m13_67 N y5 y11 y13 h0 Kr)))
theorem e13_50 (N : Nat) (k : Kn R) (x2 x5 x11 x13 h0 : D) : runC PHI Tb12 N vc13_50 (s13_8 x2 x5 x11 x13 h0) k = m13_50 N x2 x5 x11 x13 h0 (fun x8 h0 => k .ret (s13_2 x8 h0)) := by
  have h2 := e13_51 N (kseq PHI Tb12 N vc13_67 k) x2 x5 x11 x13 h0
  have h3 := (funext fun y5 => funext fun y11 => funext fun y13 => funext fun h0 => (e13_67 N k y5 y11 y13 h0) : (fun (y5 y11 y13 h0 : D) => (kseq PHI Tb12 N vc13_67 k) .normal (s13_10 y5 y11 y13 h0)) = _)
  refine Eq.trans (runC_seq _ _ _ k) (Eq.trans h2 (Eq.trans (congrArg (fun K => m13_51 N x2 x5 x11 x13 h0 K) h3) (by kernel_rfl)))
def m13_48 (N : Nat) (x2 x5 x11 h0 : D) (Kr : D → D → Option R) : Option R :=
  (m13_49 N x2 x5 x11 h0 (fun y2 y5 y11 y13 h0 => (m13_50 N y2 y5 y11 y13 h0 Kr)))
theorem e13_48 (N : Nat) (k : Kn R) (x2 x5 x11 h0 : D) : runC PHI Tb12 N vc13_48 (s13_6 x2 x5 x11 h0) k = m13_48 N x2 x5 x11 h0 (fun x8 h0 => k .ret (s13_2 x8 h0)) := by
  have h2 := e13_49 N (kseq PHI Tb12 N vc13_50 k) x2 x5 x11 h0
  have h3 := (funext fun y2 => funext fun y5 => funext fun y11 => funext fun y13 => funext fun h0 => (e13_50 N k y2 y5 y11 y13 h0) : (fun (y2 y5 y11 y13 h0 : D) => (kseq PHI Tb12 N vc13_50 k) .normal (s13_8 y2 y5 y11 y13 h0)) = _)
  refine Eq.trans (runC_seq _ _ _ k) (Eq.trans h2 (Eq.trans (congrArg (fun K => m13_49 N x2 x5 x11 h0 K) h3) (by kernel_rfl)))
def m13_40 (N : Nat) (x2 x5 x11 h0 : D) (Kr : D → D → Option R) : Option R :=
  (m13_41 N x2 x5 x11 h0 (fun y2 y5 y11 h0 => (m13_48 N y2 y5 y11 h0 Kr)) Kr)
theorem e13_40 (N : Nat) (k : Kn R) (x2 x5 x11 h0 : D) : runC PHI Tb12 N vc13_40 (s13_6 x2 x5 x11 h0) k = m13_40 N x2 x5 x11 h0 (fun x8 h0 => k .ret (s13_2 x8 h0)) := by
  have h2 := e13_41 N (kseq PHI Tb12 N vc13_48 k) x2 x5 x11 h0
  have h3 := (funext fun y2 => funext fun y5 => funext fun y11 => funext fun h0 => (e13_48 N k y2 y5 y11 h0) : (fun (y2 y5 y11 h0 : D) => (kseq PHI Tb12 N vc13_48 k) .normal (s13_6 y2 y5 y11 h0)) = _)
  refine Eq.trans (runC_seq _ _ _ k) (Eq.trans h2 (Eq.trans (congrArg (fun K => m13_41 N x2 x5 x11 h0 K (fun x8 h0 => (kseq PHI Tb12 N vc13_48 k) .ret (s13_2 x8 h0))) h3) (by kernel_rfl)))
def m13_32 (N : Nat) (x2 x5 x11 x12 h0 : D) (Kr : D → D → Option R) : Option R :=
  (m13_33 N x2 x5 x11 x12 h0 (fun y2 y5 y11 h0 => (m13_40 N y2 y5 y11 h0 Kr)) Kr)
theorem e13_32 (N : Nat) (k : Kn R) (x2 x5 x11 x12 h0 : D) : runC PHI Tb12 N vc13_32 (s13_5 x2 x5 x11 x12 h0) k = m13_32 N x2 x5 x11 x12 h0 (fun x8 h0 => k .ret (s13_2 x8 h0)) := by
  have h2 := e13_33 N (kseq PHI Tb12 N vc13_40 k) x2 x5 x11 x12 h0
  have h3 := (funext fun y2 => funext fun y5 => funext fun y11 => funext fun h0 => (e13_40 N k y2 y5 y11 h0) : (fun (y2 y5 y11 h0 : D) => (kseq PHI Tb12 N vc13_40 k) .normal (s13_6 y2 y5 y11 h0)) = _)
  refine Eq.trans (runC_seq _ _ _ k) (Eq.trans h2 (Eq.trans (congrArg (fun K => m13_33 N x2 x5 x11 x12 h0 K (fun x8 h0 => (kseq PHI Tb12 N vc13_40 k) .ret (s13_2 x8 h0))) h3) (by kernel_rfl)))
def m13_24 (N : Nat) (x2 x5 x11 x12 h0 : D) (Kr : D → D → Option R) : Option R :=
  (m13_25 N x2 x5 x11 x12 h0 (fun y2 y5 y11 y12 h0 => (m13_32 N y2 y5 y11 y12 h0 Kr)) Kr)
theorem e13_24 (N : Nat) (k : Kn R) (x2 x5 x11 x12 h0 : D) : runC PHI Tb12 N vc13_24 (s13_5 x2 x5 x11 x12 h0) k = m13_24 N x2 x5 x11 x12 h0 (fun x8 h0 => k .ret (s13_2 x8 h0)) := by
  have h2 := e13_25 N (kseq PHI Tb12 N vc13_32 k) x2 x5 x11 x12 h0
  have h3 := (funext fun y2 => funext fun y5 => funext fun y11 => funext fun y12 => funext fun h0 => (e13_32 N k y2 y5 y11 y12 h0) : (fun (y2 y5 y11 y12 h0 : D) => (kseq PHI Tb12 N vc13_32 k) .normal (s13_5 y2 y5 y11 y12 h0)) = _)
  refine Eq.trans (runC_seq _ _ _ k) (Eq.trans h2 (Eq.trans (congrArg (fun K => m13_25 N x2 x5 x11 x12 h0 K (fun x8 h0 => (kseq PHI Tb12 N vc13_32 k) .ret (s13_2 x8 h0))) h3) (by kernel_rfl)))
def m13_18 (N : Nat) (x2 x5 x10 x11 x12 h0 : D) (Kr : D → D → Option R) : Option R :=
  (m13_19 N x2 x5 x10 x11 x12 h0 (fun y2 y5 y11 y12 h0 => (m13_24 N y2 y5 y11 y12 h0 Kr)))
theorem e13_18 (N : Nat) (k : Kn R) (x2 x5 x10 x11 x12 h0 : D) : runC PHI Tb12 N vc13_18 (s13_4 x2 x5 x10 x11 x12 h0) k = m13_18 N x2 x5 x10 x11 x12 h0 (fun x8 h0 => k .ret (s13_2 x8 h0)) := by
  have h2 := e13_19 N (kseq PHI Tb12 N vc13_24 k) x2 x5 x10 x11 x12 h0
  have h3 := (funext fun y2 => funext fun y5 => funext fun y11 => funext fun y12 => funext fun h0 => (e13_24 N k y2 y5 y11 y12 h0) : (fun (y2 y5 y11 y12 h0 : D) => (kseq PHI Tb12 N vc13_24 k) .normal (s13_5 y2 y5 y11 y12 h0)) = _)
  refine Eq.trans (runC_seq _ _ _ k) (Eq.trans h2 (Eq.trans (congrArg (fun K => m13_19 N x2 x5 x10 x11 x12 h0 K) h3) (by kernel_rfl)))
def m13_16 (N : Nat) (x0 x2 x5 x9 x10 h0 : D) (Kr : D → D → Option R) : Option R :=
  (m13_17 N x0 x2 x5 x9 x10 h0 (fun y2 y5 y10 y11 y12 h0 => (m13_18 N y2 y5 y10 y11 y12 h0 Kr)))
theorem e13_16 (N : Nat) (k : Kn R) (x0 x2 x5 x9 x10 h0 : D) : runC PHI Tb12 N vc13_16 (s13_3 x0 x2 x5 x9 x10 h0) k = m13_16 N x0 x2 x5 x9 x10 h0 (fun x8 h0 => k .ret (s13_2 x8 h0)) := by
  have h2 := e13_17 N (kseq PHI Tb12 N vc13_18 k) x0 x2 x5 x9 x10 h0
  have h3 := (funext fun y2 => funext fun y5 => funext fun y10 => funext fun y11 => funext fun y12 => funext fun h0 => (e13_18 N k y2 y5 y10 y11 y12 h0) : (fun (y2 y5 y10 y11 y12 h0 : D) => (kseq PHI Tb12 N vc13_18 k) .normal (s13_4 y2 y5 y10 y11 y12 h0)) = _)
  refine Eq.trans (runC_seq _ _ _ k) (Eq.trans h2 (Eq.trans (congrArg (fun K => m13_17 N x0 x2 x5 x9 x10 h0 K) h3) (by kernel_rfl)))
def m13_14 (N : Nat) (x0 x2 x5 h0 : D) (Kr : D → D → Option R) : Option R :=
  (m13_15 N x0 x2 x5 h0 (fun y0 y2 y5 y9 y10 h0 => (m13_16 N y0 y2 y5 y9 y10 h0 Kr)))
theorem e13_14 (N : Nat) (k : Kn R) (x0 x2 x5 h0 : D) : runC PHI Tb12 N vc13_14 (s13_1 x0 x2 x5 h0) k = m13_14 N x0 x2 x5 h0 (fun x8 h0 => k .ret (s13_2 x8 h0)) := by
  have h2 := e13_15 N (kseq PHI Tb12 N vc13_16 k) x0 x2 x5 h0
  have h3 := (funext fun y0 => funext fun y2 => funext fun y5 => funext fun y9 => funext fun y10 => funext fun h0 => (e13_16 N k y0 y2 y5 y9 y10 h0) : (fun (y0 y2 y5 y9 y10 h0 : D) => (kseq PHI Tb12 N vc13_16 k) .normal (s13_3 y0 y2 y5 y9 y10 h0)) = _)
  refine Eq.trans (runC_seq _ _ _ k) (Eq.trans h2 (Eq.trans (congrArg (fun K => m13_15 N x0 x2 x5 h0 K) h3) (by kernel_rfl)))
def m13_6 (N : Nat) (x0 x2 x5 h0 : D) (Kr : D → D → Option R) : Option R :=
  (m13_7 N x0 x2 x5 h0 (fun y0 y2 y5 h0 => (m13_14 N y0 y2 y5 h0 Kr)) Kr)
theorem e13_6 (N : Nat) (k : Kn R) (x0 x2 x5 h0 : D) : runC PHI Tb12 N vc13_6 (s13_1 x0 x2 x5 h0) k = m13_6 N x0 x2 x5 h0 (fun x8 h0 => k .ret (s13_2 x8 h0)) := by
  have h2 := e13_7 N (kseq PHI Tb12 N vc13_14 k) x0 x2 x5 h0
  have h3 := (funext fun y0 => funext fun y2 => funext fun y5 => funext fun h0 => (e13_14 N k y0 y2 y5 h0) : (fun (y0 y2 y5 h0 : D) => (kseq PHI Tb12 N vc13_14 k) .normal (s13_1 y0 y2 y5 h0)) = _)
  refine Eq.trans (runC_seq _ _ _ k) (Eq.trans h2 (Eq.trans (congrArg (fun K => m13_7 N x0 x2 x5 h0 K (fun x8 h0 => (kseq PHI Tb12 N vc13_14 k) .ret (s13_2 x8 h0))) h3) (by kernel_rfl)))
def m13_4 (N : Nat) (x0 x2 x5 h0 : D) (Kr : D → D → Option R) : Option R :=
  (m13_5 N x0 x2 x5 h0 (fun y0 y2 y5 h0 => (m13_6 N y0 y2 y5 h0 Kr)))
theorem e13_4 (N : Nat) (k : Kn R) (x0 x2 x5 h0 : D) : runC PHI Tb12 N vc13_4 (s13_1 x0 x2 x5 h0) k = m13_4 N x0 x2 x5 h0 (fun x8 h0 => k .ret (s13_2 x8 h0)) := by
  have h2 := e13_5 N (kseq PHI Tb12 N vc13_6 k) x0 x2 x5 h0
  have h3 := (funext fun y0 => funext fun y2 => funext fun y5 => funext fun h0 => (e13_6 N k y0 y2 y5 h0) : (fun (y0 y2 y5 h0 : D) => (kseq PHI Tb12 N vc13_6 k) .normal (s13_1 y0 y2 y5 h0)) = _)
  refine Eq.trans (runC_seq _ _ _ k) (Eq.trans h2 (Eq.trans (congrArg (fun K => m13_5 N x0 x2 x5 h0 K) h3) (by kernel_rfl)))
def m13_2 (N : Nat) (x0 x2 x5 h0 : D) (Kr : D → D → Option R) : Option R :=
  (m13_3 N x0 x2 x5 h0 (fun y0 y2 y5 h0 => (m13_4 N y0 y2 y5 h0 Kr)))
theorem e13_2 (N : Nat) (k : Kn R) (x0 x2 x5 h0 : D) : runC PHI Tb12 N vc13_2 (s13_1 x0 x2 x5 h0) k = m13_2 N x0 x2 x5 h0 (fun x8 h0 => k .ret (s13_2 x8 h0)) := by
  have h2 := e13_3 N (kseq PHI Tb12 N vc13_4 k) x0 x2 x5 h0
  have h3 := (funext fun y0 => funext fun y2 => funext fun y5 => funext fun h0 => (e13_4 N k y0 y2 y5 h0) : (fun (y0 y2 y5 h0 : D) => (kseq PHI Tb12 N vc13_4 k) .normal (s13_1 y0 y2 y5 h0)) = _)
  refine Eq.trans (runC_seq _ _ _ k) (Eq.trans h2 (Eq.trans (congrArg (fun K => m13_3 N x0 x2 x5 h0 K) h3) (by kernel_rfl)))
def m13_0 (N : Nat) (x0 x1 x2 x3 : D) (Kr : D → D → Option R) : Option R :=
  (m13_1 N x0 x1 x2 x3 (fun y0 y2 y5 h0 => (m13_2 N y0 y2 y5 h0 Kr)))
theorem e13_0 (N : Nat) (k : Kn R) (x0 x1 x2 x3 : D) : runC PHI Tb12 N vc13_0 (s13_0 x0 x1 x2 x3) k = m13_0 N x0 x1 x2 x3 (fun x8 h0 => k .ret (s13_2 x8 h0)) := by
  have h2 := e13_1 N (kseq PHI Tb12 N vc13_2 k) x0 x1 x2 x3
  have h3 := (funext fun y0 => funext fun y2 => funext fun y5 => funext fun h0 => (e13_2 N k y0 y2 y5 h0) : (fun (y0 y2 y5 h0 : D) => (kseq PHI Tb12 N vc13_2 k) .normal (s13_1 y0 y2 y5 h0)) = _)
  refine Eq.trans (runC_seq _ _ _ k) (Eq.trans h2 (Eq.trans (congrArg (fun K => m13_1 N x0 x1 x2 x3 K) h3) (by kernel_rfl)))
theorem r13 (N : Nat) (x0 x1 x2 x3 : D) : runC PHI Tb12 N vf13.body (enterV vf13 [V.f x0, V.f x1, V.f x2, V.f x3] []) (finish vf13) = m13_0 N x0 x1 x2 x3 (fun x8 h0 => finish vf13 .ret (s13_2 x8 h0)) := 
  Eq.trans (runC_pre (s1 := (s13_0 x0 x1 x2 x3)) (by kernel_rfl) _ _) (Eq.trans (e13_0 N (finish vf13) x0 x1 x2 x3) (by kernel_rfl))
end
theorem in13 {R : Type} (N k : Nat) (o : D) (c ba v : D) (h : (o.toS = [60] ∧ k = 32) ∨ (o.toS = [60, 61] ∧ k = 33) ∨ (o.toS = [62] ∧ k = 34) ∨ (o.toS = [62, 61] ∧ k = 35)) (hv : kd v = 1) (hl : (c.at 2).toL.length ≤ 9223372036854775807) (hN : (c.at 2).toL.length < N) (K0 : D → D → D → D → Option R) :
    l13_54 N N o (D.p c) ba (.i 0) (.i 0) (sp10 v) K0 = K0 (D.p c) ba (.i (cntP (fun x => cmpB k x (num v)) (c.at 2).toL)) (sp10 v) := by
  exact loop_fold (fun j i s => l13_54 N j o (D.p c) ba (.i s) (.i (i : Nat)) (sp10 v) K0) (fun s => K0 (D.p c) ba (.i s) (sp10 v)) (c.at 2).toL.length (cntF (fun x => cmpB k x (num v)) (c.at 2).toL) (fun i s => 0 ≤ s ∧ s ≤ (i : Int))
    (fun j i s hi hs => by
      have e : sp37 o (.ag [.i 1, (c.at 2).toL.getD i .nil, .f 0, .s []]) (sp10 v) = sp37 (.s o.toS) (.ag [.i 1, (c.at 2).toL.getD i .nil, .f 0, .s []]) (sp10 v) := rfl
      simp only [l13_54, m13_55, toI_i, isPtr_p, deref_p, cond_true, ltb_n hi, inb_t hi, at_nat, succ_n hi hl, e, cmp_b h _ v hv, cntF]
      cases cmpB k ((c.at 2).toL.getD i .nil).toI (num v)
      · simp only [cond_false, Int.add_zero]; rw [wrap64_id (by omega) (by omega)]
      · simp only [cond_true]; rw [wrap64_id (by omega) (by omega)])
    (cntF_r _ _)
    (fun j s _ => by simp only [l13_54, m13_55, toI_i, isPtr_p, deref_p, ltb_self, cond_true, cond_false])
    (c.at 2).toL.length 0 N 0 (by omega) hN (by omega)
def Tb13 : CallF := extend Tb12 13 (fn4 (fun _ _ _ _ => true) fun r c o v => .f (.i (sp13 r c o v)))
theorem ok13 : FnOk Try.prog PHI Tb13 := add4 ok12 (by kernel_rfl) fun r c o v ha _ => ⟨(c.at 2).toL.length + 1, (r13 _ r c o v).trans (by
  have hl := ((ha.is 1 rfl rfl).fld (k := 2) (ft := 29) (off := 2) (by kernel_rfl)).len' (e := 2) (by kernel_rfl)
  simp only [m13_0, m13_1, m13_2, m13_3, m13_4, m13_5, m13_6, m13_7, m13_14, m13_15, m13_16, m13_17, m13_18, m13_19, isPtr_p, deref_p, toI_i, toB_b, cond_true, sp13, sp12, shA, sp36, (cl30 v).k]
  generalize hRR : near r.toI big = R
  have hRR' : near r.toI 1099511627776 = R := hRR
  rw [hRR']
  generalize near (c.at 1).toI R = NU
  generalize near (c.at 0).toI R = DI
  by_cases hR : R = 0
  · rw [eqb_t hR]; rfl
  rw [eqb_f hR]
  simp only [cond_false, Bool.not_false, cond_true]
  cases hk : eqb (kd v) 0
  · simp only [cond_false]
    have hb : IntKind.wrap IntKind.i64 (Int.tdiv (IntKind.wrap IntKind.i64 (1000 * (IntKind.wrap IntKind.i64 (R - NU)))) R) = bas R NU := rfl
    rw [hb]
    have fin : ∀ x12, x12 = D.i (sam DI (bas R NU)) → m13_24 ((c.at 2).toL.length + 1) o (D.p c) (D.i (bas R NU)) x12 (sp10 v) (fun x8 h0 => finish vf13 .ret (s13_2 x8 h0)) = some (.f (.i (shO DI (bas R NU) o.toS (kd v) (num v) (c.at 2).toL)), []) := by
      intro x12 hx
      subst hx
      simp only [m13_24, m13_25, m13_32, m13_33, m13_40, m13_41, m13_42, m13_43, m13_48, m13_49, m13_50, m13_51, m13_52, m13_53, m13_54, m13_67, isPtr_p, deref_p, toI_i, toB_b, cond_true, (cl30 v).k, shO, show (!eqb 3 0) = true from rfl]
      cases h1 : eqL o.toS [61]
      · simp only [cond_false]
        cases h2 : eqL o.toS [60, 62]
        · simp only [cond_false]
          have key : ∀ k, ((o.toS = [60] ∧ k = 32) ∨ (o.toS = [60, 61] ∧ k = 33) ∨ (o.toS = [62] ∧ k = 34) ∨ (o.toS = [62, 61] ∧ k = 35)) →
              (bif !eqb (kd v) 1 then finish vf13 .ret (s13_2 (.i (IntKind.wrap IntKind.i64 (Int.tdiv (bas R NU) 3))) (sp10 v)) else
                bif eqb ((c.at 2).toL.length : Int) 0 then finish vf13 .ret (s13_2 (.i (IntKind.wrap IntKind.i64 (Int.tdiv (bas R NU) 3))) (sp10 v)) else
                l13_54 ((c.at 2).toL.length + 1) ((c.at 2).toL.length + 1) o (D.p c) (D.i (bas R NU)) (.i 0) (.i 0) (sp10 v) (fun y5 y11 y13 h0 => bif isPtrD y5 then (bif !eqb ((y5.deref.at 2).toL.length : Int) 0 then finish vf13 .ret (s13_2 (.i (IntKind.wrap IntKind.i64 (Int.tdiv (IntKind.wrap IntKind.i64 (y11.toI * y13.toI)) ((y5.deref.at 2).toL.length : Int)))) h0) else none) else none)) =
              some (.f (.i (blw k (kd v) (num v) (c.at 2).toL (bas R NU))), []) := by
            intro k h
            unfold blw
            by_cases hv : kd v = 1
            · rw [eqb_t hv]
              simp only [Bool.not_true, cond_false]
              by_cases hz : ((c.at 2).toL.length : Int) = 0
              · rw [eqb_t hz]; rfl
              · rw [eqb_f hz]
                simp only [cond_false]
                rw [in13 _ k o c _ v h hv hl (by omega)]
                simp only [isPtr_p, deref_p, eqb_f hz, cond_true, Bool.not_false]
                rfl
            · rw [eqb_f hv]; rfl
          cases h3 : eqL o.toS [60]
          · cases h4 : eqL o.toS [60, 61]
            · cases h5 : eqL o.toS [62]
              · cases h6 : eqL o.toS [62, 61]
                · cases eqb (kd v) 1
                  · rfl
                  · cases eqb ((c.at 2).toL.length : Int) 0 <;> rfl
                · refine Eq.trans ?_ (key 35 (.inr (.inr (.inr ⟨eqL_eq h6, rfl⟩))))
                  cases eqb (kd v) 1
                  · rfl
                  · cases eqb ((c.at 2).toL.length : Int) 0 <;> rfl
              · refine Eq.trans ?_ (key 34 (.inr (.inr (.inl ⟨eqL_eq h5, rfl⟩))))
                cases eqb (kd v) 1
                · rfl
                · cases eqb ((c.at 2).toL.length : Int) 0 <;> rfl
            · refine Eq.trans ?_ (key 33 (.inr (.inl ⟨eqL_eq h4, rfl⟩)))
              cases eqb (kd v) 1
              · rfl
              · cases eqb ((c.at 2).toL.length : Int) 0 <;> rfl
          · refine Eq.trans ?_ (key 32 (.inl ⟨eqL_eq h3, rfl⟩))
            cases eqb (kd v) 1
            · rfl
            · cases eqb ((c.at 2).toL.length : Int) 0 <;> rfl
        · rfl
      · rfl
    by_cases hd : 0 < DI
    · rw [ltb_t hd, eqb_f (show ¬ DI = 0 by omega)]
      exact fin _ (by unfold sam; rw [ltb_t hd]; rfl)
    · rw [ltb_f hd]
      exact fin _ (by unfold sam; rw [ltb_f hd]; rfl)
  · rfl)⟩

end Go.Vam.C15
namespace Go.Vam.C15
open Go.Proofs
theorem mm_t (a b : Int) : mmI true a [b] = if b > a then b else a := rfl
theorem bas_r {r nu : Int} (h1 : 0 < r) (h2 : r ≤ big) (h3 : 0 ≤ nu) (h4 : nu ≤ r) : 0 ≤ bas r nu ∧ bas r nu ≤ 1000 := by
  unfold bas
  unfold big at h2
  have e1 : w64 (r - nu) = r - nu := wrap64_id (by omega) (by omega)
  have e2 : w64 (1000 * (r - nu)) = 1000 * (r - nu) := wrap64_id (by omega) (by omega)
  have e3 : Int.tdiv (1000 * (r - nu)) r = 1000 * (r - nu) / r := Int.tdiv_eq_ediv_of_nonneg (by omega)
  have e4 : 0 ≤ 1000 * (r - nu) / r := Int.ediv_nonneg (by omega) (by omega)
  have e5 : 1000 * (r - nu) / r ≤ 1000 := Int.ediv_le_of_le_mul h1 (by omega)
  have e6 : w64 (1000 * (r - nu) / r) = 1000 * (r - nu) / r := wrap64_id (by omega) (by omega)
  rw [e1, e2, e3, e6]
  exact ⟨e4, e5⟩
theorem quo_r {a b : Int} (h1 : 0 < b) (h2 : 0 ≤ a) (h3 : a ≤ 1000) : 0 ≤ w64 (Int.tdiv a b) ∧ w64 (Int.tdiv a b) ≤ a := by
  have e3 : Int.tdiv a b = a / b := Int.tdiv_eq_ediv_of_nonneg h2
  have e4 : 0 ≤ a / b := Int.ediv_nonneg h2 (by omega)
  have e5 : a / b ≤ a := Int.ediv_le_self b h2
  have e6 : w64 (a / b) = a / b := wrap64_id (by omega) (by omega)
  rw [e3, e6]
  exact ⟨e4, e5⟩
theorem sam_r {di ba : Int} (h2 : 0 ≤ ba) (h3 : ba ≤ 1000) : 0 ≤ sam di ba ∧ sam di ba ≤ 1000 := by
  unfold sam
  by_cases h : 0 < di
  · have := quo_r h h2 h3
    rw [ltb_t h, cond_true, mm_t]
    split <;> omega
  · rw [ltb_f h]; simp
theorem blw_r {k : Nat} {kv x : Int} {bs : List D} {ba : Int} (h2 : 0 ≤ ba) (h3 : ba ≤ 1000) (hl : bs.length ≤ 1000) : 0 ≤ blw k kv x bs ba ∧ blw k kv x bs ba ≤ 1000 := by
  unfold blw
  have h0 := quo_r (b := 3) (by omega) h2 h3
  cases eqb kv 1
  · exact ⟨h0.1, by simp; omega⟩
  · simp only [Bool.not_true, cond_false]
    by_cases hz : (bs.length : Int) = 0
    · rw [eqb_t hz]; exact ⟨h0.1, by simp; omega⟩
    · rw [eqb_f hz]
      simp only [cond_false]
      have hc := cntP_r (fun b => cmpB k b x) bs
      generalize cntP (fun b => cmpB k b x) bs = n at *
      have m1 : 0 ≤ ba * n := Int.mul_nonneg h2 hc.1
      have m2 : ba * n ≤ ba * (bs.length : Int) := Int.mul_le_mul_of_nonneg_left hc.2 h2
      have m3 : ba * (bs.length : Int) ≤ 1000 * (bs.length : Int) := Int.mul_le_mul_of_nonneg_right h3 (by omega)
      have e2 : w64 (ba * n) = ba * n := wrap64_id (by omega) (by omega)
      have e3 : Int.tdiv (ba * n) (bs.length : Int) = ba * n / (bs.length : Int) := Int.tdiv_eq_ediv_of_nonneg m1
      have e4 : 0 ≤ ba * n / (bs.length : Int) := Int.ediv_nonneg m1 (by omega)
      have e5 : ba * n / (bs.length : Int) ≤ 1000 := Int.ediv_le_of_le_mul (by omega) (by omega)
      have e6 : w64 (ba * n / (bs.length : Int)) = ba * n / (bs.length : Int) := wrap64_id (by omega) (by omega)
      rw [e2, e3, e6]
      exact ⟨e4, e5⟩
theorem shO_r {di ba : Int} {o : List Nat} {kv x : Int} {bs : List D} (h2 : 0 ≤ ba) (h3 : ba ≤ 1000) (hl : bs.length ≤ 1000) : 0 ≤ shO di ba o kv x bs ∧ shO di ba o kv x bs ≤ 1000 := by
  unfold shO
  have hs := sam_r (di := di) h2 h3
  have hq := quo_r (b := 3) (by omega) h2 h3
  cases eqL o [61]
  · cases eqL o [60, 62]
    · cases eqL o [60]
      · cases eqL o [60, 61]
        · cases eqL o [62]
          · cases eqL o [62, 61]
            · exact ⟨hq.1, by simp; omega⟩
            · exact blw_r h2 h3 hl
          · exact blw_r h2 h3 hl
        · exact blw_r h2 h3 hl
      · exact blw_r h2 h3 hl
    · simp only [cond_true, cond_false]
      have e : w64 (ba - sam di ba) = ba - sam di ba := wrap64_id (by omega) (by omega)
      rw [e, mm_t]
      split <;> omega
  · exact hs
theorem share_r (r c o v : D) (hl : (c.at 2).toL.length ≤ 1000) : 0 ≤ sp12 r c o v ∧ sp12 r c o v ≤ 1000 := by
  unfold sp12 shA
  have h1 := near_r (x := r.toI) (r := big) (by decide)
  generalize near r.toI big = R at *
  by_cases hR : R = 0
  · rw [eqb_t hR]; simp
  rw [eqb_f hR]
  simp only [cond_false]
  cases eqb (kd v) 0
  · have h2 := near_r (x := (c.at 1).toI) h1.1
    have hb := bas_r (by omega) h1.2 h2.1 h2.2
    exact shO_r hb.1 hb.2 hl
  · simp
theorem turn_turn (x : D) : eqL (sp14 (sp14 x)).toS x.toS = true := by
  unfold sp14
  cases h1 : eqL x.toS [60]
  · cases h2 : eqL x.toS [60, 61]
    · cases h3 : eqL x.toS [62]
      · cases h4 : eqL x.toS [62, 61]
        · simp only [cond_false, h1, h2, h3, h4, eqL_self]
        · rw [eqL_eq h4]; rfl
      · rw [eqL_eq h3]; rfl
    · rw [eqL_eq h2]; rfl
  · rw [eqL_eq h1]; rfl
theorem ltb_nf {a : Int} {n : Nat} (h : ltb a (n : Int) = false) : (n : Int) ≤ a := by
  by_cases hh : a < (n : Int)
  · rw [ltb_t hh] at h; cases h
  · omega
theorem fst_none : ∀ k i, fst (fun _ => false) k i = -1
  | 0, i => rfl
  | k + 1, i => by rw [fst]; exact fst_none k (i + 1)
section
variable {R : Type}
def m5_1 (N : Nat) (x0 x1 x2 : D) (K : D → D → D → Option R) : Option R :=
  K x1 (D.p x0) (D.p x2)
def s5_0 (x0 x1 x2 : D) : St := sts 73 [(0, V.f x0), (1, V.f x1), (2, V.f x2)] []
def s5_1 (x1 x3 x5 : D) : St := sts 73 [(1, V.f x1), (3, V.f x3), (5, V.f x5)] []
theorem e5_1 (N : Nat) (k : Kn R) (x0 x1 x2 : D) : runC PHI Tb13 N vc5_1 (s5_0 x0 x1 x2) k = m5_1 N x0 x1 x2 (fun x1 x3 x5 => k .normal (s5_1 x1 x3 x5)) := by
  refine Eq.trans (runC_post _ _ _ k) (Eq.trans (ops_run _ _ _ _) (by kernel_rfl))
def m5_3 (N : Nat) (x1 x3 x5 : D) (K : D → D → D → D → Option R) : Option R :=
  (bif (isPtrD x3) then (bif (isPtrD x3) then K x1 x5 (x3.deref.at 0) (D.p (x3.deref.at 1)) else none) else none)
def s5_2 (x1 x5 x7 x8 : D) : St := sts 73 [(1, V.f x1), (5, V.f x5), (7, V.f x7), (8, V.f x8)] []
theorem e5_3 (N : Nat) (k : Kn R) (x1 x3 x5 : D) : runC PHI Tb13 N vc5_3 (s5_1 x1 x3 x5) k = m5_3 N x1 x3 x5 (fun x1 x5 x7 x8 => k .normal (s5_2 x1 x5 x7 x8)) := by
  refine Eq.trans (runC_post _ _ _ k) (Eq.trans (ops_run _ _ _ _) (by kernel_rfl))
def m5_5 (N : Nat) (x1 x5 x7 x8 : D) (K : D → D → D → D → Option R) (Kr : D → Option R) : Option R :=
  (bif (!sp7) then (bif true then Kr (D.b sp7) else K x1 x5 x7 x8) else (bif (isPtrD x8) then (bif (ltb 100 ((x8.deref.at 2).toL.length : Int)) then (bif true then Kr (D.b sp7) else K x1 x5 x7 x8) else (bif (isPtrD x5) then (bif (ltb 100 ((x5.deref.at 3).toS.length : Int)) then Kr (D.b sp7) else K x1 x5 x7 x8) else none)) else none))
def s5_3 (x6 : D) : St := sts 73 [(6, V.f x6)] []
theorem e5_5 (N : Nat) (k : Kn R) (x1 x5 x7 x8 : D) : runC PHI Tb13 N vc5_5 (s5_2 x1 x5 x7 x8) k = m5_5 N x1 x5 x7 x8 (fun x1 x5 x7 x8 => k .normal (s5_2 x1 x5 x7 x8)) (fun x6 => k .ret (s5_3 x6)) := by kernel_rfl
def m5_14 (N : Nat) (x1 x5 x7 x8 : D) (K : D → D → D → D → D → D → Option R) : Option R :=
  K x5 x7 x8 (D.sl ([x1, (D.s [61]), (D.s [60, 62]), (D.s [60]), (D.s [60, 61]), (D.s [62]), (D.s [62, 61])] : List D)) (D.i (([x1, (D.s [61]), (D.s [60, 62]), (D.s [60]), (D.s [60, 61]), (D.s [62]), (D.s [62, 61])] : List D).length : Int)) (D.i 0)
def s5_4 (x5 x7 x8 x32 x33 x34 : D) : St := sts 73 [(5, V.f x5), (7, V.f x7), (8, V.f x8), (32, V.f x32), (33, V.f x33), (34, V.f x34)] []
theorem e5_14 (N : Nat) (k : Kn R) (x1 x5 x7 x8 : D) : runC PHI Tb13 N vc5_14 (s5_2 x1 x5 x7 x8) k = m5_14 N x1 x5 x7 x8 (fun x5 x7 x8 x32 x33 x34 => k .normal (s5_4 x5 x7 x8 x32 x33 x34)) := by
  refine Eq.trans (runC_post _ _ _ k) (Eq.trans (ops_run _ _ _ _) (by kernel_rfl))
def m5_18 (N : Nat) (x5 x7 x8 x32 x33 x34 : D) (K : D → D → D → D → D → D → D → Option R) : Option R :=
  K x5 x7 x8 x32 x33 x34 (D.b (ltb x34.toI x33.toI))
def s5_5 (x5 x7 x8 x32 x33 x34 x35 : D) : St := sts 73 [(5, V.f x5), (7, V.f x7), (8, V.f x8), (32, V.f x32), (33, V.f x33), (34, V.f x34), (35, V.f x35)] []
theorem e5_18 (N : Nat) (k : Kn R) (x5 x7 x8 x32 x33 x34 : D) : runC PHI Tb13 N vc5_18 (s5_4 x5 x7 x8 x32 x33 x34) k = m5_18 N x5 x7 x8 x32 x33 x34 (fun x5 x7 x8 x32 x33 x34 x35 => k .normal (s5_5 x5 x7 x8 x32 x33 x34 x35)) := by
  refine Eq.trans (runC_post _ _ _ k) (Eq.trans (ops_run _ _ _ _) (by kernel_rfl))
def m5_20 (N : Nat) (x5 x7 x8 x32 x33 x34 x35 : D) (K : D → D → D → D → D → D → Option R) (K0 : Option R) : Option R :=
  (bif x35.toB then K x5 x7 x8 x32 x33 x34 else K0)
def s5_6 : St := sts 73 [] []
theorem e5_20 (N : Nat) (k : Kn R) (x5 x7 x8 x32 x33 x34 x35 : D) : runC PHI Tb13 N vc5_20 (s5_5 x5 x7 x8 x32 x33 x34 x35) k = m5_20 N x5 x7 x8 x32 x33 x34 x35 (fun x5 x7 x8 x32 x33 x34 => k .normal (s5_4 x5 x7 x8 x32 x33 x34)) (k (.exit 0) s5_6) := by kernel_rfl
def m5_26 (N : Nat) (x5 x7 x8 x32 x33 x34 : D) (K : D → D → D → D → D → D → D → Option R) : Option R :=
  (bif (inb x34.toI x32.toL.length) then K x5 x7 x8 (x32.at (x34.toI : Int).toNat) x32 x33 x34 else none)
def s5_7 (x5 x7 x8 x10 x32 x33 x34 : D) : St := sts 73 [(5, V.f x5), (7, V.f x7), (8, V.f x8), (10, V.f x10), (32, V.f x32), (33, V.f x33), (34, V.f x34)] []
theorem e5_26 (N : Nat) (k : Kn R) (x5 x7 x8 x32 x33 x34 : D) : runC PHI Tb13 N vc5_26 (s5_4 x5 x7 x8 x32 x33 x34) k = m5_26 N x5 x7 x8 x32 x33 x34 (fun x5 x7 x8 x10 x32 x33 x34 => k .normal (s5_7 x5 x7 x8 x10 x32 x33 x34)) := by
  refine Eq.trans (runC_post _ _ _ k) (Eq.trans (ops_run _ _ _ _) (by kernel_rfl))
def m5_28 (N : Nat) (x5 x7 x8 x10 x32 x33 x34 : D) (K : D → D → D → D → D → D → D → D → Option R) : Option R :=
  (bif (isPtrD x8) then (bif (isPtrD x5) then K x5 x7 x8 x10 (D.i (sp12 x7 x8.deref x10 x5.deref)) x32 x33 x34 else none) else none)
def s5_8 (x5 x7 x8 x10 x11 x32 x33 x34 : D) : St := sts 73 [(5, V.f x5), (7, V.f x7), (8, V.f x8), (10, V.f x10), (11, V.f x11), (32, V.f x32), (33, V.f x33), (34, V.f x34)] []
theorem e5_28 (N : Nat) (k : Kn R) (x5 x7 x8 x10 x32 x33 x34 : D) : runC PHI Tb13 N vc5_28 (s5_7 x5 x7 x8 x10 x32 x33 x34) k = m5_28 N x5 x7 x8 x10 x32 x33 x34 (fun x5 x7 x8 x10 x11 x32 x33 x34 => k .normal (s5_8 x5 x7 x8 x10 x11 x32 x33 x34)) := by
  refine Eq.trans (runC_post _ _ _ k) (Eq.trans (ops_run _ _ _ _) (by kernel_rfl))
def m5_30 (N : Nat) (x5 x7 x8 x10 x11 x32 x33 x34 : D) (K : D → D → D → D → D → D → D → Option R) : Option R :=
  (bif (isPtrD x8) then (bif (isPtrD x5) then (bif (!eqb x11.toI (sp13 x7 x8.deref x10 x5.deref)) then K x5 x7 x8 x32 x33 x34 (D.b true) else (bif (ltb x11.toI 0) then K x5 x7 x8 x32 x33 x34 (D.b true) else (bif (ltb 1000 x11.toI) then K x5 x7 x8 x32 x33 x34 (D.b true) else (bif (!eqL (sp14 x10).toS (sp15 x10).toS) then K x5 x7 x8 x32 x33 x34 (D.b true) else K x5 x7 x8 x32 x33 x34 (D.b (!eqL (sp14 (sp14 x10)).toS x10.toS)))))) else none) else none)
def s5_9 (x5 x7 x8 x32 x33 x34 x71 : D) : St := sts 73 [(5, V.f x5), (7, V.f x7), (8, V.f x8), (32, V.f x32), (33, V.f x33), (34, V.f x34), (71, V.f x71)] []
theorem e5_30 (N : Nat) (k : Kn R) (x5 x7 x8 x10 x11 x32 x33 x34 : D) : runC PHI Tb13 N vc5_30 (s5_8 x5 x7 x8 x10 x11 x32 x33 x34) k = m5_30 N x5 x7 x8 x10 x11 x32 x33 x34 (fun x5 x7 x8 x32 x33 x34 x71 => k .normal (s5_9 x5 x7 x8 x32 x33 x34 x71)) := by
  refine Eq.trans (runC_post _ _ _ k) (Eq.trans (ops_run _ _ _ _) (by kernel_rfl))
def m5_31 (N : Nat) (x5 x7 x8 x32 x33 x34 x71 : D) (K : D → D → D → D → D → D → Option R) (Kr : D → Option R) : Option R :=
  (bif x71.toB then Kr (D.b false) else K x5 x7 x8 x32 x33 x34)
theorem e5_31 (N : Nat) (k : Kn R) (x5 x7 x8 x32 x33 x34 x71 : D) : runC PHI Tb13 N vc5_31 (s5_9 x5 x7 x8 x32 x33 x34 x71) k = m5_31 N x5 x7 x8 x32 x33 x34 x71 (fun x5 x7 x8 x32 x33 x34 => k .normal (s5_4 x5 x7 x8 x32 x33 x34)) (fun x6 => k .ret (s5_3 x6)) := by kernel_rfl
def m5_29 (N : Nat) (x5 x7 x8 x10 x11 x32 x33 x34 : D) (K : D → D → D → D → D → D → Option R) (Kr : D → Option R) : Option R :=
  (m5_30 N x5 x7 x8 x10 x11 x32 x33 x34 (fun y5 y7 y8 y32 y33 y34 y71 => (m5_31 N y5 y7 y8 y32 y33 y34 y71 (fun y5 y7 y8 y32 y33 y34 => K y5 y7 y8 y32 y33 y34) Kr)))
theorem e5_29 (N : Nat) (k : Kn R) (x5 x7 x8 x10 x11 x32 x33 x34 : D) : runC PHI Tb13 N vc5_29 (s5_8 x5 x7 x8 x10 x11 x32 x33 x34) k = m5_29 N x5 x7 x8 x10 x11 x32 x33 x34 (fun x5 x7 x8 x32 x33 x34 => k .normal (s5_4 x5 x7 x8 x32 x33 x34)) (fun x6 => k .ret (s5_3 x6)) := by
  have h2 := e5_30 N (kseq PHI Tb13 N vc5_31 k) x5 x7 x8 x10 x11 x32 x33 x34
  have h3 := (funext fun y5 => funext fun y7 => funext fun y8 => funext fun y32 => funext fun y33 => funext fun y34 => funext fun y71 => (e5_31 N k y5 y7 y8 y32 y33 y34 y71) : (fun (y5 y7 y8 y32 y33 y34 y71 : D) => (kseq PHI Tb13 N vc5_31 k) .normal (s5_9 y5 y7 y8 y32 y33 y34 y71)) = _)
  refine Eq.trans (runC_seq _ _ _ k) (Eq.trans h2 (Eq.trans (congrArg (fun K => m5_30 N x5 x7 x8 x10 x11 x32 x33 x34 K) h3) (by kernel_rfl)))
def m5_27 (N : Nat) (x5 x7 x8 x10 x32 x33 x34 : D) (K : D → D → D → D → D → D → Option R) (Kr : D → Option R) : Option R :=
  (m5_28 N x5 x7 x8 x10 x32 x33 x34 (fun y5 y7 y8 y10 y11 y32 y33 y34 => (m5_29 N y5 y7 y8 y10 y11 y32 y33 y34 (fun y5 y7 y8 y32 y33 y34 => K y5 y7 y8 y32 y33 y34) Kr)))
theorem e5_27 (N : Nat) (k : Kn R) (x5 x7 x8 x10 x32 x33 x34 : D) : runC PHI Tb13 N vc5_27 (s5_7 x5 x7 x8 x10 x32 x33 x34) k = m5_27 N x5 x7 x8 x10 x32 x33 x34 (fun x5 x7 x8 x32 x33 x34 => k .normal (s5_4 x5 x7 x8 x32 x33 x34)) (fun x6 => k .ret (s5_3 x6)) := by
  have h2 := e5_28 N (kseq PHI Tb13 N vc5_29 k) x5 x7 x8 x10 x32 x33 x34
  have h3 := (funext fun y5 => funext fun y7 => funext fun y8 => funext fun y10 => funext fun y11 => funext fun y32 => funext fun y33 => funext fun y34 => (e5_29 N k y5 y7 y8 y10 y11 y32 y33 y34) : (fun (y5 y7 y8 y10 y11 y32 y33 y34 : D) => (kseq PHI Tb13 N vc5_29 k) .normal (s5_8 y5 y7 y8 y10 y11 y32 y33 y34)) = _)
  refine Eq.trans (runC_seq _ _ _ k) (Eq.trans h2 (Eq.trans (congrArg (fun K => m5_28 N x5 x7 x8 x10 x32 x33 x34 K) h3) (by kernel_rfl)))
def m5_25 (N : Nat) (x5 x7 x8 x32 x33 x34 : D) (K : D → D → D → D → D → D → Option R) (Kr : D → Option R) : Option R :=
  (m5_26 N x5 x7 x8 x32 x33 x34 (fun y5 y7 y8 y10 y32 y33 y34 => (m5_27 N y5 y7 y8 y10 y32 y33 y34 (fun y5 y7 y8 y32 y33 y34 => K y5 y7 y8 y32 y33 y34) Kr)))
theorem e5_25 (N : Nat) (k : Kn R) (x5 x7 x8 x32 x33 x34 : D) : runC PHI Tb13 N vc5_25 (s5_4 x5 x7 x8 x32 x33 x34) k = m5_25 N x5 x7 x8 x32 x33 x34 (fun x5 x7 x8 x32 x33 x34 => k .normal (s5_4 x5 x7 x8 x32 x33 x34)) (fun x6 => k .ret (s5_3 x6)) := by
  have h2 := e5_26 N (kseq PHI Tb13 N vc5_27 k) x5 x7 x8 x32 x33 x34
  have h3 := (funext fun y5 => funext fun y7 => funext fun y8 => funext fun y10 => funext fun y32 => funext fun y33 => funext fun y34 => (e5_27 N k y5 y7 y8 y10 y32 y33 y34) : (fun (y5 y7 y8 y10 y32 y33 y34 : D) => (kseq PHI Tb13 N vc5_27 k) .normal (s5_7 y5 y7 y8 y10 y32 y33 y34)) = _)
  refine Eq.trans (runC_seq _ _ _ k) (Eq.trans h2 (Eq.trans (congrArg (fun K => m5_26 N x5 x7 x8 x32 x33 x34 K) h3) (by kernel_rfl)))
def m5_24 (N : Nat) (x5 x7 x8 x32 x33 x34 : D) (K : D → D → D → D → D → D → Option R) (Kr : D → Option R) : Option R :=
  (m5_25 N x5 x7 x8 x32 x33 x34 (fun y5 y7 y8 y32 y33 y34 => K y5 y7 y8 y32 y33 y34) Kr)
theorem e5_24 (N : Nat) (k : Kn R) (x5 x7 x8 x32 x33 x34 : D) : runC PHI Tb13 N vc5_24 (s5_4 x5 x7 x8 x32 x33 x34) k = m5_24 N x5 x7 x8 x32 x33 x34 (fun x5 x7 x8 x32 x33 x34 => k .normal (s5_4 x5 x7 x8 x32 x33 x34)) (fun x6 => k .ret (s5_3 x6)) := by
  refine Eq.trans (runC_block _ _ _ k) (Eq.trans (e5_25 N (kblk 1 k) x5 x7 x8 x32 x33 x34) (by kernel_rfl))
def m5_36 (N : Nat) (x5 x7 x8 x32 x33 x34 : D) (K : D → D → D → D → D → D → Option R) : Option R :=
  K x5 x7 x8 x32 x33 (D.i (IntKind.wrap IntKind.i64 (x34.toI + 1)))
theorem e5_36 (N : Nat) (k : Kn R) (x5 x7 x8 x32 x33 x34 : D) : runC PHI Tb13 N vc5_36 (s5_4 x5 x7 x8 x32 x33 x34) k = m5_36 N x5 x7 x8 x32 x33 x34 (fun x5 x7 x8 x32 x33 x34 => k .normal (s5_4 x5 x7 x8 x32 x33 x34)) := by
  refine Eq.trans (runC_post _ _ _ k) (Eq.trans (ops_run _ _ _ _) (by kernel_rfl))
def m5_23 (N : Nat) (x5 x7 x8 x32 x33 x34 : D) (K : D → D → D → D → D → D → Option R) (Kr : D → Option R) : Option R :=
  (m5_24 N x5 x7 x8 x32 x33 x34 (fun y5 y7 y8 y32 y33 y34 => (m5_36 N y5 y7 y8 y32 y33 y34 (fun y5 y7 y8 y32 y33 y34 => K y5 y7 y8 y32 y33 y34))) Kr)
theorem e5_23 (N : Nat) (k : Kn R) (x5 x7 x8 x32 x33 x34 : D) : runC PHI Tb13 N vc5_23 (s5_4 x5 x7 x8 x32 x33 x34) k = m5_23 N x5 x7 x8 x32 x33 x34 (fun x5 x7 x8 x32 x33 x34 => k .normal (s5_4 x5 x7 x8 x32 x33 x34)) (fun x6 => k .ret (s5_3 x6)) := by
  have h2 := e5_24 N (kseq PHI Tb13 N vc5_36 k) x5 x7 x8 x32 x33 x34
  have h3 := (funext fun y5 => funext fun y7 => funext fun y8 => funext fun y32 => funext fun y33 => funext fun y34 => (e5_36 N k y5 y7 y8 y32 y33 y34) : (fun (y5 y7 y8 y32 y33 y34 : D) => (kseq PHI Tb13 N vc5_36 k) .normal (s5_4 y5 y7 y8 y32 y33 y34)) = _)
  refine Eq.trans (runC_seq _ _ _ k) (Eq.trans h2 (Eq.trans (congrArg (fun K => m5_24 N x5 x7 x8 x32 x33 x34 K (fun x6 => (kseq PHI Tb13 N vc5_36 k) .ret (s5_3 x6))) h3) (by kernel_rfl)))
def m5_19 (N : Nat) (x5 x7 x8 x32 x33 x34 x35 : D) (K : D → D → D → D → D → D → Option R) (K0 : Option R) (Kr : D → Option R) : Option R :=
  (m5_20 N x5 x7 x8 x32 x33 x34 x35 (fun y5 y7 y8 y32 y33 y34 => (m5_23 N y5 y7 y8 y32 y33 y34 (fun y5 y7 y8 y32 y33 y34 => K y5 y7 y8 y32 y33 y34) Kr)) K0)
theorem e5_19 (N : Nat) (k : Kn R) (x5 x7 x8 x32 x33 x34 x35 : D) : runC PHI Tb13 N vc5_19 (s5_5 x5 x7 x8 x32 x33 x34 x35) k = m5_19 N x5 x7 x8 x32 x33 x34 x35 (fun x5 x7 x8 x32 x33 x34 => k .normal (s5_4 x5 x7 x8 x32 x33 x34)) (k (.exit 0) s5_6) (fun x6 => k .ret (s5_3 x6)) := by
  have h2 := e5_20 N (kseq PHI Tb13 N vc5_23 k) x5 x7 x8 x32 x33 x34 x35
  have h3 := (funext fun y5 => funext fun y7 => funext fun y8 => funext fun y32 => funext fun y33 => funext fun y34 => (e5_23 N k y5 y7 y8 y32 y33 y34) : (fun (y5 y7 y8 y32 y33 y34 : D) => (kseq PHI Tb13 N vc5_23 k) .normal (s5_4 y5 y7 y8 y32 y33 y34)) = _)
  refine Eq.trans (runC_seq _ _ _ k) (Eq.trans h2 (Eq.trans (congrArg (fun K => m5_20 N x5 x7 x8 x32 x33 x34 x35 K ((kseq PHI Tb13 N vc5_23 k) (.exit 0) s5_6)) h3) (by kernel_rfl)))
def m5_17 (N : Nat) (x5 x7 x8 x32 x33 x34 : D) (K : D → D → D → D → D → D → Option R) (K0 : Option R) (Kr : D → Option R) : Option R :=
  (m5_18 N x5 x7 x8 x32 x33 x34 (fun y5 y7 y8 y32 y33 y34 y35 => (m5_19 N y5 y7 y8 y32 y33 y34 y35 (fun y5 y7 y8 y32 y33 y34 => K y5 y7 y8 y32 y33 y34) K0 Kr)))
theorem e5_17 (N : Nat) (k : Kn R) (x5 x7 x8 x32 x33 x34 : D) : runC PHI Tb13 N vc5_17 (s5_4 x5 x7 x8 x32 x33 x34) k = m5_17 N x5 x7 x8 x32 x33 x34 (fun x5 x7 x8 x32 x33 x34 => k .normal (s5_4 x5 x7 x8 x32 x33 x34)) (k (.exit 0) s5_6) (fun x6 => k .ret (s5_3 x6)) := by
  have h2 := e5_18 N (kseq PHI Tb13 N vc5_19 k) x5 x7 x8 x32 x33 x34
  have h3 := (funext fun y5 => funext fun y7 => funext fun y8 => funext fun y32 => funext fun y33 => funext fun y34 => funext fun y35 => (e5_19 N k y5 y7 y8 y32 y33 y34 y35) : (fun (y5 y7 y8 y32 y33 y34 y35 : D) => (kseq PHI Tb13 N vc5_19 k) .normal (s5_5 y5 y7 y8 y32 y33 y34 y35)) = _)
  refine Eq.trans (runC_seq _ _ _ k) (Eq.trans h2 (Eq.trans (congrArg (fun K => m5_18 N x5 x7 x8 x32 x33 x34 K) h3) (by kernel_rfl)))
def l5_16 (N : Nat) (j : Nat) (x5 x7 x8 x32 x33 x34 : D) (K0 : Option R) (Kr : D → Option R) : Option R :=
  match j with
  | 0 => none
  | j + 1 => (m5_17 N x5 x7 x8 x32 x33 x34 (fun y5 y7 y8 y32 y33 y34 => l5_16 N j y5 y7 y8 y32 y33 y34 K0 Kr) K0 Kr)
def m5_16 (N : Nat) (x5 x7 x8 x32 x33 x34 : D) (K0 : Option R) (Kr : D → Option R) : Option R :=
  l5_16 N N x5 x7 x8 x32 x33 x34 K0 Kr
theorem el5_16 (N : Nat) (k : Kn R) : ∀ (j : Nat) (x5 x7 x8 x32 x33 x34 : D), loopGo (runC PHI Tb13 N vc5_17) j (s5_4 x5 x7 x8 x32 x33 x34) k = l5_16 N j x5 x7 x8 x32 x33 x34 (k (.exit 0) s5_6) (fun x6 => k .ret (s5_3 x6))
  | 0, _, _, _, _, _, _ => by kernel_rfl
  | j + 1, x5, x7, x8, x32, x33, x34 => by
    have h2 := e5_17 N (kloop PHI Tb13 N vc5_17 j k) x5 x7 x8 x32 x33 x34
    have h3 : (fun (y5 y7 y8 y32 y33 y34 : D) => (kloop PHI Tb13 N vc5_17 j k) .normal (s5_4 y5 y7 y8 y32 y33 y34)) = (fun (y5 y7 y8 y32 y33 y34 : D) => l5_16 N j y5 y7 y8 y32 y33 y34 (k (.exit 0) s5_6) (fun x6 => k .ret (s5_3 x6))) := funext fun y5 => funext fun y7 => funext fun y8 => funext fun y32 => funext fun y33 => funext fun y34 => (el5_16 N k j y5 y7 y8 y32 y33 y34)
    refine Eq.trans (loop_succ _ j _ k) (Eq.trans h2 (Eq.trans (congrArg (fun K => m5_17 N x5 x7 x8 x32 x33 x34 K ((kloop PHI Tb13 N vc5_17 j k) (.exit 0) s5_6) (fun x6 => (kloop PHI Tb13 N vc5_17 j k) .ret (s5_3 x6))) h3) (by kernel_rfl)))
theorem e5_16 (N : Nat) (k : Kn R) (x5 x7 x8 x32 x33 x34 : D) : runC PHI Tb13 N vc5_16 (s5_4 x5 x7 x8 x32 x33 x34) k = m5_16 N x5 x7 x8 x32 x33 x34 (k (.exit 0) s5_6) (fun x6 => k .ret (s5_3 x6)) := by
  refine Eq.trans (runC_loop _ _ k) (Eq.trans (el5_16 N k N x5 x7 x8 x32 x33 x34) (by kernel_rfl))
def m5_15 (N : Nat) (x5 x7 x8 x32 x33 x34 : D) (K : Option R) (Kr : D → Option R) : Option R :=
  (m5_16 N x5 x7 x8 x32 x33 x34 (K) Kr)
theorem e5_15 (N : Nat) (k : Kn R) (x5 x7 x8 x32 x33 x34 : D) : runC PHI Tb13 N vc5_15 (s5_4 x5 x7 x8 x32 x33 x34) k = m5_15 N x5 x7 x8 x32 x33 x34 (k .normal s5_6) (fun x6 => k .ret (s5_3 x6)) := by
  refine Eq.trans (runC_block _ _ _ k) (Eq.trans (e5_16 N (kblk 0 k) x5 x7 x8 x32 x33 x34) (by kernel_rfl))
def m5_13 (N : Nat) (x1 x5 x7 x8 : D) (K : Option R) (Kr : D → Option R) : Option R :=
  (m5_14 N x1 x5 x7 x8 (fun y5 y7 y8 y32 y33 y34 => (m5_15 N y5 y7 y8 y32 y33 y34 (K) Kr)))
theorem e5_13 (N : Nat) (k : Kn R) (x1 x5 x7 x8 : D) : runC PHI Tb13 N vc5_13 (s5_2 x1 x5 x7 x8) k = m5_13 N x1 x5 x7 x8 (k .normal s5_6) (fun x6 => k .ret (s5_3 x6)) := by
  have h2 := e5_14 N (kseq PHI Tb13 N vc5_15 k) x1 x5 x7 x8
  have h3 := (funext fun y5 => funext fun y7 => funext fun y8 => funext fun y32 => funext fun y33 => funext fun y34 => (e5_15 N k y5 y7 y8 y32 y33 y34) : (fun (y5 y7 y8 y32 y33 y34 : D) => (kseq PHI Tb13 N vc5_15 k) .normal (s5_4 y5 y7 y8 y32 y33 y34)) = _)
  refine Eq.trans (runC_seq _ _ _ k) (Eq.trans h2 (Eq.trans (congrArg (fun K => m5_14 N x1 x5 x7 x8 K) h3) (by kernel_rfl)))
def m5_37 (N : Nat) (Kr : D → Option R) : Option R :=
  Kr (D.b true)
theorem e5_37 (N : Nat) (k : Kn R) : runC PHI Tb13 N vc5_37 s5_6 k = m5_37 N (fun x6 => k .ret (s5_3 x6)) := by kernel_rfl
def m5_12 (N : Nat) (x1 x5 x7 x8 : D) (Kr : D → Option R) : Option R :=
  (m5_13 N x1 x5 x7 x8 ((m5_37 N Kr)) Kr)
theorem e5_12 (N : Nat) (k : Kn R) (x1 x5 x7 x8 : D) : runC PHI Tb13 N vc5_12 (s5_2 x1 x5 x7 x8) k = m5_12 N x1 x5 x7 x8 (fun x6 => k .ret (s5_3 x6)) := by
  have h2 := e5_13 N (kseq PHI Tb13 N vc5_37 k) x1 x5 x7 x8
  have h3 := ((e5_37 N k ) : ((kseq PHI Tb13 N vc5_37 k) .normal s5_6) = _)
  refine Eq.trans (runC_seq _ _ _ k) (Eq.trans h2 (Eq.trans (congrArg (fun K => m5_13 N x1 x5 x7 x8 K (fun x6 => (kseq PHI Tb13 N vc5_37 k) .ret (s5_3 x6))) h3) (by kernel_rfl)))
def m5_4 (N : Nat) (x1 x5 x7 x8 : D) (Kr : D → Option R) : Option R :=
  (m5_5 N x1 x5 x7 x8 (fun y1 y5 y7 y8 => (m5_12 N y1 y5 y7 y8 Kr)) Kr)
theorem e5_4 (N : Nat) (k : Kn R) (x1 x5 x7 x8 : D) : runC PHI Tb13 N vc5_4 (s5_2 x1 x5 x7 x8) k = m5_4 N x1 x5 x7 x8 (fun x6 => k .ret (s5_3 x6)) := by
  have h2 := e5_5 N (kseq PHI Tb13 N vc5_12 k) x1 x5 x7 x8
  have h3 := (funext fun y1 => funext fun y5 => funext fun y7 => funext fun y8 => (e5_12 N k y1 y5 y7 y8) : (fun (y1 y5 y7 y8 : D) => (kseq PHI Tb13 N vc5_12 k) .normal (s5_2 y1 y5 y7 y8)) = _)
  refine Eq.trans (runC_seq _ _ _ k) (Eq.trans h2 (Eq.trans (congrArg (fun K => m5_5 N x1 x5 x7 x8 K (fun x6 => (kseq PHI Tb13 N vc5_12 k) .ret (s5_3 x6))) h3) (by kernel_rfl)))
def m5_2 (N : Nat) (x1 x3 x5 : D) (Kr : D → Option R) : Option R :=
  (m5_3 N x1 x3 x5 (fun y1 y5 y7 y8 => (m5_4 N y1 y5 y7 y8 Kr)))
theorem e5_2 (N : Nat) (k : Kn R) (x1 x3 x5 : D) : runC PHI Tb13 N vc5_2 (s5_1 x1 x3 x5) k = m5_2 N x1 x3 x5 (fun x6 => k .ret (s5_3 x6)) := by
  have h2 := e5_3 N (kseq PHI Tb13 N vc5_4 k) x1 x3 x5
  have h3 := (funext fun y1 => funext fun y5 => funext fun y7 => funext fun y8 => (e5_4 N k y1 y5 y7 y8) : (fun (y1 y5 y7 y8 : D) => (kseq PHI Tb13 N vc5_4 k) .normal (s5_2 y1 y5 y7 y8)) = _)
  refine Eq.trans (runC_seq _ _ _ k) (Eq.trans h2 (Eq.trans (congrArg (fun K => m5_3 N x1 x3 x5 K) h3) (by kernel_rfl)))
def m5_0 (N : Nat) (x0 x1 x2 : D) (Kr : D → Option R) : Option R :=
  (m5_1 N x0 x1 x2 (fun y1 y3 y5 => (m5_2 N y1 y3 y5 Kr)))
theorem e5_0 (N : Nat) (k : Kn R) (x0 x1 x2 : D) : runC PHI Tb13 N vc5_0 (s5_0 x0 x1 x2) k = m5_0 N x0 x1 x2 (fun x6 => k .ret (s5_3 x6)) := by
  have h2 := e5_1 N (kseq PHI Tb13 N vc5_2 k) x0 x1 x2
  have h3 := (funext fun y1 => funext fun y3 => funext fun y5 => (e5_2 N k y1 y3 y5) : (fun (y1 y3 y5 : D) => (kseq PHI Tb13 N vc5_2 k) .normal (s5_1 y1 y3 y5)) = _)
  refine Eq.trans (runC_seq _ _ _ k) (Eq.trans h2 (Eq.trans (congrArg (fun K => m5_1 N x0 x1 x2 K) h3) (by kernel_rfl)))
theorem r5 (N : Nat) (x0 x1 x2 : D) : runC PHI Tb13 N vf5.body (enterV vf5 [V.f x0, V.f x1, V.f x2] []) (finish vf5) = m5_0 N x0 x1 x2 (fun x6 => finish vf5 .ret (s5_3 x6)) := 
  Eq.trans (runC_pre (s1 := (s5_0 x0 x1 x2)) (by kernel_rfl) _ _) (Eq.trans (e5_0 N (finish vf5) x0 x1 x2) (by kernel_rfl))
end
theorem in5 {R : Type} (c r v : D) (l : List D) (hl : l.length ≤ 9) (hc : (c.at 2).toL.length ≤ 1000) (K0 : Option R) (Kr : D → Option R) : l5_16 10 10 (D.p v) r (D.p c) (.sl l) (.i (l.length : Int)) (.i 0) K0 Kr = K0 := by
  have h := loop_find (fun j i => l5_16 10 j (D.p v) r (D.p c) (.sl l) (.i (l.length : Int)) (.i (i : Nat)) K0 Kr) (fun _ => false) l.length K0 (fun i => Kr (.b false))
    (fun j i hi => by
      have hr := share_r r c ((D.sl l).at i) v hc
      simp only [l5_16, m5_17, m5_18, m5_19, m5_20, m5_23, m5_24, m5_25, m5_26, m5_27, m5_28, m5_29, m5_30, m5_31, m5_36, toI_i, toB_b, isPtr_p, deref_p, cond_true, cond_false, toL_sl, ltb_n hi, inb_t hi, Int.toNat_natCast, sp13, sp15, eqb_self, eqL_self, Bool.not_true, turn_turn, ltb_f (show ¬ sp12 r c ((D.sl l).at i) v < 0 by omega), ltb_f (show ¬ 1000 < sp12 r c ((D.sl l).at i) v by omega), succ_n hi (show l.length ≤ 9223372036854775807 by omega)])
    (fun j => by simp only [l5_16, m5_17, m5_18, m5_19, m5_20, toI_i, toB_b, ltb_self, cond_false])
    l.length 0 10 (by omega) (by omega)
  rw [fst_none] at h
  exact h
def Tb5 : CallF := extend Tb13 5 (fn3 (fun _ _ _ => true) fun _ _ _ => .f (.b true))
theorem q5a {R : Type} (k o v : D) (Kr : D → Option R) : m5_12 10 o (D.p v) (k.at 0) (D.p (k.at 1)) Kr = m5_16 10 (D.p v) (k.at 0) (D.p (k.at 1)) (D.sl ([o, (D.s [61]), (D.s [60, 62]), (D.s [60]), (D.s [60, 61]), (D.s [62]), (D.s [62, 61])] : List D)) (D.i (([o, (D.s [61]), (D.s [60, 62]), (D.s [60]), (D.s [60, 61]), (D.s [62]), (D.s [62, 61])] : List D).length : Int)) (D.i 0) (Kr (.b true)) Kr := by
  simp only [m5_12, m5_13, m5_14, m5_15, m5_37]
theorem q5b {R : Type} (k o v : D) (Kr : D → Option R) (hc : ((k.at 1).at 2).toL.length ≤ 1000) : m5_12 10 o (D.p v) (k.at 0) (D.p (k.at 1)) Kr = Kr (.b true) := by
  rw [q5a, m5_16]
  exact in5 (k.at 1) (k.at 0) v [o, (D.s [61]), (D.s [60, 62]), (D.s [60]), (D.s [60, 61]), (D.s [62]), (D.s [62, 61])] (by simp) hc _ _
theorem q5c {R : Type} (k o v : D) (K1 K2 : Option R) (h : ltb 100 (((k.at 1).at 2).toL.length : Int) = false → K1 = K2) : (bif (!sp7) then K2 else (bif (ltb 100 (((k.at 1).at 2).toL.length : Int)) then K2 else bif (ltb 100 ((v.at 3).toS.length : Int)) then K2 else K1)) = K2 := by
  rw [show sp7 = true from rfl]
  cases hb : ltb 100 (((k.at 1).at 2).toL.length : Int)
  · rw [h hb]
    cases ltb 100 ((v.at 3).toS.length : Int) <;> rfl
  · rfl
theorem run5 {R : Type} (k o v : D) (Kr : D → Option R) : m5_0 10 k o v Kr = Kr (.b true) := by
  simp only [m5_0, m5_1, m5_2, m5_3, m5_4, m5_5, isPtr_p, deref_p, cond_true]
  exact q5c k o v _ _ fun hb => q5b k o v Kr (by have := ltb_nf hb; omega)
theorem ok5 : FnOk Try.prog PHI Tb5 := FnOk.add3 hPHI ok13 (by kernel_rfl) fun k o v _ _ => ⟨10, (r5 10 k o v).trans ((run5 k o v _).trans (by kernel_rfl))⟩

end Go.Vam.C15
