/- Chapter 15: what functions come to, part 6. No conditions. -/
import Derived.Test.YtdnhajjjaldhkaaP5
import Derived.KernelRfl
set_option linter.unusedVariables false
set_option linter.unusedSimpArgs false
set_option maxRecDepth 100000
namespace Go.Vam.C15
open Go.Proofs
/-! ### size -/
def szL (f : D → Int → Int) (m : Int) : List D → Int → Int
  | [], k => k
  | y :: r, k => bif ltb m k then k else szL f m r (IntKind.i64.wrap (k + f y (IntKind.i64.wrap (m - k))))
def szN : Nat → D → Int → Int
  | 0, _, _ => 0
  | n + 1, d, m => szL (szN n) m (d.at 6).toL 1
def spx16 (n : Nat) (a m : D) : Int := szN n a m.toI
def prx16 (n : Nat) (a _m : D) : Bool := depOk n a
def Tx16 (n : Nat) : CallF := extend Tb13 16 (fn2 (prx16 n) fun a m => .f (.i (spx16 n a m)))
section
variable {R : Type}
def m16_1 (n N : Nat) (x0 x1 : D) (K : D → D → Option R) : Option R :=
  K x1 (D.p x0)
def s16_0 (x0 x1 : D) : St := sts 27 [(0, V.f x0), (1, V.f x1)] []
def s16_1 (x1 x2 : D) : St := sts 27 [(1, V.f x1), (2, V.f x2)] []
theorem e16_1 (n N : Nat) (k : Kn R) (x0 x1 : D) : runC PHI (Tx16 n) N vc16_1 (s16_0 x0 x1) k = m16_1 n N x0 x1 (fun x1 x2 => k .normal (s16_1 x1 x2)) := by
  refine Eq.trans (runC_post _ _ _ k) (Eq.trans (ops_run _ _ _ _) (by kernel_rfl))
def m16_3 (n N : Nat) (x1 x2 : D) (K : D → D → D → Option R) : Option R :=
  K x1 x2 (D.i 1)
def s16_2 (x1 x2 x5 : D) : St := sts 27 [(1, V.f x1), (2, V.f x2), (5, V.f x5)] []
theorem e16_3 (n N : Nat) (k : Kn R) (x1 x2 : D) : runC PHI (Tx16 n) N vc16_3 (s16_1 x1 x2) k = m16_3 n N x1 x2 (fun x1 x2 x5 => k .normal (s16_2 x1 x2 x5)) := by
  refine Eq.trans (runC_post _ _ _ k) (Eq.trans (ops_run _ _ _ _) (by kernel_rfl))
def m16_6 (n N : Nat) (x1 x2 x5 : D) (K : D → D → D → D → D → Option R) : Option R :=
  (bif (isPtrD x2) then K x1 x5 (x2.deref.at 6) (D.i ((x2.deref.at 6).toL.length : Int)) (D.i 0) else none)
def s16_3 (x1 x5 x9 x10 x11 : D) : St := sts 27 [(1, V.f x1), (5, V.f x5), (9, V.f x9), (10, V.f x10), (11, V.f x11)] []
theorem e16_6 (n N : Nat) (k : Kn R) (x1 x2 x5 : D) : runC PHI (Tx16 n) N vc16_6 (s16_2 x1 x2 x5) k = m16_6 n N x1 x2 x5 (fun x1 x5 x9 x10 x11 => k .normal (s16_3 x1 x5 x9 x10 x11)) := by
  refine Eq.trans (runC_post _ _ _ k) (Eq.trans (ops_run _ _ _ _) (by kernel_rfl))
def m16_9 (n N : Nat) (x1 x5 x9 x10 x11 : D) (K : D → D → D → D → D → Option R) (K0 : D → Option R) : Option R :=
  (bif (ltb x11.toI x10.toI) then (bif (inb x11.toI x9.toL.length) then (bif (ltb x1.toI x5.toI) then K0 x5 else (bif (prx16 n (x9.at (x11.toI : Int).toNat) (D.i (IntKind.wrap IntKind.i64 (x1.toI - x5.toI)))) then K x1 (D.i (IntKind.wrap IntKind.i64 (x5.toI + (spx16 n (x9.at (x11.toI : Int).toNat) (D.i (IntKind.wrap IntKind.i64 (x1.toI - x5.toI))))))) x9 x10 (D.i (IntKind.wrap IntKind.i64 (x11.toI + 1))) else none)) else none) else K0 x5)
def s16_4 (x5 : D) : St := sts 27 [(5, V.f x5)] []
theorem e16_9 (n N : Nat) (k : Kn R) (x1 x5 x9 x10 x11 : D) : runC PHI (Tx16 n) N vc16_9 (s16_3 x1 x5 x9 x10 x11) k = m16_9 n N x1 x5 x9 x10 x11 (fun x1 x5 x9 x10 x11 => k .normal (s16_3 x1 x5 x9 x10 x11)) (fun x5 => k (.exit 0) (s16_4 x5)) := by kernel_rfl
def l16_8 (n N : Nat) (j : Nat) (x1 x5 x9 x10 x11 : D) (K0 : D → Option R) : Option R :=
  match j with
  | 0 => none
  | j + 1 => (m16_9 n N x1 x5 x9 x10 x11 (fun y1 y5 y9 y10 y11 => l16_8 n N j y1 y5 y9 y10 y11 K0) K0)
def m16_8 (n N : Nat) (x1 x5 x9 x10 x11 : D) (K0 : D → Option R) : Option R :=
  l16_8 n N N x1 x5 x9 x10 x11 K0
theorem el16_8 (n N : Nat) (k : Kn R) : ∀ (j : Nat) (x1 x5 x9 x10 x11 : D), loopGo (runC PHI (Tx16 n) N vc16_9) j (s16_3 x1 x5 x9 x10 x11) k = l16_8 n N j x1 x5 x9 x10 x11 (fun x5 => k (.exit 0) (s16_4 x5))
  | 0, _, _, _, _, _ => by kernel_rfl
  | j + 1, x1, x5, x9, x10, x11 => by
    have h2 := e16_9 n N (kloop PHI (Tx16 n) N vc16_9 j k) x1 x5 x9 x10 x11
    have h3 : (fun (y1 y5 y9 y10 y11 : D) => (kloop PHI (Tx16 n) N vc16_9 j k) .normal (s16_3 y1 y5 y9 y10 y11)) = (fun (y1 y5 y9 y10 y11 : D) => l16_8 n N j y1 y5 y9 y10 y11 (fun x5 => k (.exit 0) (s16_4 x5))) := funext fun y1 => funext fun y5 => funext fun y9 => funext fun y10 => funext fun y11 => (el16_8 n N k j y1 y5 y9 y10 y11)
    refine Eq.trans (loop_succ _ j _ k) (Eq.trans h2 (Eq.trans (congrArg (fun K => m16_9 n N x1 x5 x9 x10 x11 K (fun x5 => (kloop PHI (Tx16 n) N vc16_9 j k) (.exit 0) (s16_4 x5))) h3) (by kernel_rfl)))
theorem e16_8 (n N : Nat) (k : Kn R) (x1 x5 x9 x10 x11 : D) : runC PHI (Tx16 n) N vc16_8 (s16_3 x1 x5 x9 x10 x11) k = m16_8 n N x1 x5 x9 x10 x11 (fun x5 => k (.exit 0) (s16_4 x5)) := by
  refine Eq.trans (runC_loop _ _ k) (Eq.trans (el16_8 n N k N x1 x5 x9 x10 x11) (by kernel_rfl))
def m16_7 (n N : Nat) (x1 x5 x9 x10 x11 : D) (K : D → Option R) : Option R :=
  (m16_8 n N x1 x5 x9 x10 x11 (fun y5 => K y5))
theorem e16_7 (n N : Nat) (k : Kn R) (x1 x5 x9 x10 x11 : D) : runC PHI (Tx16 n) N vc16_7 (s16_3 x1 x5 x9 x10 x11) k = m16_7 n N x1 x5 x9 x10 x11 (fun x5 => k .normal (s16_4 x5)) := by
  refine Eq.trans (runC_block _ _ _ k) (Eq.trans (e16_8 n N (kblk 0 k) x1 x5 x9 x10 x11) (by kernel_rfl))
def m16_5 (n N : Nat) (x1 x2 x5 : D) (K : D → Option R) : Option R :=
  (m16_6 n N x1 x2 x5 (fun y1 y5 y9 y10 y11 => (m16_7 n N y1 y5 y9 y10 y11 (fun y5 => K y5))))
theorem e16_5 (n N : Nat) (k : Kn R) (x1 x2 x5 : D) : runC PHI (Tx16 n) N vc16_5 (s16_2 x1 x2 x5) k = m16_5 n N x1 x2 x5 (fun x5 => k .normal (s16_4 x5)) := by
  have h2 := e16_6 n N (kseq PHI (Tx16 n) N vc16_7 k) x1 x2 x5
  have h3 := (funext fun y1 => funext fun y5 => funext fun y9 => funext fun y10 => funext fun y11 => (e16_7 n N k y1 y5 y9 y10 y11) : (fun (y1 y5 y9 y10 y11 : D) => (kseq PHI (Tx16 n) N vc16_7 k) .normal (s16_3 y1 y5 y9 y10 y11)) = _)
  refine Eq.trans (runC_seq _ _ _ k) (Eq.trans h2 (Eq.trans (congrArg (fun K => m16_6 n N x1 x2 x5 K) h3) (by kernel_rfl)))
def m16_27 (n N : Nat) (x5 : D) (Kr : D → Option R) : Option R :=
  Kr x5
def s16_5 (x4 : D) : St := sts 27 [(4, V.f x4)] []
theorem e16_27 (n N : Nat) (k : Kn R) (x5 : D) : runC PHI (Tx16 n) N vc16_27 (s16_4 x5) k = m16_27 n N x5 (fun x4 => k .ret (s16_5 x4)) := by kernel_rfl
def m16_4 (n N : Nat) (x1 x2 x5 : D) (Kr : D → Option R) : Option R :=
  (m16_5 n N x1 x2 x5 (fun y5 => (m16_27 n N y5 Kr)))
theorem e16_4 (n N : Nat) (k : Kn R) (x1 x2 x5 : D) : runC PHI (Tx16 n) N vc16_4 (s16_2 x1 x2 x5) k = m16_4 n N x1 x2 x5 (fun x4 => k .ret (s16_5 x4)) := by
  have h2 := e16_5 n N (kseq PHI (Tx16 n) N vc16_27 k) x1 x2 x5
  have h3 := (funext fun y5 => (e16_27 n N k y5) : (fun (y5 : D) => (kseq PHI (Tx16 n) N vc16_27 k) .normal (s16_4 y5)) = _)
  refine Eq.trans (runC_seq _ _ _ k) (Eq.trans h2 (Eq.trans (congrArg (fun K => m16_5 n N x1 x2 x5 K) h3) (by kernel_rfl)))
def m16_2 (n N : Nat) (x1 x2 : D) (Kr : D → Option R) : Option R :=
  (m16_3 n N x1 x2 (fun y1 y2 y5 => (m16_4 n N y1 y2 y5 Kr)))
theorem e16_2 (n N : Nat) (k : Kn R) (x1 x2 : D) : runC PHI (Tx16 n) N vc16_2 (s16_1 x1 x2) k = m16_2 n N x1 x2 (fun x4 => k .ret (s16_5 x4)) := by
  have h2 := e16_3 n N (kseq PHI (Tx16 n) N vc16_4 k) x1 x2
  have h3 := (funext fun y1 => funext fun y2 => funext fun y5 => (e16_4 n N k y1 y2 y5) : (fun (y1 y2 y5 : D) => (kseq PHI (Tx16 n) N vc16_4 k) .normal (s16_2 y1 y2 y5)) = _)
  refine Eq.trans (runC_seq _ _ _ k) (Eq.trans h2 (Eq.trans (congrArg (fun K => m16_3 n N x1 x2 K) h3) (by kernel_rfl)))
def m16_0 (n N : Nat) (x0 x1 : D) (Kr : D → Option R) : Option R :=
  (m16_1 n N x0 x1 (fun y1 y2 => (m16_2 n N y1 y2 Kr)))
theorem e16_0 (n N : Nat) (k : Kn R) (x0 x1 : D) : runC PHI (Tx16 n) N vc16_0 (s16_0 x0 x1) k = m16_0 n N x0 x1 (fun x4 => k .ret (s16_5 x4)) := by
  have h2 := e16_1 n N (kseq PHI (Tx16 n) N vc16_2 k) x0 x1
  have h3 := (funext fun y1 => funext fun y2 => (e16_2 n N k y1 y2) : (fun (y1 y2 : D) => (kseq PHI (Tx16 n) N vc16_2 k) .normal (s16_1 y1 y2)) = _)
  refine Eq.trans (runC_seq _ _ _ k) (Eq.trans h2 (Eq.trans (congrArg (fun K => m16_1 n N x0 x1 K) h3) (by kernel_rfl)))
theorem r16 (n N : Nat) (x0 x1 : D) : runC PHI (Tx16 n) N vf16.body (enterV vf16 [V.f x0, V.f x1] []) (finish vf16) = m16_0 n N x0 x1 (fun x4 => finish vf16 .ret (s16_5 x4)) := 
  Eq.trans (runC_pre (s1 := (s16_0 x0 x1)) (by kernel_rfl) _ _) (Eq.trans (e16_0 n N (finish vf16) x0 x1) (by kernel_rfl))
end
theorem l16 {R : Type} (n N : Nat) (m xs : D) (K0 : D → Option R) (hl : xs.toL.length ≤ 9223372036854775807) (hd : ∀ y ∈ xs.toL, depOk n y = true) : ∀ (k i j : Nat) (s : Int), i + k = xs.toL.length → k < j →
    l16_8 n N j m (.i s) xs (.i (xs.toL.length : Int)) (.i (i : Nat)) K0 = K0 (.i (szL (szN n) m.toI (xs.toL.drop i) s))
  | _, _, 0, _, _, h => by omega
  | 0, i, j + 1, s, h, _ => by
    have : i = xs.toL.length := by omega
    subst this
    simp only [l16_8, m16_9, toI_i, ltb_self, cond_false, List.drop_length, szL]
  | k + 1, i, j + 1, s, h, h' => by
    have hi : i < xs.toL.length := by omega
    have ih := fun s' => l16 n N m xs K0 hl hd k (i + 1) j s' (by omega) (by omega)
    have e : xs.toL.getD i .nil = xs.toL[i] := by rw [List.getD_eq_getElem?_getD, List.getElem?_eq_getElem hi]; rfl
    simp only [l16_8, m16_9, toI_i, ltb_n hi, inb_t hi, cond_true, at_nat, succ_n hi hl, e, prx16, hd _ (List.getElem_mem hi), ih, List.drop_eq_getElem_cons hi, szL, spx16]
    cases ltb m.toI s <;> rfl
theorem okx16 : ∀ n, FnOk Try.prog PHI (Tx16 n) := by
  refine FnOk.rec Try.prog PHI hPHI ok13 (vf := vf16) (by kernel_rfl) (fun n => fn2 (prx16 n) fun a m => .f (.i (spx16 n a m))) (fun args => ?_) (fun n args r H' ha hr => ?_)
  · unfold fn2; split <;> rfl
  · unfold fn2 at hr
    split at hr
    · rename_i a m
      obtain ⟨h1, h2⟩ := toO_some hr
      injection h2 with h2 h3; subst h2; subst h3
      have hl := ((ha.is 0 rfl rfl).fld (k := 6) (ft := 46) (off := 9) (by kernel_rfl)).len' (e := 48) (by kernel_rfl)
      refine ⟨(a.at 6).toL.length + 1, (r16 n _ a m).trans ?_⟩
      simp only [m16_0, m16_1, m16_2, m16_3, m16_4, m16_5, m16_6, m16_7, m16_8, m16_27, isPtr_p, deref_p, cond_true]
      rw [show (0 : Int) = ((0 : Nat) : Int) from rfl, l16 n _ m (a.at 6) _ hl (fun y hy => List.all_eq_true.1 (show ((a.at 6).toL.all (depOk n)) = true from h1) y hy) (a.at 6).toL.length 0 _ _ (by omega) (by omega)]
      rfl
    · cases hr
def sp16 (a m : D) : Int := szN a.wt a m.toI
def pr16 (_ _ : D) : Bool := true
def Tb16 : CallF := extend Tb13 16 (fn2 pr16 fun a m => .f (.i (sp16 a m)))
theorem ok16 : FnOk Try.prog PHI Tb16 := FnOk.lim okx16 fun args r hr => by
  unfold fn2 at hr
  split at hr
  · rename_i a m
    refine ⟨a.wt, ?_⟩
    show toO (prx16 a.wt a m, _, _) = _
    rw [show prx16 a.wt a m = true from depOk_size _ _ (Nat.le_refl _)]
    exact hr
  · cases hr
/-! ### Has a node a column? -/
def colN : Nat → D → Bool
  | 0, _ => false
  | n + 1, d => bif eqb (d.at 0).toI 2 then true else (d.at 6).toL.any (colN n)
def spx20 (n : Nat) (d : D) : Bool := colN n d
def prx20 (n : Nat) (d : D) : Bool := depOk n d
def Tx20 (n : Nat) : CallF := extend Tb16 20 (fn1 (prx20 n) fun d => .f (.b (spx20 n d)))
def spx73_20 (n : Nat) (x : D) : Int := fst (fun i => colN n (x.toL.getD i .nil)) x.toL.length 0
def prx73_20 (n : Nat) (x : D) : Bool := x.toL.all (depOk n)
section
variable {R : Type}
def m73_1 (n N : Nat) (x0 : D) (K : D → Option R) : Option R :=
  K x0
def s73_0 (x0 : D) : St := sts 19 [(0, V.f x0), (1, V.fn 20 [] [])] []
theorem e73_1 (n N : Nat) (k : Kn R) (x0 : D) : runC PHI (Tx20 n) N vc73_1 (s73_0 x0) k = m73_1 n N x0 (fun x0 => k .normal (s73_0 x0)) := by
  refine Eq.trans (runC_post _ _ _ k) (Eq.trans (ops_run _ _ _ _) (by kernel_rfl))
def m73_4 (n N : Nat) (x0 : D) (K : D → D → D → Option R) : Option R :=
  K x0 (D.i (x0.toL.length : Int)) (D.i 0)
def s73_1 (x0 x7 x8 : D) : St := sts 19 [(0, V.f x0), (1, V.fn 20 [] []), (7, V.f x7), (8, V.f x8)] []
theorem e73_4 (n N : Nat) (k : Kn R) (x0 : D) : runC PHI (Tx20 n) N vc73_4 (s73_0 x0) k = m73_4 n N x0 (fun x0 x7 x8 => k .normal (s73_1 x0 x7 x8)) := by
  refine Eq.trans (runC_post _ _ _ k) (Eq.trans (ops_run _ _ _ _) (by kernel_rfl))
def m73_7 (n N : Nat) (x0 x7 x8 : D) (K : D → D → D → Option R) (K0 : Option R) (Kr : D → Option R) : Option R :=
  (bif (ltb x8.toI x7.toI) then (bif (inb x8.toI x0.toL.length) then (bif (prx20 n (x0.at (x8.toI : Int).toNat)) then (bif (spx20 n (x0.at (x8.toI : Int).toNat)) then Kr x8 else K x0 x7 (D.i (IntKind.wrap IntKind.i64 (x8.toI + 1)))) else none) else none) else K0)
def s73_2 : St := sts 19 [] []
def s73_3 (x4 : D) : St := sts 19 [(4, V.f x4)] []
theorem e73_7 (n N : Nat) (k : Kn R) (x0 x7 x8 : D) : runC PHI (Tx20 n) N vc73_7 (s73_1 x0 x7 x8) k = m73_7 n N x0 x7 x8 (fun x0 x7 x8 => k .normal (s73_1 x0 x7 x8)) (k (.exit 0) s73_2) (fun x4 => k .ret (s73_3 x4)) := by kernel_rfl
def l73_6 (n N : Nat) (j : Nat) (x0 x7 x8 : D) (K0 : Option R) (Kr : D → Option R) : Option R :=
  match j with
  | 0 => none
  | j + 1 => (m73_7 n N x0 x7 x8 (fun y0 y7 y8 => l73_6 n N j y0 y7 y8 K0 Kr) K0 Kr)
def m73_6 (n N : Nat) (x0 x7 x8 : D) (K0 : Option R) (Kr : D → Option R) : Option R :=
  l73_6 n N N x0 x7 x8 K0 Kr
theorem el73_6 (n N : Nat) (k : Kn R) : ∀ (j : Nat) (x0 x7 x8 : D), loopGo (runC PHI (Tx20 n) N vc73_7) j (s73_1 x0 x7 x8) k = l73_6 n N j x0 x7 x8 (k (.exit 0) s73_2) (fun x4 => k .ret (s73_3 x4))
  | 0, _, _, _ => by kernel_rfl
  | j + 1, x0, x7, x8 => by
    have h2 := e73_7 n N (kloop PHI (Tx20 n) N vc73_7 j k) x0 x7 x8
    have h3 : (fun (y0 y7 y8 : D) => (kloop PHI (Tx20 n) N vc73_7 j k) .normal (s73_1 y0 y7 y8)) = (fun (y0 y7 y8 : D) => l73_6 n N j y0 y7 y8 (k (.exit 0) s73_2) (fun x4 => k .ret (s73_3 x4))) := funext fun y0 => funext fun y7 => funext fun y8 => (el73_6 n N k j y0 y7 y8)
    refine Eq.trans (loop_succ _ j _ k) (Eq.trans h2 (Eq.trans (congrArg (fun K => m73_7 n N x0 x7 x8 K ((kloop PHI (Tx20 n) N vc73_7 j k) (.exit 0) s73_2) (fun x4 => (kloop PHI (Tx20 n) N vc73_7 j k) .ret (s73_3 x4))) h3) (by kernel_rfl)))
theorem e73_6 (n N : Nat) (k : Kn R) (x0 x7 x8 : D) : runC PHI (Tx20 n) N vc73_6 (s73_1 x0 x7 x8) k = m73_6 n N x0 x7 x8 (k (.exit 0) s73_2) (fun x4 => k .ret (s73_3 x4)) := by
  refine Eq.trans (runC_loop _ _ k) (Eq.trans (el73_6 n N k N x0 x7 x8) (by kernel_rfl))
def m73_5 (n N : Nat) (x0 x7 x8 : D) (K : Option R) (Kr : D → Option R) : Option R :=
  (m73_6 n N x0 x7 x8 (K) Kr)
theorem e73_5 (n N : Nat) (k : Kn R) (x0 x7 x8 : D) : runC PHI (Tx20 n) N vc73_5 (s73_1 x0 x7 x8) k = m73_5 n N x0 x7 x8 (k .normal s73_2) (fun x4 => k .ret (s73_3 x4)) := by
  refine Eq.trans (runC_block _ _ _ k) (Eq.trans (e73_6 n N (kblk 0 k) x0 x7 x8) (by kernel_rfl))
def m73_3 (n N : Nat) (x0 : D) (K : Option R) (Kr : D → Option R) : Option R :=
  (m73_4 n N x0 (fun y0 y7 y8 => (m73_5 n N y0 y7 y8 (K) Kr)))
theorem e73_3 (n N : Nat) (k : Kn R) (x0 : D) : runC PHI (Tx20 n) N vc73_3 (s73_0 x0) k = m73_3 n N x0 (k .normal s73_2) (fun x4 => k .ret (s73_3 x4)) := by
  have h2 := e73_4 n N (kseq PHI (Tx20 n) N vc73_5 k) x0
  have h3 := (funext fun y0 => funext fun y7 => funext fun y8 => (e73_5 n N k y0 y7 y8) : (fun (y0 y7 y8 : D) => (kseq PHI (Tx20 n) N vc73_5 k) .normal (s73_1 y0 y7 y8)) = _)
  refine Eq.trans (runC_seq _ _ _ k) (Eq.trans h2 (Eq.trans (congrArg (fun K => m73_4 n N x0 K) h3) (by kernel_rfl)))
def m73_25 (n N : Nat) (Kr : D → Option R) : Option R :=
  Kr (D.i (-1))
theorem e73_25 (n N : Nat) (k : Kn R) : runC PHI (Tx20 n) N vc73_25 s73_2 k = m73_25 n N (fun x4 => k .ret (s73_3 x4)) := by kernel_rfl
def m73_2 (n N : Nat) (x0 : D) (Kr : D → Option R) : Option R :=
  (m73_3 n N x0 ((m73_25 n N Kr)) Kr)
theorem e73_2 (n N : Nat) (k : Kn R) (x0 : D) : runC PHI (Tx20 n) N vc73_2 (s73_0 x0) k = m73_2 n N x0 (fun x4 => k .ret (s73_3 x4)) := by
  have h2 := e73_3 n N (kseq PHI (Tx20 n) N vc73_25 k) x0
  have h3 := ((e73_25 n N k ) : ((kseq PHI (Tx20 n) N vc73_25 k) .normal s73_2) = _)
  refine Eq.trans (runC_seq _ _ _ k) (Eq.trans h2 (Eq.trans (congrArg (fun K => m73_3 n N x0 K (fun x4 => (kseq PHI (Tx20 n) N vc73_25 k) .ret (s73_3 x4))) h3) (by kernel_rfl)))
def m73_0 (n N : Nat) (x0 : D) (Kr : D → Option R) : Option R :=
  (m73_1 n N x0 (fun y0 => (m73_2 n N y0 Kr)))
theorem e73_0 (n N : Nat) (k : Kn R) (x0 : D) : runC PHI (Tx20 n) N vc73_0 (s73_0 x0) k = m73_0 n N x0 (fun x4 => k .ret (s73_3 x4)) := by
  have h2 := e73_1 n N (kseq PHI (Tx20 n) N vc73_2 k) x0
  have h3 := (funext fun y0 => (e73_2 n N k y0) : (fun (y0 : D) => (kseq PHI (Tx20 n) N vc73_2 k) .normal (s73_0 y0)) = _)
  refine Eq.trans (runC_seq _ _ _ k) (Eq.trans h2 (Eq.trans (congrArg (fun K => m73_1 n N x0 K) h3) (by kernel_rfl)))
theorem r73 (n N : Nat) (x0 : D) : runC PHI (Tx20 n) N vf73.body (enterV vf73 [V.f x0, V.fn 20 [] []] []) (finish vf73) = m73_0 n N x0 (fun x4 => finish vf73 .ret (s73_3 x4)) := 
  Eq.trans (runC_pre (s1 := (s73_0 x0)) (by kernel_rfl) _ _) (Eq.trans (e73_0 n N (finish vf73) x0) (by kernel_rfl))
end
def Tx73 (n : Nat) : CallF := extend (Tx20 n) 73 (fc0 20 [] (prx73_20 n) fun x => .f (.i (spx73_20 n x)))
theorem okx73 (n : Nat) (h : FnOk Try.prog PHI (Tx20 n)) : FnOk Try.prog PHI (Tx73 n) := FnOk.addc0 hPHI h (by kernel_rfl) fun x ha hp => ⟨x.toL.length + 1, (r73 n _ x).trans (by
  have hl := (ha.is 0 rfl rfl).len' (e := 48) (by kernel_rfl)
  have hd : ∀ i, i < x.toL.length → prx20 n (x.toL.getD i .nil) = true := fun i hi => by rw [getD_at hi]; exact List.all_eq_true.1 hp _ (List.getElem_mem hi)
  have h := loop_find (fun j i => l73_6 n (x.toL.length + 1) j x (.i (x.toL.length : Int)) (.i (i : Nat)) (finish vf73 .ret (s73_3 (.i (-1)))) (fun x4 => finish vf73 .ret (s73_3 x4))) (fun i => colN n (x.toL.getD i .nil)) x.toL.length (finish vf73 .ret (s73_3 (.i (-1)))) (fun i => finish vf73 .ret (s73_3 (.i (i : Nat))))
    (fun j i hi => by
      simp only [l73_6, m73_7, toI_i, cond_true, ltb_n hi, inb_t hi, at_nat, succ_n hi hl, hd i hi, spx20])
    (fun j => by simp only [l73_6, m73_7, toI_i, ltb_self, cond_false])
    x.toL.length 0 (x.toL.length + 1) (by omega) (by omega)
  simp only [m73_0, m73_1, m73_2, m73_3, m73_4, m73_5, m73_6, m73_25]
  refine h.trans ?_
  show _ = some (V.f (.i (fst (fun i => colN n (x.toL.getD i .nil)) x.toL.length 0)), [])
  have hr : ∀ k i, leb 0 (fst (fun i => colN n (x.toL.getD i .nil)) k i) = true → (((fst (fun i => colN n (x.toL.getD i .nil)) k i).toNat : Nat) : Int) = fst (fun i => colN n (x.toL.getD i .nil)) k i := by
    intro k i h
    exact Int.toNat_of_nonneg (of_decide_eq_true h)
  have hn : ∀ k i, leb 0 (fst (fun i => colN n (x.toL.getD i .nil)) k i) = false → fst (fun i => colN n (x.toL.getD i .nil)) k i = -1 := by
    intro k
    induction k with
    | zero => intro i _; rfl
    | succ k ih =>
      intro i h
      rw [fst] at h ⊢
      cases hc : colN n (x.toL.getD i .nil)
      · rw [hc] at h; exact ih _ h
      · rw [hc] at h; simp [leb] at h
  cases hb : leb 0 (fst (fun i => colN n (x.toL.getD i .nil)) x.toL.length 0)
  · rw [hn _ _ hb]; rfl
  · rw [cond_true, hr _ _ hb]; rfl)⟩
def spx41_20 (n : Nat) (x : D) : Bool := x.toL.any (colN n)
def prx41_20 (n : Nat) (x : D) : Bool := prx73_20 n x
section
variable {R : Type}
def m41_0 (n N : Nat) (x0 : D) (Kr : D → Option R) : Option R :=
  (bif (prx73_20 n x0) then Kr (D.b (leb 0 (spx73_20 n x0))) else none)
def s41_0 (x0 : D) : St := sts 9 [(0, V.f x0), (1, V.fn 20 [] [])] []
def s41_1 (x4 : D) : St := sts 9 [(4, V.f x4)] []
theorem e41_0 (n N : Nat) (k : Kn R) (x0 : D) : runC PHI (Tx73 n) N vc41_0 (s41_0 x0) k = m41_0 n N x0 (fun x4 => k .ret (s41_1 x4)) := by kernel_rfl
theorem r41 (n N : Nat) (x0 : D) : runC PHI (Tx73 n) N vf41.body (enterV vf41 [V.f x0, V.fn 20 [] []] []) (finish vf41) = m41_0 n N x0 (fun x4 => finish vf41 .ret (s41_1 x4)) := 
  Eq.trans (runC_pre (s1 := (s41_0 x0)) (by kernel_rfl) _ _) (Eq.trans (e41_0 n N (finish vf41) x0) (by kernel_rfl))
end
def Tx41 (n : Nat) : CallF := extend (Tx73 n) 41 (fc0 20 [] (prx41_20 n) fun x => .f (.b (spx41_20 n x)))
theorem okx41 (n : Nat) (h : FnOk Try.prog PHI (Tx73 n)) : FnOk Try.prog PHI (Tx41 n) := FnOk.addc0 hPHI h (by kernel_rfl) fun x ha hp => ⟨0, (r41 n _ x).trans (by
  unfold m41_0
  rw [show prx73_20 n x = true from hp]
  have : leb 0 (spx73_20 n x) = x.toL.any (colN n) := fst_any (colN n) x.toL x.toL.length 0 (by omega)
  rw [this]; rfl)⟩
section
variable {R : Type}
def m20_0 (n N : Nat) (x0 : D) (Kr : D → Option R) : Option R :=
  (bif (eqb (x0.at 0).toI 2) then Kr (D.b true) else (bif (prx41_20 n (x0.at 6)) then Kr (D.b (spx41_20 n (x0.at 6))) else none))
def s20_0 (x0 : D) : St := sts 11 [(0, V.f x0)] []
def s20_1 (x2 : D) : St := sts 11 [(2, V.f x2)] []
theorem e20_0 (n N : Nat) (k : Kn R) (x0 : D) : runC PHI (Tx41 n) N vc20_0 (s20_0 x0) k = m20_0 n N x0 (fun x2 => k .ret (s20_1 x2)) := by kernel_rfl
theorem r20 (n N : Nat) (x0 : D) : runC PHI (Tx41 n) N vf20.body (enterV vf20 [V.f x0] []) (finish vf20) = m20_0 n N x0 (fun x2 => finish vf20 .ret (s20_1 x2)) := 
  Eq.trans (runC_pre (s1 := (s20_0 x0)) (by kernel_rfl) _ _) (Eq.trans (e20_0 n N (finish vf20) x0) (by kernel_rfl))
end
theorem okx20 : ∀ n, FnOk Try.prog PHI (Tx20 n) := by
  refine FnOk.rec2 Try.prog PHI hPHI ok16 (vf := vf20) (by kernel_rfl) (fun n => fn1 (prx20 n) fun d => .f (.b (spx20 n d))) (fun args => ?_) (fun n hn => ⟨Tx41 n, okx41 n (okx73 n hn), fun args r H' ha hr => ?_⟩)
  · unfold fn1; split <;> rfl
  · unfold fn1 at hr
    split at hr
    · rename_i d
      obtain ⟨h1, h2⟩ := toO_some hr
      injection h2 with h2 h3; subst h2; subst h3
      refine ⟨0, (r20 n 0 d).trans ?_⟩
      unfold m20_0
      rw [show prx41_20 n (d.at 6) = true from h1]
      show _ = some (V.f (.b (colN (n + 1) d)), [])
      rw [colN]
      cases eqb (d.at 0).toI 2 <;> rfl
    · cases hr
def sp20 (d : D) : Bool := colN d.wt d
def pr20 (_ : D) : Bool := true
def Tb20 : CallF := extend Tb16 20 (fn1 pr20 fun d => .f (.b (sp20 d)))
theorem ok20 : FnOk Try.prog PHI Tb20 := FnOk.lim okx20 fun args r hr => by
  unfold fn1 at hr
  split at hr
  · rename_i d
    refine ⟨d.wt, ?_⟩
    show toO (prx20 d.wt d, _, _) = _
    rw [show prx20 d.wt d = true from depOk_size _ _ (Nat.le_refl _)]
    exact hr
  · cases hr
def spx21 (n : Nat) (d : D) : Bool := colN n d
def prx21 (n : Nat) (d : D) : Bool := depOk n d
def Tx21 (n : Nat) : CallF := extend Tb20 21 (fn1 (prx21 n) fun d => .f (.b (spx21 n d)))
section
variable {R : Type}
def m21_1 (n N : Nat) (x0 : D) (K : D → Option R) : Option R :=
  K (D.p x0)
def s21_0 (x0 : D) : St := sts 20 [(0, V.f x0)] []
def s21_1 (x1 : D) : St := sts 20 [(1, V.f x1)] []
theorem e21_1 (n N : Nat) (k : Kn R) (x0 : D) : runC PHI (Tx21 n) N vc21_1 (s21_0 x0) k = m21_1 n N x0 (fun x1 => k .normal (s21_1 x1)) := by
  refine Eq.trans (runC_post _ _ _ k) (Eq.trans (ops_run _ _ _ _) (by kernel_rfl))
def m21_3 (n N : Nat) (x1 : D) (K : D → Option R) (Kr : D → Option R) : Option R :=
  (bif (isPtrD x1) then (bif (eqb (x1.deref.at 0).toI 2) then Kr (D.b true) else K x1) else none)
def s21_2 (x2 : D) : St := sts 20 [(2, V.f x2)] []
theorem e21_3 (n N : Nat) (k : Kn R) (x1 : D) : runC PHI (Tx21 n) N vc21_3 (s21_1 x1) k = m21_3 n N x1 (fun x1 => k .normal (s21_1 x1)) (fun x2 => k .ret (s21_2 x2)) := by kernel_rfl
def m21_12 (n N : Nat) (x1 : D) (K : D → D → Option R) : Option R :=
  K x1 (D.i 0)
def s21_3 (x1 x3 : D) : St := sts 20 [(1, V.f x1), (3, V.f x3)] []
theorem e21_12 (n N : Nat) (k : Kn R) (x1 : D) : runC PHI (Tx21 n) N vc21_12 (s21_1 x1) k = m21_12 n N x1 (fun x1 x3 => k .normal (s21_3 x1 x3)) := by
  refine Eq.trans (runC_post _ _ _ k) (Eq.trans (ops_run _ _ _ _) (by kernel_rfl))
def m21_15 (n N : Nat) (x1 x3 : D) (K : D → D → Option R) (K0 : Option R) (Kr : D → Option R) : Option R :=
  (bif (isPtrD x1) then (bif (ltb x3.toI ((x1.deref.at 6).toL.length : Int)) then (bif (isPtrD x1) then (bif (inb x3.toI (x1.deref.at 6).toL.length) then (bif (prx21 n ((x1.deref.at 6).at (x3.toI : Int).toNat)) then (bif (spx21 n ((x1.deref.at 6).at (x3.toI : Int).toNat)) then Kr (D.b true) else K x1 (D.i (IntKind.wrap IntKind.i64 (x3.toI + 1)))) else none) else none) else none) else K0) else none)
def s21_4 : St := sts 20 [] []
theorem e21_15 (n N : Nat) (k : Kn R) (x1 x3 : D) : runC PHI (Tx21 n) N vc21_15 (s21_3 x1 x3) k = m21_15 n N x1 x3 (fun x1 x3 => k .normal (s21_3 x1 x3)) (k (.exit 0) s21_4) (fun x2 => k .ret (s21_2 x2)) := by kernel_rfl
def l21_14 (n N : Nat) (j : Nat) (x1 x3 : D) (K0 : Option R) (Kr : D → Option R) : Option R :=
  match j with
  | 0 => none
  | j + 1 => (m21_15 n N x1 x3 (fun y1 y3 => l21_14 n N j y1 y3 K0 Kr) K0 Kr)
def m21_14 (n N : Nat) (x1 x3 : D) (K0 : Option R) (Kr : D → Option R) : Option R :=
  l21_14 n N N x1 x3 K0 Kr
theorem el21_14 (n N : Nat) (k : Kn R) : ∀ (j : Nat) (x1 x3 : D), loopGo (runC PHI (Tx21 n) N vc21_15) j (s21_3 x1 x3) k = l21_14 n N j x1 x3 (k (.exit 0) s21_4) (fun x2 => k .ret (s21_2 x2))
  | 0, _, _ => by kernel_rfl
  | j + 1, x1, x3 => by
    have h2 := e21_15 n N (kloop PHI (Tx21 n) N vc21_15 j k) x1 x3
    have h3 : (fun (y1 y3 : D) => (kloop PHI (Tx21 n) N vc21_15 j k) .normal (s21_3 y1 y3)) = (fun (y1 y3 : D) => l21_14 n N j y1 y3 (k (.exit 0) s21_4) (fun x2 => k .ret (s21_2 x2))) := funext fun y1 => funext fun y3 => (el21_14 n N k j y1 y3)
    refine Eq.trans (loop_succ _ j _ k) (Eq.trans h2 (Eq.trans (congrArg (fun K => m21_15 n N x1 x3 K ((kloop PHI (Tx21 n) N vc21_15 j k) (.exit 0) s21_4) (fun x2 => (kloop PHI (Tx21 n) N vc21_15 j k) .ret (s21_2 x2))) h3) (by kernel_rfl)))
theorem e21_14 (n N : Nat) (k : Kn R) (x1 x3 : D) : runC PHI (Tx21 n) N vc21_14 (s21_3 x1 x3) k = m21_14 n N x1 x3 (k (.exit 0) s21_4) (fun x2 => k .ret (s21_2 x2)) := by
  refine Eq.trans (runC_loop _ _ k) (Eq.trans (el21_14 n N k N x1 x3) (by kernel_rfl))
def m21_13 (n N : Nat) (x1 x3 : D) (K : Option R) (Kr : D → Option R) : Option R :=
  (m21_14 n N x1 x3 (K) Kr)
theorem e21_13 (n N : Nat) (k : Kn R) (x1 x3 : D) : runC PHI (Tx21 n) N vc21_13 (s21_3 x1 x3) k = m21_13 n N x1 x3 (k .normal s21_4) (fun x2 => k .ret (s21_2 x2)) := by
  refine Eq.trans (runC_block _ _ _ k) (Eq.trans (e21_14 n N (kblk 0 k) x1 x3) (by kernel_rfl))
def m21_11 (n N : Nat) (x1 : D) (K : Option R) (Kr : D → Option R) : Option R :=
  (m21_12 n N x1 (fun y1 y3 => (m21_13 n N y1 y3 (K) Kr)))
theorem e21_11 (n N : Nat) (k : Kn R) (x1 : D) : runC PHI (Tx21 n) N vc21_11 (s21_1 x1) k = m21_11 n N x1 (k .normal s21_4) (fun x2 => k .ret (s21_2 x2)) := by
  have h2 := e21_12 n N (kseq PHI (Tx21 n) N vc21_13 k) x1
  have h3 := (funext fun y1 => funext fun y3 => (e21_13 n N k y1 y3) : (fun (y1 y3 : D) => (kseq PHI (Tx21 n) N vc21_13 k) .normal (s21_3 y1 y3)) = _)
  refine Eq.trans (runC_seq _ _ _ k) (Eq.trans h2 (Eq.trans (congrArg (fun K => m21_12 n N x1 K) h3) (by kernel_rfl)))
def m21_31 (n N : Nat) (Kr : D → Option R) : Option R :=
  Kr (D.b false)
theorem e21_31 (n N : Nat) (k : Kn R) : runC PHI (Tx21 n) N vc21_31 s21_4 k = m21_31 n N (fun x2 => k .ret (s21_2 x2)) := by kernel_rfl
def m21_10 (n N : Nat) (x1 : D) (Kr : D → Option R) : Option R :=
  (m21_11 n N x1 ((m21_31 n N Kr)) Kr)
theorem e21_10 (n N : Nat) (k : Kn R) (x1 : D) : runC PHI (Tx21 n) N vc21_10 (s21_1 x1) k = m21_10 n N x1 (fun x2 => k .ret (s21_2 x2)) := by
  have h2 := e21_11 n N (kseq PHI (Tx21 n) N vc21_31 k) x1
  have h3 := ((e21_31 n N k ) : ((kseq PHI (Tx21 n) N vc21_31 k) .normal s21_4) = _)
  refine Eq.trans (runC_seq _ _ _ k) (Eq.trans h2 (Eq.trans (congrArg (fun K => m21_11 n N x1 K (fun x2 => (kseq PHI (Tx21 n) N vc21_31 k) .ret (s21_2 x2))) h3) (by kernel_rfl)))
def m21_2 (n N : Nat) (x1 : D) (Kr : D → Option R) : Option R :=
  (m21_3 n N x1 (fun y1 => (m21_10 n N y1 Kr)) Kr)
theorem e21_2 (n N : Nat) (k : Kn R) (x1 : D) : runC PHI (Tx21 n) N vc21_2 (s21_1 x1) k = m21_2 n N x1 (fun x2 => k .ret (s21_2 x2)) := by
  have h2 := e21_3 n N (kseq PHI (Tx21 n) N vc21_10 k) x1
  have h3 := (funext fun y1 => (e21_10 n N k y1) : (fun (y1 : D) => (kseq PHI (Tx21 n) N vc21_10 k) .normal (s21_1 y1)) = _)
  refine Eq.trans (runC_seq _ _ _ k) (Eq.trans h2 (Eq.trans (congrArg (fun K => m21_3 n N x1 K (fun x2 => (kseq PHI (Tx21 n) N vc21_10 k) .ret (s21_2 x2))) h3) (by kernel_rfl)))
def m21_0 (n N : Nat) (x0 : D) (Kr : D → Option R) : Option R :=
  (m21_1 n N x0 (fun y1 => (m21_2 n N y1 Kr)))
theorem e21_0 (n N : Nat) (k : Kn R) (x0 : D) : runC PHI (Tx21 n) N vc21_0 (s21_0 x0) k = m21_0 n N x0 (fun x2 => k .ret (s21_2 x2)) := by
  have h2 := e21_1 n N (kseq PHI (Tx21 n) N vc21_2 k) x0
  have h3 := (funext fun y1 => (e21_2 n N k y1) : (fun (y1 : D) => (kseq PHI (Tx21 n) N vc21_2 k) .normal (s21_1 y1)) = _)
  refine Eq.trans (runC_seq _ _ _ k) (Eq.trans h2 (Eq.trans (congrArg (fun K => m21_1 n N x0 K) h3) (by kernel_rfl)))
theorem r21 (n N : Nat) (x0 : D) : runC PHI (Tx21 n) N vf21.body (enterV vf21 [V.f x0] []) (finish vf21) = m21_0 n N x0 (fun x2 => finish vf21 .ret (s21_2 x2)) := 
  Eq.trans (runC_pre (s1 := (s21_0 x0)) (by kernel_rfl) _ _) (Eq.trans (e21_0 n N (finish vf21) x0) (by kernel_rfl))
end
theorem okx21 : ∀ n, FnOk Try.prog PHI (Tx21 n) := by
  refine FnOk.rec Try.prog PHI hPHI ok20 (vf := vf21) (by kernel_rfl) (fun n => fn1 (prx21 n) fun d => .f (.b (spx21 n d))) (fun args => ?_) (fun n args r H' ha hr => ?_)
  · unfold fn1; split <;> rfl
  · unfold fn1 at hr
    split at hr
    · rename_i d
      obtain ⟨h1, h2⟩ := toO_some hr
      injection h2 with h2 h3; subst h2; subst h3
      have hl := ((ha.is 0 rfl rfl).fld (k := 6) (ft := 46) (off := 9) (by kernel_rfl)).len' (e := 48) (by kernel_rfl)
      refine ⟨(d.at 6).toL.length + 1, (r21 n _ d).trans ?_⟩
      have hd : ∀ i, i < (d.at 6).toL.length → prx21 n ((d.at 6).toL.getD i .nil) = true := fun i hi => by rw [getD_at hi]; exact List.all_eq_true.1 (show ((d.at 6).toL.all (depOk n)) = true from h1) _ (List.getElem_mem hi)
      have h := loop_find (fun j i => l21_14 n ((d.at 6).toL.length + 1) j (.p d) (.i (i : Nat)) (finish vf21 .ret (s21_2 (.b false))) (fun x4 => finish vf21 .ret (s21_2 x4))) (fun i => colN n ((d.at 6).toL.getD i .nil)) (d.at 6).toL.length (finish vf21 .ret (s21_2 (.b false))) (fun i => finish vf21 .ret (s21_2 (.b true)))
        (fun j i hi => by
          simp only [l21_14, m21_15, toI_i, isPtr_p, deref_p, cond_true, ltb_n hi, inb_t hi, at_nat, succ_n hi hl, hd i hi, spx21])
        (fun j => by simp only [l21_14, m21_15, toI_i, isPtr_p, deref_p, cond_true, ltb_self, cond_false])
        (d.at 6).toL.length 0 ((d.at 6).toL.length + 1) (by omega) (by omega)
      have h2 : leb 0 (fst (fun i => colN n ((d.at 6).toL.getD i .nil)) (d.at 6).toL.length 0) = (d.at 6).toL.any (colN n) := fst_any (colN n) (d.at 6).toL (d.at 6).toL.length 0 (by omega)
      rw [h2] at h
      have h' : l21_14 n ((d.at 6).toL.length + 1) ((d.at 6).toL.length + 1) (.p d) (.i 0) (finish vf21 .ret (s21_2 (.b false))) (fun x4 => finish vf21 .ret (s21_2 x4)) = _ := h
      simp only [m21_0, m21_1, m21_2, m21_3, m21_10, m21_11, m21_12, m21_13, m21_14, m21_31, isPtr_p, deref_p, cond_true, h']
      show _ = some (V.f (.b (colN (n + 1) d)), [])
      rw [colN]
      cases eqb (d.at 0).toI 2
      · cases (d.at 6).toL.any (colN n) <;> rfl
      · rfl
    · cases hr
def sp21 (d : D) : Bool := sp20 d
def pr21 (_ : D) : Bool := true
def Tb21 : CallF := extend Tb20 21 (fn1 pr21 fun d => .f (.b (sp21 d)))
theorem ok21 : FnOk Try.prog PHI Tb21 := FnOk.lim okx21 fun args r hr => by
  unfold fn1 at hr
  split at hr
  · rename_i d
    refine ⟨d.wt, ?_⟩
    show toO (prx21 d.wt d, _, _) = _
    rw [show prx21 d.wt d = true from depOk_size _ _ (Nat.le_refl _)]
    exact hr
  · cases hr

end Go.Vam.C15
namespace Go.Vam.C15
open Go.Proofs
/-! ### A column against a value -/
def a0 (n : D) : D := (n.at 6).toL.getD 0 .nil
def a1 (n : D) : D := (n.at 6).toL.getD 1 .nil
def agOk (n : D) : Bool := eqb (n.at 0).toI 7 && eqb ((n.at 6).toL.length : Int) 2
def cc1 (n : D) : Bool := eqb ((a0 n).at 0).toI 2 && !sp20 (a1 n)
def cc2 (n : D) : Bool := eqb ((a1 n).at 0).toI 2 && !sp20 (a0 n)
def agv {α : Type} (n : D) (x y z : α) : α := bif agOk n then (bif cc1 n then x else bif cc2 n then y else z) else z
def sp17_0 (n : D) : Int := agv n ((a0 n).at 3).toI ((a1 n).at 3).toI 0
def sp17_1 (n : D) : D := agv n (n.at 1) (sp14 (n.at 1)) (.s [])
def sp17_2 (n : D) : D := agv n (sp25 (a1 n) (.sz [])) (sp25 (a0 n) (.sz [])) z0
def sp17_3 (n : D) : Bool := agv n true true false
theorem agv_r {α β : Type} (n : D) (f : α → β) (x y z : α) : f (agv n x y z) = agv n (f x) (f y) (f z) := by
  unfold agv
  cases agOk n
  · rfl
  · cases cc1 n
    · cases cc2 n <;> rfl
    · rfl
theorem two_args {n : D} (h : agOk n = true) : 0 < (n.at 6).toL.length ∧ 1 < (n.at 6).toL.length ∧ ((n.at 6).toL.length : Int) = 2 := by
  unfold agOk at h
  rw [Bool.and_eq_true] at h
  have : ((n.at 6).toL.length : Int) = 2 := of_decide_eq_true h.2
  omega
theorem int3 {n : D} (h : Is Try.prog 48 n) : n.at 3 = .i (n.at 3).toI := ((h.fld (k := 3) (ft := 3) (off := 6) (by kernel_rfl)).i64 (by kernel_rfl)).1
theorem argI {n : D} (h : Is Try.prog 48 n) {i : Nat} (hi : i < (n.at 6).toL.length) : Is Try.prog 48 ((n.at 6).toL.getD i .nil) := by
  rw [getD_at hi]
  exact (h.fld (k := 6) (ft := 46) (off := 9) (by kernel_rfl)).elem (e := 48) (by kernel_rfl) _ (List.getElem_mem hi)
section
variable {R : Type}
def m17_1 (N : Nat) (x0 : D) (K : D → Option R) : Option R :=
  K (D.p x0)
def s17_0 (x0 : D) : St := sts 58 [(0, V.f x0)] []
def s17_1 (x1 : D) : St := sts 58 [(1, V.f x1), (4, V.a)] []
theorem e17_1 (N : Nat) (k : Kn R) (x0 : D) : runC PHI Tb21 N vc17_1 (s17_0 x0) k = m17_1 N x0 (fun x1 => k .normal (s17_1 x1)) := by
  refine Eq.trans (runC_post _ _ _ k) (Eq.trans (ops_run _ _ _ _) (by kernel_rfl))
def m17_3 (N : Nat) (x1 : D) (K : D → Option R) (Kr : D → D → D → D → Option R) : Option R :=
  (bif (isPtrD x1) then (bif (!eqb (x1.deref.at 0).toI 7) then (bif true then Kr (D.i 0) (D.s []) (D.p (D.ag [(D.i 0), (D.i 0), (D.f 0), (D.s [])])) (D.b false) else K x1) else (bif (isPtrD x1) then (bif (!eqb ((x1.deref.at 6).toL.length : Int) 2) then Kr (D.i 0) (D.s []) (D.p (D.ag [(D.i 0), (D.i 0), (D.f 0), (D.s [])])) (D.b false) else K x1) else none)) else none)
def s17_2 (x2 x3 x4 x5 : D) : St := sts 58 [(2, V.f x2), (3, V.f x3), (4, V.f x4), (5, V.f x5)] []
theorem e17_3 (N : Nat) (k : Kn R) (x1 : D) : runC PHI Tb21 N vc17_3 (s17_1 x1) k = m17_3 N x1 (fun x1 => k .normal (s17_1 x1)) (fun x2 x3 x4 x5 => k .ret (s17_2 x2 x3 x4 x5)) := by kernel_rfl
def m17_11 (N : Nat) (x1 : D) (K : D → D → D → Option R) : Option R :=
  (bif (isPtrD x1) then (bif (inb 0 (x1.deref.at 6).toL.length) then (bif (isPtrD x1) then (bif (inb 1 (x1.deref.at 6).toL.length) then K x1 (D.p ((x1.deref.at 6).at (0 : Int).toNat)) (D.p ((x1.deref.at 6).at (1 : Int).toNat)) else none) else none) else none) else none)
def s17_3 (x1 x6 x7 : D) : St := sts 58 [(1, V.f x1), (4, V.a), (6, V.f x6), (7, V.f x7)] []
theorem e17_11 (N : Nat) (k : Kn R) (x1 : D) : runC PHI Tb21 N vc17_11 (s17_1 x1) k = m17_11 N x1 (fun x1 x6 x7 => k .normal (s17_3 x1 x6 x7)) := by
  refine Eq.trans (runC_post _ _ _ k) (Eq.trans (ops_run _ _ _ _) (by kernel_rfl))
def m17_15 (N : Nat) (x1 x6 x7 : D) (K : D → D → D → D → Option R) : Option R :=
  (bif (isPtrD x6) then (bif (eqb (x6.deref.at 0).toI 2) then (bif (isPtrD x7) then (bif (pr20 x7.deref) then K x1 x6 x7 (D.b (!(sp20 x7.deref))) else none) else none) else K x1 x6 x7 (D.b false)) else none)
def s17_4 (x1 x6 x7 x26 : D) : St := sts 58 [(1, V.f x1), (4, V.a), (6, V.f x6), (7, V.f x7), (26, V.f x26)] []
theorem e17_15 (N : Nat) (k : Kn R) (x1 x6 x7 : D) : runC PHI Tb21 N vc17_15 (s17_3 x1 x6 x7) k = m17_15 N x1 x6 x7 (fun x1 x6 x7 x26 => k .normal (s17_4 x1 x6 x7 x26)) := by
  refine Eq.trans (runC_post _ _ _ k) (Eq.trans (ops_run _ _ _ _) (by kernel_rfl))
def m17_16 (N : Nat) (x1 x6 x7 x26 : D) (K : Option R) (Kr : D → D → D → D → Option R) : Option R :=
  (bif x26.toB then (bif (isPtrD x6) then (bif (isPtrD x1) then (bif (isPtrD x7) then (bif (pr25 x7.deref (D.sz [])) then Kr (x6.deref.at 3) (x1.deref.at 1) (D.p (sp25 x7.deref (D.sz []))) (D.b true) else none) else none) else none) else none) else (bif (isPtrD x7) then (bif (eqb (x7.deref.at 0).toI 2) then (bif (isPtrD x6) then (bif (pr20 x6.deref) then (bif (!(sp20 x6.deref)) then (bif (isPtrD x7) then (bif (isPtrD x1) then (bif (isPtrD x6) then (bif (pr25 x6.deref (D.sz [])) then Kr (x7.deref.at 3) (sp14 (x1.deref.at 1)) (D.p (sp25 x6.deref (D.sz []))) (D.b true) else none) else none) else none) else none) else K) else none) else none) else (bif false then (bif (isPtrD x7) then (bif (isPtrD x1) then (bif (isPtrD x6) then (bif (pr25 x6.deref (D.sz [])) then Kr (x7.deref.at 3) (sp14 (x1.deref.at 1)) (D.p (sp25 x6.deref (D.sz []))) (D.b true) else none) else none) else none) else none) else K)) else none))
def s17_5 : St := sts 58 [(4, V.a)] []
theorem e17_16 (N : Nat) (k : Kn R) (x1 x6 x7 x26 : D) : runC PHI Tb21 N vc17_16 (s17_4 x1 x6 x7 x26) k = m17_16 N x1 x6 x7 x26 (k .normal s17_5) (fun x2 x3 x4 x5 => k .ret (s17_2 x2 x3 x4 x5)) := by kernel_rfl
def m17_14 (N : Nat) (x1 x6 x7 : D) (K : Option R) (Kr : D → D → D → D → Option R) : Option R :=
  (m17_15 N x1 x6 x7 (fun y1 y6 y7 y26 => (m17_16 N y1 y6 y7 y26 (K) Kr)))
theorem e17_14 (N : Nat) (k : Kn R) (x1 x6 x7 : D) : runC PHI Tb21 N vc17_14 (s17_3 x1 x6 x7) k = m17_14 N x1 x6 x7 (k .normal s17_5) (fun x2 x3 x4 x5 => k .ret (s17_2 x2 x3 x4 x5)) := by
  have h2 := e17_15 N (kseq PHI Tb21 N vc17_16 k) x1 x6 x7
  have h3 := (funext fun y1 => funext fun y6 => funext fun y7 => funext fun y26 => (e17_16 N k y1 y6 y7 y26) : (fun (y1 y6 y7 y26 : D) => (kseq PHI Tb21 N vc17_16 k) .normal (s17_4 y1 y6 y7 y26)) = _)
  refine Eq.trans (runC_seq _ _ _ k) (Eq.trans h2 (Eq.trans (congrArg (fun K => m17_15 N x1 x6 x7 K) h3) (by kernel_rfl)))
def m17_13 (N : Nat) (x1 x6 x7 : D) (K : Option R) (Kr : D → D → D → D → Option R) : Option R :=
  (m17_14 N x1 x6 x7 (K) Kr)
theorem e17_13 (N : Nat) (k : Kn R) (x1 x6 x7 : D) : runC PHI Tb21 N vc17_13 (s17_3 x1 x6 x7) k = m17_13 N x1 x6 x7 (k .normal s17_5) (fun x2 x3 x4 x5 => k .ret (s17_2 x2 x3 x4 x5)) := by
  refine Eq.trans (runC_block _ _ _ k) (Eq.trans (e17_14 N (kblk 0 k) x1 x6 x7) (by kernel_rfl))
def m17_27 (N : Nat) (Kr : D → D → D → D → Option R) : Option R :=
  Kr (D.i 0) (D.s []) (D.p (D.ag [(D.i 0), (D.i 0), (D.f 0), (D.s [])])) (D.b false)
theorem e17_27 (N : Nat) (k : Kn R) : runC PHI Tb21 N vc17_27 s17_5 k = m17_27 N (fun x2 x3 x4 x5 => k .ret (s17_2 x2 x3 x4 x5)) := by kernel_rfl
def m17_12 (N : Nat) (x1 x6 x7 : D) (Kr : D → D → D → D → Option R) : Option R :=
  (m17_13 N x1 x6 x7 ((m17_27 N Kr)) Kr)
theorem e17_12 (N : Nat) (k : Kn R) (x1 x6 x7 : D) : runC PHI Tb21 N vc17_12 (s17_3 x1 x6 x7) k = m17_12 N x1 x6 x7 (fun x2 x3 x4 x5 => k .ret (s17_2 x2 x3 x4 x5)) := by
  have h2 := e17_13 N (kseq PHI Tb21 N vc17_27 k) x1 x6 x7
  have h3 := ((e17_27 N k ) : ((kseq PHI Tb21 N vc17_27 k) .normal s17_5) = _)
  refine Eq.trans (runC_seq _ _ _ k) (Eq.trans h2 (Eq.trans (congrArg (fun K => m17_13 N x1 x6 x7 K (fun x2 x3 x4 x5 => (kseq PHI Tb21 N vc17_27 k) .ret (s17_2 x2 x3 x4 x5))) h3) (by kernel_rfl)))
def m17_10 (N : Nat) (x1 : D) (Kr : D → D → D → D → Option R) : Option R :=
  (m17_11 N x1 (fun y1 y6 y7 => (m17_12 N y1 y6 y7 Kr)))
theorem e17_10 (N : Nat) (k : Kn R) (x1 : D) : runC PHI Tb21 N vc17_10 (s17_1 x1) k = m17_10 N x1 (fun x2 x3 x4 x5 => k .ret (s17_2 x2 x3 x4 x5)) := by
  have h2 := e17_11 N (kseq PHI Tb21 N vc17_12 k) x1
  have h3 := (funext fun y1 => funext fun y6 => funext fun y7 => (e17_12 N k y1 y6 y7) : (fun (y1 y6 y7 : D) => (kseq PHI Tb21 N vc17_12 k) .normal (s17_3 y1 y6 y7)) = _)
  refine Eq.trans (runC_seq _ _ _ k) (Eq.trans h2 (Eq.trans (congrArg (fun K => m17_11 N x1 K) h3) (by kernel_rfl)))
def m17_2 (N : Nat) (x1 : D) (Kr : D → D → D → D → Option R) : Option R :=
  (m17_3 N x1 (fun y1 => (m17_10 N y1 Kr)) Kr)
theorem e17_2 (N : Nat) (k : Kn R) (x1 : D) : runC PHI Tb21 N vc17_2 (s17_1 x1) k = m17_2 N x1 (fun x2 x3 x4 x5 => k .ret (s17_2 x2 x3 x4 x5)) := by
  have h2 := e17_3 N (kseq PHI Tb21 N vc17_10 k) x1
  have h3 := (funext fun y1 => (e17_10 N k y1) : (fun (y1 : D) => (kseq PHI Tb21 N vc17_10 k) .normal (s17_1 y1)) = _)
  refine Eq.trans (runC_seq _ _ _ k) (Eq.trans h2 (Eq.trans (congrArg (fun K => m17_3 N x1 K (fun x2 x3 x4 x5 => (kseq PHI Tb21 N vc17_10 k) .ret (s17_2 x2 x3 x4 x5))) h3) (by kernel_rfl)))
def m17_0 (N : Nat) (x0 : D) (Kr : D → D → D → D → Option R) : Option R :=
  (m17_1 N x0 (fun y1 => (m17_2 N y1 Kr)))
theorem e17_0 (N : Nat) (k : Kn R) (x0 : D) : runC PHI Tb21 N vc17_0 (s17_0 x0) k = m17_0 N x0 (fun x2 x3 x4 x5 => k .ret (s17_2 x2 x3 x4 x5)) := by
  have h2 := e17_1 N (kseq PHI Tb21 N vc17_2 k) x0
  have h3 := (funext fun y1 => (e17_2 N k y1) : (fun (y1 : D) => (kseq PHI Tb21 N vc17_2 k) .normal (s17_1 y1)) = _)
  refine Eq.trans (runC_seq _ _ _ k) (Eq.trans h2 (Eq.trans (congrArg (fun K => m17_1 N x0 K) h3) (by kernel_rfl)))
theorem r17 (N : Nat) (x0 : D) : runC PHI Tb21 N vf17.body (enterV vf17 [V.f x0] []) (finish vf17) = m17_0 N x0 (fun x2 x3 x4 x5 => finish vf17 .ret (s17_2 x2 x3 x4 x5)) := 
  Eq.trans (runC_pre (s1 := (s17_0 x0)) (by kernel_rfl) _ _) (Eq.trans (e17_0 N (finish vf17) x0) (by kernel_rfl))
end
def Tb17 : CallF := extend Tb21 17 (fn1 (fun _ => true) fun n => .t [.f (.i (sp17_0 n)), .f (sp17_1 n), .f (sp17_2 n), .f (.b (sp17_3 n))])
def av17 (n : D) : Option (V × List V) := agv n (some (.t [.f (.i ((a0 n).at 3).toI), .f (n.at 1), .f (sp25 (a1 n) (.sz [])), .f (.b true)], [])) (some (.t [.f (.i ((a1 n).at 3).toI), .f (sp14 (n.at 1)), .f (sp25 (a0 n) (.sz [])), .f (.b true)], [])) (some (.t [.f (.i 0), .f (.s []), .f z0, .f (.b false)], []))
theorem av17_e (n : D) : av17 n = some (.t [.f (.i (sp17_0 n)), .f (sp17_1 n), .f (sp17_2 n), .f (.b (sp17_3 n))], []) := by
  unfold av17 sp17_0 sp17_1 sp17_2 sp17_3 agv
  cases agOk n
  · rfl
  · cases cc1 n
    · cases cc2 n <;> rfl
    · rfl
theorem ok17 : FnOk Try.prog PHI Tb17 := FnOk.add1 hPHI ok21 (by kernel_rfl) fun n ha _ => ⟨0, (r17 0 n).trans (Eq.trans (by
  have hn := ha.is 0 rfl rfl
  simp only [m17_1, m17_3, m17_11, m17_15, m17_16, m17_14, m17_13, m17_27, m17_12, m17_10, m17_2, m17_0, isPtr_p, deref_p, toB_b, cond_true, pr20, pr25, av17, agv]
  cases ho : agOk n
  · unfold agOk at ho
    cases h1 : eqb (n.at 0).toI 7
    · rfl
    · rw [h1, Bool.true_and] at ho
      rw [ho]; rfl
  · obtain ⟨i0, i1, il⟩ := two_args ho
    have ho' := ho
    unfold agOk at ho'
    rw [Bool.and_eq_true] at ho'
    rw [ho'.1, ho'.2, show inb 0 (n.at 6).toL.length = true from inb_t i0, show inb 1 (n.at 6).toL.length = true from inb_t i1]
    have e0 : (n.at 6).at (0 : Int).toNat = a0 n := rfl
    have e1 : (n.at 6).at (1 : Int).toNat = a1 n := rfl
    rw [e0, e1]
    have k0 : (a0 n).at 3 = .i ((a0 n).at 3).toI := int3 (argI hn i0)
    have k1 : (a1 n).at 3 = .i ((a1 n).at 3).toI := int3 (argI hn i1)
    rw [k0, k1]
    simp only [toI_i, Bool.not_true, cond_true, cond_false, cc1, cc2]
    cases eqb ((a0 n).at 0).toI 2
    · cases eqb ((a1 n).at 0).toI 2
      · rfl
      · cases sp20 (a0 n) <;> rfl
    · cases sp20 (a1 n)
      · rfl
      · cases eqb ((a1 n).at 0).toI 2
        · rfl
        · cases sp20 (a0 n) <;> rfl) (av17_e n))⟩
def sp18_0 (n : D) : Int := sp17_0 n
def sp18_1 (n : D) : D := sp17_1 n
def sp18_2 (n : D) : D := agv n (sp38 (a1 n) (.sz [])) (sp38 (a0 n) (.sz [])) z0
def sp18_3 (n : D) : Bool := sp17_3 n
section
variable {R : Type}
def m18_1 (N : Nat) (x0 : D) (K : D → Option R) : Option R :=
  K (D.p x0)
def s18_0 (x0 : D) : St := sts 54 [(0, V.f x0)] []
def s18_1 (x1 : D) : St := sts 54 [(1, V.f x1), (4, V.a)] []
theorem e18_1 (N : Nat) (k : Kn R) (x0 : D) : runC PHI Tb17 N vc18_1 (s18_0 x0) k = m18_1 N x0 (fun x1 => k .normal (s18_1 x1)) := by
  refine Eq.trans (runC_post _ _ _ k) (Eq.trans (ops_run _ _ _ _) (by kernel_rfl))
def m18_4 (N : Nat) (x1 : D) (K : D → D → Option R) : Option R :=
  (bif (isPtrD x1) then (bif (eqb (x1.deref.at 0).toI 7) then (bif (isPtrD x1) then K x1 (D.b (eqb ((x1.deref.at 6).toL.length : Int) 2)) else none) else K x1 (D.b false)) else none)
def s18_2 (x1 x18 : D) : St := sts 54 [(1, V.f x1), (4, V.a), (18, V.f x18)] []
theorem e18_4 (N : Nat) (k : Kn R) (x1 : D) : runC PHI Tb17 N vc18_4 (s18_1 x1) k = m18_4 N x1 (fun x1 x18 => k .normal (s18_2 x1 x18)) := by
  refine Eq.trans (runC_post _ _ _ k) (Eq.trans (ops_run _ _ _ _) (by kernel_rfl))
def m18_7 (N : Nat) (x1 : D) (K : D → D → Option R) : Option R :=
  K x1 (D.i 0)
def s18_3 (x1 x6 : D) : St := sts 54 [(1, V.f x1), (4, V.a), (6, V.f x6)] []
theorem e18_7 (N : Nat) (k : Kn R) (x1 : D) : runC PHI Tb17 N vc18_7 (s18_1 x1) k = m18_7 N x1 (fun x1 x6 => k .normal (s18_3 x1 x6)) := by
  refine Eq.trans (runC_post _ _ _ k) (Eq.trans (ops_run _ _ _ _) (by kernel_rfl))
def m18_11 (N : Nat) (x1 x6 : D) (K : D → D → Option R) (K0 : Option R) : Option R :=
  (bif (ltb x6.toI 2) then K x1 x6 else K0)
def s18_4 : St := sts 54 [(4, V.a)] []
theorem e18_11 (N : Nat) (k : Kn R) (x1 x6 : D) : runC PHI Tb17 N vc18_11 (s18_3 x1 x6) k = m18_11 N x1 x6 (fun x1 x6 => k .normal (s18_3 x1 x6)) (k (.exit 0) s18_4) := by kernel_rfl
def m18_16 (N : Nat) (x1 x6 : D) (K : D → D → Option R) (Kr : D → D → D → D → Option R) : Option R :=
  (bif (isPtrD x1) then (bif (inb x6.toI (x1.deref.at 6).toL.length) then (bif (isPtrD x1) then (bif (inb (IntKind.wrap IntKind.i64 (1 - x6.toI)) (x1.deref.at 6).toL.length) then (bif (isPtrD x1) then (bif (eqb x6.toI 1) then (bif (eqb (((x1.deref.at 6).at (x6.toI : Int).toNat).at 0).toI 2) then (bif (pr21 ((x1.deref.at 6).at ((IntKind.wrap IntKind.i64 (1 - x6.toI)) : Int).toNat)) then (bif (!(sp21 ((x1.deref.at 6).at ((IntKind.wrap IntKind.i64 (1 - x6.toI)) : Int).toNat))) then (bif (pr38 ((x1.deref.at 6).at ((IntKind.wrap IntKind.i64 (1 - x6.toI)) : Int).toNat) (D.sz [])) then Kr (((x1.deref.at 6).at (x6.toI : Int).toNat).at 3) (sp15 (x1.deref.at 1)) (D.p (sp38 ((x1.deref.at 6).at ((IntKind.wrap IntKind.i64 (1 - x6.toI)) : Int).toNat) (D.sz []))) (D.b true) else none) else K x1 (D.i (IntKind.wrap IntKind.i64 (x6.toI + 1)))) else none) else (bif false then (bif (pr38 ((x1.deref.at 6).at ((IntKind.wrap IntKind.i64 (1 - x6.toI)) : Int).toNat) (D.sz [])) then Kr (((x1.deref.at 6).at (x6.toI : Int).toNat).at 3) (sp15 (x1.deref.at 1)) (D.p (sp38 ((x1.deref.at 6).at ((IntKind.wrap IntKind.i64 (1 - x6.toI)) : Int).toNat) (D.sz []))) (D.b true) else none) else K x1 (D.i (IntKind.wrap IntKind.i64 (x6.toI + 1))))) else (bif (eqb (((x1.deref.at 6).at (x6.toI : Int).toNat).at 0).toI 2) then (bif (pr21 ((x1.deref.at 6).at ((IntKind.wrap IntKind.i64 (1 - x6.toI)) : Int).toNat)) then (bif (!(sp21 ((x1.deref.at 6).at ((IntKind.wrap IntKind.i64 (1 - x6.toI)) : Int).toNat))) then (bif (pr38 ((x1.deref.at 6).at ((IntKind.wrap IntKind.i64 (1 - x6.toI)) : Int).toNat) (D.sz [])) then Kr (((x1.deref.at 6).at (x6.toI : Int).toNat).at 3) (x1.deref.at 1) (D.p (sp38 ((x1.deref.at 6).at ((IntKind.wrap IntKind.i64 (1 - x6.toI)) : Int).toNat) (D.sz []))) (D.b true) else none) else K x1 (D.i (IntKind.wrap IntKind.i64 (x6.toI + 1)))) else none) else (bif false then (bif (pr38 ((x1.deref.at 6).at ((IntKind.wrap IntKind.i64 (1 - x6.toI)) : Int).toNat) (D.sz [])) then Kr (((x1.deref.at 6).at (x6.toI : Int).toNat).at 3) (x1.deref.at 1) (D.p (sp38 ((x1.deref.at 6).at ((IntKind.wrap IntKind.i64 (1 - x6.toI)) : Int).toNat) (D.sz []))) (D.b true) else none) else K x1 (D.i (IntKind.wrap IntKind.i64 (x6.toI + 1)))))) else none) else none) else none) else none) else none)
def s18_5 (x2 x3 x4 x5 : D) : St := sts 54 [(2, V.f x2), (3, V.f x3), (4, V.f x4), (5, V.f x5)] []
theorem e18_16 (N : Nat) (k : Kn R) (x1 x6 : D) : runC PHI Tb17 N vc18_16 (s18_3 x1 x6) k = m18_16 N x1 x6 (fun x1 x6 => k .normal (s18_3 x1 x6)) (fun x2 x3 x4 x5 => k .ret (s18_5 x2 x3 x4 x5)) := by kernel_rfl
def m18_10 (N : Nat) (x1 x6 : D) (K : D → D → Option R) (K0 : Option R) (Kr : D → D → D → D → Option R) : Option R :=
  (m18_11 N x1 x6 (fun y1 y6 => (m18_16 N y1 y6 (fun y1 y6 => K y1 y6) Kr)) K0)
theorem e18_10 (N : Nat) (k : Kn R) (x1 x6 : D) : runC PHI Tb17 N vc18_10 (s18_3 x1 x6) k = m18_10 N x1 x6 (fun x1 x6 => k .normal (s18_3 x1 x6)) (k (.exit 0) s18_4) (fun x2 x3 x4 x5 => k .ret (s18_5 x2 x3 x4 x5)) := by
  have h2 := e18_11 N (kseq PHI Tb17 N vc18_16 k) x1 x6
  have h3 := (funext fun y1 => funext fun y6 => (e18_16 N k y1 y6) : (fun (y1 y6 : D) => (kseq PHI Tb17 N vc18_16 k) .normal (s18_3 y1 y6)) = _)
  refine Eq.trans (runC_seq _ _ _ k) (Eq.trans h2 (Eq.trans (congrArg (fun K => m18_11 N x1 x6 K ((kseq PHI Tb17 N vc18_16 k) (.exit 0) s18_4)) h3) (by kernel_rfl)))
def l18_9 (N : Nat) (j : Nat) (x1 x6 : D) (K0 : Option R) (Kr : D → D → D → D → Option R) : Option R :=
  match j with
  | 0 => none
  | j + 1 => (m18_10 N x1 x6 (fun y1 y6 => l18_9 N j y1 y6 K0 Kr) K0 Kr)
def m18_9 (N : Nat) (x1 x6 : D) (K0 : Option R) (Kr : D → D → D → D → Option R) : Option R :=
  l18_9 N N x1 x6 K0 Kr
theorem el18_9 (N : Nat) (k : Kn R) : ∀ (j : Nat) (x1 x6 : D), loopGo (runC PHI Tb17 N vc18_10) j (s18_3 x1 x6) k = l18_9 N j x1 x6 (k (.exit 0) s18_4) (fun x2 x3 x4 x5 => k .ret (s18_5 x2 x3 x4 x5))
  | 0, _, _ => by kernel_rfl
  | j + 1, x1, x6 => by
    have h2 := e18_10 N (kloop PHI Tb17 N vc18_10 j k) x1 x6
    have h3 : (fun (y1 y6 : D) => (kloop PHI Tb17 N vc18_10 j k) .normal (s18_3 y1 y6)) = (fun (y1 y6 : D) => l18_9 N j y1 y6 (k (.exit 0) s18_4) (fun x2 x3 x4 x5 => k .ret (s18_5 x2 x3 x4 x5))) := funext fun y1 => funext fun y6 => (el18_9 N k j y1 y6)
    refine Eq.trans (loop_succ _ j _ k) (Eq.trans h2 (Eq.trans (congrArg (fun K => m18_10 N x1 x6 K ((kloop PHI Tb17 N vc18_10 j k) (.exit 0) s18_4) (fun x2 x3 x4 x5 => (kloop PHI Tb17 N vc18_10 j k) .ret (s18_5 x2 x3 x4 x5))) h3) (by kernel_rfl)))
theorem e18_9 (N : Nat) (k : Kn R) (x1 x6 : D) : runC PHI Tb17 N vc18_9 (s18_3 x1 x6) k = m18_9 N x1 x6 (k (.exit 0) s18_4) (fun x2 x3 x4 x5 => k .ret (s18_5 x2 x3 x4 x5)) := by
  refine Eq.trans (runC_loop _ _ k) (Eq.trans (el18_9 N k N x1 x6) (by kernel_rfl))
def m18_8 (N : Nat) (x1 x6 : D) (K : Option R) (Kr : D → D → D → D → Option R) : Option R :=
  (m18_9 N x1 x6 (K) Kr)
theorem e18_8 (N : Nat) (k : Kn R) (x1 x6 : D) : runC PHI Tb17 N vc18_8 (s18_3 x1 x6) k = m18_8 N x1 x6 (k .normal s18_4) (fun x2 x3 x4 x5 => k .ret (s18_5 x2 x3 x4 x5)) := by
  refine Eq.trans (runC_block _ _ _ k) (Eq.trans (e18_9 N (kblk 0 k) x1 x6) (by kernel_rfl))
def m18_6 (N : Nat) (x1 : D) (K : Option R) (Kr : D → D → D → D → Option R) : Option R :=
  (m18_7 N x1 (fun y1 y6 => (m18_8 N y1 y6 (K) Kr)))
theorem e18_6 (N : Nat) (k : Kn R) (x1 : D) : runC PHI Tb17 N vc18_6 (s18_1 x1) k = m18_6 N x1 (k .normal s18_4) (fun x2 x3 x4 x5 => k .ret (s18_5 x2 x3 x4 x5)) := by
  have h2 := e18_7 N (kseq PHI Tb17 N vc18_8 k) x1
  have h3 := (funext fun y1 => funext fun y6 => (e18_8 N k y1 y6) : (fun (y1 y6 : D) => (kseq PHI Tb17 N vc18_8 k) .normal (s18_3 y1 y6)) = _)
  refine Eq.trans (runC_seq _ _ _ k) (Eq.trans h2 (Eq.trans (congrArg (fun K => m18_7 N x1 K) h3) (by kernel_rfl)))
def m18_34 (N : Nat) (K : Option R) : Option R :=
  K
theorem e18_34 (N : Nat) (k : Kn R) : runC PHI Tb17 N vc18_34 s18_4 k = m18_34 N (k .normal s18_4) := by kernel_rfl
def m18_5 (N : Nat) (x1 x18 : D) (K : Option R) (Kr : D → D → D → D → Option R) : Option R :=
  (bif x18.toB then (m18_6 N x1 (K) Kr) else (m18_34 N (K)))
theorem e18_5 (N : Nat) (k : Kn R) (x1 x18 : D) : runC PHI Tb17 N vc18_5 (s18_2 x1 x18) k = m18_5 N x1 x18 (k .normal s18_4) (fun x2 x3 x4 x5 => k .ret (s18_5 x2 x3 x4 x5)) := by
  refine Eq.trans (runC_cond (s1 := (s18_1 x1)) (s2 := s18_4) (d := x18) _ _ k (by kernel_rfl) (by kernel_rfl) (by kernel_rfl)) (Eq.trans (congr (congrArg (cond x18.toB) ((e18_6 N k x1))) ((e18_34 N k ))) (by kernel_rfl))
def m18_3 (N : Nat) (x1 : D) (K : Option R) (Kr : D → D → D → D → Option R) : Option R :=
  (m18_4 N x1 (fun y1 y18 => (m18_5 N y1 y18 (K) Kr)))
theorem e18_3 (N : Nat) (k : Kn R) (x1 : D) : runC PHI Tb17 N vc18_3 (s18_1 x1) k = m18_3 N x1 (k .normal s18_4) (fun x2 x3 x4 x5 => k .ret (s18_5 x2 x3 x4 x5)) := by
  have h2 := e18_4 N (kseq PHI Tb17 N vc18_5 k) x1
  have h3 := (funext fun y1 => funext fun y18 => (e18_5 N k y1 y18) : (fun (y1 y18 : D) => (kseq PHI Tb17 N vc18_5 k) .normal (s18_2 y1 y18)) = _)
  refine Eq.trans (runC_seq _ _ _ k) (Eq.trans h2 (Eq.trans (congrArg (fun K => m18_4 N x1 K) h3) (by kernel_rfl)))
def m18_35 (N : Nat) (Kr : D → D → D → D → Option R) : Option R :=
  Kr (D.i 0) (D.s []) (D.p (D.ag [(D.i 0), (D.i 0), (D.f 0), (D.s [])])) (D.b false)
theorem e18_35 (N : Nat) (k : Kn R) : runC PHI Tb17 N vc18_35 s18_4 k = m18_35 N (fun x2 x3 x4 x5 => k .ret (s18_5 x2 x3 x4 x5)) := by kernel_rfl
def m18_2 (N : Nat) (x1 : D) (Kr : D → D → D → D → Option R) : Option R :=
  (m18_3 N x1 ((m18_35 N Kr)) Kr)
theorem e18_2 (N : Nat) (k : Kn R) (x1 : D) : runC PHI Tb17 N vc18_2 (s18_1 x1) k = m18_2 N x1 (fun x2 x3 x4 x5 => k .ret (s18_5 x2 x3 x4 x5)) := by
  have h2 := e18_3 N (kseq PHI Tb17 N vc18_35 k) x1
  have h3 := ((e18_35 N k ) : ((kseq PHI Tb17 N vc18_35 k) .normal s18_4) = _)
  refine Eq.trans (runC_seq _ _ _ k) (Eq.trans h2 (Eq.trans (congrArg (fun K => m18_3 N x1 K (fun x2 x3 x4 x5 => (kseq PHI Tb17 N vc18_35 k) .ret (s18_5 x2 x3 x4 x5))) h3) (by kernel_rfl)))
def m18_0 (N : Nat) (x0 : D) (Kr : D → D → D → D → Option R) : Option R :=
  (m18_1 N x0 (fun y1 => (m18_2 N y1 Kr)))
theorem e18_0 (N : Nat) (k : Kn R) (x0 : D) : runC PHI Tb17 N vc18_0 (s18_0 x0) k = m18_0 N x0 (fun x2 x3 x4 x5 => k .ret (s18_5 x2 x3 x4 x5)) := by
  have h2 := e18_1 N (kseq PHI Tb17 N vc18_2 k) x0
  have h3 := (funext fun y1 => (e18_2 N k y1) : (fun (y1 : D) => (kseq PHI Tb17 N vc18_2 k) .normal (s18_1 y1)) = _)
  refine Eq.trans (runC_seq _ _ _ k) (Eq.trans h2 (Eq.trans (congrArg (fun K => m18_1 N x0 K) h3) (by kernel_rfl)))
theorem r18 (N : Nat) (x0 : D) : runC PHI Tb17 N vf18.body (enterV vf18 [V.f x0] []) (finish vf18) = m18_0 N x0 (fun x2 x3 x4 x5 => finish vf18 .ret (s18_5 x2 x3 x4 x5)) := 
  Eq.trans (runC_pre (s1 := (s18_0 x0)) (by kernel_rfl) _ _) (Eq.trans (e18_0 N (finish vf18) x0) (by kernel_rfl))
end
def Tb18 : CallF := extend Tb17 18 (fn1 (fun _ => true) fun n => .t [.f (.i (sp18_0 n)), .f (sp18_1 n), .f (sp18_2 n), .f (.b (sp18_3 n))])
def av18 (n : D) : Option (V × List V) := agv n (some (.t [.f (.i ((a0 n).at 3).toI), .f (n.at 1), .f (sp38 (a1 n) (.sz [])), .f (.b true)], [])) (some (.t [.f (.i ((a1 n).at 3).toI), .f (sp14 (n.at 1)), .f (sp38 (a0 n) (.sz [])), .f (.b true)], [])) (some (.t [.f (.i 0), .f (.s []), .f z0, .f (.b false)], []))
theorem av18_e (n : D) : av18 n = some (.t [.f (.i (sp18_0 n)), .f (sp18_1 n), .f (sp18_2 n), .f (.b (sp18_3 n))], []) := by
  unfold av18 sp18_0 sp18_1 sp18_2 sp18_3 sp17_0 sp17_1 sp17_3 agv
  cases agOk n
  · rfl
  · cases cc1 n
    · cases cc2 n <;> rfl
    · rfl
theorem ok18 : FnOk Try.prog PHI Tb18 := FnOk.add1 hPHI ok17 (by kernel_rfl) fun n ha _ => ⟨3, (r18 3 n).trans (Eq.trans (by
  have hn := ha.is 0 rfl rfl
  simp only [m18_0, m18_1, m18_2, m18_3, m18_4, m18_5, m18_6, m18_7, m18_8, m18_9, m18_34, m18_35, isPtr_p, deref_p, toB_b, cond_true, av18, agv]
  cases ho : agOk n
  · unfold agOk at ho
    cases h1 : eqb (n.at 0).toI 7
    · rfl
    · rw [h1, Bool.true_and] at ho
      rw [ho]; rfl
  · obtain ⟨i0, i1, il⟩ := two_args ho
    have ho' := ho
    unfold agOk at ho'
    rw [Bool.and_eq_true] at ho'
    have w0 : IntKind.wrap IntKind.i64 (1 - 0) = 1 := rfl
    have w1 : IntKind.wrap IntKind.i64 (1 - 1) = 0 := rfl
    have w2 : IntKind.wrap IntKind.i64 (0 + 1) = 1 := rfl
    have w3 : IntKind.wrap IntKind.i64 (1 + 1) = 2 := rfl
    have e0 : (n.at 6).at (0 : Int).toNat = a0 n := rfl
    have e1 : (n.at 6).at (1 : Int).toNat = a1 n := rfl
    have k0 : (a0 n).at 3 = .i ((a0 n).at 3).toI := int3 (argI hn i0)
    have k1 : (a1 n).at 3 = .i ((a1 n).at 3).toI := int3 (argI hn i1)
    rw [ho'.1, ho'.2]
    simp only [l18_9, m18_10, m18_11, m18_16, isPtr_p, deref_p, toI_i, cond_true, w0, w1, w2, w3, e0, e1, pr21, pr38, sp21, sp15, show inb 0 (n.at 6).toL.length = true from inb_t i0, show inb 1 (n.at 6).toL.length = true from inb_t i1, show eqb 0 1 = false from rfl, show eqb 1 1 = true from rfl, show ltb 0 2 = true from rfl, show ltb 1 2 = true from rfl, show ltb 2 2 = false from rfl, cond_false]
    rw [k0, k1]
    simp only [toI_i, cc1, cc2]
    cases eqb ((a0 n).at 0).toI 2
    · cases eqb ((a1 n).at 0).toI 2
      · rfl
      · cases sp20 (a0 n) <;> rfl
    · cases sp20 (a1 n)
      · rfl
      · cases eqb ((a1 n).at 0).toI 2
        · rfl
        · cases sp20 (a0 n) <;> rfl) (av18_e n))⟩
theorem is_nil : Is Try.prog 32 (.sz []) := ⟨fun _ _ => none, .slice none 0 0, .nils (e := 35) (by kernel_rfl) (.inl rfl), by unfold AggOk; rw [show Try.prog.underlying 32 = some (.slice 35) by kernel_rfl]; simp⟩
theorem agv_Q {n : D} (hn : Is Try.prog 48 n) : Q (sp17_2 n) (sp18_2 n) := by
  unfold sp17_2 sp18_2 agv
  cases ho : agOk n
  · exact Q_z
  · obtain ⟨i0, i1, il⟩ := two_args ho
    cases cc1 n
    · cases cc2 n
      · exact Q_z
      · exact ev_Q _ _ _ (argI hn i0) is_nil
    · exact ev_Q _ _ _ (argI hn i1) is_nil
/-! ### What is known of a column's table -/
def oOk (a : Int) (r c : D) : Bool := !ltb a 0 && (!leb (r.toL.length : Int) a && !leb (c.toL.length : Int) a)
def oR (a : Int) (r : D) : Int := near (r.at a.toNat).toI big
def of0 (a : Int) (r c : D) : Int := bif oOk a r c then oR a r else 0
def of1 (a : Int) (r c : D) : D := bif oOk a r c then .ag [.i (near ((c.at a.toNat).at 0).toI (oR a r)), .i (near ((c.at a.toNat).at 1).toI (oR a r)), (c.at a.toNat).at 2] else .ag [.i 0, .i 0, .sz []]
def sp42_0 (a r c : D) : Int := of0 a.toI r.deref c.deref
def sp42_1 (a r c : D) : D := of1 a.toI r.deref c.deref
def pr42 (_a r c : D) : Bool := isPtrD r && isPtrD c
theorem oOk_in {a : Int} {r c : D} (h : oOk a r c = true) : ¬ a < 0 ∧ a < (r.toL.length : Int) ∧ a < (c.toL.length : Int) := by
  unfold oOk at h
  simp only [Bool.and_eq_true, Bool.not_eq_true'] at h
  have h1 := of_decide_eq_false h.1
  have h2 := of_decide_eq_false h.2.1
  have h3 := of_decide_eq_false h.2.2
  omega
section
variable {R : Type}
def m42_0 (N : Nat) (x0 x1 x2 : D) (Kr : D → D → Option R) : Option R :=
  (bif (ltb x0.toI 0) then (bif true then Kr (D.i 0) (D.p (D.ag [(D.i 0), (D.i 0), (D.sz [])])) else (bif (isPtrD x1) then (bif (inb x0.toI x1.deref.toL.length) then (bif (isPtrD x2) then (bif (inb x0.toI x2.deref.toL.length) then Kr (D.i (sp29_0 (x1.deref.at (x0.toI : Int).toNat) (x2.deref.at (x0.toI : Int).toNat))) (D.p (sp29_1 (x1.deref.at (x0.toI : Int).toNat) (x2.deref.at (x0.toI : Int).toNat))) else none) else none) else none) else none)) else (bif (isPtrD x1) then (bif (leb (x1.deref.toL.length : Int) x0.toI) then (bif true then Kr (D.i 0) (D.p (D.ag [(D.i 0), (D.i 0), (D.sz [])])) else (bif (isPtrD x1) then (bif (inb x0.toI x1.deref.toL.length) then (bif (isPtrD x2) then (bif (inb x0.toI x2.deref.toL.length) then Kr (D.i (sp29_0 (x1.deref.at (x0.toI : Int).toNat) (x2.deref.at (x0.toI : Int).toNat))) (D.p (sp29_1 (x1.deref.at (x0.toI : Int).toNat) (x2.deref.at (x0.toI : Int).toNat))) else none) else none) else none) else none)) else (bif (isPtrD x2) then (bif (leb (x2.deref.toL.length : Int) x0.toI) then Kr (D.i 0) (D.p (D.ag [(D.i 0), (D.i 0), (D.sz [])])) else (bif (isPtrD x1) then (bif (inb x0.toI x1.deref.toL.length) then (bif (isPtrD x2) then (bif (inb x0.toI x2.deref.toL.length) then Kr (D.i (sp29_0 (x1.deref.at (x0.toI : Int).toNat) (x2.deref.at (x0.toI : Int).toNat))) (D.p (sp29_1 (x1.deref.at (x0.toI : Int).toNat) (x2.deref.at (x0.toI : Int).toNat))) else none) else none) else none) else none)) else none)) else none))
def s42_0 (x0 x1 x2 : D) : St := sts 32 [(0, V.f x0), (1, V.f x1), (2, V.f x2)] []
def s42_1 (x4 x5 : D) : St := sts 32 [(4, V.f x4), (5, V.f x5)] []
theorem e42_0 (N : Nat) (k : Kn R) (x0 x1 x2 : D) : runC PHI Tb18 N vc42_0 (s42_0 x0 x1 x2) k = m42_0 N x0 x1 x2 (fun x4 x5 => k .ret (s42_1 x4 x5)) := by kernel_rfl
theorem r42 (N : Nat) (x0 x1 x2 : D) : runC PHI Tb18 N vf42.body (enterV vf42 [V.f x0, V.f x1, V.f x2] []) (finish vf42) = m42_0 N x0 x1 x2 (fun x4 x5 => finish vf42 .ret (s42_1 x4 x5)) := 
  Eq.trans (runC_pre (s1 := (s42_0 x0 x1 x2)) (by kernel_rfl) _ _) (Eq.trans (e42_0 N (finish vf42) x0 x1 x2) (by kernel_rfl))
end
def Tb42 : CallF := extend Tb18 42 (fn3 pr42 fun a r c => .t [.f (.i (sp42_0 a r c)), .f (sp42_1 a r c)])
theorem ok42 : FnOk Try.prog PHI Tb42 := FnOk.add3 hPHI ok18 (by kernel_rfl) fun a r c ha hp => ⟨0, (r42 0 a r c).trans (by
  unfold pr42 at hp
  rw [Bool.and_eq_true] at hp
  have hc := ha.isP (t := 25) 2 rfl rfl hp.2
  unfold m42_0 sp42_0 sp42_1 of0 of1
  rw [hp.1, hp.2]
  simp only [cond_true]
  cases ho : oOk a.toI r.deref c.deref
  · unfold oOk at ho
    cases h1 : ltb a.toI 0
    · cases h2 : leb (r.deref.toL.length : Int) a.toI
      · cases h3 : leb (c.deref.toL.length : Int) a.toI
        · rw [h1, h2, h3] at ho; cases ho
        · rfl
      · rfl
    · rfl
  · obtain ⟨q1, q2, q3⟩ := oOk_in ho
    have i1 : inb a.toI r.deref.toL.length = true := inb_of (by omega) q2
    have i2 : inb a.toI c.deref.toL.length = true := inb_of (by omega) q3
    have hx : Is Try.prog 31 (c.deref.at a.toI.toNat) := by
      have hlt : a.toI.toNat < c.deref.toL.length := by omega
      rw [show c.deref.at a.toI.toNat = c.deref.toL.getD a.toI.toNat .nil from rfl, getD_at hlt]
      exact hc.elem (e := 31) (by kernel_rfl) _ (List.getElem_mem hlt)
    obtain ⟨d, m, b, hx⟩ := hx.ag3 (by kernel_rfl)
    rw [ltb_f q1, leb_f (by omega), leb_f (by omega), i1, i2, hx]
    simp only [cond_true, cond_false, sp29_e, sp29_0]
    rfl)⟩
/-! ### Guess -/
def gRest (n r c : D) : Int :=
  bif eqb (n.at 0).toI 9 && (eqb ((n.at 6).toL.length : Int) 1 && eqb ((a0 n).at 0).toI 2) then
    (bif eqb (of0 ((a0 n).at 3).toI r c) 0 then 0 else bif (n.at 4).toB then bas (of0 ((a0 n).at 3).toI r c) ((of1 ((a0 n).at 3).toI r c).at 1).toI else w64 (Int.tdiv (w64 (1000 * ((of1 ((a0 n).at 3).toI r c).at 1).toI)) (of0 ((a0 n).at 3).toI r c)))
  else bif eqb (n.at 0).toI 7 && (eqL (n.at 1).toS [61] && (eqb ((n.at 6).toL.length : Int) 2 && (eqb ((a0 n).at 0).toI 2 && eqb ((a1 n).at 0).toI 2))) then
    w64 (Int.tdiv 1000 (mmI true 1 [((of1 ((a0 n).at 3).toI r c).at 0).toI, ((of1 ((a1 n).at 3).toI r c).at 0).toI]))
  else 333
def sp22 (n r c : D) : Int := bif sp17_3 n then sp12 (.i (of0 (sp17_0 n) r c)) (of1 (sp17_0 n) r c) (sp17_1 n) (sp17_2 n) else gRest n r c
theorem mm1 (a b : Int) : mmI true 1 [a, b] ≠ 0 := by
  have e : mmI true 1 [a, b] = if b > (if a > 1 then a else 1) then b else (if a > 1 then a else 1) := rfl
  rw [e]
  split <;> split <;> omega
theorem len_in {n : D} {k i : Nat} (h : ((n.at 6).toL.length : Int) = (k : Int)) (hi : i < k) : inb (i : Int) (n.at 6).toL.length = true := inb_t (by omega)
section
variable {R : Type}
def m22_1 (N : Nat) (x0 x1 x2 : D) (K : D → D → D → Option R) : Option R :=
  K (D.p x0) (D.p x1) (D.p x2)
def s22_0 (x0 x1 x2 : D) : St := sts 139 [(0, V.f x0), (1, V.f x1), (2, V.f x2)] []
def s22_1 (x3 x4 x5 : D) : St := sts 139 [(3, V.f x3), (4, V.f x4), (5, V.f x5)] []
theorem e22_1 (N : Nat) (k : Kn R) (x0 x1 x2 : D) : runC PHI Tb42 N vc22_1 (s22_0 x0 x1 x2) k = m22_1 N x0 x1 x2 (fun x3 x4 x5 => k .normal (s22_1 x3 x4 x5)) := by
  refine Eq.trans (runC_post _ _ _ k) (Eq.trans (ops_run _ _ _ _) (by kernel_rfl))
def m22_3 (N : Nat) (x3 x4 x5 : D) (K : D → D → D → Option R) : Option R :=
  K x3 x4 x5
def s22_2 (x3 x7_0 x7_1 : D) : St := sts 139 [(3, V.f x3), (7, V.fn 42 [V.f x7_0, V.f x7_1] [Ty.p 29, Ty.p 25])] []
theorem e22_3 (N : Nat) (k : Kn R) (x3 x4 x5 : D) : runC PHI Tb42 N vc22_3 (s22_1 x3 x4 x5) k = m22_3 N x3 x4 x5 (fun x3 x7_0 x7_1 => k .normal (s22_2 x3 x7_0 x7_1)) := by
  refine Eq.trans (runC_post _ _ _ k) (Eq.trans (ops_run _ _ _ _) (by kernel_rfl))
def m22_5 (N : Nat) (x3 x7_0 x7_1 : D) (K : D → D → D → Option R) (Kr : D → Option R) : Option R :=
  (bif (isPtrD x3) then (bif (sp17_3 x3.deref) then (bif (pr42 (D.i (sp17_0 x3.deref)) x7_0 x7_1) then Kr (D.i (sp12 (D.i (sp42_0 (D.i (sp17_0 x3.deref)) x7_0 x7_1)) (sp42_1 (D.i (sp17_0 x3.deref)) x7_0 x7_1) (sp17_1 x3.deref) (sp17_2 x3.deref))) else none) else K x3 x7_0 x7_1) else none)
def s22_3 (x6 : D) : St := sts 139 [(6, V.f x6)] []
theorem e22_5 (N : Nat) (k : Kn R) (x3 x7_0 x7_1 : D) : runC PHI Tb42 N vc22_5 (s22_2 x3 x7_0 x7_1) k = m22_5 N x3 x7_0 x7_1 (fun x3 x7_0 x7_1 => k .normal (s22_2 x3 x7_0 x7_1)) (fun x6 => k .ret (s22_3 x6)) := by kernel_rfl
def m22_18 (N : Nat) (x3 x7_0 x7_1 : D) (K : D → D → D → D → Option R) : Option R :=
  (bif (isPtrD x3) then (bif (eqb (x3.deref.at 0).toI 9) then (bif (isPtrD x3) then (bif (eqb ((x3.deref.at 6).toL.length : Int) 1) then (bif (isPtrD x3) then (bif (inb 0 (x3.deref.at 6).toL.length) then K x3 x7_0 x7_1 (D.b (eqb (((x3.deref.at 6).at (0 : Int).toNat).at 0).toI 2)) else none) else none) else K x3 x7_0 x7_1 (D.b false)) else none) else K x3 x7_0 x7_1 (D.b false)) else none)
def s22_4 (x3 x7_0 x7_1 x56 : D) : St := sts 139 [(3, V.f x3), (7, V.fn 42 [V.f x7_0, V.f x7_1] [Ty.p 29, Ty.p 25]), (56, V.f x56)] []
theorem e22_18 (N : Nat) (k : Kn R) (x3 x7_0 x7_1 : D) : runC PHI Tb42 N vc22_18 (s22_2 x3 x7_0 x7_1) k = m22_18 N x3 x7_0 x7_1 (fun x3 x7_0 x7_1 x56 => k .normal (s22_4 x3 x7_0 x7_1 x56)) := by
  refine Eq.trans (runC_post _ _ _ k) (Eq.trans (ops_run _ _ _ _) (by kernel_rfl))
def m22_19 (N : Nat) (x3 x7_0 x7_1 x56 : D) (K : D → D → D → Option R) (Kr : D → Option R) : Option R :=
  (bif x56.toB then (bif (isPtrD x3) then (bif (inb 0 (x3.deref.at 6).toL.length) then (bif (pr42 (((x3.deref.at 6).at (0 : Int).toNat).at 3) x7_0 x7_1) then (bif (eqb (sp42_0 (((x3.deref.at 6).at (0 : Int).toNat).at 3) x7_0 x7_1) 0) then Kr (D.i 0) else (bif (isPtrD x3) then (bif (x3.deref.at 4).toB then (bif (!eqb (sp42_0 (((x3.deref.at 6).at (0 : Int).toNat).at 3) x7_0 x7_1) 0) then Kr (D.i (IntKind.wrap IntKind.i64 (Int.tdiv (IntKind.wrap IntKind.i64 (1000 * (IntKind.wrap IntKind.i64 ((sp42_0 (((x3.deref.at 6).at (0 : Int).toNat).at 3) x7_0 x7_1) - ((sp42_1 (((x3.deref.at 6).at (0 : Int).toNat).at 3) x7_0 x7_1).at 1).toI)))) (sp42_0 (((x3.deref.at 6).at (0 : Int).toNat).at 3) x7_0 x7_1)))) else none) else (bif (!eqb (sp42_0 (((x3.deref.at 6).at (0 : Int).toNat).at 3) x7_0 x7_1) 0) then Kr (D.i (IntKind.wrap IntKind.i64 (Int.tdiv (IntKind.wrap IntKind.i64 (1000 * ((sp42_1 (((x3.deref.at 6).at (0 : Int).toNat).at 3) x7_0 x7_1).at 1).toI)) (sp42_0 (((x3.deref.at 6).at (0 : Int).toNat).at 3) x7_0 x7_1)))) else none)) else none)) else none) else none) else none) else K x3 x7_0 x7_1)
theorem e22_19 (N : Nat) (k : Kn R) (x3 x7_0 x7_1 x56 : D) : runC PHI Tb42 N vc22_19 (s22_4 x3 x7_0 x7_1 x56) k = m22_19 N x3 x7_0 x7_1 x56 (fun x3 x7_0 x7_1 => k .normal (s22_2 x3 x7_0 x7_1)) (fun x6 => k .ret (s22_3 x6)) := by kernel_rfl
def m22_17 (N : Nat) (x3 x7_0 x7_1 : D) (K : D → D → D → Option R) (Kr : D → Option R) : Option R :=
  (m22_18 N x3 x7_0 x7_1 (fun y3 y7_0 y7_1 y56 => (m22_19 N y3 y7_0 y7_1 y56 (fun y3 y7_0 y7_1 => K y3 y7_0 y7_1) Kr)))
theorem e22_17 (N : Nat) (k : Kn R) (x3 x7_0 x7_1 : D) : runC PHI Tb42 N vc22_17 (s22_2 x3 x7_0 x7_1) k = m22_17 N x3 x7_0 x7_1 (fun x3 x7_0 x7_1 => k .normal (s22_2 x3 x7_0 x7_1)) (fun x6 => k .ret (s22_3 x6)) := by
  have h2 := e22_18 N (kseq PHI Tb42 N vc22_19 k) x3 x7_0 x7_1
  have h3 := (funext fun y3 => funext fun y7_0 => funext fun y7_1 => funext fun y56 => (e22_19 N k y3 y7_0 y7_1 y56) : (fun (y3 y7_0 y7_1 y56 : D) => (kseq PHI Tb42 N vc22_19 k) .normal (s22_4 y3 y7_0 y7_1 y56)) = _)
  refine Eq.trans (runC_seq _ _ _ k) (Eq.trans h2 (Eq.trans (congrArg (fun K => m22_18 N x3 x7_0 x7_1 K) h3) (by kernel_rfl)))
def m22_44 (N : Nat) (x3 x7_0 x7_1 : D) (K : D → D → D → D → Option R) : Option R :=
  (bif (isPtrD x3) then (bif (eqb (x3.deref.at 0).toI 7) then (bif (isPtrD x3) then (bif (eqL (x3.deref.at 1).toS [61]) then (bif (isPtrD x3) then (bif (eqb ((x3.deref.at 6).toL.length : Int) 2) then (bif (isPtrD x3) then (bif (inb 0 (x3.deref.at 6).toL.length) then (bif (eqb (((x3.deref.at 6).at (0 : Int).toNat).at 0).toI 2) then (bif (isPtrD x3) then (bif (inb 1 (x3.deref.at 6).toL.length) then K x3 x7_0 x7_1 (D.b (eqb (((x3.deref.at 6).at (1 : Int).toNat).at 0).toI 2)) else none) else none) else K x3 x7_0 x7_1 (D.b false)) else none) else none) else K x3 x7_0 x7_1 (D.b false)) else none) else K x3 x7_0 x7_1 (D.b false)) else none) else K x3 x7_0 x7_1 (D.b false)) else none)
def s22_5 (x3 x7_0 x7_1 x112 : D) : St := sts 139 [(3, V.f x3), (7, V.fn 42 [V.f x7_0, V.f x7_1] [Ty.p 29, Ty.p 25]), (112, V.f x112)] []
theorem e22_44 (N : Nat) (k : Kn R) (x3 x7_0 x7_1 : D) : runC PHI Tb42 N vc22_44 (s22_2 x3 x7_0 x7_1) k = m22_44 N x3 x7_0 x7_1 (fun x3 x7_0 x7_1 x112 => k .normal (s22_5 x3 x7_0 x7_1 x112)) := by
  refine Eq.trans (runC_post _ _ _ k) (Eq.trans (ops_run _ _ _ _) (by kernel_rfl))
def m22_45 (N : Nat) (x3 x7_0 x7_1 x112 : D) (K : Option R) (Kr : D → Option R) : Option R :=
  (bif x112.toB then (bif (isPtrD x3) then (bif (inb 0 (x3.deref.at 6).toL.length) then (bif (pr42 (((x3.deref.at 6).at (0 : Int).toNat).at 3) x7_0 x7_1) then (bif (isPtrD x3) then (bif (inb 1 (x3.deref.at 6).toL.length) then (bif (pr42 (((x3.deref.at 6).at (1 : Int).toNat).at 3) x7_0 x7_1) then (bif (!eqb (mmI true 1 [((sp42_1 (((x3.deref.at 6).at (0 : Int).toNat).at 3) x7_0 x7_1).at 0).toI, ((sp42_1 (((x3.deref.at 6).at (1 : Int).toNat).at 3) x7_0 x7_1).at 0).toI]) 0) then Kr (D.i (IntKind.wrap IntKind.i64 (Int.tdiv 1000 (mmI true 1 [((sp42_1 (((x3.deref.at 6).at (0 : Int).toNat).at 3) x7_0 x7_1).at 0).toI, ((sp42_1 (((x3.deref.at 6).at (1 : Int).toNat).at 3) x7_0 x7_1).at 0).toI])))) else none) else none) else none) else none) else none) else none) else none) else K)
def s22_6 : St := sts 139 [] []
theorem e22_45 (N : Nat) (k : Kn R) (x3 x7_0 x7_1 x112 : D) : runC PHI Tb42 N vc22_45 (s22_5 x3 x7_0 x7_1 x112) k = m22_45 N x3 x7_0 x7_1 x112 (k .normal s22_6) (fun x6 => k .ret (s22_3 x6)) := by kernel_rfl
def m22_43 (N : Nat) (x3 x7_0 x7_1 : D) (K : Option R) (Kr : D → Option R) : Option R :=
  (m22_44 N x3 x7_0 x7_1 (fun y3 y7_0 y7_1 y112 => (m22_45 N y3 y7_0 y7_1 y112 (K) Kr)))
theorem e22_43 (N : Nat) (k : Kn R) (x3 x7_0 x7_1 : D) : runC PHI Tb42 N vc22_43 (s22_2 x3 x7_0 x7_1) k = m22_43 N x3 x7_0 x7_1 (k .normal s22_6) (fun x6 => k .ret (s22_3 x6)) := by
  have h2 := e22_44 N (kseq PHI Tb42 N vc22_45 k) x3 x7_0 x7_1
  have h3 := (funext fun y3 => funext fun y7_0 => funext fun y7_1 => funext fun y112 => (e22_45 N k y3 y7_0 y7_1 y112) : (fun (y3 y7_0 y7_1 y112 : D) => (kseq PHI Tb42 N vc22_45 k) .normal (s22_5 y3 y7_0 y7_1 y112)) = _)
  refine Eq.trans (runC_seq _ _ _ k) (Eq.trans h2 (Eq.trans (congrArg (fun K => m22_44 N x3 x7_0 x7_1 K) h3) (by kernel_rfl)))
def m22_54 (N : Nat) (Kr : D → Option R) : Option R :=
  Kr (D.i 333)
theorem e22_54 (N : Nat) (k : Kn R) : runC PHI Tb42 N vc22_54 s22_6 k = m22_54 N (fun x6 => k .ret (s22_3 x6)) := by kernel_rfl
def m22_42 (N : Nat) (x3 x7_0 x7_1 : D) (Kr : D → Option R) : Option R :=
  (m22_43 N x3 x7_0 x7_1 ((m22_54 N Kr)) Kr)
theorem e22_42 (N : Nat) (k : Kn R) (x3 x7_0 x7_1 : D) : runC PHI Tb42 N vc22_42 (s22_2 x3 x7_0 x7_1) k = m22_42 N x3 x7_0 x7_1 (fun x6 => k .ret (s22_3 x6)) := by
  have h2 := e22_43 N (kseq PHI Tb42 N vc22_54 k) x3 x7_0 x7_1
  have h3 := ((e22_54 N k ) : ((kseq PHI Tb42 N vc22_54 k) .normal s22_6) = _)
  refine Eq.trans (runC_seq _ _ _ k) (Eq.trans h2 (Eq.trans (congrArg (fun K => m22_43 N x3 x7_0 x7_1 K (fun x6 => (kseq PHI Tb42 N vc22_54 k) .ret (s22_3 x6))) h3) (by kernel_rfl)))
def m22_16 (N : Nat) (x3 x7_0 x7_1 : D) (Kr : D → Option R) : Option R :=
  (m22_17 N x3 x7_0 x7_1 (fun y3 y7_0 y7_1 => (m22_42 N y3 y7_0 y7_1 Kr)) Kr)
theorem e22_16 (N : Nat) (k : Kn R) (x3 x7_0 x7_1 : D) : runC PHI Tb42 N vc22_16 (s22_2 x3 x7_0 x7_1) k = m22_16 N x3 x7_0 x7_1 (fun x6 => k .ret (s22_3 x6)) := by
  have h2 := e22_17 N (kseq PHI Tb42 N vc22_42 k) x3 x7_0 x7_1
  have h3 := (funext fun y3 => funext fun y7_0 => funext fun y7_1 => (e22_42 N k y3 y7_0 y7_1) : (fun (y3 y7_0 y7_1 : D) => (kseq PHI Tb42 N vc22_42 k) .normal (s22_2 y3 y7_0 y7_1)) = _)
  refine Eq.trans (runC_seq _ _ _ k) (Eq.trans h2 (Eq.trans (congrArg (fun K => m22_17 N x3 x7_0 x7_1 K (fun x6 => (kseq PHI Tb42 N vc22_42 k) .ret (s22_3 x6))) h3) (by kernel_rfl)))
def m22_4 (N : Nat) (x3 x7_0 x7_1 : D) (Kr : D → Option R) : Option R :=
  (m22_5 N x3 x7_0 x7_1 (fun y3 y7_0 y7_1 => (m22_16 N y3 y7_0 y7_1 Kr)) Kr)
theorem e22_4 (N : Nat) (k : Kn R) (x3 x7_0 x7_1 : D) : runC PHI Tb42 N vc22_4 (s22_2 x3 x7_0 x7_1) k = m22_4 N x3 x7_0 x7_1 (fun x6 => k .ret (s22_3 x6)) := by
  have h2 := e22_5 N (kseq PHI Tb42 N vc22_16 k) x3 x7_0 x7_1
  have h3 := (funext fun y3 => funext fun y7_0 => funext fun y7_1 => (e22_16 N k y3 y7_0 y7_1) : (fun (y3 y7_0 y7_1 : D) => (kseq PHI Tb42 N vc22_16 k) .normal (s22_2 y3 y7_0 y7_1)) = _)
  refine Eq.trans (runC_seq _ _ _ k) (Eq.trans h2 (Eq.trans (congrArg (fun K => m22_5 N x3 x7_0 x7_1 K (fun x6 => (kseq PHI Tb42 N vc22_16 k) .ret (s22_3 x6))) h3) (by kernel_rfl)))
def m22_2 (N : Nat) (x3 x4 x5 : D) (Kr : D → Option R) : Option R :=
  (m22_3 N x3 x4 x5 (fun y3 y7_0 y7_1 => (m22_4 N y3 y7_0 y7_1 Kr)))
theorem e22_2 (N : Nat) (k : Kn R) (x3 x4 x5 : D) : runC PHI Tb42 N vc22_2 (s22_1 x3 x4 x5) k = m22_2 N x3 x4 x5 (fun x6 => k .ret (s22_3 x6)) := by
  have h2 := e22_3 N (kseq PHI Tb42 N vc22_4 k) x3 x4 x5
  have h3 := (funext fun y3 => funext fun y7_0 => funext fun y7_1 => (e22_4 N k y3 y7_0 y7_1) : (fun (y3 y7_0 y7_1 : D) => (kseq PHI Tb42 N vc22_4 k) .normal (s22_2 y3 y7_0 y7_1)) = _)
  refine Eq.trans (runC_seq _ _ _ k) (Eq.trans h2 (Eq.trans (congrArg (fun K => m22_3 N x3 x4 x5 K) h3) (by kernel_rfl)))
def m22_0 (N : Nat) (x0 x1 x2 : D) (Kr : D → Option R) : Option R :=
  (m22_1 N x0 x1 x2 (fun y3 y4 y5 => (m22_2 N y3 y4 y5 Kr)))
theorem e22_0 (N : Nat) (k : Kn R) (x0 x1 x2 : D) : runC PHI Tb42 N vc22_0 (s22_0 x0 x1 x2) k = m22_0 N x0 x1 x2 (fun x6 => k .ret (s22_3 x6)) := by
  have h2 := e22_1 N (kseq PHI Tb42 N vc22_2 k) x0 x1 x2
  have h3 := (funext fun y3 => funext fun y4 => funext fun y5 => (e22_2 N k y3 y4 y5) : (fun (y3 y4 y5 : D) => (kseq PHI Tb42 N vc22_2 k) .normal (s22_1 y3 y4 y5)) = _)
  refine Eq.trans (runC_seq _ _ _ k) (Eq.trans h2 (Eq.trans (congrArg (fun K => m22_1 N x0 x1 x2 K) h3) (by kernel_rfl)))
theorem r22 (N : Nat) (x0 x1 x2 : D) : runC PHI Tb42 N vf22.body (enterV vf22 [V.f x0, V.f x1, V.f x2] []) (finish vf22) = m22_0 N x0 x1 x2 (fun x6 => finish vf22 .ret (s22_3 x6)) := 
  Eq.trans (runC_pre (s1 := (s22_0 x0 x1 x2)) (by kernel_rfl) _ _) (Eq.trans (e22_0 N (finish vf22) x0 x1 x2) (by kernel_rfl))
end
def Tb22 : CallF := extend Tb42 22 (fn3 (fun _ _ _ => true) fun n r c => .f (.i (sp22 n r c)))
theorem ok22 : FnOk Try.prog PHI Tb22 := FnOk.add3 hPHI ok42 (by kernel_rfl) fun n r c ha _ => ⟨0, (r22 0 n r c).trans (by
  simp only [m22_1, m22_3, m22_5, m22_18, m22_19, m22_17, m22_44, m22_45, m22_43, m22_54, m22_42, m22_16, m22_4, m22_2, m22_0, isPtr_p, deref_p, toB_b, cond_true, pr42, Bool.and_self, sp22, sp42_0, sp42_1, toI_i]
  cases sp17_3 n
  · unfold gRest
    have e0 : (n.at 6).at (0 : Int).toNat = a0 n := rfl
    have e1 : (n.at 6).at (1 : Int).toNat = a1 n := rfl
    rw [e0, e1]
    cases h9 : eqb (n.at 0).toI 9
    · cases eqb (n.at 0).toI 7
      · rfl
      · cases eqL (n.at 1).toS [61]
        · rfl
        · cases h2 : eqb ((n.at 6).toL.length : Int) 2
          · rfl
          · have hl : ((n.at 6).toL.length : Int) = ((2 : Nat) : Int) := of_decide_eq_true h2
            rw [show inb 0 (n.at 6).toL.length = true from len_in (i := 0) hl (by omega), show inb 1 (n.at 6).toL.length = true from len_in (i := 1) hl (by omega)]
            cases eqb ((a0 n).at 0).toI 2
            · rfl
            · cases eqb ((a1 n).at 0).toI 2
              · rfl
              · simp only [toB_b, cond_true, cond_false, Bool.and_self, Bool.false_and, eqb_f (mm1 _ _), Bool.not_false]
                rfl
    · have h7 : eqb (n.at 0).toI 7 = false := eqb_f (by have : (n.at 0).toI = 9 := of_decide_eq_true h9; omega)
      rw [h7]
      cases h1 : eqb ((n.at 6).toL.length : Int) 1
      · rfl
      · have hl : ((n.at 6).toL.length : Int) = ((1 : Nat) : Int) := of_decide_eq_true h1
        rw [show inb 0 (n.at 6).toL.length = true from len_in (i := 0) hl (by omega)]
        cases eqb ((a0 n).at 0).toI 2
        · rfl
        · simp only [toB_b, cond_true, cond_false, Bool.and_self]
          cases eqb (of0 ((a0 n).at 3).toI r c) 0
          · cases (n.at 4).toB <;> rfl
          · rfl
  · rfl)⟩
def sp43_0 (a r c : D) : Int := of0 a.toI r c
def sp43_1 (a r c : D) : D := of1 a.toI r c
section
variable {R : Type}
def m43_0 (N : Nat) (x0 x1 x2 : D) (Kr : D → D → Option R) : Option R :=
  (bif (ltb x0.toI 0) then (bif true then Kr (D.i 0) (D.p (D.ag [(D.i 0), (D.i 0), (D.sz [])])) else (bif (inb x0.toI x1.toL.length) then (bif (inb x0.toI x2.toL.length) then Kr (D.i (sp36 (x1.at (x0.toI : Int).toNat) (D.i 1099511627776))) (D.p (D.ag [(D.i (sp36 ((x2.at (x0.toI : Int).toNat).at 0) (D.i (sp36 (x1.at (x0.toI : Int).toNat) (D.i 1099511627776))))), (D.i (sp36 ((x2.at (x0.toI : Int).toNat).at 1) (D.i (sp36 (x1.at (x0.toI : Int).toNat) (D.i 1099511627776))))), ((x2.at (x0.toI : Int).toNat).at 2)])) else none) else none)) else (bif (leb (x1.toL.length : Int) x0.toI) then (bif true then Kr (D.i 0) (D.p (D.ag [(D.i 0), (D.i 0), (D.sz [])])) else (bif (inb x0.toI x1.toL.length) then (bif (inb x0.toI x2.toL.length) then Kr (D.i (sp36 (x1.at (x0.toI : Int).toNat) (D.i 1099511627776))) (D.p (D.ag [(D.i (sp36 ((x2.at (x0.toI : Int).toNat).at 0) (D.i (sp36 (x1.at (x0.toI : Int).toNat) (D.i 1099511627776))))), (D.i (sp36 ((x2.at (x0.toI : Int).toNat).at 1) (D.i (sp36 (x1.at (x0.toI : Int).toNat) (D.i 1099511627776))))), ((x2.at (x0.toI : Int).toNat).at 2)])) else none) else none)) else (bif (leb (x2.toL.length : Int) x0.toI) then Kr (D.i 0) (D.p (D.ag [(D.i 0), (D.i 0), (D.sz [])])) else (bif (inb x0.toI x1.toL.length) then (bif (inb x0.toI x2.toL.length) then Kr (D.i (sp36 (x1.at (x0.toI : Int).toNat) (D.i 1099511627776))) (D.p (D.ag [(D.i (sp36 ((x2.at (x0.toI : Int).toNat).at 0) (D.i (sp36 (x1.at (x0.toI : Int).toNat) (D.i 1099511627776))))), (D.i (sp36 ((x2.at (x0.toI : Int).toNat).at 1) (D.i (sp36 (x1.at (x0.toI : Int).toNat) (D.i 1099511627776))))), ((x2.at (x0.toI : Int).toNat).at 2)])) else none) else none))))
def s43_0 (x0 x1 x2 : D) : St := sts 46 [(0, V.f x0), (1, V.f x1), (2, V.f x2)] []
def s43_1 (x6 x7 : D) : St := sts 46 [(6, V.f x6), (7, V.f x7)] []
theorem e43_0 (N : Nat) (k : Kn R) (x0 x1 x2 : D) : runC PHI Tb22 N vc43_0 (s43_0 x0 x1 x2) k = m43_0 N x0 x1 x2 (fun x6 x7 => k .ret (s43_1 x6 x7)) := by kernel_rfl
theorem r43 (N : Nat) (x0 x1 x2 : D) : runC PHI Tb22 N vf43.body (enterV vf43 [V.f x0, V.f x1, V.f x2] []) (finish vf43) = m43_0 N x0 x1 x2 (fun x6 x7 => finish vf43 .ret (s43_1 x6 x7)) := 
  Eq.trans (runC_pre (s1 := (s43_0 x0 x1 x2)) (by kernel_rfl) _ _) (Eq.trans (e43_0 N (finish vf43) x0 x1 x2) (by kernel_rfl))
end
def Tb43 : CallF := extend Tb22 43 (fn3 (fun _ _ _ => true) fun a r c => .t [.f (.i (sp43_0 a r c)), .f (sp43_1 a r c)])
theorem ok43 : FnOk Try.prog PHI Tb43 := FnOk.add3 hPHI ok22 (by kernel_rfl) fun a r c ha hp => ⟨0, (r43 0 a r c).trans (by
  unfold m43_0 sp43_0 sp43_1 of0 of1
  cases ho : oOk a.toI r c
  · unfold oOk at ho
    cases h1 : ltb a.toI 0
    · cases h2 : leb (r.toL.length : Int) a.toI
      · cases h3 : leb (c.toL.length : Int) a.toI
        · rw [h1, h2, h3] at ho; cases ho
        · rfl
      · rfl
    · rfl
  · obtain ⟨q1, q2, q3⟩ := oOk_in ho
    have i1 : inb a.toI r.toL.length = true := inb_of (by omega) q2
    have i2 : inb a.toI c.toL.length = true := inb_of (by omega) q3
    rw [ltb_f q1, leb_f (by omega), leb_f (by omega), i1, i2]
    rfl)⟩
def sp23 (n r c : D) : Int := sp22 n r c
theorem share_Q (r c o : D) {x y : D} (h : Q x y) : sp12 r c o x = sp12 r c o y := by
  unfold sp12
  have k1 : kd x = kd y := by unfold kd; rw [h.k]
  have n1 : num x = num y := by unfold num; rw [h.k, h.n]
  rw [k1, n1]
section
variable {R : Type}
def m23_1 (N : Nat) (x0 x1 x2 : D) (K : D → D → D → Option R) : Option R :=
  K x1 x2 (D.p x0)
def s23_0 (x0 x1 x2 : D) : St := sts 141 [(0, V.f x0), (1, V.f x1), (2, V.f x2)] []
def s23_1 (x1 x2 x3 : D) : St := sts 141 [(1, V.f x1), (2, V.f x2), (3, V.f x3)] []
theorem e23_1 (N : Nat) (k : Kn R) (x0 x1 x2 : D) : runC PHI Tb43 N vc23_1 (s23_0 x0 x1 x2) k = m23_1 N x0 x1 x2 (fun x1 x2 x3 => k .normal (s23_1 x1 x2 x3)) := by
  refine Eq.trans (runC_post _ _ _ k) (Eq.trans (ops_run _ _ _ _) (by kernel_rfl))
def m23_3 (N : Nat) (x1 x2 x3 : D) (K : D → D → D → D → D → D → D → Option R) : Option R :=
  (bif (isPtrD x3) then K x1 x2 x3 (D.i (sp18_0 x3.deref)) (sp18_1 x3.deref) (D.p (sp18_2 x3.deref)) (D.b (sp18_3 x3.deref)) else none)
def s23_2 (x1 x2 x3 x7 x8 x9 x10 : D) : St := sts 141 [(1, V.f x1), (2, V.f x2), (3, V.f x3), (7, V.f x7), (8, V.f x8), (9, V.f x9), (10, V.f x10)] []
theorem e23_3 (N : Nat) (k : Kn R) (x1 x2 x3 : D) : runC PHI Tb43 N vc23_3 (s23_1 x1 x2 x3) k = m23_3 N x1 x2 x3 (fun x1 x2 x3 x7 x8 x9 x10 => k .normal (s23_2 x1 x2 x3 x7 x8 x9 x10)) := by
  refine Eq.trans (runC_post _ _ _ k) (Eq.trans (ops_run _ _ _ _) (by kernel_rfl))
def m23_5 (N : Nat) (x1 x2 x3 x7 x8 x9 x10 : D) (K : D → D → D → Option R) (Kr : D → Option R) : Option R :=
  (bif x10.toB then (bif (isPtrD x9) then Kr (D.i (sp13 (D.i (sp43_0 x7 x1 x2)) (sp43_1 x7 x1 x2) x8 x9.deref)) else none) else K x1 x2 x3)
def s23_3 (x6 : D) : St := sts 141 [(6, V.f x6)] []
theorem e23_5 (N : Nat) (k : Kn R) (x1 x2 x3 x7 x8 x9 x10 : D) : runC PHI Tb43 N vc23_5 (s23_2 x1 x2 x3 x7 x8 x9 x10) k = m23_5 N x1 x2 x3 x7 x8 x9 x10 (fun x1 x2 x3 => k .normal (s23_1 x1 x2 x3)) (fun x6 => k .ret (s23_3 x6)) := by kernel_rfl
def m23_16 (N : Nat) (x1 x2 x3 : D) (K : D → D → D → D → Option R) : Option R :=
  (bif (isPtrD x3) then (bif (eqb (x3.deref.at 0).toI 9) then (bif (isPtrD x3) then (bif (eqb ((x3.deref.at 6).toL.length : Int) 1) then (bif (isPtrD x3) then (bif (inb 0 (x3.deref.at 6).toL.length) then K x1 x2 x3 (D.b (eqb (((x3.deref.at 6).at (0 : Int).toNat).at 0).toI 2)) else none) else none) else K x1 x2 x3 (D.b false)) else none) else K x1 x2 x3 (D.b false)) else none)
def s23_4 (x1 x2 x3 x55 : D) : St := sts 141 [(1, V.f x1), (2, V.f x2), (3, V.f x3), (55, V.f x55)] []
theorem e23_16 (N : Nat) (k : Kn R) (x1 x2 x3 : D) : runC PHI Tb43 N vc23_16 (s23_1 x1 x2 x3) k = m23_16 N x1 x2 x3 (fun x1 x2 x3 x55 => k .normal (s23_4 x1 x2 x3 x55)) := by
  refine Eq.trans (runC_post _ _ _ k) (Eq.trans (ops_run _ _ _ _) (by kernel_rfl))
def m23_17 (N : Nat) (x1 x2 x3 x55 : D) (K : D → D → D → Option R) (Kr : D → Option R) : Option R :=
  (bif x55.toB then (bif (isPtrD x3) then (bif (inb 0 (x3.deref.at 6).toL.length) then (bif (eqb (sp43_0 (((x3.deref.at 6).at (0 : Int).toNat).at 3) x1 x2) 0) then Kr (D.i 0) else (bif (isPtrD x3) then (bif (x3.deref.at 4).toB then (bif (!eqb (sp43_0 (((x3.deref.at 6).at (0 : Int).toNat).at 3) x1 x2) 0) then Kr (D.i (IntKind.wrap IntKind.i64 (Int.tdiv (IntKind.wrap IntKind.i64 (1000 * (IntKind.wrap IntKind.i64 ((sp43_0 (((x3.deref.at 6).at (0 : Int).toNat).at 3) x1 x2) - ((sp43_1 (((x3.deref.at 6).at (0 : Int).toNat).at 3) x1 x2).at 1).toI)))) (sp43_0 (((x3.deref.at 6).at (0 : Int).toNat).at 3) x1 x2)))) else none) else (bif (!eqb (sp43_0 (((x3.deref.at 6).at (0 : Int).toNat).at 3) x1 x2) 0) then Kr (D.i (IntKind.wrap IntKind.i64 (Int.tdiv (IntKind.wrap IntKind.i64 (1000 * ((sp43_1 (((x3.deref.at 6).at (0 : Int).toNat).at 3) x1 x2).at 1).toI)) (sp43_0 (((x3.deref.at 6).at (0 : Int).toNat).at 3) x1 x2)))) else none)) else none)) else none) else none) else K x1 x2 x3)
theorem e23_17 (N : Nat) (k : Kn R) (x1 x2 x3 x55 : D) : runC PHI Tb43 N vc23_17 (s23_4 x1 x2 x3 x55) k = m23_17 N x1 x2 x3 x55 (fun x1 x2 x3 => k .normal (s23_1 x1 x2 x3)) (fun x6 => k .ret (s23_3 x6)) := by kernel_rfl
def m23_15 (N : Nat) (x1 x2 x3 : D) (K : D → D → D → Option R) (Kr : D → Option R) : Option R :=
  (m23_16 N x1 x2 x3 (fun y1 y2 y3 y55 => (m23_17 N y1 y2 y3 y55 (fun y1 y2 y3 => K y1 y2 y3) Kr)))
theorem e23_15 (N : Nat) (k : Kn R) (x1 x2 x3 : D) : runC PHI Tb43 N vc23_15 (s23_1 x1 x2 x3) k = m23_15 N x1 x2 x3 (fun x1 x2 x3 => k .normal (s23_1 x1 x2 x3)) (fun x6 => k .ret (s23_3 x6)) := by
  have h2 := e23_16 N (kseq PHI Tb43 N vc23_17 k) x1 x2 x3
  have h3 := (funext fun y1 => funext fun y2 => funext fun y3 => funext fun y55 => (e23_17 N k y1 y2 y3 y55) : (fun (y1 y2 y3 y55 : D) => (kseq PHI Tb43 N vc23_17 k) .normal (s23_4 y1 y2 y3 y55)) = _)
  refine Eq.trans (runC_seq _ _ _ k) (Eq.trans h2 (Eq.trans (congrArg (fun K => m23_16 N x1 x2 x3 K) h3) (by kernel_rfl)))
def m23_42 (N : Nat) (x1 x2 x3 : D) (K : D → D → D → D → Option R) : Option R :=
  (bif (isPtrD x3) then (bif (eqb (x3.deref.at 0).toI 7) then (bif (isPtrD x3) then (bif (eqL (x3.deref.at 1).toS [61]) then (bif (isPtrD x3) then (bif (eqb ((x3.deref.at 6).toL.length : Int) 2) then (bif (isPtrD x3) then (bif (inb 0 (x3.deref.at 6).toL.length) then (bif (eqb (((x3.deref.at 6).at (0 : Int).toNat).at 0).toI 2) then (bif (isPtrD x3) then (bif (inb 1 (x3.deref.at 6).toL.length) then K x1 x2 x3 (D.b (eqb (((x3.deref.at 6).at (1 : Int).toNat).at 0).toI 2)) else none) else none) else K x1 x2 x3 (D.b false)) else none) else none) else K x1 x2 x3 (D.b false)) else none) else K x1 x2 x3 (D.b false)) else none) else K x1 x2 x3 (D.b false)) else none)
def s23_5 (x1 x2 x3 x112 : D) : St := sts 141 [(1, V.f x1), (2, V.f x2), (3, V.f x3), (112, V.f x112)] []
theorem e23_42 (N : Nat) (k : Kn R) (x1 x2 x3 : D) : runC PHI Tb43 N vc23_42 (s23_1 x1 x2 x3) k = m23_42 N x1 x2 x3 (fun x1 x2 x3 x112 => k .normal (s23_5 x1 x2 x3 x112)) := by
  refine Eq.trans (runC_post _ _ _ k) (Eq.trans (ops_run _ _ _ _) (by kernel_rfl))
def m23_43 (N : Nat) (x1 x2 x3 x112 : D) (K : Option R) (Kr : D → Option R) : Option R :=
  (bif x112.toB then (bif (isPtrD x3) then (bif (inb 0 (x3.deref.at 6).toL.length) then (bif (isPtrD x3) then (bif (inb 1 (x3.deref.at 6).toL.length) then (bif (!eqb (mmI true 1 [((sp43_1 (((x3.deref.at 6).at (0 : Int).toNat).at 3) x1 x2).at 0).toI, ((sp43_1 (((x3.deref.at 6).at (1 : Int).toNat).at 3) x1 x2).at 0).toI]) 0) then Kr (D.i (IntKind.wrap IntKind.i64 (Int.tdiv 1000 (mmI true 1 [((sp43_1 (((x3.deref.at 6).at (0 : Int).toNat).at 3) x1 x2).at 0).toI, ((sp43_1 (((x3.deref.at 6).at (1 : Int).toNat).at 3) x1 x2).at 0).toI])))) else none) else none) else none) else none) else none) else K)
def s23_6 : St := sts 141 [] []
theorem e23_43 (N : Nat) (k : Kn R) (x1 x2 x3 x112 : D) : runC PHI Tb43 N vc23_43 (s23_5 x1 x2 x3 x112) k = m23_43 N x1 x2 x3 x112 (k .normal s23_6) (fun x6 => k .ret (s23_3 x6)) := by kernel_rfl
def m23_41 (N : Nat) (x1 x2 x3 : D) (K : Option R) (Kr : D → Option R) : Option R :=
  (m23_42 N x1 x2 x3 (fun y1 y2 y3 y112 => (m23_43 N y1 y2 y3 y112 (K) Kr)))
theorem e23_41 (N : Nat) (k : Kn R) (x1 x2 x3 : D) : runC PHI Tb43 N vc23_41 (s23_1 x1 x2 x3) k = m23_41 N x1 x2 x3 (k .normal s23_6) (fun x6 => k .ret (s23_3 x6)) := by
  have h2 := e23_42 N (kseq PHI Tb43 N vc23_43 k) x1 x2 x3
  have h3 := (funext fun y1 => funext fun y2 => funext fun y3 => funext fun y112 => (e23_43 N k y1 y2 y3 y112) : (fun (y1 y2 y3 y112 : D) => (kseq PHI Tb43 N vc23_43 k) .normal (s23_5 y1 y2 y3 y112)) = _)
  refine Eq.trans (runC_seq _ _ _ k) (Eq.trans h2 (Eq.trans (congrArg (fun K => m23_42 N x1 x2 x3 K) h3) (by kernel_rfl)))
def m23_52 (N : Nat) (Kr : D → Option R) : Option R :=
  Kr (D.i 333)
theorem e23_52 (N : Nat) (k : Kn R) : runC PHI Tb43 N vc23_52 s23_6 k = m23_52 N (fun x6 => k .ret (s23_3 x6)) := by kernel_rfl
def m23_40 (N : Nat) (x1 x2 x3 : D) (Kr : D → Option R) : Option R :=
  (m23_41 N x1 x2 x3 ((m23_52 N Kr)) Kr)
theorem e23_40 (N : Nat) (k : Kn R) (x1 x2 x3 : D) : runC PHI Tb43 N vc23_40 (s23_1 x1 x2 x3) k = m23_40 N x1 x2 x3 (fun x6 => k .ret (s23_3 x6)) := by
  have h2 := e23_41 N (kseq PHI Tb43 N vc23_52 k) x1 x2 x3
  have h3 := ((e23_52 N k ) : ((kseq PHI Tb43 N vc23_52 k) .normal s23_6) = _)
  refine Eq.trans (runC_seq _ _ _ k) (Eq.trans h2 (Eq.trans (congrArg (fun K => m23_41 N x1 x2 x3 K (fun x6 => (kseq PHI Tb43 N vc23_52 k) .ret (s23_3 x6))) h3) (by kernel_rfl)))
def m23_14 (N : Nat) (x1 x2 x3 : D) (Kr : D → Option R) : Option R :=
  (m23_15 N x1 x2 x3 (fun y1 y2 y3 => (m23_40 N y1 y2 y3 Kr)) Kr)
theorem e23_14 (N : Nat) (k : Kn R) (x1 x2 x3 : D) : runC PHI Tb43 N vc23_14 (s23_1 x1 x2 x3) k = m23_14 N x1 x2 x3 (fun x6 => k .ret (s23_3 x6)) := by
  have h2 := e23_15 N (kseq PHI Tb43 N vc23_40 k) x1 x2 x3
  have h3 := (funext fun y1 => funext fun y2 => funext fun y3 => (e23_40 N k y1 y2 y3) : (fun (y1 y2 y3 : D) => (kseq PHI Tb43 N vc23_40 k) .normal (s23_1 y1 y2 y3)) = _)
  refine Eq.trans (runC_seq _ _ _ k) (Eq.trans h2 (Eq.trans (congrArg (fun K => m23_15 N x1 x2 x3 K (fun x6 => (kseq PHI Tb43 N vc23_40 k) .ret (s23_3 x6))) h3) (by kernel_rfl)))
def m23_4 (N : Nat) (x1 x2 x3 x7 x8 x9 x10 : D) (Kr : D → Option R) : Option R :=
  (m23_5 N x1 x2 x3 x7 x8 x9 x10 (fun y1 y2 y3 => (m23_14 N y1 y2 y3 Kr)) Kr)
theorem e23_4 (N : Nat) (k : Kn R) (x1 x2 x3 x7 x8 x9 x10 : D) : runC PHI Tb43 N vc23_4 (s23_2 x1 x2 x3 x7 x8 x9 x10) k = m23_4 N x1 x2 x3 x7 x8 x9 x10 (fun x6 => k .ret (s23_3 x6)) := by
  have h2 := e23_5 N (kseq PHI Tb43 N vc23_14 k) x1 x2 x3 x7 x8 x9 x10
  have h3 := (funext fun y1 => funext fun y2 => funext fun y3 => (e23_14 N k y1 y2 y3) : (fun (y1 y2 y3 : D) => (kseq PHI Tb43 N vc23_14 k) .normal (s23_1 y1 y2 y3)) = _)
  refine Eq.trans (runC_seq _ _ _ k) (Eq.trans h2 (Eq.trans (congrArg (fun K => m23_5 N x1 x2 x3 x7 x8 x9 x10 K (fun x6 => (kseq PHI Tb43 N vc23_14 k) .ret (s23_3 x6))) h3) (by kernel_rfl)))
def m23_2 (N : Nat) (x1 x2 x3 : D) (Kr : D → Option R) : Option R :=
  (m23_3 N x1 x2 x3 (fun y1 y2 y3 y7 y8 y9 y10 => (m23_4 N y1 y2 y3 y7 y8 y9 y10 Kr)))
theorem e23_2 (N : Nat) (k : Kn R) (x1 x2 x3 : D) : runC PHI Tb43 N vc23_2 (s23_1 x1 x2 x3) k = m23_2 N x1 x2 x3 (fun x6 => k .ret (s23_3 x6)) := by
  have h2 := e23_3 N (kseq PHI Tb43 N vc23_4 k) x1 x2 x3
  have h3 := (funext fun y1 => funext fun y2 => funext fun y3 => funext fun y7 => funext fun y8 => funext fun y9 => funext fun y10 => (e23_4 N k y1 y2 y3 y7 y8 y9 y10) : (fun (y1 y2 y3 y7 y8 y9 y10 : D) => (kseq PHI Tb43 N vc23_4 k) .normal (s23_2 y1 y2 y3 y7 y8 y9 y10)) = _)
  refine Eq.trans (runC_seq _ _ _ k) (Eq.trans h2 (Eq.trans (congrArg (fun K => m23_3 N x1 x2 x3 K) h3) (by kernel_rfl)))
def m23_0 (N : Nat) (x0 x1 x2 : D) (Kr : D → Option R) : Option R :=
  (m23_1 N x0 x1 x2 (fun y1 y2 y3 => (m23_2 N y1 y2 y3 Kr)))
theorem e23_0 (N : Nat) (k : Kn R) (x0 x1 x2 : D) : runC PHI Tb43 N vc23_0 (s23_0 x0 x1 x2) k = m23_0 N x0 x1 x2 (fun x6 => k .ret (s23_3 x6)) := by
  have h2 := e23_1 N (kseq PHI Tb43 N vc23_2 k) x0 x1 x2
  have h3 := (funext fun y1 => funext fun y2 => funext fun y3 => (e23_2 N k y1 y2 y3) : (fun (y1 y2 y3 : D) => (kseq PHI Tb43 N vc23_2 k) .normal (s23_1 y1 y2 y3)) = _)
  refine Eq.trans (runC_seq _ _ _ k) (Eq.trans h2 (Eq.trans (congrArg (fun K => m23_1 N x0 x1 x2 K) h3) (by kernel_rfl)))
theorem r23 (N : Nat) (x0 x1 x2 : D) : runC PHI Tb43 N vf23.body (enterV vf23 [V.f x0, V.f x1, V.f x2] []) (finish vf23) = m23_0 N x0 x1 x2 (fun x6 => finish vf23 .ret (s23_3 x6)) := 
  Eq.trans (runC_pre (s1 := (s23_0 x0 x1 x2)) (by kernel_rfl) _ _) (Eq.trans (e23_0 N (finish vf23) x0 x1 x2) (by kernel_rfl))
end
def Tb23 : CallF := extend Tb43 23 (fn3 (fun _ _ _ => true) fun n r c => .f (.i (sp23 n r c)))
theorem ok23 : FnOk Try.prog PHI Tb23 := FnOk.add3 hPHI ok43 (by kernel_rfl) fun n r c ha _ => ⟨0, (r23 0 n r c).trans (by
  have hq := share_Q (.i (of0 (sp17_0 n) r c)) (of1 (sp17_0 n) r c) (sp17_1 n) (agv_Q (ha.is 0 rfl rfl))
  simp only [m23_1, m23_3, m23_5, m23_16, m23_17, m23_15, m23_42, m23_43, m23_41, m23_52, m23_40, m23_14, m23_4, m23_2, m23_0, isPtr_p, deref_p, toB_b, cond_true, sp23, sp22, sp43_0, sp43_1, sp13, sp18_0, sp18_1, sp18_3, toI_i, ← hq]
  cases sp17_3 n
  · unfold gRest
    have e0 : (n.at 6).at (0 : Int).toNat = a0 n := rfl
    have e1 : (n.at 6).at (1 : Int).toNat = a1 n := rfl
    rw [e0, e1]
    cases h9 : eqb (n.at 0).toI 9
    · cases eqb (n.at 0).toI 7
      · rfl
      · cases eqL (n.at 1).toS [61]
        · rfl
        · cases h2 : eqb ((n.at 6).toL.length : Int) 2
          · rfl
          · have hl : ((n.at 6).toL.length : Int) = ((2 : Nat) : Int) := of_decide_eq_true h2
            rw [show inb 0 (n.at 6).toL.length = true from len_in (i := 0) hl (by omega), show inb 1 (n.at 6).toL.length = true from len_in (i := 1) hl (by omega)]
            cases eqb ((a0 n).at 0).toI 2
            · rfl
            · cases eqb ((a1 n).at 0).toI 2
              · rfl
              · simp only [toB_b, cond_true, cond_false, Bool.and_self, Bool.false_and, eqb_f (mm1 _ _), Bool.not_false]
                rfl
    · have h7 : eqb (n.at 0).toI 7 = false := eqb_f (by have : (n.at 0).toI = 9 := of_decide_eq_true h9; omega)
      rw [h7]
      cases h1 : eqb ((n.at 6).toL.length : Int) 1
      · rfl
      · have hl : ((n.at 6).toL.length : Int) = ((1 : Nat) : Int) := of_decide_eq_true h1
        rw [show inb 0 (n.at 6).toL.length = true from len_in (i := 0) hl (by omega)]
        cases eqb ((a0 n).at 0).toI 2
        · rfl
        · simp only [toB_b, cond_true, cond_false, Bool.and_self]
          cases eqb (of0 ((a0 n).at 3).toI r c) 0
          · cases (n.at 4).toB <;> rfl
          · rfl
  · rfl)⟩
/-! ### The law -/
section
variable {R : Type}
def m6_1 (N : Nat) (x0 x1 x2 : D) (K : D → D → D → Option R) : Option R :=
  K x1 x2 (D.p x0)
def s6_0 (x0 x1 x2 : D) : St := sts 95 [(0, V.f x0), (1, V.f x1), (2, V.f x2)] []
def s6_1 (x1 x2 x3 : D) : St := sts 95 [(1, V.f x1), (2, V.f x2), (3, V.f x3)] []
theorem e6_1 (N : Nat) (k : Kn R) (x0 x1 x2 : D) : runC PHI Tb23 N vc6_1 (s6_0 x0 x1 x2) k = m6_1 N x0 x1 x2 (fun x1 x2 x3 => k .normal (s6_1 x1 x2 x3)) := by
  refine Eq.trans (runC_post _ _ _ k) (Eq.trans (ops_run _ _ _ _) (by kernel_rfl))
def m6_3 (N : Nat) (x1 x2 x3 : D) (K : D → D → D → Option R) (Kr : D → Option R) : Option R :=
  (bif (!sp7) then (bif true then Kr (D.b sp7) else K x1 x2 x3) else (bif (isPtrD x3) then (bif (pr16 x3.deref (D.i 200)) then (bif (ltb 200 (sp16 x3.deref (D.i 200))) then (bif true then Kr (D.b sp7) else K x1 x2 x3) else (bif (ltb 30 (x1.toL.length : Int)) then (bif true then Kr (D.b sp7) else K x1 x2 x3) else (bif (ltb 30 (x2.toL.length : Int)) then Kr (D.b sp7) else K x1 x2 x3))) else none) else none))
def s6_2 (x6 : D) : St := sts 95 [(6, V.f x6)] []
theorem e6_3 (N : Nat) (k : Kn R) (x1 x2 x3 : D) : runC PHI Tb23 N vc6_3 (s6_1 x1 x2 x3) k = m6_3 N x1 x2 x3 (fun x1 x2 x3 => k .normal (s6_1 x1 x2 x3)) (fun x6 => k .ret (s6_2 x6)) := by kernel_rfl
def m6_12 (N : Nat) (x1 x2 x3 : D) (K : D → D → D → D → D → D → Option R) : Option R :=
  K x1 x2 x3 x2 (D.i (x2.toL.length : Int)) (D.i 0)
def s6_3 (x1 x2 x3 x35 x36 x37 : D) : St := sts 95 [(1, V.f x1), (2, V.f x2), (3, V.f x3), (35, V.f x35), (36, V.f x36), (37, V.f x37)] []
theorem e6_12 (N : Nat) (k : Kn R) (x1 x2 x3 : D) : runC PHI Tb23 N vc6_12 (s6_1 x1 x2 x3) k = m6_12 N x1 x2 x3 (fun x1 x2 x3 x35 x36 x37 => k .normal (s6_3 x1 x2 x3 x35 x36 x37)) := by
  refine Eq.trans (runC_post _ _ _ k) (Eq.trans (ops_run _ _ _ _) (by kernel_rfl))
def m6_15 (N : Nat) (x1 x2 x3 x35 x36 x37 : D) (K : D → D → D → D → D → D → Option R) (K0 : D → D → D → Option R) (Kr : D → Option R) : Option R :=
  (bif (ltb x37.toI x36.toI) then (bif (inb x37.toI x35.toL.length) then (bif (ltb 100 (((x35.at (x37.toI : Int).toNat).at 2).toL.length : Int)) then Kr (D.b true) else K x1 x2 x3 x35 x36 (D.i (IntKind.wrap IntKind.i64 (x37.toI + 1)))) else none) else K0 x1 x2 x3)
theorem e6_15 (N : Nat) (k : Kn R) (x1 x2 x3 x35 x36 x37 : D) : runC PHI Tb23 N vc6_15 (s6_3 x1 x2 x3 x35 x36 x37) k = m6_15 N x1 x2 x3 x35 x36 x37 (fun x1 x2 x3 x35 x36 x37 => k .normal (s6_3 x1 x2 x3 x35 x36 x37)) (fun x1 x2 x3 => k (.exit 0) (s6_1 x1 x2 x3)) (fun x6 => k .ret (s6_2 x6)) := by kernel_rfl
def l6_14 (N : Nat) (j : Nat) (x1 x2 x3 x35 x36 x37 : D) (K0 : D → D → D → Option R) (Kr : D → Option R) : Option R :=
  match j with
  | 0 => none
  | j + 1 => (m6_15 N x1 x2 x3 x35 x36 x37 (fun y1 y2 y3 y35 y36 y37 => l6_14 N j y1 y2 y3 y35 y36 y37 K0 Kr) K0 Kr)
def m6_14 (N : Nat) (x1 x2 x3 x35 x36 x37 : D) (K0 : D → D → D → Option R) (Kr : D → Option R) : Option R :=
  l6_14 N N x1 x2 x3 x35 x36 x37 K0 Kr
theorem el6_14 (N : Nat) (k : Kn R) : ∀ (j : Nat) (x1 x2 x3 x35 x36 x37 : D), loopGo (runC PHI Tb23 N vc6_15) j (s6_3 x1 x2 x3 x35 x36 x37) k = l6_14 N j x1 x2 x3 x35 x36 x37 (fun x1 x2 x3 => k (.exit 0) (s6_1 x1 x2 x3)) (fun x6 => k .ret (s6_2 x6))
  | 0, _, _, _, _, _, _ => by kernel_rfl
  | j + 1, x1, x2, x3, x35, x36, x37 => by
    have h2 := e6_15 N (kloop PHI Tb23 N vc6_15 j k) x1 x2 x3 x35 x36 x37
    have h3 : (fun (y1 y2 y3 y35 y36 y37 : D) => (kloop PHI Tb23 N vc6_15 j k) .normal (s6_3 y1 y2 y3 y35 y36 y37)) = (fun (y1 y2 y3 y35 y36 y37 : D) => l6_14 N j y1 y2 y3 y35 y36 y37 (fun x1 x2 x3 => k (.exit 0) (s6_1 x1 x2 x3)) (fun x6 => k .ret (s6_2 x6))) := funext fun y1 => funext fun y2 => funext fun y3 => funext fun y35 => funext fun y36 => funext fun y37 => (el6_14 N k j y1 y2 y3 y35 y36 y37)
    refine Eq.trans (loop_succ _ j _ k) (Eq.trans h2 (Eq.trans (congrArg (fun K => m6_15 N x1 x2 x3 x35 x36 x37 K (fun x1 x2 x3 => (kloop PHI Tb23 N vc6_15 j k) (.exit 0) (s6_1 x1 x2 x3)) (fun x6 => (kloop PHI Tb23 N vc6_15 j k) .ret (s6_2 x6))) h3) (by kernel_rfl)))
theorem e6_14 (N : Nat) (k : Kn R) (x1 x2 x3 x35 x36 x37 : D) : runC PHI Tb23 N vc6_14 (s6_3 x1 x2 x3 x35 x36 x37) k = m6_14 N x1 x2 x3 x35 x36 x37 (fun x1 x2 x3 => k (.exit 0) (s6_1 x1 x2 x3)) (fun x6 => k .ret (s6_2 x6)) := by
  refine Eq.trans (runC_loop _ _ k) (Eq.trans (el6_14 N k N x1 x2 x3 x35 x36 x37) (by kernel_rfl))
def m6_13 (N : Nat) (x1 x2 x3 x35 x36 x37 : D) (K : D → D → D → Option R) (Kr : D → Option R) : Option R :=
  (m6_14 N x1 x2 x3 x35 x36 x37 (fun y1 y2 y3 => K y1 y2 y3) Kr)
theorem e6_13 (N : Nat) (k : Kn R) (x1 x2 x3 x35 x36 x37 : D) : runC PHI Tb23 N vc6_13 (s6_3 x1 x2 x3 x35 x36 x37) k = m6_13 N x1 x2 x3 x35 x36 x37 (fun x1 x2 x3 => k .normal (s6_1 x1 x2 x3)) (fun x6 => k .ret (s6_2 x6)) := by
  refine Eq.trans (runC_block _ _ _ k) (Eq.trans (e6_14 N (kblk 0 k) x1 x2 x3 x35 x36 x37) (by kernel_rfl))
def m6_11 (N : Nat) (x1 x2 x3 : D) (K : D → D → D → Option R) (Kr : D → Option R) : Option R :=
  (m6_12 N x1 x2 x3 (fun y1 y2 y3 y35 y36 y37 => (m6_13 N y1 y2 y3 y35 y36 y37 (fun y1 y2 y3 => K y1 y2 y3) Kr)))
theorem e6_11 (N : Nat) (k : Kn R) (x1 x2 x3 : D) : runC PHI Tb23 N vc6_11 (s6_1 x1 x2 x3) k = m6_11 N x1 x2 x3 (fun x1 x2 x3 => k .normal (s6_1 x1 x2 x3)) (fun x6 => k .ret (s6_2 x6)) := by
  have h2 := e6_12 N (kseq PHI Tb23 N vc6_13 k) x1 x2 x3
  have h3 := (funext fun y1 => funext fun y2 => funext fun y3 => funext fun y35 => funext fun y36 => funext fun y37 => (e6_13 N k y1 y2 y3 y35 y36 y37) : (fun (y1 y2 y3 y35 y36 y37 : D) => (kseq PHI Tb23 N vc6_13 k) .normal (s6_3 y1 y2 y3 y35 y36 y37)) = _)
  refine Eq.trans (runC_seq _ _ _ k) (Eq.trans h2 (Eq.trans (congrArg (fun K => m6_12 N x1 x2 x3 K) h3) (by kernel_rfl)))
def m6_34 (N : Nat) (x1 x2 x3 : D) (K : D → D → D → D → D → D → D → Option R) : Option R :=
  (bif (isPtrD x3) then K x1 x2 x3 (D.i (sp17_0 x3.deref)) (sp17_1 x3.deref) (D.p (sp17_2 x3.deref)) (D.b (sp17_3 x3.deref)) else none)
def s6_4 (x1 x2 x3 x9 x10 x11 x12 : D) : St := sts 95 [(1, V.f x1), (2, V.f x2), (3, V.f x3), (9, V.f x9), (10, V.f x10), (11, V.f x11), (12, V.f x12)] []
theorem e6_34 (N : Nat) (k : Kn R) (x1 x2 x3 : D) : runC PHI Tb23 N vc6_34 (s6_1 x1 x2 x3) k = m6_34 N x1 x2 x3 (fun x1 x2 x3 x9 x10 x11 x12 => k .normal (s6_4 x1 x2 x3 x9 x10 x11 x12)) := by
  refine Eq.trans (runC_post _ _ _ k) (Eq.trans (ops_run _ _ _ _) (by kernel_rfl))
def m6_36 (N : Nat) (x1 x2 x3 x9 x10 x11 x12 : D) (K : D → D → D → D → D → D → D → D → D → D → D → Option R) : Option R :=
  (bif (isPtrD x3) then K x1 x2 x3 x9 x10 x11 x12 (D.i (sp18_0 x3.deref)) (sp18_1 x3.deref) (D.p (sp18_2 x3.deref)) (D.b (sp18_3 x3.deref)) else none)
def s6_5 (x1 x2 x3 x9 x10 x11 x12 x13 x14 x15 x16 : D) : St := sts 95 [(1, V.f x1), (2, V.f x2), (3, V.f x3), (9, V.f x9), (10, V.f x10), (11, V.f x11), (12, V.f x12), (13, V.f x13), (14, V.f x14), (15, V.f x15), (16, V.f x16)] []
theorem e6_36 (N : Nat) (k : Kn R) (x1 x2 x3 x9 x10 x11 x12 : D) : runC PHI Tb23 N vc6_36 (s6_4 x1 x2 x3 x9 x10 x11 x12) k = m6_36 N x1 x2 x3 x9 x10 x11 x12 (fun x1 x2 x3 x9 x10 x11 x12 x13 x14 x15 x16 => k .normal (s6_5 x1 x2 x3 x9 x10 x11 x12 x13 x14 x15 x16)) := by
  refine Eq.trans (runC_post _ _ _ k) (Eq.trans (ops_run _ _ _ _) (by kernel_rfl))
def m6_39 (N : Nat) (x1 x2 x3 x9 x10 x11 x12 x13 x14 x15 x16 : D) (K : D → D → D → D → Option R) : Option R :=
  (bif (!eqb x9.toI x13.toI) then K x1 x2 x3 (D.b true) else (bif (!eqL x10.toS x14.toS) then K x1 x2 x3 (D.b true) else (bif (x12.toB != x16.toB) then K x1 x2 x3 (D.b true) else (bif (isPtrD x11) then (bif (isPtrD x15) then (bif (!(sp19 x11.deref x15.deref)) then K x1 x2 x3 (D.b true) else (bif (isPtrD x3) then (bif (pr20 x3.deref) then (bif (isPtrD x3) then (bif (pr21 x3.deref) then K x1 x2 x3 (D.b ((sp20 x3.deref) != (sp21 x3.deref))) else none) else none) else none) else none)) else none) else none))))
def s6_6 (x1 x2 x3 x85 : D) : St := sts 95 [(1, V.f x1), (2, V.f x2), (3, V.f x3), (85, V.f x85)] []
theorem e6_39 (N : Nat) (k : Kn R) (x1 x2 x3 x9 x10 x11 x12 x13 x14 x15 x16 : D) : runC PHI Tb23 N vc6_39 (s6_5 x1 x2 x3 x9 x10 x11 x12 x13 x14 x15 x16) k = m6_39 N x1 x2 x3 x9 x10 x11 x12 x13 x14 x15 x16 (fun x1 x2 x3 x85 => k .normal (s6_6 x1 x2 x3 x85)) := by
  refine Eq.trans (runC_post _ _ _ k) (Eq.trans (ops_run _ _ _ _) (by kernel_rfl))
def m6_40 (N : Nat) (x1 x2 x3 x85 : D) (K : D → D → D → Option R) (Kr : D → Option R) : Option R :=
  (bif x85.toB then Kr (D.b false) else K x1 x2 x3)
theorem e6_40 (N : Nat) (k : Kn R) (x1 x2 x3 x85 : D) : runC PHI Tb23 N vc6_40 (s6_6 x1 x2 x3 x85) k = m6_40 N x1 x2 x3 x85 (fun x1 x2 x3 => k .normal (s6_1 x1 x2 x3)) (fun x6 => k .ret (s6_2 x6)) := by kernel_rfl
def m6_38 (N : Nat) (x1 x2 x3 x9 x10 x11 x12 x13 x14 x15 x16 : D) (K : D → D → D → Option R) (Kr : D → Option R) : Option R :=
  (m6_39 N x1 x2 x3 x9 x10 x11 x12 x13 x14 x15 x16 (fun y1 y2 y3 y85 => (m6_40 N y1 y2 y3 y85 (fun y1 y2 y3 => K y1 y2 y3) Kr)))
theorem e6_38 (N : Nat) (k : Kn R) (x1 x2 x3 x9 x10 x11 x12 x13 x14 x15 x16 : D) : runC PHI Tb23 N vc6_38 (s6_5 x1 x2 x3 x9 x10 x11 x12 x13 x14 x15 x16) k = m6_38 N x1 x2 x3 x9 x10 x11 x12 x13 x14 x15 x16 (fun x1 x2 x3 => k .normal (s6_1 x1 x2 x3)) (fun x6 => k .ret (s6_2 x6)) := by
  have h2 := e6_39 N (kseq PHI Tb23 N vc6_40 k) x1 x2 x3 x9 x10 x11 x12 x13 x14 x15 x16
  have h3 := (funext fun y1 => funext fun y2 => funext fun y3 => funext fun y85 => (e6_40 N k y1 y2 y3 y85) : (fun (y1 y2 y3 y85 : D) => (kseq PHI Tb23 N vc6_40 k) .normal (s6_6 y1 y2 y3 y85)) = _)
  refine Eq.trans (runC_seq _ _ _ k) (Eq.trans h2 (Eq.trans (congrArg (fun K => m6_39 N x1 x2 x3 x9 x10 x11 x12 x13 x14 x15 x16 K) h3) (by kernel_rfl)))
def m6_45 (N : Nat) (x1 x2 x3 : D) (Kr : D → Option R) : Option R :=
  (bif (isPtrD x3) then (bif (isPtrD x3) then Kr (D.b (eqb (sp22 x3.deref x1 x2) (sp23 x3.deref x1 x2))) else none) else none)
theorem e6_45 (N : Nat) (k : Kn R) (x1 x2 x3 : D) : runC PHI Tb23 N vc6_45 (s6_1 x1 x2 x3) k = m6_45 N x1 x2 x3 (fun x6 => k .ret (s6_2 x6)) := by kernel_rfl
def m6_37 (N : Nat) (x1 x2 x3 x9 x10 x11 x12 x13 x14 x15 x16 : D) (Kr : D → Option R) : Option R :=
  (m6_38 N x1 x2 x3 x9 x10 x11 x12 x13 x14 x15 x16 (fun y1 y2 y3 => (m6_45 N y1 y2 y3 Kr)) Kr)
theorem e6_37 (N : Nat) (k : Kn R) (x1 x2 x3 x9 x10 x11 x12 x13 x14 x15 x16 : D) : runC PHI Tb23 N vc6_37 (s6_5 x1 x2 x3 x9 x10 x11 x12 x13 x14 x15 x16) k = m6_37 N x1 x2 x3 x9 x10 x11 x12 x13 x14 x15 x16 (fun x6 => k .ret (s6_2 x6)) := by
  have h2 := e6_38 N (kseq PHI Tb23 N vc6_45 k) x1 x2 x3 x9 x10 x11 x12 x13 x14 x15 x16
  have h3 := (funext fun y1 => funext fun y2 => funext fun y3 => (e6_45 N k y1 y2 y3) : (fun (y1 y2 y3 : D) => (kseq PHI Tb23 N vc6_45 k) .normal (s6_1 y1 y2 y3)) = _)
  refine Eq.trans (runC_seq _ _ _ k) (Eq.trans h2 (Eq.trans (congrArg (fun K => m6_38 N x1 x2 x3 x9 x10 x11 x12 x13 x14 x15 x16 K (fun x6 => (kseq PHI Tb23 N vc6_45 k) .ret (s6_2 x6))) h3) (by kernel_rfl)))
def m6_35 (N : Nat) (x1 x2 x3 x9 x10 x11 x12 : D) (Kr : D → Option R) : Option R :=
  (m6_36 N x1 x2 x3 x9 x10 x11 x12 (fun y1 y2 y3 y9 y10 y11 y12 y13 y14 y15 y16 => (m6_37 N y1 y2 y3 y9 y10 y11 y12 y13 y14 y15 y16 Kr)))
theorem e6_35 (N : Nat) (k : Kn R) (x1 x2 x3 x9 x10 x11 x12 : D) : runC PHI Tb23 N vc6_35 (s6_4 x1 x2 x3 x9 x10 x11 x12) k = m6_35 N x1 x2 x3 x9 x10 x11 x12 (fun x6 => k .ret (s6_2 x6)) := by
  have h2 := e6_36 N (kseq PHI Tb23 N vc6_37 k) x1 x2 x3 x9 x10 x11 x12
  have h3 := (funext fun y1 => funext fun y2 => funext fun y3 => funext fun y9 => funext fun y10 => funext fun y11 => funext fun y12 => funext fun y13 => funext fun y14 => funext fun y15 => funext fun y16 => (e6_37 N k y1 y2 y3 y9 y10 y11 y12 y13 y14 y15 y16) : (fun (y1 y2 y3 y9 y10 y11 y12 y13 y14 y15 y16 : D) => (kseq PHI Tb23 N vc6_37 k) .normal (s6_5 y1 y2 y3 y9 y10 y11 y12 y13 y14 y15 y16)) = _)
  refine Eq.trans (runC_seq _ _ _ k) (Eq.trans h2 (Eq.trans (congrArg (fun K => m6_36 N x1 x2 x3 x9 x10 x11 x12 K) h3) (by kernel_rfl)))
def m6_33 (N : Nat) (x1 x2 x3 : D) (Kr : D → Option R) : Option R :=
  (m6_34 N x1 x2 x3 (fun y1 y2 y3 y9 y10 y11 y12 => (m6_35 N y1 y2 y3 y9 y10 y11 y12 Kr)))
theorem e6_33 (N : Nat) (k : Kn R) (x1 x2 x3 : D) : runC PHI Tb23 N vc6_33 (s6_1 x1 x2 x3) k = m6_33 N x1 x2 x3 (fun x6 => k .ret (s6_2 x6)) := by
  have h2 := e6_34 N (kseq PHI Tb23 N vc6_35 k) x1 x2 x3
  have h3 := (funext fun y1 => funext fun y2 => funext fun y3 => funext fun y9 => funext fun y10 => funext fun y11 => funext fun y12 => (e6_35 N k y1 y2 y3 y9 y10 y11 y12) : (fun (y1 y2 y3 y9 y10 y11 y12 : D) => (kseq PHI Tb23 N vc6_35 k) .normal (s6_4 y1 y2 y3 y9 y10 y11 y12)) = _)
  refine Eq.trans (runC_seq _ _ _ k) (Eq.trans h2 (Eq.trans (congrArg (fun K => m6_34 N x1 x2 x3 K) h3) (by kernel_rfl)))
def m6_10 (N : Nat) (x1 x2 x3 : D) (Kr : D → Option R) : Option R :=
  (m6_11 N x1 x2 x3 (fun y1 y2 y3 => (m6_33 N y1 y2 y3 Kr)) Kr)
theorem e6_10 (N : Nat) (k : Kn R) (x1 x2 x3 : D) : runC PHI Tb23 N vc6_10 (s6_1 x1 x2 x3) k = m6_10 N x1 x2 x3 (fun x6 => k .ret (s6_2 x6)) := by
  have h2 := e6_11 N (kseq PHI Tb23 N vc6_33 k) x1 x2 x3
  have h3 := (funext fun y1 => funext fun y2 => funext fun y3 => (e6_33 N k y1 y2 y3) : (fun (y1 y2 y3 : D) => (kseq PHI Tb23 N vc6_33 k) .normal (s6_1 y1 y2 y3)) = _)
  refine Eq.trans (runC_seq _ _ _ k) (Eq.trans h2 (Eq.trans (congrArg (fun K => m6_11 N x1 x2 x3 K (fun x6 => (kseq PHI Tb23 N vc6_33 k) .ret (s6_2 x6))) h3) (by kernel_rfl)))
def m6_2 (N : Nat) (x1 x2 x3 : D) (Kr : D → Option R) : Option R :=
  (m6_3 N x1 x2 x3 (fun y1 y2 y3 => (m6_10 N y1 y2 y3 Kr)) Kr)
theorem e6_2 (N : Nat) (k : Kn R) (x1 x2 x3 : D) : runC PHI Tb23 N vc6_2 (s6_1 x1 x2 x3) k = m6_2 N x1 x2 x3 (fun x6 => k .ret (s6_2 x6)) := by
  have h2 := e6_3 N (kseq PHI Tb23 N vc6_10 k) x1 x2 x3
  have h3 := (funext fun y1 => funext fun y2 => funext fun y3 => (e6_10 N k y1 y2 y3) : (fun (y1 y2 y3 : D) => (kseq PHI Tb23 N vc6_10 k) .normal (s6_1 y1 y2 y3)) = _)
  refine Eq.trans (runC_seq _ _ _ k) (Eq.trans h2 (Eq.trans (congrArg (fun K => m6_3 N x1 x2 x3 K (fun x6 => (kseq PHI Tb23 N vc6_10 k) .ret (s6_2 x6))) h3) (by kernel_rfl)))
def m6_0 (N : Nat) (x0 x1 x2 : D) (Kr : D → Option R) : Option R :=
  (m6_1 N x0 x1 x2 (fun y1 y2 y3 => (m6_2 N y1 y2 y3 Kr)))
theorem e6_0 (N : Nat) (k : Kn R) (x0 x1 x2 : D) : runC PHI Tb23 N vc6_0 (s6_0 x0 x1 x2) k = m6_0 N x0 x1 x2 (fun x6 => k .ret (s6_2 x6)) := by
  have h2 := e6_1 N (kseq PHI Tb23 N vc6_2 k) x0 x1 x2
  have h3 := (funext fun y1 => funext fun y2 => funext fun y3 => (e6_2 N k y1 y2 y3) : (fun (y1 y2 y3 : D) => (kseq PHI Tb23 N vc6_2 k) .normal (s6_1 y1 y2 y3)) = _)
  refine Eq.trans (runC_seq _ _ _ k) (Eq.trans h2 (Eq.trans (congrArg (fun K => m6_1 N x0 x1 x2 K) h3) (by kernel_rfl)))
theorem r6 (N : Nat) (x0 x1 x2 : D) : runC PHI Tb23 N vf6.body (enterV vf6 [V.f x0, V.f x1, V.f x2] []) (finish vf6) = m6_0 N x0 x1 x2 (fun x6 => finish vf6 .ret (s6_2 x6)) := 
  Eq.trans (runC_pre (s1 := (s6_0 x0 x1 x2)) (by kernel_rfl) _ _) (Eq.trans (e6_0 N (finish vf6) x0 x1 x2) (by kernel_rfl))
end
def longC (c : D) (i : Nat) : Bool := ltb 100 (((c.toL.getD i .nil).at 2).toL.length : Int)
theorem in6 {R : Type} (N : Nat) (n r c : D) (hl : c.toL.length ≤ 9223372036854775807) (hN : c.toL.length < N) (K0 : D → D → D → Option R) (Kr : D → Option R) : l6_14 N N r c (.p n) c (.i (c.toL.length : Int)) (.i 0) K0 Kr = bif leb 0 (fst (longC c) c.toL.length 0) then Kr (.b true) else K0 r c (.p n) := by
  exact loop_find (fun j i => l6_14 N j r c (.p n) c (.i (c.toL.length : Int)) (.i (i : Nat)) K0 Kr) (longC c) c.toL.length (K0 r c (.p n)) (fun _ => Kr (.b true))
    (fun j i hi => by simp only [l6_14, m6_15, toI_i, cond_true, ltb_n hi, inb_t hi, at_nat, succ_n hi hl, longC])
    (fun j => by simp only [l6_14, m6_15, toI_i, ltb_self, cond_false])
    c.toL.length 0 N (by omega) hN
theorem run6 {R : Type} (N : Nat) (n r c : D) (hn : Is Try.prog 48 n) (hl : c.toL.length ≤ 9223372036854775807) (hN : c.toL.length < N) (Kr : D → Option R) : m6_0 N n r c Kr = Kr (.b true) := by
  have h33 : m6_33 N r c (.p n) Kr = Kr (.b true) := by
    have he : sp19 (sp17_2 n) (sp18_2 n) = true := exact_Q (agv_Q hn)
    simp only [m6_33, m6_34, m6_35, m6_36, m6_37, m6_38, m6_39, m6_40, m6_45, isPtr_p, deref_p, toI_i, toB_b, cond_true, cond_false, sp18_0, sp18_1, sp18_3, sp23, sp21, pr20, pr21, eqb_self, eqL_self, he, Bool.not_true, bne_self_eq_false]
  simp only [m6_0, m6_1, m6_2, m6_3, m6_10, m6_11, m6_12, m6_13, m6_14, isPtr_p, deref_p, cond_true, pr16, sp7, Bool.not_true, cond_false]
  rw [in6 N n r c hl hN, h33]
  cases ltb 200 (sp16 n (.i 200)) <;> cases ltb 30 (r.toL.length : Int) <;> cases ltb 30 (c.toL.length : Int) <;> cases leb 0 (fst (longC c) c.toL.length 0) <;> rfl
def Tb6 : CallF := extend Tb23 6 (fn3 (fun _ _ _ => true) fun _ _ _ => .f (.b true))
theorem ok6 : FnOk Try.prog PHI Tb6 := FnOk.add3 hPHI ok23 (by kernel_rfl) fun n r c ha _ => ⟨c.toL.length + 1, (r6 _ n r c).trans ((run6 _ n r c (ha.is 0 rfl rfl) ((ha.is 2 rfl rfl).len' (e := 31) (by kernel_rfl)) (by omega) _).trans (by kernel_rfl))⟩

end Go.Vam.C15
