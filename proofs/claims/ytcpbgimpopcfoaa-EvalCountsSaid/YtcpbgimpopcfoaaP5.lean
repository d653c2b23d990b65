/- Chapter 14: what functions come to, part 5. No conditions. -/
import Derived.Test.YtcpbgimpopcfoaaP4
import Derived.KernelRfl
set_option linter.unusedVariables false
set_option linter.unusedSimpArgs false
set_option maxRecDepth 100000
namespace Go.Vam.C14
open Go.Proofs
def okA (h : D) : Bool := isSl h && leb (h.toL.length : Int) 1000000
theorem okA_eq {h : D} (e : okA h = true) : ∃ xs, h = .sl xs ∧ xs.length ≤ 1000000 := by
  unfold okA at e
  rw [Bool.and_eq_true] at e
  have h2 : (h.toL.length : Int) ≤ 1000000 := of_decide_eq_true e.2
  exact ⟨h.toL, isSl_eq e.1, by omega⟩
theorem leb_e {x y : Int} (h : leb x y = true) : x ≤ y := of_decide_eq_true h
theorem nat_of {x : Int} (h : 0 ≤ x) : x = ((x.toNat : Nat) : Int) := by omega
theorem beq_same (n : Nat) : Nat.beq n n = true := Nat.beq_refl n
def pr107_33 (a b n _q h : D) : Bool := okA h && (leb 0 a.toI && (leb 0 n.toI && (leb (a.toI + n.toI) b.toI && leb (b.toI + n.toI) (h.toL.length : Int))))
def sp107_33_h0 (a b n _q h : D) : D := .sl (swL h.toL a.toI.toNat b.toI.toNat n.toI.toNat)
section
variable {R : Type}
def m107_1 (N : Nat) (x0n : Bool) (x1 x2 x3 h0 : D) (K : Bool → D → D → D → D → D → Option R) : Option R :=
  K x0n x1 x2 x3 (D.i 0) h0
def s107_0 (x0n : Bool) (x1 x2 x3 h0 : D) : St := sts 38 [(0, V.ms 0 x0n), (1, V.f x1), (2, V.f x2), (3, V.f x3)] [V.f h0]
def s107_1 (x0n : Bool) (x1 x2 x3 x10 h0 : D) : St := sts 38 [(0, V.ms 0 x0n), (1, V.f x1), (2, V.f x2), (3, V.f x3), (10, V.f x10)] [V.f h0]
theorem e107_1 (N : Nat) (k : Kn R) (x0n : Bool) (x1 x2 x3 h0 : D) : runC PHI Tb70 N vc107_1 (s107_0 x0n x1 x2 x3 h0) k = m107_1 N x0n x1 x2 x3 h0 (fun x0n x1 x2 x3 x10 h0 => k .normal (s107_1 x0n x1 x2 x3 x10 h0)) := by
  refine Eq.trans (runC_post _ _ _ k) (Eq.trans (ops_run _ _ _ _) (by kernel_rfl))
def m107_4 (N : Nat) (x0n : Bool) (x1 x2 x3 x10 h0 : D) (K : Bool → D → D → D → D → D → Option R) (K0 : D → Option R) : Option R :=
  (bif (ltb x10.toI x3.toI) then (bif (inb (IntKind.i64.wrap (x2.toI + x10.toI)) h0.toL.length) then (bif (inb (IntKind.i64.wrap (x1.toI + x10.toI)) h0.toL.length) then (bif (inb (IntKind.i64.wrap (x1.toI + x10.toI)) h0.toL.length) then (bif (inb (IntKind.i64.wrap (x2.toI + x10.toI)) (D.setP [((IntKind.i64.wrap (x1.toI + x10.toI)) : Int).toNat] h0 (h0.at ((IntKind.i64.wrap (x2.toI + x10.toI)) : Int).toNat)).toL.length) then K x0n x1 x2 x3 (D.i (IntKind.i64.wrap (x10.toI + 1))) (D.setP [((IntKind.i64.wrap (x2.toI + x10.toI)) : Int).toNat] (D.setP [((IntKind.i64.wrap (x1.toI + x10.toI)) : Int).toNat] h0 (h0.at ((IntKind.i64.wrap (x2.toI + x10.toI)) : Int).toNat)) (h0.at ((IntKind.i64.wrap (x1.toI + x10.toI)) : Int).toNat)) else none) else none) else none) else none) else K0 h0)
def s107_2 (h0 : D) : St := sts 38 [] [V.f h0]
theorem e107_4 (N : Nat) (k : Kn R) (x0n : Bool) (x1 x2 x3 x10 h0 : D) : runC PHI Tb70 N vc107_4 (s107_1 x0n x1 x2 x3 x10 h0) k = m107_4 N x0n x1 x2 x3 x10 h0 (fun x0n x1 x2 x3 x10 h0 => k .normal (s107_1 x0n x1 x2 x3 x10 h0)) (fun h0 => k (.exit 0) (s107_2 h0)) := by kernel_rfl
def l107_3 (N : Nat) (j : Nat) (x0n : Bool) (x1 x2 x3 x10 h0 : D) (K0 : D → Option R) : Option R :=
  match j with
  | 0 => none
  | j + 1 => (m107_4 N x0n x1 x2 x3 x10 h0 (fun y0n y1 y2 y3 y10 h0 => l107_3 N j y0n y1 y2 y3 y10 h0 K0) K0)
def m107_3 (N : Nat) (x0n : Bool) (x1 x2 x3 x10 h0 : D) (K0 : D → Option R) : Option R :=
  l107_3 N N x0n x1 x2 x3 x10 h0 K0
theorem el107_3 (N : Nat) (k : Kn R) : ∀ (j : Nat) (x0n : Bool) (x1 x2 x3 x10 h0 : D), loopGo (runC PHI Tb70 N vc107_4) j (s107_1 x0n x1 x2 x3 x10 h0) k = l107_3 N j x0n x1 x2 x3 x10 h0 (fun h0 => k (.exit 0) (s107_2 h0))
  | 0, _, _, _, _, _, _ => by kernel_rfl
  | j + 1, x0n, x1, x2, x3, x10, h0 => by
    have h2 := e107_4 N (kloop PHI Tb70 N vc107_4 j k) x0n x1 x2 x3 x10 h0
    have h3 : (fun (y0n : Bool) (y1 y2 y3 y10 h0 : D) => (kloop PHI Tb70 N vc107_4 j k) .normal (s107_1 y0n y1 y2 y3 y10 h0)) = (fun (y0n : Bool) (y1 y2 y3 y10 h0 : D) => l107_3 N j y0n y1 y2 y3 y10 h0 (fun h0 => k (.exit 0) (s107_2 h0))) := funext fun y0n => funext fun y1 => funext fun y2 => funext fun y3 => funext fun y10 => funext fun h0 => (el107_3 N k j y0n y1 y2 y3 y10 h0)
    refine Eq.trans (loop_succ _ j _ k) (Eq.trans h2 (Eq.trans (congrArg (fun K => m107_4 N x0n x1 x2 x3 x10 h0 K (fun h0 => (kloop PHI Tb70 N vc107_4 j k) (.exit 0) (s107_2 h0))) h3) (by kernel_rfl)))
theorem e107_3 (N : Nat) (k : Kn R) (x0n : Bool) (x1 x2 x3 x10 h0 : D) : runC PHI Tb70 N vc107_3 (s107_1 x0n x1 x2 x3 x10 h0) k = m107_3 N x0n x1 x2 x3 x10 h0 (fun h0 => k (.exit 0) (s107_2 h0)) := by
  refine Eq.trans (runC_loop _ _ k) (Eq.trans (el107_3 N k N x0n x1 x2 x3 x10 h0) (by kernel_rfl))
def m107_2 (N : Nat) (x0n : Bool) (x1 x2 x3 x10 h0 : D) (K : D → Option R) : Option R :=
  (m107_3 N x0n x1 x2 x3 x10 h0 (fun h0 => K h0))
theorem e107_2 (N : Nat) (k : Kn R) (x0n : Bool) (x1 x2 x3 x10 h0 : D) : runC PHI Tb70 N vc107_2 (s107_1 x0n x1 x2 x3 x10 h0) k = m107_2 N x0n x1 x2 x3 x10 h0 (fun h0 => k .normal (s107_2 h0)) := by
  refine Eq.trans (runC_block _ _ _ k) (Eq.trans (e107_3 N (kblk 0 k) x0n x1 x2 x3 x10 h0) (by kernel_rfl))
def m107_0 (N : Nat) (x0n : Bool) (x1 x2 x3 h0 : D) (K : D → Option R) : Option R :=
  (m107_1 N x0n x1 x2 x3 h0 (fun y0n y1 y2 y3 y10 h0 => (m107_2 N y0n y1 y2 y3 y10 h0 (fun h0 => K h0))))
theorem e107_0 (N : Nat) (k : Kn R) (x0n : Bool) (x1 x2 x3 h0 : D) : runC PHI Tb70 N vc107_0 (s107_0 x0n x1 x2 x3 h0) k = m107_0 N x0n x1 x2 x3 h0 (fun h0 => k .normal (s107_2 h0)) := by
  have h2 := e107_1 N (kseq PHI Tb70 N vc107_2 k) x0n x1 x2 x3 h0
  have h3 := (funext fun y0n => funext fun y1 => funext fun y2 => funext fun y3 => funext fun y10 => funext fun h0 => (e107_2 N k y0n y1 y2 y3 y10 h0) : (fun (y0n : Bool) (y1 y2 y3 y10 h0 : D) => (kseq PHI Tb70 N vc107_2 k) .normal (s107_1 y0n y1 y2 y3 y10 h0)) = _)
  refine Eq.trans (runC_seq _ _ _ k) (Eq.trans h2 (Eq.trans (congrArg (fun K => m107_1 N x0n x1 x2 x3 h0 K) h3) (by kernel_rfl)))
theorem r107 (N : Nat) (x0n : Bool) (x1 x2 x3 x4_0 h0 : D) : runC PHI Tb70 N vf107.body (enterV vf107 [V.ms 0 x0n, V.f x1, V.f x2, V.f x3, V.fn 33 [V.f x4_0] [Ty.p 40]] [V.f h0]) (finish vf107) = m107_0 N x0n x1 x2 x3 h0 (fun h0 => finish vf107 .normal (s107_2 h0)) := 
  Eq.trans (runC_pre (s1 := (s107_0 x0n x1 x2 x3 h0)) (by kernel_rfl) _ _) (Eq.trans (e107_0 N (finish vf107) x0n x1 x2 x3 h0) (by kernel_rfl))
end
def Tb107 : CallF := extendR Tb70 107 (fm3 33 [Ty.p 40] pr107_33 sp107_33_h0)
theorem l107 {R : Type} (N : Nat) (nn : Bool) (a b n : D) (A B M : Nat) (ha : a.toI = (A : Int)) (hb : b.toI = (B : Int)) (hn : n.toI = (M : Int)) (xs : List D) (hl : xs.length ≤ 1000000) (h1 : A + M ≤ B) (h2 : B + M ≤ xs.length) (K0 : D → Option R) : ∀ k i j, i + k = M → k < j → l107_3 N j nn a b n (.i (i : Int)) (.sl (swL xs A B i)) K0 = K0 (.sl (swL xs A B M))
  | _, _, 0, _, h => by omega
  | 0, i, j + 1, h, _ => by
    have : i = M := by omega
    subst this
    simp only [l107_3, m107_4, toI_i, hn, ltb_self, cond_false]
  | k + 1, i, j + 1, h, h' => by
    have hi : i < M := by omega
    have e1 : IntKind.i64.wrap (b.toI + (i : Int)) = ((B + i : Nat) : Int) := w64n (by omega) (by omega)
    have e2 : IntKind.i64.wrap (a.toI + (i : Int)) = ((A + i : Nat) : Int) := w64n (by omega) (by omega)
    have e3 : IntKind.i64.wrap ((i : Int) + 1) = ((i + 1 : Nat) : Int) := w64n (by omega) (by omega)
    have hs := sw_step (l := xs) (a := A) (b := B) (i := i) (by omega) (by omega)
    have i1 : inb ((B + i : Nat) : Int) xs.length = true := inb_t (by omega)
    have i2 : inb ((A + i : Nat) : Int) xs.length = true := inb_t (by omega)
    simp only [l107_3, m107_4, toI_i, hn, ltb_n hi, e1, e2, e3, cond_true, toL_sl, at_sl, setP_sl, List.length_set, swL_len, i1, i2, Int.toNat_natCast, hs]
    exact l107 N nn a b n A B M ha hb hn xs hl h1 h2 K0 k (i + 1) j (by omega) (by omega)
theorem ok107 : FnOk Try.prog PHI Tb107 := FnOk.addm3 hPHI ok70 (by kernel_rfl) fun nn a b n q h hp => by
  unfold pr107_33 at hp
  simp only [Bool.and_eq_true] at hp
  obtain ⟨h0, h1, h2, h3, h4⟩ := hp
  obtain ⟨xs, rfl, hl⟩ := okA_eq h0
  have h1 := leb_e h1
  have h2 := leb_e h2
  have h3 := leb_e h3
  have h4 := leb_e h4
  simp only [toL_sl] at h4
  refine ⟨n.toI.toNat + 1, (r107 _ nn a b n q _).trans ?_⟩
  have h := l107 (n.toI.toNat + 1) nn a b n a.toI.toNat b.toI.toNat n.toI.toNat (nat_of h1) (nat_of (by omega)) (nat_of h2) xs hl (by omega) (by omega) (fun h => finish vf107 .normal (s107_2 h)) n.toI.toNat 0 (n.toI.toNat + 1) (by omega) (by omega)
  rw [swL_zero] at h
  simp only [m107_0, m107_1, m107_2, m107_3]
  refine Eq.trans h ?_
  rfl
def pr104_33 (a m b _q h : D) : Bool := okA h && (leb 0 a.toI && (ltb a.toI m.toI && (ltb m.toI b.toI && leb b.toI (h.toL.length : Int))))
def sp104_33_h0 (a m b _q h : D) : D := .sl (rotL h.toL a.toI.toNat m.toI.toNat b.toI.toNat)
section
variable {R : Type}
def m104_1 (N : Nat) (x0n : Bool) (x1 x2 x3 x4_0 h0 : D) (K : Bool → D → D → D → D → D → Option R) : Option R :=
  K x0n x2 x3 x4_0 (D.i (IntKind.i64.wrap (x2.toI - x1.toI))) h0
def s104_0 (x0n : Bool) (x1 x2 x3 x4_0 h0 : D) : St := sts 58 [(0, V.ms 0 x0n), (1, V.f x1), (2, V.f x2), (3, V.f x3), (4, V.fn 33 [V.f x4_0] [Ty.p 40])] [V.f h0]
def s104_1 (x0n : Bool) (x2 x3 x4_0 x10 h0 : D) : St := sts 58 [(0, V.ms 0 x0n), (2, V.f x2), (3, V.f x3), (4, V.fn 33 [V.f x4_0] [Ty.p 40]), (10, V.f x10)] [V.f h0]
theorem e104_1 (N : Nat) (k : Kn R) (x0n : Bool) (x1 x2 x3 x4_0 h0 : D) : runC PHI Tb107 N vc104_1 (s104_0 x0n x1 x2 x3 x4_0 h0) k = m104_1 N x0n x1 x2 x3 x4_0 h0 (fun x0n x2 x3 x4_0 x10 h0 => k .normal (s104_1 x0n x2 x3 x4_0 x10 h0)) := by
  refine Eq.trans (runC_post _ _ _ k) (Eq.trans (ops_run _ _ _ _) (by kernel_rfl))
def m104_3 (N : Nat) (x0n : Bool) (x2 x3 x4_0 x10 h0 : D) (K : Bool → D → D → D → D → D → Option R) : Option R :=
  K x0n x2 x4_0 x10 (D.i (IntKind.i64.wrap (x3.toI - x2.toI))) h0
def s104_2 (x0n : Bool) (x2 x4_0 x10 x11 h0 : D) : St := sts 58 [(0, V.ms 0 x0n), (2, V.f x2), (4, V.fn 33 [V.f x4_0] [Ty.p 40]), (10, V.f x10), (11, V.f x11)] [V.f h0]
theorem e104_3 (N : Nat) (k : Kn R) (x0n : Bool) (x2 x3 x4_0 x10 h0 : D) : runC PHI Tb107 N vc104_3 (s104_1 x0n x2 x3 x4_0 x10 h0) k = m104_3 N x0n x2 x3 x4_0 x10 h0 (fun x0n x2 x4_0 x10 x11 h0 => k .normal (s104_2 x0n x2 x4_0 x10 x11 h0)) := by
  refine Eq.trans (runC_post _ _ _ k) (Eq.trans (ops_run _ _ _ _) (by kernel_rfl))
def m104_7 (N : Nat) (x0n : Bool) (x2 x4_0 x10 x11 h0 : D) (K : Bool → D → D → D → D → D → Option R) (K0 : Bool → D → D → D → D → Option R) : Option R :=
  (bif (!eqb x10.toI x11.toI) then (bif (ltb x11.toI x10.toI) then (bif ((pr107_33 (D.i (IntKind.i64.wrap (x2.toI - x10.toI))) x2 x11 x4_0 h0) && (Nat.beq h0.toL.length (sp107_33_h0 (D.i (IntKind.i64.wrap (x2.toI - x10.toI))) x2 x11 x4_0 h0).toL.length && true)) then K x0n x2 x4_0 (D.i (IntKind.i64.wrap (x10.toI - x11.toI))) x11 (sp107_33_h0 (D.i (IntKind.i64.wrap (x2.toI - x10.toI))) x2 x11 x4_0 h0) else none) else (bif ((pr107_33 (D.i (IntKind.i64.wrap (x2.toI - x10.toI))) (D.i (IntKind.i64.wrap ((IntKind.i64.wrap (x2.toI + x11.toI)) - x10.toI))) x10 x4_0 h0) && (Nat.beq h0.toL.length (sp107_33_h0 (D.i (IntKind.i64.wrap (x2.toI - x10.toI))) (D.i (IntKind.i64.wrap ((IntKind.i64.wrap (x2.toI + x11.toI)) - x10.toI))) x10 x4_0 h0).toL.length && true)) then K x0n x2 x4_0 x10 (D.i (IntKind.i64.wrap (x11.toI - x10.toI))) (sp107_33_h0 (D.i (IntKind.i64.wrap (x2.toI - x10.toI))) (D.i (IntKind.i64.wrap ((IntKind.i64.wrap (x2.toI + x11.toI)) - x10.toI))) x10 x4_0 h0) else none)) else K0 x0n x2 x4_0 x10 h0)
def s104_3 (x0n : Bool) (x2 x4_0 x10 h0 : D) : St := sts 58 [(0, V.ms 0 x0n), (2, V.f x2), (4, V.fn 33 [V.f x4_0] [Ty.p 40]), (10, V.f x10)] [V.f h0]
theorem e104_7 (N : Nat) (k : Kn R) (x0n : Bool) (x2 x4_0 x10 x11 h0 : D) : runC PHI Tb107 N vc104_7 (s104_2 x0n x2 x4_0 x10 x11 h0) k = m104_7 N x0n x2 x4_0 x10 x11 h0 (fun x0n x2 x4_0 x10 x11 h0 => k .normal (s104_2 x0n x2 x4_0 x10 x11 h0)) (fun x0n x2 x4_0 x10 h0 => k (.exit 0) (s104_3 x0n x2 x4_0 x10 h0)) := by kernel_rfl
def l104_6 (N : Nat) (j : Nat) (x0n : Bool) (x2 x4_0 x10 x11 h0 : D) (K0 : Bool → D → D → D → D → Option R) : Option R :=
  match j with
  | 0 => none
  | j + 1 => (m104_7 N x0n x2 x4_0 x10 x11 h0 (fun y0n y2 y4_0 y10 y11 h0 => l104_6 N j y0n y2 y4_0 y10 y11 h0 K0) K0)
def m104_6 (N : Nat) (x0n : Bool) (x2 x4_0 x10 x11 h0 : D) (K0 : Bool → D → D → D → D → Option R) : Option R :=
  l104_6 N N x0n x2 x4_0 x10 x11 h0 K0
theorem el104_6 (N : Nat) (k : Kn R) : ∀ (j : Nat) (x0n : Bool) (x2 x4_0 x10 x11 h0 : D), loopGo (runC PHI Tb107 N vc104_7) j (s104_2 x0n x2 x4_0 x10 x11 h0) k = l104_6 N j x0n x2 x4_0 x10 x11 h0 (fun x0n x2 x4_0 x10 h0 => k (.exit 0) (s104_3 x0n x2 x4_0 x10 h0))
  | 0, _, _, _, _, _, _ => by kernel_rfl
  | j + 1, x0n, x2, x4_0, x10, x11, h0 => by
    have h2 := e104_7 N (kloop PHI Tb107 N vc104_7 j k) x0n x2 x4_0 x10 x11 h0
    have h3 : (fun (y0n : Bool) (y2 y4_0 y10 y11 h0 : D) => (kloop PHI Tb107 N vc104_7 j k) .normal (s104_2 y0n y2 y4_0 y10 y11 h0)) = (fun (y0n : Bool) (y2 y4_0 y10 y11 h0 : D) => l104_6 N j y0n y2 y4_0 y10 y11 h0 (fun x0n x2 x4_0 x10 h0 => k (.exit 0) (s104_3 x0n x2 x4_0 x10 h0))) := funext fun y0n => funext fun y2 => funext fun y4_0 => funext fun y10 => funext fun y11 => funext fun h0 => (el104_6 N k j y0n y2 y4_0 y10 y11 h0)
    refine Eq.trans (loop_succ _ j _ k) (Eq.trans h2 (Eq.trans (congrArg (fun K => m104_7 N x0n x2 x4_0 x10 x11 h0 K (fun x0n x2 x4_0 x10 h0 => (kloop PHI Tb107 N vc104_7 j k) (.exit 0) (s104_3 x0n x2 x4_0 x10 h0))) h3) (by kernel_rfl)))
theorem e104_6 (N : Nat) (k : Kn R) (x0n : Bool) (x2 x4_0 x10 x11 h0 : D) : runC PHI Tb107 N vc104_6 (s104_2 x0n x2 x4_0 x10 x11 h0) k = m104_6 N x0n x2 x4_0 x10 x11 h0 (fun x0n x2 x4_0 x10 h0 => k (.exit 0) (s104_3 x0n x2 x4_0 x10 h0)) := by
  refine Eq.trans (runC_loop _ _ k) (Eq.trans (el104_6 N k N x0n x2 x4_0 x10 x11 h0) (by kernel_rfl))
def m104_5 (N : Nat) (x0n : Bool) (x2 x4_0 x10 x11 h0 : D) (K : Bool → D → D → D → D → Option R) : Option R :=
  (m104_6 N x0n x2 x4_0 x10 x11 h0 (fun y0n y2 y4_0 y10 h0 => K y0n y2 y4_0 y10 h0))
theorem e104_5 (N : Nat) (k : Kn R) (x0n : Bool) (x2 x4_0 x10 x11 h0 : D) : runC PHI Tb107 N vc104_5 (s104_2 x0n x2 x4_0 x10 x11 h0) k = m104_5 N x0n x2 x4_0 x10 x11 h0 (fun x0n x2 x4_0 x10 h0 => k .normal (s104_3 x0n x2 x4_0 x10 h0)) := by
  refine Eq.trans (runC_block _ _ _ k) (Eq.trans (e104_6 N (kblk 0 k) x0n x2 x4_0 x10 x11 h0) (by kernel_rfl))
def m104_23 (N : Nat) (x0n : Bool) (x2 x4_0 x10 h0 : D) (K : D → Option R) : Option R :=
  (bif ((pr107_33 (D.i (IntKind.i64.wrap (x2.toI - x10.toI))) x2 x10 x4_0 h0) && (Nat.beq h0.toL.length (sp107_33_h0 (D.i (IntKind.i64.wrap (x2.toI - x10.toI))) x2 x10 x4_0 h0).toL.length && true)) then K (sp107_33_h0 (D.i (IntKind.i64.wrap (x2.toI - x10.toI))) x2 x10 x4_0 h0) else none)
def s104_4 (h0 : D) : St := sts 58 [] [V.f h0]
theorem e104_23 (N : Nat) (k : Kn R) (x0n : Bool) (x2 x4_0 x10 h0 : D) : runC PHI Tb107 N vc104_23 (s104_3 x0n x2 x4_0 x10 h0) k = m104_23 N x0n x2 x4_0 x10 h0 (fun h0 => k .normal (s104_4 h0)) := by
  refine Eq.trans (runC_post _ _ _ k) (Eq.trans (ops_run _ _ _ _) (by kernel_rfl))
def m104_4 (N : Nat) (x0n : Bool) (x2 x4_0 x10 x11 h0 : D) (K : D → Option R) : Option R :=
  (m104_5 N x0n x2 x4_0 x10 x11 h0 (fun y0n y2 y4_0 y10 h0 => (m104_23 N y0n y2 y4_0 y10 h0 (fun h0 => K h0))))
theorem e104_4 (N : Nat) (k : Kn R) (x0n : Bool) (x2 x4_0 x10 x11 h0 : D) : runC PHI Tb107 N vc104_4 (s104_2 x0n x2 x4_0 x10 x11 h0) k = m104_4 N x0n x2 x4_0 x10 x11 h0 (fun h0 => k .normal (s104_4 h0)) := by
  have h2 := e104_5 N (kseq PHI Tb107 N vc104_23 k) x0n x2 x4_0 x10 x11 h0
  have h3 := (funext fun y0n => funext fun y2 => funext fun y4_0 => funext fun y10 => funext fun h0 => (e104_23 N k y0n y2 y4_0 y10 h0) : (fun (y0n : Bool) (y2 y4_0 y10 h0 : D) => (kseq PHI Tb107 N vc104_23 k) .normal (s104_3 y0n y2 y4_0 y10 h0)) = _)
  refine Eq.trans (runC_seq _ _ _ k) (Eq.trans h2 (Eq.trans (congrArg (fun K => m104_5 N x0n x2 x4_0 x10 x11 h0 K) h3) (by kernel_rfl)))
def m104_2 (N : Nat) (x0n : Bool) (x2 x3 x4_0 x10 h0 : D) (K : D → Option R) : Option R :=
  (m104_3 N x0n x2 x3 x4_0 x10 h0 (fun y0n y2 y4_0 y10 y11 h0 => (m104_4 N y0n y2 y4_0 y10 y11 h0 (fun h0 => K h0))))
theorem e104_2 (N : Nat) (k : Kn R) (x0n : Bool) (x2 x3 x4_0 x10 h0 : D) : runC PHI Tb107 N vc104_2 (s104_1 x0n x2 x3 x4_0 x10 h0) k = m104_2 N x0n x2 x3 x4_0 x10 h0 (fun h0 => k .normal (s104_4 h0)) := by
  have h2 := e104_3 N (kseq PHI Tb107 N vc104_4 k) x0n x2 x3 x4_0 x10 h0
  have h3 := (funext fun y0n => funext fun y2 => funext fun y4_0 => funext fun y10 => funext fun y11 => funext fun h0 => (e104_4 N k y0n y2 y4_0 y10 y11 h0) : (fun (y0n : Bool) (y2 y4_0 y10 y11 h0 : D) => (kseq PHI Tb107 N vc104_4 k) .normal (s104_2 y0n y2 y4_0 y10 y11 h0)) = _)
  refine Eq.trans (runC_seq _ _ _ k) (Eq.trans h2 (Eq.trans (congrArg (fun K => m104_3 N x0n x2 x3 x4_0 x10 h0 K) h3) (by kernel_rfl)))
def m104_0 (N : Nat) (x0n : Bool) (x1 x2 x3 x4_0 h0 : D) (K : D → Option R) : Option R :=
  (m104_1 N x0n x1 x2 x3 x4_0 h0 (fun y0n y2 y3 y4_0 y10 h0 => (m104_2 N y0n y2 y3 y4_0 y10 h0 (fun h0 => K h0))))
theorem e104_0 (N : Nat) (k : Kn R) (x0n : Bool) (x1 x2 x3 x4_0 h0 : D) : runC PHI Tb107 N vc104_0 (s104_0 x0n x1 x2 x3 x4_0 h0) k = m104_0 N x0n x1 x2 x3 x4_0 h0 (fun h0 => k .normal (s104_4 h0)) := by
  have h2 := e104_1 N (kseq PHI Tb107 N vc104_2 k) x0n x1 x2 x3 x4_0 h0
  have h3 := (funext fun y0n => funext fun y2 => funext fun y3 => funext fun y4_0 => funext fun y10 => funext fun h0 => (e104_2 N k y0n y2 y3 y4_0 y10 h0) : (fun (y0n : Bool) (y2 y3 y4_0 y10 h0 : D) => (kseq PHI Tb107 N vc104_2 k) .normal (s104_1 y0n y2 y3 y4_0 y10 h0)) = _)
  refine Eq.trans (runC_seq _ _ _ k) (Eq.trans h2 (Eq.trans (congrArg (fun K => m104_1 N x0n x1 x2 x3 x4_0 h0 K) h3) (by kernel_rfl)))
theorem r104 (N : Nat) (x0n : Bool) (x1 x2 x3 x4_0 h0 : D) : runC PHI Tb107 N vf104.body (enterV vf104 [V.ms 0 x0n, V.f x1, V.f x2, V.f x3, V.fn 33 [V.f x4_0] [Ty.p 40]] [V.f h0]) (finish vf104) = m104_0 N x0n x1 x2 x3 x4_0 h0 (fun h0 => finish vf104 .normal (s104_4 h0)) := 
  Eq.trans (runC_pre (s1 := (s104_0 x0n x1 x2 x3 x4_0 h0)) (by kernel_rfl) _ _) (Eq.trans (e104_0 N (finish vf104) x0n x1 x2 x3 x4_0 h0) (by kernel_rfl))
end
def Tb104 : CallF := extendR Tb107 104 (fm3 33 [Ty.p 40] pr104_33 sp104_33_h0)
theorem sp107_e (a b n q : D) (A B M : Nat) (ha : a.toI = (A : Int)) (hb : b.toI = (B : Int)) (hn : n.toI = (M : Int)) (xs : List D) (hl : xs.length ≤ 1000000) (h1 : A + M ≤ B) (h2 : B + M ≤ xs.length) : sp107_33_h0 a b n q (.sl xs) = .sl (swL xs A B M) ∧ pr107_33 a b n q (.sl xs) = true := by
  unfold sp107_33_h0 pr107_33 okA
  rw [ha, hb, hn]
  simp only [Int.toNat_natCast, toL_sl, isSl, Bool.true_and]
  refine ⟨trivial, ?_⟩
  rw [leb_t (by omega), leb_t (by omega), leb_t (by omega), leb_t (by omega), leb_t (by omega)]; rfl
theorem l104 {R : Type} (N : Nat) (nn : Bool) (m q : D) (M : Nat) (hm : m.toI = (M : Int)) (K0 : Bool → D → D → D → D → Option R) (K : Option R) : ∀ (f i j J : Nat) (xs : List D), i + j ≤ f → f < J → 0 < i → 0 < j → i ≤ M → M + j ≤ xs.length → xs.length ≤ 1000000 →
    (∀ i' ys, i' ≤ M → M + i' ≤ ys.length → ys.length = xs.length → rotL ys (M - i') M (M + i') = rotL xs (M - i) M (M + j) → 0 < i' → K0 nn m q (.i (i' : Int)) (.sl ys) = K) →
    l104_6 N J nn m q (.i (i : Int)) (.i (j : Int)) (.sl xs) K0 = K
  | _, _, _, 0, _, _, h, _, _, _, _, _, _ => by omega
  | 0, i, j, J + 1, xs, h, _, hi, _, _, _, _, _ => by omega
  | f + 1, i, j, J + 1, xs, h, h', hi, hj, him, hl, hl2, hK => by
    by_cases hij : i = j
    · subst hij
      simp only [l104_6, m104_7, toI_i, eqb_t rfl, Bool.not_true, cond_false]
      exact hK i xs him hl rfl rfl hi
    · have hne : eqb (i : Int) (j : Int) = false := eqb_f (by omega)
      have e0 : IntKind.i64.wrap (m.toI - (i : Int)) = ((M - i : Nat) : Int) := w64n (by omega) (by omega)
      rcases Nat.lt_or_ge j i with hlt | hge
      · obtain ⟨s1, s2⟩ := sp107_e (.i ((M - i : Nat) : Int)) m (.i (j : Int)) q (M - i) M j rfl hm rfl xs hl2 (by omega) (by omega)
        have e1 : IntKind.i64.wrap ((i : Int) - (j : Int)) = ((i - j : Nat) : Int) := w64n (by omega) (by omega)
        simp only [l104_6, m104_7, toI_i, hne, Bool.not_false, cond_true, ltb_n hlt, e0, e1, s1, s2, toL_sl, swL_len, beq_same, Bool.and_self]
        refine l104 N nn m q M hm K0 K f (i - j) j J (swL xs (M - i) M j) (by omega) (by omega) (by omega) hj (by omega) (by rw [swL_len]; omega) (by rw [swL_len]; omega) fun i' ys p1 p2 p3 p4 p5 => ?_
        exact hK i' ys p1 p2 (by rw [p3, swL_len]) (by rw [p4]; exact rot_sw1 hlt him hl) p5
      · obtain ⟨s1, s2⟩ := sp107_e (.i ((M - i : Nat) : Int)) (.i ((M + j - i : Nat) : Int)) (.i (i : Int)) q (M - i) (M + j - i) i rfl rfl rfl xs hl2 (by omega) (by omega)
        have hlt : ltb (j : Int) (i : Int) = false := ltb_f (by omega)
        have e1 : IntKind.i64.wrap ((j : Int) - (i : Int)) = ((j - i : Nat) : Int) := w64n (by omega) (by omega)
        have e2 : IntKind.i64.wrap (IntKind.i64.wrap (m.toI + (j : Int)) - (i : Int)) = ((M + j - i : Nat) : Int) := by
          rw [w64n (a := m.toI + (j : Int)) (n := M + j) (by omega) (by omega)]
          exact w64n (by omega) (by omega)
        simp only [l104_6, m104_7, toI_i, hne, Bool.not_false, cond_true, cond_false, hlt, e0, e1, e2, s1, s2, toL_sl, swL_len, beq_same, Bool.and_self]
        refine l104 N nn m q M hm K0 K f i (j - i) J (swL xs (M - i) (M + j - i) i) (by omega) (by omega) hi (by omega) him (by rw [swL_len]; omega) (by rw [swL_len]; omega) fun i' ys p1 p2 p3 p4 p5 => ?_
        exact hK i' ys p1 p2 (by rw [p3, swL_len]) (by rw [p4]; exact rot_sw2 (by omega) him hl) p5
theorem ok104 : FnOk Try.prog PHI Tb104 := FnOk.addm3 hPHI ok107 (by kernel_rfl) fun nn a m b q h hp => by
  unfold pr104_33 at hp
  simp only [Bool.and_eq_true] at hp
  obtain ⟨h0, h1, h2, h3, h4⟩ := hp
  obtain ⟨xs, rfl, hl⟩ := okA_eq h0
  have h1 := leb_e h1
  have h2 : a.toI < m.toI := of_decide_eq_true h2
  have h3 : m.toI < b.toI := of_decide_eq_true h3
  have h4 := leb_e h4
  simp only [toL_sl] at h4
  obtain ⟨A, hA⟩ := Int.eq_ofNat_of_zero_le h1
  obtain ⟨M, hM⟩ := Int.eq_ofNat_of_zero_le (show 0 ≤ m.toI by omega)
  obtain ⟨B, hB⟩ := Int.eq_ofNat_of_zero_le (show 0 ≤ b.toI by omega)
  refine ⟨B - A + 1, (r104 _ nn a m b q _).trans ?_⟩
  have e1 : IntKind.i64.wrap (m.toI - a.toI) = ((M - A : Nat) : Int) := w64n (by omega) (by omega)
  have e2 : IntKind.i64.wrap (b.toI - m.toI) = ((B - M : Nat) : Int) := w64n (by omega) (by omega)
  simp only [m104_0, m104_1, m104_2, m104_3, m104_4, m104_5, m104_6, m104_23, e1, e2]
  refine l104 (B - A + 1) nn m q M hM _ _ (B - A) (M - A) (B - M) (B - A + 1) xs (by omega) (by omega) (by omega) (by omega) (by omega) (by omega) hl fun i' ys p1 p2 p3 p4 p5 => ?_
  have e0 : IntKind.i64.wrap (m.toI - (i' : Int)) = ((M - i' : Nat) : Int) := w64n (by omega) (by omega)
  obtain ⟨s1, s2⟩ := sp107_e (.i ((M - i' : Nat) : Int)) m (.i (i' : Int)) q (M - i') M i' rfl hM rfl ys (by omega) (by omega) (by omega)
  simp only [toI_i, e0, s1, s2, toL_sl, swL_len, beq_same, Bool.and_self, cond_true]
  rw [rot_sw3 p1 p2, p4]
  have q1 : M - (M - A) = A := by omega
  have q2 : M + (B - M) = B := by omega
  rw [q1, q2]
  unfold sp104_33_h0
  rw [hA, hM, hB]
  rfl
end Go.Vam.C14
namespace Go.Vam.C14
open Go.Proofs
def c33 (q x y : D) : Int := sp33 x y q
theorem c33_c (q : D) : Cmp (c33 q) := cmp33 q
def pr93_33 (a b q h : D) : Bool := okA h && (isPtrD q && (leb 0 a.toI && (leb a.toI b.toI && leb b.toI (h.toL.length : Int))))
def sp93_33_h0 (a b q h : D) : D := .sl (srtSeg (c33 q) h.toL a.toI.toNat b.toI.toNat)
section
variable {R : Type}
def m93_1 (N : Nat) (x0n : Bool) (x1 x2 x3_0 h0 : D) (K : Bool → D → D → D → D → D → Option R) : Option R :=
  K x0n x1 x2 x3_0 (D.i (IntKind.i64.wrap (x1.toI + 1))) h0
def s93_0 (x0n : Bool) (x1 x2 x3_0 h0 : D) : St := sts 53 [(0, V.ms 0 x0n), (1, V.f x1), (2, V.f x2), (3, V.fn 33 [V.f x3_0] [Ty.p 40])] [V.f h0]
def s93_1 (x0n : Bool) (x1 x2 x3_0 x8 h0 : D) : St := sts 53 [(0, V.ms 0 x0n), (1, V.f x1), (2, V.f x2), (3, V.fn 33 [V.f x3_0] [Ty.p 40]), (8, V.f x8)] [V.f h0]
theorem e93_1 (N : Nat) (k : Kn R) (x0n : Bool) (x1 x2 x3_0 h0 : D) : runC PHI Tb104 N vc93_1 (s93_0 x0n x1 x2 x3_0 h0) k = m93_1 N x0n x1 x2 x3_0 h0 (fun x0n x1 x2 x3_0 x8 h0 => k .normal (s93_1 x0n x1 x2 x3_0 x8 h0)) := by
  refine Eq.trans (runC_post _ _ _ k) (Eq.trans (ops_run _ _ _ _) (by kernel_rfl))
def m93_5 (N : Nat) (x0n : Bool) (x1 x2 x3_0 x8 h0 : D) (K : Bool → D → D → D → D → D → Option R) (K0 : D → Option R) : Option R :=
  (bif (ltb x8.toI x2.toI) then K x0n x1 x2 x3_0 x8 h0 else K0 h0)
def s93_2 (h0 : D) : St := sts 53 [] [V.f h0]
theorem e93_5 (N : Nat) (k : Kn R) (x0n : Bool) (x1 x2 x3_0 x8 h0 : D) : runC PHI Tb104 N vc93_5 (s93_1 x0n x1 x2 x3_0 x8 h0) k = m93_5 N x0n x1 x2 x3_0 x8 h0 (fun x0n x1 x2 x3_0 x8 h0 => k .normal (s93_1 x0n x1 x2 x3_0 x8 h0)) (fun h0 => k (.exit 0) (s93_2 h0)) := by kernel_rfl
def m93_13 (N : Nat) (x0n : Bool) (x1 x2 x3_0 x8 h0 : D) (K : Bool → D → D → D → D → D → D → Option R) : Option R :=
  K x0n x1 x2 x3_0 x8 x8 h0
def s93_3 (x0n : Bool) (x1 x2 x3_0 x8 x9 h0 : D) : St := sts 53 [(0, V.ms 0 x0n), (1, V.f x1), (2, V.f x2), (3, V.fn 33 [V.f x3_0] [Ty.p 40]), (8, V.f x8), (9, V.f x9)] [V.f h0]
theorem e93_13 (N : Nat) (k : Kn R) (x0n : Bool) (x1 x2 x3_0 x8 h0 : D) : runC PHI Tb104 N vc93_13 (s93_1 x0n x1 x2 x3_0 x8 h0) k = m93_13 N x0n x1 x2 x3_0 x8 h0 (fun x0n x1 x2 x3_0 x8 x9 h0 => k .normal (s93_3 x0n x1 x2 x3_0 x8 x9 h0)) := by
  refine Eq.trans (runC_post _ _ _ k) (Eq.trans (ops_run _ _ _ _) (by kernel_rfl))
def m93_16 (N : Nat) (x0n : Bool) (x1 x2 x3_0 x8 x9 h0 : D) (K : Bool → D → D → D → D → D → D → Option R) (K2 : Bool → D → D → D → D → D → Option R) : Option R :=
  (bif (ltb x1.toI x9.toI) then (bif (inb x9.toI h0.toL.length) then (bif (inb (IntKind.i64.wrap (x9.toI - 1)) h0.toL.length) then (bif (pr33 (h0.at (x9.toI : Int).toNat) (h0.at ((IntKind.i64.wrap (x9.toI - 1)) : Int).toNat) x3_0) then (bif (ltb (sp33 (h0.at (x9.toI : Int).toNat) (h0.at ((IntKind.i64.wrap (x9.toI - 1)) : Int).toNat) x3_0) 0) then (bif (inb (IntKind.i64.wrap (x9.toI - 1)) h0.toL.length) then (bif (inb x9.toI h0.toL.length) then (bif (inb x9.toI h0.toL.length) then (bif (inb (IntKind.i64.wrap (x9.toI - 1)) (D.setP [(x9.toI : Int).toNat] h0 (h0.at ((IntKind.i64.wrap (x9.toI - 1)) : Int).toNat)).toL.length) then K x0n x1 x2 x3_0 x8 (D.i (IntKind.i64.wrap (x9.toI - 1))) (D.setP [((IntKind.i64.wrap (x9.toI - 1)) : Int).toNat] (D.setP [(x9.toI : Int).toNat] h0 (h0.at ((IntKind.i64.wrap (x9.toI - 1)) : Int).toNat)) (h0.at (x9.toI : Int).toNat)) else none) else none) else none) else none) else K2 x0n x1 x2 x3_0 x8 h0) else none) else none) else none) else (bif false then (bif (inb (IntKind.i64.wrap (x9.toI - 1)) h0.toL.length) then (bif (inb x9.toI h0.toL.length) then (bif (inb x9.toI h0.toL.length) then (bif (inb (IntKind.i64.wrap (x9.toI - 1)) (D.setP [(x9.toI : Int).toNat] h0 (h0.at ((IntKind.i64.wrap (x9.toI - 1)) : Int).toNat)).toL.length) then K x0n x1 x2 x3_0 x8 (D.i (IntKind.i64.wrap (x9.toI - 1))) (D.setP [((IntKind.i64.wrap (x9.toI - 1)) : Int).toNat] (D.setP [(x9.toI : Int).toNat] h0 (h0.at ((IntKind.i64.wrap (x9.toI - 1)) : Int).toNat)) (h0.at (x9.toI : Int).toNat)) else none) else none) else none) else none) else K2 x0n x1 x2 x3_0 x8 h0))
theorem e93_16 (N : Nat) (k : Kn R) (x0n : Bool) (x1 x2 x3_0 x8 x9 h0 : D) : runC PHI Tb104 N vc93_16 (s93_3 x0n x1 x2 x3_0 x8 x9 h0) k = m93_16 N x0n x1 x2 x3_0 x8 x9 h0 (fun x0n x1 x2 x3_0 x8 x9 h0 => k .normal (s93_3 x0n x1 x2 x3_0 x8 x9 h0)) (fun x0n x1 x2 x3_0 x8 h0 => k (.exit 2) (s93_1 x0n x1 x2 x3_0 x8 h0)) := by kernel_rfl
def l93_15 (N : Nat) (j : Nat) (x0n : Bool) (x1 x2 x3_0 x8 x9 h0 : D) (K2 : Bool → D → D → D → D → D → Option R) : Option R :=
  match j with
  | 0 => none
  | j + 1 => (m93_16 N x0n x1 x2 x3_0 x8 x9 h0 (fun y0n y1 y2 y3_0 y8 y9 h0 => l93_15 N j y0n y1 y2 y3_0 y8 y9 h0 K2) K2)
def m93_15 (N : Nat) (x0n : Bool) (x1 x2 x3_0 x8 x9 h0 : D) (K2 : Bool → D → D → D → D → D → Option R) : Option R :=
  l93_15 N N x0n x1 x2 x3_0 x8 x9 h0 K2
theorem el93_15 (N : Nat) (k : Kn R) : ∀ (j : Nat) (x0n : Bool) (x1 x2 x3_0 x8 x9 h0 : D), loopGo (runC PHI Tb104 N vc93_16) j (s93_3 x0n x1 x2 x3_0 x8 x9 h0) k = l93_15 N j x0n x1 x2 x3_0 x8 x9 h0 (fun x0n x1 x2 x3_0 x8 h0 => k (.exit 2) (s93_1 x0n x1 x2 x3_0 x8 h0))
  | 0, _, _, _, _, _, _, _ => by kernel_rfl
  | j + 1, x0n, x1, x2, x3_0, x8, x9, h0 => by
    have h2 := e93_16 N (kloop PHI Tb104 N vc93_16 j k) x0n x1 x2 x3_0 x8 x9 h0
    have h3 : (fun (y0n : Bool) (y1 y2 y3_0 y8 y9 h0 : D) => (kloop PHI Tb104 N vc93_16 j k) .normal (s93_3 y0n y1 y2 y3_0 y8 y9 h0)) = (fun (y0n : Bool) (y1 y2 y3_0 y8 y9 h0 : D) => l93_15 N j y0n y1 y2 y3_0 y8 y9 h0 (fun x0n x1 x2 x3_0 x8 h0 => k (.exit 2) (s93_1 x0n x1 x2 x3_0 x8 h0))) := funext fun y0n => funext fun y1 => funext fun y2 => funext fun y3_0 => funext fun y8 => funext fun y9 => funext fun h0 => (el93_15 N k j y0n y1 y2 y3_0 y8 y9 h0)
    refine Eq.trans (loop_succ _ j _ k) (Eq.trans h2 (Eq.trans (congrArg (fun K => m93_16 N x0n x1 x2 x3_0 x8 x9 h0 K (fun x0n x1 x2 x3_0 x8 h0 => (kloop PHI Tb104 N vc93_16 j k) (.exit 2) (s93_1 x0n x1 x2 x3_0 x8 h0))) h3) (by kernel_rfl)))
theorem e93_15 (N : Nat) (k : Kn R) (x0n : Bool) (x1 x2 x3_0 x8 x9 h0 : D) : runC PHI Tb104 N vc93_15 (s93_3 x0n x1 x2 x3_0 x8 x9 h0) k = m93_15 N x0n x1 x2 x3_0 x8 x9 h0 (fun x0n x1 x2 x3_0 x8 h0 => k (.exit 2) (s93_1 x0n x1 x2 x3_0 x8 h0)) := by
  refine Eq.trans (runC_loop _ _ k) (Eq.trans (el93_15 N k N x0n x1 x2 x3_0 x8 x9 h0) (by kernel_rfl))
def m93_14 (N : Nat) (x0n : Bool) (x1 x2 x3_0 x8 x9 h0 : D) (K : Bool → D → D → D → D → D → Option R) : Option R :=
  (m93_15 N x0n x1 x2 x3_0 x8 x9 h0 (fun y0n y1 y2 y3_0 y8 h0 => K y0n y1 y2 y3_0 y8 h0))
theorem e93_14 (N : Nat) (k : Kn R) (x0n : Bool) (x1 x2 x3_0 x8 x9 h0 : D) : runC PHI Tb104 N vc93_14 (s93_3 x0n x1 x2 x3_0 x8 x9 h0) k = m93_14 N x0n x1 x2 x3_0 x8 x9 h0 (fun x0n x1 x2 x3_0 x8 h0 => k .normal (s93_1 x0n x1 x2 x3_0 x8 h0)) := by
  refine Eq.trans (runC_block _ _ _ k) (Eq.trans (e93_15 N (kblk 2 k) x0n x1 x2 x3_0 x8 x9 h0) (by kernel_rfl))
def m93_12 (N : Nat) (x0n : Bool) (x1 x2 x3_0 x8 h0 : D) (K : Bool → D → D → D → D → D → Option R) : Option R :=
  (m93_13 N x0n x1 x2 x3_0 x8 h0 (fun y0n y1 y2 y3_0 y8 y9 h0 => (m93_14 N y0n y1 y2 y3_0 y8 y9 h0 (fun y0n y1 y2 y3_0 y8 h0 => K y0n y1 y2 y3_0 y8 h0))))
theorem e93_12 (N : Nat) (k : Kn R) (x0n : Bool) (x1 x2 x3_0 x8 h0 : D) : runC PHI Tb104 N vc93_12 (s93_1 x0n x1 x2 x3_0 x8 h0) k = m93_12 N x0n x1 x2 x3_0 x8 h0 (fun x0n x1 x2 x3_0 x8 h0 => k .normal (s93_1 x0n x1 x2 x3_0 x8 h0)) := by
  have h2 := e93_13 N (kseq PHI Tb104 N vc93_14 k) x0n x1 x2 x3_0 x8 h0
  have h3 := (funext fun y0n => funext fun y1 => funext fun y2 => funext fun y3_0 => funext fun y8 => funext fun y9 => funext fun h0 => (e93_14 N k y0n y1 y2 y3_0 y8 y9 h0) : (fun (y0n : Bool) (y1 y2 y3_0 y8 y9 h0 : D) => (kseq PHI Tb104 N vc93_14 k) .normal (s93_3 y0n y1 y2 y3_0 y8 y9 h0)) = _)
  refine Eq.trans (runC_seq _ _ _ k) (Eq.trans h2 (Eq.trans (congrArg (fun K => m93_13 N x0n x1 x2 x3_0 x8 h0 K) h3) (by kernel_rfl)))
def m93_11 (N : Nat) (x0n : Bool) (x1 x2 x3_0 x8 h0 : D) (K : Bool → D → D → D → D → D → Option R) : Option R :=
  (m93_12 N x0n x1 x2 x3_0 x8 h0 (fun y0n y1 y2 y3_0 y8 h0 => K y0n y1 y2 y3_0 y8 h0))
theorem e93_11 (N : Nat) (k : Kn R) (x0n : Bool) (x1 x2 x3_0 x8 h0 : D) : runC PHI Tb104 N vc93_11 (s93_1 x0n x1 x2 x3_0 x8 h0) k = m93_11 N x0n x1 x2 x3_0 x8 h0 (fun x0n x1 x2 x3_0 x8 h0 => k .normal (s93_1 x0n x1 x2 x3_0 x8 h0)) := by
  refine Eq.trans (runC_block _ _ _ k) (Eq.trans (e93_12 N (kblk 1 k) x0n x1 x2 x3_0 x8 h0) (by kernel_rfl))
def m93_26 (N : Nat) (x0n : Bool) (x1 x2 x3_0 x8 h0 : D) (K : Bool → D → D → D → D → D → Option R) : Option R :=
  K x0n x1 x2 x3_0 (D.i (IntKind.i64.wrap (x8.toI + 1))) h0
theorem e93_26 (N : Nat) (k : Kn R) (x0n : Bool) (x1 x2 x3_0 x8 h0 : D) : runC PHI Tb104 N vc93_26 (s93_1 x0n x1 x2 x3_0 x8 h0) k = m93_26 N x0n x1 x2 x3_0 x8 h0 (fun x0n x1 x2 x3_0 x8 h0 => k .normal (s93_1 x0n x1 x2 x3_0 x8 h0)) := by
  refine Eq.trans (runC_post _ _ _ k) (Eq.trans (ops_run _ _ _ _) (by kernel_rfl))
def m93_10 (N : Nat) (x0n : Bool) (x1 x2 x3_0 x8 h0 : D) (K : Bool → D → D → D → D → D → Option R) : Option R :=
  (m93_11 N x0n x1 x2 x3_0 x8 h0 (fun y0n y1 y2 y3_0 y8 h0 => (m93_26 N y0n y1 y2 y3_0 y8 h0 (fun y0n y1 y2 y3_0 y8 h0 => K y0n y1 y2 y3_0 y8 h0))))
theorem e93_10 (N : Nat) (k : Kn R) (x0n : Bool) (x1 x2 x3_0 x8 h0 : D) : runC PHI Tb104 N vc93_10 (s93_1 x0n x1 x2 x3_0 x8 h0) k = m93_10 N x0n x1 x2 x3_0 x8 h0 (fun x0n x1 x2 x3_0 x8 h0 => k .normal (s93_1 x0n x1 x2 x3_0 x8 h0)) := by
  have h2 := e93_11 N (kseq PHI Tb104 N vc93_26 k) x0n x1 x2 x3_0 x8 h0
  have h3 := (funext fun y0n => funext fun y1 => funext fun y2 => funext fun y3_0 => funext fun y8 => funext fun h0 => (e93_26 N k y0n y1 y2 y3_0 y8 h0) : (fun (y0n : Bool) (y1 y2 y3_0 y8 h0 : D) => (kseq PHI Tb104 N vc93_26 k) .normal (s93_1 y0n y1 y2 y3_0 y8 h0)) = _)
  refine Eq.trans (runC_seq _ _ _ k) (Eq.trans h2 (Eq.trans (congrArg (fun K => m93_11 N x0n x1 x2 x3_0 x8 h0 K) h3) (by kernel_rfl)))
def m93_4 (N : Nat) (x0n : Bool) (x1 x2 x3_0 x8 h0 : D) (K : Bool → D → D → D → D → D → Option R) (K0 : D → Option R) : Option R :=
  (m93_5 N x0n x1 x2 x3_0 x8 h0 (fun y0n y1 y2 y3_0 y8 h0 => (m93_10 N y0n y1 y2 y3_0 y8 h0 (fun y0n y1 y2 y3_0 y8 h0 => K y0n y1 y2 y3_0 y8 h0))) K0)
theorem e93_4 (N : Nat) (k : Kn R) (x0n : Bool) (x1 x2 x3_0 x8 h0 : D) : runC PHI Tb104 N vc93_4 (s93_1 x0n x1 x2 x3_0 x8 h0) k = m93_4 N x0n x1 x2 x3_0 x8 h0 (fun x0n x1 x2 x3_0 x8 h0 => k .normal (s93_1 x0n x1 x2 x3_0 x8 h0)) (fun h0 => k (.exit 0) (s93_2 h0)) := by
  have h2 := e93_5 N (kseq PHI Tb104 N vc93_10 k) x0n x1 x2 x3_0 x8 h0
  have h3 := (funext fun y0n => funext fun y1 => funext fun y2 => funext fun y3_0 => funext fun y8 => funext fun h0 => (e93_10 N k y0n y1 y2 y3_0 y8 h0) : (fun (y0n : Bool) (y1 y2 y3_0 y8 h0 : D) => (kseq PHI Tb104 N vc93_10 k) .normal (s93_1 y0n y1 y2 y3_0 y8 h0)) = _)
  refine Eq.trans (runC_seq _ _ _ k) (Eq.trans h2 (Eq.trans (congrArg (fun K => m93_5 N x0n x1 x2 x3_0 x8 h0 K (fun h0 => (kseq PHI Tb104 N vc93_10 k) (.exit 0) (s93_2 h0))) h3) (by kernel_rfl)))
def l93_3 (N : Nat) (j : Nat) (x0n : Bool) (x1 x2 x3_0 x8 h0 : D) (K0 : D → Option R) : Option R :=
  match j with
  | 0 => none
  | j + 1 => (m93_4 N x0n x1 x2 x3_0 x8 h0 (fun y0n y1 y2 y3_0 y8 h0 => l93_3 N j y0n y1 y2 y3_0 y8 h0 K0) K0)
def m93_3 (N : Nat) (x0n : Bool) (x1 x2 x3_0 x8 h0 : D) (K0 : D → Option R) : Option R :=
  l93_3 N N x0n x1 x2 x3_0 x8 h0 K0
theorem el93_3 (N : Nat) (k : Kn R) : ∀ (j : Nat) (x0n : Bool) (x1 x2 x3_0 x8 h0 : D), loopGo (runC PHI Tb104 N vc93_4) j (s93_1 x0n x1 x2 x3_0 x8 h0) k = l93_3 N j x0n x1 x2 x3_0 x8 h0 (fun h0 => k (.exit 0) (s93_2 h0))
  | 0, _, _, _, _, _, _ => by kernel_rfl
  | j + 1, x0n, x1, x2, x3_0, x8, h0 => by
    have h2 := e93_4 N (kloop PHI Tb104 N vc93_4 j k) x0n x1 x2 x3_0 x8 h0
    have h3 : (fun (y0n : Bool) (y1 y2 y3_0 y8 h0 : D) => (kloop PHI Tb104 N vc93_4 j k) .normal (s93_1 y0n y1 y2 y3_0 y8 h0)) = (fun (y0n : Bool) (y1 y2 y3_0 y8 h0 : D) => l93_3 N j y0n y1 y2 y3_0 y8 h0 (fun h0 => k (.exit 0) (s93_2 h0))) := funext fun y0n => funext fun y1 => funext fun y2 => funext fun y3_0 => funext fun y8 => funext fun h0 => (el93_3 N k j y0n y1 y2 y3_0 y8 h0)
    refine Eq.trans (loop_succ _ j _ k) (Eq.trans h2 (Eq.trans (congrArg (fun K => m93_4 N x0n x1 x2 x3_0 x8 h0 K (fun h0 => (kloop PHI Tb104 N vc93_4 j k) (.exit 0) (s93_2 h0))) h3) (by kernel_rfl)))
theorem e93_3 (N : Nat) (k : Kn R) (x0n : Bool) (x1 x2 x3_0 x8 h0 : D) : runC PHI Tb104 N vc93_3 (s93_1 x0n x1 x2 x3_0 x8 h0) k = m93_3 N x0n x1 x2 x3_0 x8 h0 (fun h0 => k (.exit 0) (s93_2 h0)) := by
  refine Eq.trans (runC_loop _ _ k) (Eq.trans (el93_3 N k N x0n x1 x2 x3_0 x8 h0) (by kernel_rfl))
def m93_2 (N : Nat) (x0n : Bool) (x1 x2 x3_0 x8 h0 : D) (K : D → Option R) : Option R :=
  (m93_3 N x0n x1 x2 x3_0 x8 h0 (fun h0 => K h0))
theorem e93_2 (N : Nat) (k : Kn R) (x0n : Bool) (x1 x2 x3_0 x8 h0 : D) : runC PHI Tb104 N vc93_2 (s93_1 x0n x1 x2 x3_0 x8 h0) k = m93_2 N x0n x1 x2 x3_0 x8 h0 (fun h0 => k .normal (s93_2 h0)) := by
  refine Eq.trans (runC_block _ _ _ k) (Eq.trans (e93_3 N (kblk 0 k) x0n x1 x2 x3_0 x8 h0) (by kernel_rfl))
def m93_0 (N : Nat) (x0n : Bool) (x1 x2 x3_0 h0 : D) (K : D → Option R) : Option R :=
  (m93_1 N x0n x1 x2 x3_0 h0 (fun y0n y1 y2 y3_0 y8 h0 => (m93_2 N y0n y1 y2 y3_0 y8 h0 (fun h0 => K h0))))
theorem e93_0 (N : Nat) (k : Kn R) (x0n : Bool) (x1 x2 x3_0 h0 : D) : runC PHI Tb104 N vc93_0 (s93_0 x0n x1 x2 x3_0 h0) k = m93_0 N x0n x1 x2 x3_0 h0 (fun h0 => k .normal (s93_2 h0)) := by
  have h2 := e93_1 N (kseq PHI Tb104 N vc93_2 k) x0n x1 x2 x3_0 h0
  have h3 := (funext fun y0n => funext fun y1 => funext fun y2 => funext fun y3_0 => funext fun y8 => funext fun h0 => (e93_2 N k y0n y1 y2 y3_0 y8 h0) : (fun (y0n : Bool) (y1 y2 y3_0 y8 h0 : D) => (kseq PHI Tb104 N vc93_2 k) .normal (s93_1 y0n y1 y2 y3_0 y8 h0)) = _)
  refine Eq.trans (runC_seq _ _ _ k) (Eq.trans h2 (Eq.trans (congrArg (fun K => m93_1 N x0n x1 x2 x3_0 h0 K) h3) (by kernel_rfl)))
theorem r93 (N : Nat) (x0n : Bool) (x1 x2 x3_0 h0 : D) : runC PHI Tb104 N vf93.body (enterV vf93 [V.ms 0 x0n, V.f x1, V.f x2, V.fn 33 [V.f x3_0] [Ty.p 40]] [V.f h0]) (finish vf93) = m93_0 N x0n x1 x2 x3_0 h0 (fun h0 => finish vf93 .normal (s93_2 h0)) := 
  Eq.trans (runC_pre (s1 := (s93_0 x0n x1 x2 x3_0 h0)) (by kernel_rfl) _ _) (Eq.trans (e93_0 N (finish vf93) x0n x1 x2 x3_0 h0) (by kernel_rfl))
end
def Tb93 : CallF := extendR Tb104 93 (fm2 33 [Ty.p 40] pr93_33 sp93_33_h0)
theorem i93 {R : Type} (N : Nat) (nn : Bool) (a b q : D) (hq : isPtrD q = true) (A M : Nat) (ha : a.toI = (A : Int)) (ys : List D) (hl : ys.length ≤ 1000000) (hm : M < ys.length) (hA : SrtOn (c33 q) ys A M) (K2 : Bool → D → D → D → D → D → Option R) : ∀ J j, A ≤ j → j ≤ M → j < J + A → (j < M → c33 q (gt ys M) (gt ys j) < 0) →
    l93_15 N J nn a b q (.i (M : Int)) (.i (j : Int)) (.sl (rotL ys j M (M + 1))) K2 = K2 nn a b q (.i (M : Int)) (.sl (srtSeg (c33 q) ys A (M + 1)))
  | 0, j, h1, _, h2, _ => by omega
  | J + 1, j, h1, h2, h3, h4 => by
    rcases Nat.lt_or_ge A j with h | h
    · have e1 : IntKind.i64.wrap ((j : Int) - 1) = ((j - 1 : Nat) : Int) := w64n (by omega) (by omega)
      have i1 : inb (j : Int) ys.length = true := inb_t (by omega)
      have i2 : inb ((j - 1 : Nat) : Int) ys.length = true := inb_t (by omega)
      have g1 : gt (rotL ys j M (M + 1)) j = gt ys M := ins_at h2 hm
      have g2 : gt (rotL ys j M (M + 1)) (j - 1) = gt ys (j - 1) := ins_below (by omega) h2 hm
      have hr := rot_l (l := ys) (k := j - 1) (m := M) (by omega) hm
      rw [show j - 1 + 1 = j by omega, g1, g2] at hr
      by_cases hc : c33 q (gt ys M) (gt ys (j - 1)) < 0
      · have hp : pr33 (gt ys M) (gt ys (j - 1)) q = true := hq
        have hlt : ltb (sp33 (gt ys M) (gt ys (j - 1)) q) 0 = true := decide_eq_true hc
        simp only [l93_15, m93_16, ha, toI_i, ltb_n h, cond_true, toL_sl, rotL_len, i1, i2, e1, Int.toNat_natCast, at_sl, g1, g2, hp, hlt, setP_sl, List.length_set, hr]
        exact i93 N nn a b q hq A M ha ys hl hm hA K2 J (j - 1) (by omega) (by omega) (by omega) fun _ => hc
      · have hp : pr33 (gt ys M) (gt ys (j - 1)) q = true := hq
        have hlt : ltb (sp33 (gt ys M) (gt ys (j - 1)) q) 0 = false := decide_eq_false hc
        simp only [l93_15, m93_16, ha, toI_i, ltb_n h, cond_true, cond_false, toL_sl, rotL_len, i1, i2, e1, Int.toNat_natCast, at_sl, g1, g2, hp, hlt]
        rw [merge_last' (c33_c q) h1 h2 hm hA h4 fun _ => hc]
    · have e : j = A := by omega
      subst e
      simp only [l93_15, m93_16, ha, toI_i, ltb_self, cond_false]
      rw [merge_last' (c33_c q) h1 h2 hm hA h4 fun h => by omega]
theorem o93 {R : Type} (N : Nat) (nn : Bool) (a b q : D) (hq : isPtrD q = true) (A B : Nat) (ha : a.toI = (A : Int)) (hb : b.toI = (B : Int)) (xs : List D) (hl : xs.length ≤ 1000000) (hB : B ≤ xs.length) (hN : B < N + A) (K0 : D → Option R) : ∀ J i, A < i → i ≤ B → B < J + i →
    l93_3 N J nn a b q (.i (i : Int)) (.sl (srtSeg (c33 q) xs A i)) K0 = K0 (.sl (srtSeg (c33 q) xs A B))
  | 0, i, _, _, _ => by omega
  | J + 1, i, h1, h2, h3 => by
    rcases Nat.lt_or_ge i B with h | h
    · have e1 : IntKind.i64.wrap ((i : Int) + 1) = ((i + 1 : Nat) : Int) := w64n (by omega) (by omega)
      have hlen : (srtSeg (c33 q) xs A i).length = xs.length := srtSeg_len (c33_c q) (by omega) (by omega)
      have hk := i93 N nn a b q hq A i ha (srtSeg (c33 q) xs A i) (by omega) (by omega) (srtSeg_srt (c33_c q) (by omega) (by omega)) (fun y0n y1 y2 y3_0 y8 h0 => m93_26 N y0n y1 y2 y3_0 y8 h0 (fun y0n y1 y2 y3_0 y8 h0 => l93_3 N J y0n y1 y2 y3_0 y8 h0 K0)) N i (by omega) (Nat.le_refl _) (by omega) (fun h => by omega)
      rw [ins_id] at hk
      simp only [l93_3, m93_4, m93_5, hb, toI_i, ltb_n h, cond_true, m93_10, m93_11, m93_12, m93_13, m93_14, m93_15]
      refine Eq.trans hk ?_
      rw [srtSeg_in (c33_c q) (Nat.le_refl A) (show A ≤ i by omega) (show i ≤ i + 1 by omega) (by omega)]
      simp only [m93_26, toI_i, e1]
      exact o93 N nn a b q hq A B ha hb xs hl hB hN K0 J (i + 1) (by omega) (by omega) (by omega)
    · have e : i = B := by omega
      subst e
      simp only [l93_3, m93_4, m93_5, hb, toI_i, ltb_self, cond_false]
theorem ok93 : FnOk Try.prog PHI Tb93 := FnOk.addm2 hPHI ok104 (by kernel_rfl) fun nn a b q h hp => by
  unfold pr93_33 at hp
  simp only [Bool.and_eq_true] at hp
  obtain ⟨h0, hq, h1, h2, h3⟩ := hp
  obtain ⟨xs, rfl, hl⟩ := okA_eq h0
  have h1 := leb_e h1
  have h2 := leb_e h2
  have h3 := leb_e h3
  simp only [toL_sl] at h3
  obtain ⟨A, hA⟩ := Int.eq_ofNat_of_zero_le h1
  obtain ⟨B, hB⟩ := Int.eq_ofNat_of_zero_le (show 0 ≤ b.toI by omega)
  refine ⟨B + 2, (r93 _ nn a b q _).trans ?_⟩
  have e1 : IntKind.i64.wrap (a.toI + 1) = ((A + 1 : Nat) : Int) := w64n (by omega) (by omega)
  simp only [m93_0, m93_1, m93_2, m93_3, e1]
  have e : sp93_33_h0 a b q (.sl xs) = .sl (srtSeg (c33 q) xs A B) := by unfold sp93_33_h0; rw [hA, hB]; rfl
  rw [e]
  rcases Nat.lt_or_ge A B with h | h
  · have hk := o93 (B + 2) nn a b q hq A B hA hB xs hl (by omega) (by omega) (fun h0 => finish vf93 .normal (s93_2 h0)) (B + 2) (A + 1) (by omega) (by omega) (by omega)
    rw [srtSeg_id (c33_c q) (by omega) (by omega) (.nil (Nat.le_refl _))] at hk
    exact hk.trans rfl
  · rw [srtSeg_id (c33_c q) (by omega) (by omega) (.nil (by omega))]
    have hlt : ltb ((A + 1 : Nat) : Int) (B : Int) = false := ltb_f (by omega)
    simp only [l93_3, m93_4, m93_5, hB, toI_i, hlt, cond_false]
    rfl
def hs (P : Nat → Bool) : Nat → Nat → Nat → Nat
  | 0, i, _ => i
  | J + 1, i, j => bif decide (i < j) then (bif P ((i + j) / 2) then hs P J ((i + j) / 2 + 1) j else hs P J i ((i + j) / 2)) else i
theorem hs_spec {P : Nat → Bool} : ∀ J i j, i ≤ j → j < J + i → i ≤ hs P J i j ∧ hs P J i j ≤ j ∧ (i < hs P J i j → P (hs P J i j - 1) = true) ∧ (hs P J i j < j → P (hs P J i j) = false)
  | 0, i, j, _, h => by omega
  | J + 1, i, j, h, h' => by
    unfold hs
    by_cases hij : i < j
    · rw [decide_eq_true hij, cond_true]
      cases hP : P ((i + j) / 2)
      · rw [cond_false]
        obtain ⟨h1, h2, h3, h4⟩ := hs_spec (P := P) J i ((i + j) / 2) (by omega) (by omega)
        refine ⟨h1, by omega, h3, fun h => ?_⟩
        rcases Nat.lt_or_ge (hs P J i ((i + j) / 2)) ((i + j) / 2) with u | u
        · exact h4 u
        · rw [show hs P J i ((i + j) / 2) = (i + j) / 2 by omega]; exact hP
      · rw [cond_true]
        obtain ⟨h1, h2, h3, h4⟩ := hs_spec (P := P) J ((i + j) / 2 + 1) j (by omega) (by omega)
        refine ⟨by omega, h2, fun h => ?_, h4⟩
        rcases Nat.lt_or_ge ((i + j) / 2 + 1) (hs P J ((i + j) / 2 + 1) j) with u | u
        · exact h3 u
        · rw [show hs P J ((i + j) / 2 + 1) j - 1 = (i + j) / 2 by omega]; exact hP
    · rw [decide_eq_false hij, cond_false]
      exact ⟨Nat.le_refl _, h, fun h => by omega, fun h => by omega⟩
theorem sp104_e (a m b q : D) (A M B : Nat) (ha : a.toI = (A : Int)) (hm : m.toI = (M : Int)) (hb : b.toI = (B : Int)) (xs : List D) (hl : xs.length ≤ 1000000) (h1 : A < M) (h2 : M < B) (h3 : B ≤ xs.length) : sp104_33_h0 a m b q (.sl xs) = .sl (rotL xs A M B) ∧ pr104_33 a m b q (.sl xs) = true := by
  unfold sp104_33_h0 pr104_33 okA
  rw [ha, hb, hm]
  simp only [Int.toNat_natCast, toL_sl, isSl, Bool.true_and]
  refine ⟨trivial, ?_⟩
  rw [leb_t (by omega), leb_t (by omega), leb_t (by omega), ltb_t (by omega), ltb_t (by omega)]; rfl
def P94 (n : Nat) (a m b q h : D) : Prop := ∃ (A M B : Nat) (xs : List D), a.toI = (A : Int) ∧ m.toI = (M : Int) ∧ b.toI = (B : Int) ∧ h = .sl xs ∧ xs.length ≤ 1000000 ∧ isPtrD q = true ∧ A < M ∧ M < B ∧ B ≤ xs.length ∧ SrtOn (c33 q) xs A M ∧ SrtOn (c33 q) xs M B ∧ B < n + A
noncomputable def prx94_33 (n : Nat) (a m b q h : D) : Bool := @decide (P94 n a m b q h) (Classical.propDecidable _)
def sp94_33_h0 (a _m b q h : D) : D := .sl (srtSeg (c33 q) h.toL a.toI.toNat b.toI.toNat)
noncomputable def Tx94 (n : Nat) : CallF := extendR Tb93 94 (fm3 33 [Ty.p 40] (prx94_33 n) sp94_33_h0)
noncomputable section
section
variable {R : Type}
def m94_2 (n N : Nat) (x0n : Bool) (x1 x2 x3 x4_0 h0 : D) (K : Bool → D → D → D → D → D → D → Option R) : Option R :=
  K x0n x1 x2 x3 x4_0 (D.b (eqb (IntKind.i64.wrap (x2.toI - x1.toI)) 1)) h0
def s94_0 (x0n : Bool) (x1 x2 x3 x4_0 h0 : D) : St := sts 220 [(0, V.ms 0 x0n), (1, V.f x1), (2, V.f x2), (3, V.f x3), (4, V.fn 33 [V.f x4_0] [Ty.p 40])] [V.f h0]
def s94_1 (x0n : Bool) (x1 x2 x3 x4_0 x28 h0 : D) : St := sts 220 [(0, V.ms 0 x0n), (1, V.f x1), (2, V.f x2), (3, V.f x3), (4, V.fn 33 [V.f x4_0] [Ty.p 40]), (28, V.f x28)] [V.f h0]
theorem e94_2 (n N : Nat) (k : Kn R) (x0n : Bool) (x1 x2 x3 x4_0 h0 : D) : runC PHI (Tx94 n) N vc94_2 (s94_0 x0n x1 x2 x3 x4_0 h0) k = m94_2 n N x0n x1 x2 x3 x4_0 h0 (fun x0n x1 x2 x3 x4_0 x28 h0 => k .normal (s94_1 x0n x1 x2 x3 x4_0 x28 h0)) := by
  refine Eq.trans (runC_post _ _ _ k) (Eq.trans (ops_run _ _ _ _) (by kernel_rfl))
def m94_5 (n N : Nat) (x0n : Bool) (x1 x2 x3 x4_0 h0 : D) (K : Bool → D → D → D → D → D → Option R) : Option R :=
  K x0n x1 x3 x4_0 x2 h0
def s94_2 (x0n : Bool) (x1 x3 x4_0 x10 h0 : D) : St := sts 220 [(0, V.ms 0 x0n), (1, V.f x1), (3, V.f x3), (4, V.fn 33 [V.f x4_0] [Ty.p 40]), (10, V.f x10)] [V.f h0]
theorem e94_5 (n N : Nat) (k : Kn R) (x0n : Bool) (x1 x2 x3 x4_0 h0 : D) : runC PHI (Tx94 n) N vc94_5 (s94_0 x0n x1 x2 x3 x4_0 h0) k = m94_5 n N x0n x1 x2 x3 x4_0 h0 (fun x0n x1 x3 x4_0 x10 h0 => k .normal (s94_2 x0n x1 x3 x4_0 x10 h0)) := by
  refine Eq.trans (runC_post _ _ _ k) (Eq.trans (ops_run _ _ _ _) (by kernel_rfl))
def m94_7 (n N : Nat) (x0n : Bool) (x1 x3 x4_0 x10 h0 : D) (K : Bool → D → D → D → D → D → Option R) : Option R :=
  K x0n x1 x4_0 x10 x3 h0
def s94_3 (x0n : Bool) (x1 x4_0 x10 x11 h0 : D) : St := sts 220 [(0, V.ms 0 x0n), (1, V.f x1), (4, V.fn 33 [V.f x4_0] [Ty.p 40]), (10, V.f x10), (11, V.f x11)] [V.f h0]
theorem e94_7 (n N : Nat) (k : Kn R) (x0n : Bool) (x1 x3 x4_0 x10 h0 : D) : runC PHI (Tx94 n) N vc94_7 (s94_2 x0n x1 x3 x4_0 x10 h0) k = m94_7 n N x0n x1 x3 x4_0 x10 h0 (fun x0n x1 x4_0 x10 x11 h0 => k .normal (s94_3 x0n x1 x4_0 x10 x11 h0)) := by
  refine Eq.trans (runC_post _ _ _ k) (Eq.trans (ops_run _ _ _ _) (by kernel_rfl))
def m94_11 (n N : Nat) (x0n : Bool) (x1 x4_0 x10 x11 h0 : D) (K : Bool → D → D → D → D → D → Option R) (K0 : Bool → D → D → D → Option R) : Option R :=
  (bif (ltb x10.toI x11.toI) then (bif (F2.ok (.shr .u64) (D.i (IntKind.u64.wrap (IntKind.i64.wrap (x10.toI + x11.toI)))) (D.i 1)) then (bif (inb (IntKind.i64.wrap (F2.ev (.shr .u64) (D.i (IntKind.u64.wrap (IntKind.i64.wrap (x10.toI + x11.toI)))) (D.i 1)).toI) h0.toL.length) then (bif (inb x1.toI h0.toL.length) then (bif (pr33 (h0.at ((IntKind.i64.wrap (F2.ev (.shr .u64) (D.i (IntKind.u64.wrap (IntKind.i64.wrap (x10.toI + x11.toI)))) (D.i 1)).toI) : Int).toNat) (h0.at (x1.toI : Int).toNat) x4_0) then (bif (ltb (sp33 (h0.at ((IntKind.i64.wrap (F2.ev (.shr .u64) (D.i (IntKind.u64.wrap (IntKind.i64.wrap (x10.toI + x11.toI)))) (D.i 1)).toI) : Int).toNat) (h0.at (x1.toI : Int).toNat) x4_0) 0) then K x0n x1 x4_0 (D.i (IntKind.i64.wrap ((IntKind.i64.wrap (F2.ev (.shr .u64) (D.i (IntKind.u64.wrap (IntKind.i64.wrap (x10.toI + x11.toI)))) (D.i 1)).toI) + 1))) x11 h0 else K x0n x1 x4_0 x10 (D.i (IntKind.i64.wrap (F2.ev (.shr .u64) (D.i (IntKind.u64.wrap (IntKind.i64.wrap (x10.toI + x11.toI)))) (D.i 1)).toI)) h0) else none) else none) else none) else none) else K0 x0n x1 x10 h0)
def s94_4 (x0n : Bool) (x1 x10 h0 : D) : St := sts 220 [(0, V.ms 0 x0n), (1, V.f x1), (10, V.f x10)] [V.f h0]
theorem e94_11 (n N : Nat) (k : Kn R) (x0n : Bool) (x1 x4_0 x10 x11 h0 : D) : runC PHI (Tx94 n) N vc94_11 (s94_3 x0n x1 x4_0 x10 x11 h0) k = m94_11 n N x0n x1 x4_0 x10 x11 h0 (fun x0n x1 x4_0 x10 x11 h0 => k .normal (s94_3 x0n x1 x4_0 x10 x11 h0)) (fun x0n x1 x10 h0 => k (.exit 0) (s94_4 x0n x1 x10 h0)) := by kernel_rfl
def l94_10 (n N : Nat) (j : Nat) (x0n : Bool) (x1 x4_0 x10 x11 h0 : D) (K0 : Bool → D → D → D → Option R) : Option R :=
  match j with
  | 0 => none
  | j + 1 => (m94_11 n N x0n x1 x4_0 x10 x11 h0 (fun y0n y1 y4_0 y10 y11 h0 => l94_10 n N j y0n y1 y4_0 y10 y11 h0 K0) K0)
def m94_10 (n N : Nat) (x0n : Bool) (x1 x4_0 x10 x11 h0 : D) (K0 : Bool → D → D → D → Option R) : Option R :=
  l94_10 n N N x0n x1 x4_0 x10 x11 h0 K0
theorem el94_10 (n N : Nat) (k : Kn R) : ∀ (j : Nat) (x0n : Bool) (x1 x4_0 x10 x11 h0 : D), loopGo (runC PHI (Tx94 n) N vc94_11) j (s94_3 x0n x1 x4_0 x10 x11 h0) k = l94_10 n N j x0n x1 x4_0 x10 x11 h0 (fun x0n x1 x10 h0 => k (.exit 0) (s94_4 x0n x1 x10 h0))
  | 0, _, _, _, _, _, _ => by kernel_rfl
  | j + 1, x0n, x1, x4_0, x10, x11, h0 => by
    have h2 := e94_11 n N (kloop PHI (Tx94 n) N vc94_11 j k) x0n x1 x4_0 x10 x11 h0
    have h3 : (fun (y0n : Bool) (y1 y4_0 y10 y11 h0 : D) => (kloop PHI (Tx94 n) N vc94_11 j k) .normal (s94_3 y0n y1 y4_0 y10 y11 h0)) = (fun (y0n : Bool) (y1 y4_0 y10 y11 h0 : D) => l94_10 n N j y0n y1 y4_0 y10 y11 h0 (fun x0n x1 x10 h0 => k (.exit 0) (s94_4 x0n x1 x10 h0))) := funext fun y0n => funext fun y1 => funext fun y4_0 => funext fun y10 => funext fun y11 => funext fun h0 => (el94_10 n N k j y0n y1 y4_0 y10 y11 h0)
    refine Eq.trans (loop_succ _ j _ k) (Eq.trans h2 (Eq.trans (congrArg (fun K => m94_11 n N x0n x1 x4_0 x10 x11 h0 K (fun x0n x1 x10 h0 => (kloop PHI (Tx94 n) N vc94_11 j k) (.exit 0) (s94_4 x0n x1 x10 h0))) h3) (by kernel_rfl)))
theorem e94_10 (n N : Nat) (k : Kn R) (x0n : Bool) (x1 x4_0 x10 x11 h0 : D) : runC PHI (Tx94 n) N vc94_10 (s94_3 x0n x1 x4_0 x10 x11 h0) k = m94_10 n N x0n x1 x4_0 x10 x11 h0 (fun x0n x1 x10 h0 => k (.exit 0) (s94_4 x0n x1 x10 h0)) := by
  refine Eq.trans (runC_loop _ _ k) (Eq.trans (el94_10 n N k N x0n x1 x4_0 x10 x11 h0) (by kernel_rfl))
def m94_9 (n N : Nat) (x0n : Bool) (x1 x4_0 x10 x11 h0 : D) (K : Bool → D → D → D → Option R) : Option R :=
  (m94_10 n N x0n x1 x4_0 x10 x11 h0 (fun y0n y1 y10 h0 => K y0n y1 y10 h0))
theorem e94_9 (n N : Nat) (k : Kn R) (x0n : Bool) (x1 x4_0 x10 x11 h0 : D) : runC PHI (Tx94 n) N vc94_9 (s94_3 x0n x1 x4_0 x10 x11 h0) k = m94_9 n N x0n x1 x4_0 x10 x11 h0 (fun x0n x1 x10 h0 => k .normal (s94_4 x0n x1 x10 h0)) := by
  refine Eq.trans (runC_block _ _ _ k) (Eq.trans (e94_10 n N (kblk 0 k) x0n x1 x4_0 x10 x11 h0) (by kernel_rfl))
def m94_27 (n N : Nat) (x0n : Bool) (x1 x10 h0 : D) (K : Bool → D → D → D → Option R) : Option R :=
  K x0n x10 x1 h0
def s94_5 (x0n : Bool) (x10 x13 h0 : D) : St := sts 220 [(0, V.ms 0 x0n), (10, V.f x10), (13, V.f x13)] [V.f h0]
theorem e94_27 (n N : Nat) (k : Kn R) (x0n : Bool) (x1 x10 h0 : D) : runC PHI (Tx94 n) N vc94_27 (s94_4 x0n x1 x10 h0) k = m94_27 n N x0n x1 x10 h0 (fun x0n x10 x13 h0 => k .normal (s94_5 x0n x10 x13 h0)) := by
  refine Eq.trans (runC_post _ _ _ k) (Eq.trans (ops_run _ _ _ _) (by kernel_rfl))
def m94_30 (n N : Nat) (x0n : Bool) (x10 x13 h0 : D) (K : Bool → D → D → D → Option R) (K2 : D → Option R) : Option R :=
  (bif (ltb x13.toI (IntKind.i64.wrap (x10.toI - 1))) then (bif (inb (IntKind.i64.wrap (x13.toI + 1)) h0.toL.length) then (bif (inb x13.toI h0.toL.length) then (bif (inb x13.toI h0.toL.length) then (bif (inb (IntKind.i64.wrap (x13.toI + 1)) (D.setP [(x13.toI : Int).toNat] h0 (h0.at ((IntKind.i64.wrap (x13.toI + 1)) : Int).toNat)).toL.length) then K x0n x10 (D.i (IntKind.i64.wrap (x13.toI + 1))) (D.setP [((IntKind.i64.wrap (x13.toI + 1)) : Int).toNat] (D.setP [(x13.toI : Int).toNat] h0 (h0.at ((IntKind.i64.wrap (x13.toI + 1)) : Int).toNat)) (h0.at (x13.toI : Int).toNat)) else none) else none) else none) else none) else K2 h0)
def s94_6 (h0 : D) : St := sts 220 [] [V.f h0]
theorem e94_30 (n N : Nat) (k : Kn R) (x0n : Bool) (x10 x13 h0 : D) : runC PHI (Tx94 n) N vc94_30 (s94_5 x0n x10 x13 h0) k = m94_30 n N x0n x10 x13 h0 (fun x0n x10 x13 h0 => k .normal (s94_5 x0n x10 x13 h0)) (fun h0 => k (.exit 2) (s94_6 h0)) := by kernel_rfl
def l94_29 (n N : Nat) (j : Nat) (x0n : Bool) (x10 x13 h0 : D) (K2 : D → Option R) : Option R :=
  match j with
  | 0 => none
  | j + 1 => (m94_30 n N x0n x10 x13 h0 (fun y0n y10 y13 h0 => l94_29 n N j y0n y10 y13 h0 K2) K2)
def m94_29 (n N : Nat) (x0n : Bool) (x10 x13 h0 : D) (K2 : D → Option R) : Option R :=
  l94_29 n N N x0n x10 x13 h0 K2
theorem el94_29 (n N : Nat) (k : Kn R) : ∀ (j : Nat) (x0n : Bool) (x10 x13 h0 : D), loopGo (runC PHI (Tx94 n) N vc94_30) j (s94_5 x0n x10 x13 h0) k = l94_29 n N j x0n x10 x13 h0 (fun h0 => k (.exit 2) (s94_6 h0))
  | 0, _, _, _, _ => by kernel_rfl
  | j + 1, x0n, x10, x13, h0 => by
    have h2 := e94_30 n N (kloop PHI (Tx94 n) N vc94_30 j k) x0n x10 x13 h0
    have h3 : (fun (y0n : Bool) (y10 y13 h0 : D) => (kloop PHI (Tx94 n) N vc94_30 j k) .normal (s94_5 y0n y10 y13 h0)) = (fun (y0n : Bool) (y10 y13 h0 : D) => l94_29 n N j y0n y10 y13 h0 (fun h0 => k (.exit 2) (s94_6 h0))) := funext fun y0n => funext fun y10 => funext fun y13 => funext fun h0 => (el94_29 n N k j y0n y10 y13 h0)
    refine Eq.trans (loop_succ _ j _ k) (Eq.trans h2 (Eq.trans (congrArg (fun K => m94_30 n N x0n x10 x13 h0 K (fun h0 => (kloop PHI (Tx94 n) N vc94_30 j k) (.exit 2) (s94_6 h0))) h3) (by kernel_rfl)))
theorem e94_29 (n N : Nat) (k : Kn R) (x0n : Bool) (x10 x13 h0 : D) : runC PHI (Tx94 n) N vc94_29 (s94_5 x0n x10 x13 h0) k = m94_29 n N x0n x10 x13 h0 (fun h0 => k (.exit 2) (s94_6 h0)) := by
  refine Eq.trans (runC_loop _ _ k) (Eq.trans (el94_29 n N k N x0n x10 x13 h0) (by kernel_rfl))
def m94_28 (n N : Nat) (x0n : Bool) (x10 x13 h0 : D) (K : D → Option R) : Option R :=
  (m94_29 n N x0n x10 x13 h0 (fun h0 => K h0))
theorem e94_28 (n N : Nat) (k : Kn R) (x0n : Bool) (x10 x13 h0 : D) : runC PHI (Tx94 n) N vc94_28 (s94_5 x0n x10 x13 h0) k = m94_28 n N x0n x10 x13 h0 (fun h0 => k .normal (s94_6 h0)) := by
  refine Eq.trans (runC_block _ _ _ k) (Eq.trans (e94_29 n N (kblk 2 k) x0n x10 x13 h0) (by kernel_rfl))
def m94_26 (n N : Nat) (x0n : Bool) (x1 x10 h0 : D) (K : D → Option R) : Option R :=
  (m94_27 n N x0n x1 x10 h0 (fun y0n y10 y13 h0 => (m94_28 n N y0n y10 y13 h0 (fun h0 => K h0))))
theorem e94_26 (n N : Nat) (k : Kn R) (x0n : Bool) (x1 x10 h0 : D) : runC PHI (Tx94 n) N vc94_26 (s94_4 x0n x1 x10 h0) k = m94_26 n N x0n x1 x10 h0 (fun h0 => k .normal (s94_6 h0)) := by
  have h2 := e94_27 n N (kseq PHI (Tx94 n) N vc94_28 k) x0n x1 x10 h0
  have h3 := (funext fun y0n => funext fun y10 => funext fun y13 => funext fun h0 => (e94_28 n N k y0n y10 y13 h0) : (fun (y0n : Bool) (y10 y13 h0 : D) => (kseq PHI (Tx94 n) N vc94_28 k) .normal (s94_5 y0n y10 y13 h0)) = _)
  refine Eq.trans (runC_seq _ _ _ k) (Eq.trans h2 (Eq.trans (congrArg (fun K => m94_27 n N x0n x1 x10 h0 K) h3) (by kernel_rfl)))
def m94_40 (n N : Nat) (h0 : D) (Kr : D → Option R) : Option R :=
  Kr h0
theorem e94_40 (n N : Nat) (k : Kn R) (h0 : D) : runC PHI (Tx94 n) N vc94_40 (s94_6 h0) k = m94_40 n N h0 (fun h0 => k .ret (s94_6 h0)) := by kernel_rfl
def m94_25 (n N : Nat) (x0n : Bool) (x1 x10 h0 : D) (Kr : D → Option R) : Option R :=
  (m94_26 n N x0n x1 x10 h0 (fun h0 => (m94_40 n N h0 Kr)))
theorem e94_25 (n N : Nat) (k : Kn R) (x0n : Bool) (x1 x10 h0 : D) : runC PHI (Tx94 n) N vc94_25 (s94_4 x0n x1 x10 h0) k = m94_25 n N x0n x1 x10 h0 (fun h0 => k .ret (s94_6 h0)) := by
  have h2 := e94_26 n N (kseq PHI (Tx94 n) N vc94_40 k) x0n x1 x10 h0
  have h3 := (funext fun h0 => (e94_40 n N k h0) : (fun (h0 : D) => (kseq PHI (Tx94 n) N vc94_40 k) .normal (s94_6 h0)) = _)
  refine Eq.trans (runC_seq _ _ _ k) (Eq.trans h2 (Eq.trans (congrArg (fun K => m94_26 n N x0n x1 x10 h0 K) h3) (by kernel_rfl)))
def m94_8 (n N : Nat) (x0n : Bool) (x1 x4_0 x10 x11 h0 : D) (Kr : D → Option R) : Option R :=
  (m94_9 n N x0n x1 x4_0 x10 x11 h0 (fun y0n y1 y10 h0 => (m94_25 n N y0n y1 y10 h0 Kr)))
theorem e94_8 (n N : Nat) (k : Kn R) (x0n : Bool) (x1 x4_0 x10 x11 h0 : D) : runC PHI (Tx94 n) N vc94_8 (s94_3 x0n x1 x4_0 x10 x11 h0) k = m94_8 n N x0n x1 x4_0 x10 x11 h0 (fun h0 => k .ret (s94_6 h0)) := by
  have h2 := e94_9 n N (kseq PHI (Tx94 n) N vc94_25 k) x0n x1 x4_0 x10 x11 h0
  have h3 := (funext fun y0n => funext fun y1 => funext fun y10 => funext fun h0 => (e94_25 n N k y0n y1 y10 h0) : (fun (y0n : Bool) (y1 y10 h0 : D) => (kseq PHI (Tx94 n) N vc94_25 k) .normal (s94_4 y0n y1 y10 h0)) = _)
  refine Eq.trans (runC_seq _ _ _ k) (Eq.trans h2 (Eq.trans (congrArg (fun K => m94_9 n N x0n x1 x4_0 x10 x11 h0 K) h3) (by kernel_rfl)))
def m94_6 (n N : Nat) (x0n : Bool) (x1 x3 x4_0 x10 h0 : D) (Kr : D → Option R) : Option R :=
  (m94_7 n N x0n x1 x3 x4_0 x10 h0 (fun y0n y1 y4_0 y10 y11 h0 => (m94_8 n N y0n y1 y4_0 y10 y11 h0 Kr)))
theorem e94_6 (n N : Nat) (k : Kn R) (x0n : Bool) (x1 x3 x4_0 x10 h0 : D) : runC PHI (Tx94 n) N vc94_6 (s94_2 x0n x1 x3 x4_0 x10 h0) k = m94_6 n N x0n x1 x3 x4_0 x10 h0 (fun h0 => k .ret (s94_6 h0)) := by
  have h2 := e94_7 n N (kseq PHI (Tx94 n) N vc94_8 k) x0n x1 x3 x4_0 x10 h0
  have h3 := (funext fun y0n => funext fun y1 => funext fun y4_0 => funext fun y10 => funext fun y11 => funext fun h0 => (e94_8 n N k y0n y1 y4_0 y10 y11 h0) : (fun (y0n : Bool) (y1 y4_0 y10 y11 h0 : D) => (kseq PHI (Tx94 n) N vc94_8 k) .normal (s94_3 y0n y1 y4_0 y10 y11 h0)) = _)
  refine Eq.trans (runC_seq _ _ _ k) (Eq.trans h2 (Eq.trans (congrArg (fun K => m94_7 n N x0n x1 x3 x4_0 x10 h0 K) h3) (by kernel_rfl)))
def m94_4 (n N : Nat) (x0n : Bool) (x1 x2 x3 x4_0 h0 : D) (Kr : D → Option R) : Option R :=
  (m94_5 n N x0n x1 x2 x3 x4_0 h0 (fun y0n y1 y3 y4_0 y10 h0 => (m94_6 n N y0n y1 y3 y4_0 y10 h0 Kr)))
theorem e94_4 (n N : Nat) (k : Kn R) (x0n : Bool) (x1 x2 x3 x4_0 h0 : D) : runC PHI (Tx94 n) N vc94_4 (s94_0 x0n x1 x2 x3 x4_0 h0) k = m94_4 n N x0n x1 x2 x3 x4_0 h0 (fun h0 => k .ret (s94_6 h0)) := by
  have h2 := e94_5 n N (kseq PHI (Tx94 n) N vc94_6 k) x0n x1 x2 x3 x4_0 h0
  have h3 := (funext fun y0n => funext fun y1 => funext fun y3 => funext fun y4_0 => funext fun y10 => funext fun h0 => (e94_6 n N k y0n y1 y3 y4_0 y10 h0) : (fun (y0n : Bool) (y1 y3 y4_0 y10 h0 : D) => (kseq PHI (Tx94 n) N vc94_6 k) .normal (s94_2 y0n y1 y3 y4_0 y10 h0)) = _)
  refine Eq.trans (runC_seq _ _ _ k) (Eq.trans h2 (Eq.trans (congrArg (fun K => m94_5 n N x0n x1 x2 x3 x4_0 h0 K) h3) (by kernel_rfl)))
def m94_41 (n N : Nat) (x0n : Bool) (x1 x2 x3 x4_0 h0 : D) (K : Bool → D → D → D → D → D → Option R) : Option R :=
  K x0n x1 x2 x3 x4_0 h0
theorem e94_41 (n N : Nat) (k : Kn R) (x0n : Bool) (x1 x2 x3 x4_0 h0 : D) : runC PHI (Tx94 n) N vc94_41 (s94_0 x0n x1 x2 x3 x4_0 h0) k = m94_41 n N x0n x1 x2 x3 x4_0 h0 (fun x0n x1 x2 x3 x4_0 h0 => k .normal (s94_0 x0n x1 x2 x3 x4_0 h0)) := by kernel_rfl
def m94_3 (n N : Nat) (x0n : Bool) (x1 x2 x3 x4_0 x28 h0 : D) (K : Bool → D → D → D → D → D → Option R) (Kr : D → Option R) : Option R :=
  (bif x28.toB then (m94_4 n N x0n x1 x2 x3 x4_0 h0 Kr) else (m94_41 n N x0n x1 x2 x3 x4_0 h0 (fun y0n y1 y2 y3 y4_0 h0 => K y0n y1 y2 y3 y4_0 h0)))
theorem e94_3 (n N : Nat) (k : Kn R) (x0n : Bool) (x1 x2 x3 x4_0 x28 h0 : D) : runC PHI (Tx94 n) N vc94_3 (s94_1 x0n x1 x2 x3 x4_0 x28 h0) k = m94_3 n N x0n x1 x2 x3 x4_0 x28 h0 (fun x0n x1 x2 x3 x4_0 h0 => k .normal (s94_0 x0n x1 x2 x3 x4_0 h0)) (fun h0 => k .ret (s94_6 h0)) := by
  refine Eq.trans (runC_cond (s1 := (s94_0 x0n x1 x2 x3 x4_0 h0)) (s2 := (s94_0 x0n x1 x2 x3 x4_0 h0)) (d := x28) _ _ k (by kernel_rfl) (by kernel_rfl) (by kernel_rfl)) (Eq.trans (congr (congrArg (cond x28.toB) ((e94_4 n N k x0n x1 x2 x3 x4_0 h0))) ((e94_41 n N k x0n x1 x2 x3 x4_0 h0))) (by kernel_rfl))
def m94_1 (n N : Nat) (x0n : Bool) (x1 x2 x3 x4_0 h0 : D) (K : Bool → D → D → D → D → D → Option R) (Kr : D → Option R) : Option R :=
  (m94_2 n N x0n x1 x2 x3 x4_0 h0 (fun y0n y1 y2 y3 y4_0 y28 h0 => (m94_3 n N y0n y1 y2 y3 y4_0 y28 h0 (fun y0n y1 y2 y3 y4_0 h0 => K y0n y1 y2 y3 y4_0 h0) Kr)))
theorem e94_1 (n N : Nat) (k : Kn R) (x0n : Bool) (x1 x2 x3 x4_0 h0 : D) : runC PHI (Tx94 n) N vc94_1 (s94_0 x0n x1 x2 x3 x4_0 h0) k = m94_1 n N x0n x1 x2 x3 x4_0 h0 (fun x0n x1 x2 x3 x4_0 h0 => k .normal (s94_0 x0n x1 x2 x3 x4_0 h0)) (fun h0 => k .ret (s94_6 h0)) := by
  have h2 := e94_2 n N (kseq PHI (Tx94 n) N vc94_3 k) x0n x1 x2 x3 x4_0 h0
  have h3 := (funext fun y0n => funext fun y1 => funext fun y2 => funext fun y3 => funext fun y4_0 => funext fun y28 => funext fun h0 => (e94_3 n N k y0n y1 y2 y3 y4_0 y28 h0) : (fun (y0n : Bool) (y1 y2 y3 y4_0 y28 h0 : D) => (kseq PHI (Tx94 n) N vc94_3 k) .normal (s94_1 y0n y1 y2 y3 y4_0 y28 h0)) = _)
  refine Eq.trans (runC_seq _ _ _ k) (Eq.trans h2 (Eq.trans (congrArg (fun K => m94_2 n N x0n x1 x2 x3 x4_0 h0 K) h3) (by kernel_rfl)))
def m94_44 (n N : Nat) (x0n : Bool) (x1 x2 x3 x4_0 h0 : D) (K : Bool → D → D → D → D → D → D → Option R) : Option R :=
  K x0n x1 x2 x3 x4_0 (D.b (eqb (IntKind.i64.wrap (x3.toI - x2.toI)) 1)) h0
def s94_7 (x0n : Bool) (x1 x2 x3 x4_0 x80 h0 : D) : St := sts 220 [(0, V.ms 0 x0n), (1, V.f x1), (2, V.f x2), (3, V.f x3), (4, V.fn 33 [V.f x4_0] [Ty.p 40]), (80, V.f x80)] [V.f h0]
theorem e94_44 (n N : Nat) (k : Kn R) (x0n : Bool) (x1 x2 x3 x4_0 h0 : D) : runC PHI (Tx94 n) N vc94_44 (s94_0 x0n x1 x2 x3 x4_0 h0) k = m94_44 n N x0n x1 x2 x3 x4_0 h0 (fun x0n x1 x2 x3 x4_0 x80 h0 => k .normal (s94_7 x0n x1 x2 x3 x4_0 x80 h0)) := by
  refine Eq.trans (runC_post _ _ _ k) (Eq.trans (ops_run _ _ _ _) (by kernel_rfl))
def m94_47 (n N : Nat) (x0n : Bool) (x1 x2 x4_0 h0 : D) (K : Bool → D → D → D → D → Option R) : Option R :=
  K x0n x2 x4_0 x1 h0
def s94_8 (x0n : Bool) (x1 x2 x4_0 h0 : D) : St := sts 220 [(0, V.ms 0 x0n), (1, V.f x1), (2, V.f x2), (4, V.fn 33 [V.f x4_0] [Ty.p 40])] [V.f h0]
def s94_9 (x0n : Bool) (x2 x4_0 x14 h0 : D) : St := sts 220 [(0, V.ms 0 x0n), (2, V.f x2), (4, V.fn 33 [V.f x4_0] [Ty.p 40]), (14, V.f x14)] [V.f h0]
theorem e94_47 (n N : Nat) (k : Kn R) (x0n : Bool) (x1 x2 x4_0 h0 : D) : runC PHI (Tx94 n) N vc94_47 (s94_8 x0n x1 x2 x4_0 h0) k = m94_47 n N x0n x1 x2 x4_0 h0 (fun x0n x2 x4_0 x14 h0 => k .normal (s94_9 x0n x2 x4_0 x14 h0)) := by
  refine Eq.trans (runC_post _ _ _ k) (Eq.trans (ops_run _ _ _ _) (by kernel_rfl))
def m94_49 (n N : Nat) (x0n : Bool) (x2 x4_0 x14 h0 : D) (K : Bool → D → D → D → D → D → Option R) : Option R :=
  K x0n x2 x4_0 x14 x2 h0
def s94_10 (x0n : Bool) (x2 x4_0 x14 x15 h0 : D) : St := sts 220 [(0, V.ms 0 x0n), (2, V.f x2), (4, V.fn 33 [V.f x4_0] [Ty.p 40]), (14, V.f x14), (15, V.f x15)] [V.f h0]
theorem e94_49 (n N : Nat) (k : Kn R) (x0n : Bool) (x2 x4_0 x14 h0 : D) : runC PHI (Tx94 n) N vc94_49 (s94_9 x0n x2 x4_0 x14 h0) k = m94_49 n N x0n x2 x4_0 x14 h0 (fun x0n x2 x4_0 x14 x15 h0 => k .normal (s94_10 x0n x2 x4_0 x14 x15 h0)) := by
  refine Eq.trans (runC_post _ _ _ k) (Eq.trans (ops_run _ _ _ _) (by kernel_rfl))
def m94_53 (n N : Nat) (x0n : Bool) (x2 x4_0 x14 x15 h0 : D) (K : Bool → D → D → D → D → D → Option R) (K4 : Bool → D → D → D → Option R) : Option R :=
  (bif (ltb x14.toI x15.toI) then (bif (F2.ok (.shr .u64) (D.i (IntKind.u64.wrap (IntKind.i64.wrap (x14.toI + x15.toI)))) (D.i 1)) then (bif (inb x2.toI h0.toL.length) then (bif (inb (IntKind.i64.wrap (F2.ev (.shr .u64) (D.i (IntKind.u64.wrap (IntKind.i64.wrap (x14.toI + x15.toI)))) (D.i 1)).toI) h0.toL.length) then (bif (pr33 (h0.at (x2.toI : Int).toNat) (h0.at ((IntKind.i64.wrap (F2.ev (.shr .u64) (D.i (IntKind.u64.wrap (IntKind.i64.wrap (x14.toI + x15.toI)))) (D.i 1)).toI) : Int).toNat) x4_0) then (bif (!(ltb (sp33 (h0.at (x2.toI : Int).toNat) (h0.at ((IntKind.i64.wrap (F2.ev (.shr .u64) (D.i (IntKind.u64.wrap (IntKind.i64.wrap (x14.toI + x15.toI)))) (D.i 1)).toI) : Int).toNat) x4_0) 0)) then K x0n x2 x4_0 (D.i (IntKind.i64.wrap ((IntKind.i64.wrap (F2.ev (.shr .u64) (D.i (IntKind.u64.wrap (IntKind.i64.wrap (x14.toI + x15.toI)))) (D.i 1)).toI) + 1))) x15 h0 else K x0n x2 x4_0 x14 (D.i (IntKind.i64.wrap (F2.ev (.shr .u64) (D.i (IntKind.u64.wrap (IntKind.i64.wrap (x14.toI + x15.toI)))) (D.i 1)).toI)) h0) else none) else none) else none) else none) else K4 x0n x2 x14 h0)
def s94_11 (x0n : Bool) (x2 x14 h0 : D) : St := sts 220 [(0, V.ms 0 x0n), (2, V.f x2), (14, V.f x14)] [V.f h0]
theorem e94_53 (n N : Nat) (k : Kn R) (x0n : Bool) (x2 x4_0 x14 x15 h0 : D) : runC PHI (Tx94 n) N vc94_53 (s94_10 x0n x2 x4_0 x14 x15 h0) k = m94_53 n N x0n x2 x4_0 x14 x15 h0 (fun x0n x2 x4_0 x14 x15 h0 => k .normal (s94_10 x0n x2 x4_0 x14 x15 h0)) (fun x0n x2 x14 h0 => k (.exit 4) (s94_11 x0n x2 x14 h0)) := by kernel_rfl
def l94_52 (n N : Nat) (j : Nat) (x0n : Bool) (x2 x4_0 x14 x15 h0 : D) (K4 : Bool → D → D → D → Option R) : Option R :=
  match j with
  | 0 => none
  | j + 1 => (m94_53 n N x0n x2 x4_0 x14 x15 h0 (fun y0n y2 y4_0 y14 y15 h0 => l94_52 n N j y0n y2 y4_0 y14 y15 h0 K4) K4)
def m94_52 (n N : Nat) (x0n : Bool) (x2 x4_0 x14 x15 h0 : D) (K4 : Bool → D → D → D → Option R) : Option R :=
  l94_52 n N N x0n x2 x4_0 x14 x15 h0 K4
theorem el94_52 (n N : Nat) (k : Kn R) : ∀ (j : Nat) (x0n : Bool) (x2 x4_0 x14 x15 h0 : D), loopGo (runC PHI (Tx94 n) N vc94_53) j (s94_10 x0n x2 x4_0 x14 x15 h0) k = l94_52 n N j x0n x2 x4_0 x14 x15 h0 (fun x0n x2 x14 h0 => k (.exit 4) (s94_11 x0n x2 x14 h0))
  | 0, _, _, _, _, _, _ => by kernel_rfl
  | j + 1, x0n, x2, x4_0, x14, x15, h0 => by
    have h2 := e94_53 n N (kloop PHI (Tx94 n) N vc94_53 j k) x0n x2 x4_0 x14 x15 h0
    have h3 : (fun (y0n : Bool) (y2 y4_0 y14 y15 h0 : D) => (kloop PHI (Tx94 n) N vc94_53 j k) .normal (s94_10 y0n y2 y4_0 y14 y15 h0)) = (fun (y0n : Bool) (y2 y4_0 y14 y15 h0 : D) => l94_52 n N j y0n y2 y4_0 y14 y15 h0 (fun x0n x2 x14 h0 => k (.exit 4) (s94_11 x0n x2 x14 h0))) := funext fun y0n => funext fun y2 => funext fun y4_0 => funext fun y14 => funext fun y15 => funext fun h0 => (el94_52 n N k j y0n y2 y4_0 y14 y15 h0)
    refine Eq.trans (loop_succ _ j _ k) (Eq.trans h2 (Eq.trans (congrArg (fun K => m94_53 n N x0n x2 x4_0 x14 x15 h0 K (fun x0n x2 x14 h0 => (kloop PHI (Tx94 n) N vc94_53 j k) (.exit 4) (s94_11 x0n x2 x14 h0))) h3) (by kernel_rfl)))
theorem e94_52 (n N : Nat) (k : Kn R) (x0n : Bool) (x2 x4_0 x14 x15 h0 : D) : runC PHI (Tx94 n) N vc94_52 (s94_10 x0n x2 x4_0 x14 x15 h0) k = m94_52 n N x0n x2 x4_0 x14 x15 h0 (fun x0n x2 x14 h0 => k (.exit 4) (s94_11 x0n x2 x14 h0)) := by
  refine Eq.trans (runC_loop _ _ k) (Eq.trans (el94_52 n N k N x0n x2 x4_0 x14 x15 h0) (by kernel_rfl))
def m94_51 (n N : Nat) (x0n : Bool) (x2 x4_0 x14 x15 h0 : D) (K : Bool → D → D → D → Option R) : Option R :=
  (m94_52 n N x0n x2 x4_0 x14 x15 h0 (fun y0n y2 y14 h0 => K y0n y2 y14 h0))
theorem e94_51 (n N : Nat) (k : Kn R) (x0n : Bool) (x2 x4_0 x14 x15 h0 : D) : runC PHI (Tx94 n) N vc94_51 (s94_10 x0n x2 x4_0 x14 x15 h0) k = m94_51 n N x0n x2 x4_0 x14 x15 h0 (fun x0n x2 x14 h0 => k .normal (s94_11 x0n x2 x14 h0)) := by
  refine Eq.trans (runC_block _ _ _ k) (Eq.trans (e94_52 n N (kblk 4 k) x0n x2 x4_0 x14 x15 h0) (by kernel_rfl))
def m94_69 (n N : Nat) (x0n : Bool) (x2 x14 h0 : D) (K : Bool → D → D → D → Option R) : Option R :=
  K x0n x14 x2 h0
def s94_12 (x0n : Bool) (x14 x17 h0 : D) : St := sts 220 [(0, V.ms 0 x0n), (14, V.f x14), (17, V.f x17)] [V.f h0]
theorem e94_69 (n N : Nat) (k : Kn R) (x0n : Bool) (x2 x14 h0 : D) : runC PHI (Tx94 n) N vc94_69 (s94_11 x0n x2 x14 h0) k = m94_69 n N x0n x2 x14 h0 (fun x0n x14 x17 h0 => k .normal (s94_12 x0n x14 x17 h0)) := by
  refine Eq.trans (runC_post _ _ _ k) (Eq.trans (ops_run _ _ _ _) (by kernel_rfl))
def m94_72 (n N : Nat) (x0n : Bool) (x14 x17 h0 : D) (K : Bool → D → D → D → Option R) (K6 : D → Option R) : Option R :=
  (bif (ltb x14.toI x17.toI) then (bif (inb (IntKind.i64.wrap (x17.toI - 1)) h0.toL.length) then (bif (inb x17.toI h0.toL.length) then (bif (inb x17.toI h0.toL.length) then (bif (inb (IntKind.i64.wrap (x17.toI - 1)) (D.setP [(x17.toI : Int).toNat] h0 (h0.at ((IntKind.i64.wrap (x17.toI - 1)) : Int).toNat)).toL.length) then K x0n x14 (D.i (IntKind.i64.wrap (x17.toI - 1))) (D.setP [((IntKind.i64.wrap (x17.toI - 1)) : Int).toNat] (D.setP [(x17.toI : Int).toNat] h0 (h0.at ((IntKind.i64.wrap (x17.toI - 1)) : Int).toNat)) (h0.at (x17.toI : Int).toNat)) else none) else none) else none) else none) else K6 h0)
theorem e94_72 (n N : Nat) (k : Kn R) (x0n : Bool) (x14 x17 h0 : D) : runC PHI (Tx94 n) N vc94_72 (s94_12 x0n x14 x17 h0) k = m94_72 n N x0n x14 x17 h0 (fun x0n x14 x17 h0 => k .normal (s94_12 x0n x14 x17 h0)) (fun h0 => k (.exit 6) (s94_6 h0)) := by kernel_rfl
def l94_71 (n N : Nat) (j : Nat) (x0n : Bool) (x14 x17 h0 : D) (K6 : D → Option R) : Option R :=
  match j with
  | 0 => none
  | j + 1 => (m94_72 n N x0n x14 x17 h0 (fun y0n y14 y17 h0 => l94_71 n N j y0n y14 y17 h0 K6) K6)
def m94_71 (n N : Nat) (x0n : Bool) (x14 x17 h0 : D) (K6 : D → Option R) : Option R :=
  l94_71 n N N x0n x14 x17 h0 K6
theorem el94_71 (n N : Nat) (k : Kn R) : ∀ (j : Nat) (x0n : Bool) (x14 x17 h0 : D), loopGo (runC PHI (Tx94 n) N vc94_72) j (s94_12 x0n x14 x17 h0) k = l94_71 n N j x0n x14 x17 h0 (fun h0 => k (.exit 6) (s94_6 h0))
  | 0, _, _, _, _ => by kernel_rfl
  | j + 1, x0n, x14, x17, h0 => by
    have h2 := e94_72 n N (kloop PHI (Tx94 n) N vc94_72 j k) x0n x14 x17 h0
    have h3 : (fun (y0n : Bool) (y14 y17 h0 : D) => (kloop PHI (Tx94 n) N vc94_72 j k) .normal (s94_12 y0n y14 y17 h0)) = (fun (y0n : Bool) (y14 y17 h0 : D) => l94_71 n N j y0n y14 y17 h0 (fun h0 => k (.exit 6) (s94_6 h0))) := funext fun y0n => funext fun y14 => funext fun y17 => funext fun h0 => (el94_71 n N k j y0n y14 y17 h0)
    refine Eq.trans (loop_succ _ j _ k) (Eq.trans h2 (Eq.trans (congrArg (fun K => m94_72 n N x0n x14 x17 h0 K (fun h0 => (kloop PHI (Tx94 n) N vc94_72 j k) (.exit 6) (s94_6 h0))) h3) (by kernel_rfl)))
theorem e94_71 (n N : Nat) (k : Kn R) (x0n : Bool) (x14 x17 h0 : D) : runC PHI (Tx94 n) N vc94_71 (s94_12 x0n x14 x17 h0) k = m94_71 n N x0n x14 x17 h0 (fun h0 => k (.exit 6) (s94_6 h0)) := by
  refine Eq.trans (runC_loop _ _ k) (Eq.trans (el94_71 n N k N x0n x14 x17 h0) (by kernel_rfl))
def m94_70 (n N : Nat) (x0n : Bool) (x14 x17 h0 : D) (K : D → Option R) : Option R :=
  (m94_71 n N x0n x14 x17 h0 (fun h0 => K h0))
theorem e94_70 (n N : Nat) (k : Kn R) (x0n : Bool) (x14 x17 h0 : D) : runC PHI (Tx94 n) N vc94_70 (s94_12 x0n x14 x17 h0) k = m94_70 n N x0n x14 x17 h0 (fun h0 => k .normal (s94_6 h0)) := by
  refine Eq.trans (runC_block _ _ _ k) (Eq.trans (e94_71 n N (kblk 6 k) x0n x14 x17 h0) (by kernel_rfl))
def m94_68 (n N : Nat) (x0n : Bool) (x2 x14 h0 : D) (K : D → Option R) : Option R :=
  (m94_69 n N x0n x2 x14 h0 (fun y0n y14 y17 h0 => (m94_70 n N y0n y14 y17 h0 (fun h0 => K h0))))
theorem e94_68 (n N : Nat) (k : Kn R) (x0n : Bool) (x2 x14 h0 : D) : runC PHI (Tx94 n) N vc94_68 (s94_11 x0n x2 x14 h0) k = m94_68 n N x0n x2 x14 h0 (fun h0 => k .normal (s94_6 h0)) := by
  have h2 := e94_69 n N (kseq PHI (Tx94 n) N vc94_70 k) x0n x2 x14 h0
  have h3 := (funext fun y0n => funext fun y14 => funext fun y17 => funext fun h0 => (e94_70 n N k y0n y14 y17 h0) : (fun (y0n : Bool) (y14 y17 h0 : D) => (kseq PHI (Tx94 n) N vc94_70 k) .normal (s94_12 y0n y14 y17 h0)) = _)
  refine Eq.trans (runC_seq _ _ _ k) (Eq.trans h2 (Eq.trans (congrArg (fun K => m94_69 n N x0n x2 x14 h0 K) h3) (by kernel_rfl)))
def m94_82 (n N : Nat) (h0 : D) (Kr : D → Option R) : Option R :=
  Kr h0
theorem e94_82 (n N : Nat) (k : Kn R) (h0 : D) : runC PHI (Tx94 n) N vc94_82 (s94_6 h0) k = m94_82 n N h0 (fun h0 => k .ret (s94_6 h0)) := by kernel_rfl
def m94_67 (n N : Nat) (x0n : Bool) (x2 x14 h0 : D) (Kr : D → Option R) : Option R :=
  (m94_68 n N x0n x2 x14 h0 (fun h0 => (m94_82 n N h0 Kr)))
theorem e94_67 (n N : Nat) (k : Kn R) (x0n : Bool) (x2 x14 h0 : D) : runC PHI (Tx94 n) N vc94_67 (s94_11 x0n x2 x14 h0) k = m94_67 n N x0n x2 x14 h0 (fun h0 => k .ret (s94_6 h0)) := by
  have h2 := e94_68 n N (kseq PHI (Tx94 n) N vc94_82 k) x0n x2 x14 h0
  have h3 := (funext fun h0 => (e94_82 n N k h0) : (fun (h0 : D) => (kseq PHI (Tx94 n) N vc94_82 k) .normal (s94_6 h0)) = _)
  refine Eq.trans (runC_seq _ _ _ k) (Eq.trans h2 (Eq.trans (congrArg (fun K => m94_68 n N x0n x2 x14 h0 K) h3) (by kernel_rfl)))
def m94_50 (n N : Nat) (x0n : Bool) (x2 x4_0 x14 x15 h0 : D) (Kr : D → Option R) : Option R :=
  (m94_51 n N x0n x2 x4_0 x14 x15 h0 (fun y0n y2 y14 h0 => (m94_67 n N y0n y2 y14 h0 Kr)))
theorem e94_50 (n N : Nat) (k : Kn R) (x0n : Bool) (x2 x4_0 x14 x15 h0 : D) : runC PHI (Tx94 n) N vc94_50 (s94_10 x0n x2 x4_0 x14 x15 h0) k = m94_50 n N x0n x2 x4_0 x14 x15 h0 (fun h0 => k .ret (s94_6 h0)) := by
  have h2 := e94_51 n N (kseq PHI (Tx94 n) N vc94_67 k) x0n x2 x4_0 x14 x15 h0
  have h3 := (funext fun y0n => funext fun y2 => funext fun y14 => funext fun h0 => (e94_67 n N k y0n y2 y14 h0) : (fun (y0n : Bool) (y2 y14 h0 : D) => (kseq PHI (Tx94 n) N vc94_67 k) .normal (s94_11 y0n y2 y14 h0)) = _)
  refine Eq.trans (runC_seq _ _ _ k) (Eq.trans h2 (Eq.trans (congrArg (fun K => m94_51 n N x0n x2 x4_0 x14 x15 h0 K) h3) (by kernel_rfl)))
def m94_48 (n N : Nat) (x0n : Bool) (x2 x4_0 x14 h0 : D) (Kr : D → Option R) : Option R :=
  (m94_49 n N x0n x2 x4_0 x14 h0 (fun y0n y2 y4_0 y14 y15 h0 => (m94_50 n N y0n y2 y4_0 y14 y15 h0 Kr)))
theorem e94_48 (n N : Nat) (k : Kn R) (x0n : Bool) (x2 x4_0 x14 h0 : D) : runC PHI (Tx94 n) N vc94_48 (s94_9 x0n x2 x4_0 x14 h0) k = m94_48 n N x0n x2 x4_0 x14 h0 (fun h0 => k .ret (s94_6 h0)) := by
  have h2 := e94_49 n N (kseq PHI (Tx94 n) N vc94_50 k) x0n x2 x4_0 x14 h0
  have h3 := (funext fun y0n => funext fun y2 => funext fun y4_0 => funext fun y14 => funext fun y15 => funext fun h0 => (e94_50 n N k y0n y2 y4_0 y14 y15 h0) : (fun (y0n : Bool) (y2 y4_0 y14 y15 h0 : D) => (kseq PHI (Tx94 n) N vc94_50 k) .normal (s94_10 y0n y2 y4_0 y14 y15 h0)) = _)
  refine Eq.trans (runC_seq _ _ _ k) (Eq.trans h2 (Eq.trans (congrArg (fun K => m94_49 n N x0n x2 x4_0 x14 h0 K) h3) (by kernel_rfl)))
def m94_46 (n N : Nat) (x0n : Bool) (x1 x2 x4_0 h0 : D) (Kr : D → Option R) : Option R :=
  (m94_47 n N x0n x1 x2 x4_0 h0 (fun y0n y2 y4_0 y14 h0 => (m94_48 n N y0n y2 y4_0 y14 h0 Kr)))
theorem e94_46 (n N : Nat) (k : Kn R) (x0n : Bool) (x1 x2 x4_0 h0 : D) : runC PHI (Tx94 n) N vc94_46 (s94_8 x0n x1 x2 x4_0 h0) k = m94_46 n N x0n x1 x2 x4_0 h0 (fun h0 => k .ret (s94_6 h0)) := by
  have h2 := e94_47 n N (kseq PHI (Tx94 n) N vc94_48 k) x0n x1 x2 x4_0 h0
  have h3 := (funext fun y0n => funext fun y2 => funext fun y4_0 => funext fun y14 => funext fun h0 => (e94_48 n N k y0n y2 y4_0 y14 h0) : (fun (y0n : Bool) (y2 y4_0 y14 h0 : D) => (kseq PHI (Tx94 n) N vc94_48 k) .normal (s94_9 y0n y2 y4_0 y14 h0)) = _)
  refine Eq.trans (runC_seq _ _ _ k) (Eq.trans h2 (Eq.trans (congrArg (fun K => m94_47 n N x0n x1 x2 x4_0 h0 K) h3) (by kernel_rfl)))
def m94_83 (n N : Nat) (x0n : Bool) (x1 x2 x3 x4_0 h0 : D) (K : Bool → D → D → D → D → D → Option R) : Option R :=
  K x0n x1 x2 x3 x4_0 h0
theorem e94_83 (n N : Nat) (k : Kn R) (x0n : Bool) (x1 x2 x3 x4_0 h0 : D) : runC PHI (Tx94 n) N vc94_83 (s94_0 x0n x1 x2 x3 x4_0 h0) k = m94_83 n N x0n x1 x2 x3 x4_0 h0 (fun x0n x1 x2 x3 x4_0 h0 => k .normal (s94_0 x0n x1 x2 x3 x4_0 h0)) := by kernel_rfl
def m94_45 (n N : Nat) (x0n : Bool) (x1 x2 x3 x4_0 x80 h0 : D) (K : Bool → D → D → D → D → D → Option R) (Kr : D → Option R) : Option R :=
  (bif x80.toB then (m94_46 n N x0n x1 x2 x4_0 h0 Kr) else (m94_83 n N x0n x1 x2 x3 x4_0 h0 (fun y0n y1 y2 y3 y4_0 h0 => K y0n y1 y2 y3 y4_0 h0)))
theorem e94_45 (n N : Nat) (k : Kn R) (x0n : Bool) (x1 x2 x3 x4_0 x80 h0 : D) : runC PHI (Tx94 n) N vc94_45 (s94_7 x0n x1 x2 x3 x4_0 x80 h0) k = m94_45 n N x0n x1 x2 x3 x4_0 x80 h0 (fun x0n x1 x2 x3 x4_0 h0 => k .normal (s94_0 x0n x1 x2 x3 x4_0 h0)) (fun h0 => k .ret (s94_6 h0)) := by
  refine Eq.trans (runC_cond (s1 := (s94_8 x0n x1 x2 x4_0 h0)) (s2 := (s94_0 x0n x1 x2 x3 x4_0 h0)) (d := x80) _ _ k (by kernel_rfl) (by kernel_rfl) (by kernel_rfl)) (Eq.trans (congr (congrArg (cond x80.toB) ((e94_46 n N k x0n x1 x2 x4_0 h0))) ((e94_83 n N k x0n x1 x2 x3 x4_0 h0))) (by kernel_rfl))
def m94_43 (n N : Nat) (x0n : Bool) (x1 x2 x3 x4_0 h0 : D) (K : Bool → D → D → D → D → D → Option R) (Kr : D → Option R) : Option R :=
  (m94_44 n N x0n x1 x2 x3 x4_0 h0 (fun y0n y1 y2 y3 y4_0 y80 h0 => (m94_45 n N y0n y1 y2 y3 y4_0 y80 h0 (fun y0n y1 y2 y3 y4_0 h0 => K y0n y1 y2 y3 y4_0 h0) Kr)))
theorem e94_43 (n N : Nat) (k : Kn R) (x0n : Bool) (x1 x2 x3 x4_0 h0 : D) : runC PHI (Tx94 n) N vc94_43 (s94_0 x0n x1 x2 x3 x4_0 h0) k = m94_43 n N x0n x1 x2 x3 x4_0 h0 (fun x0n x1 x2 x3 x4_0 h0 => k .normal (s94_0 x0n x1 x2 x3 x4_0 h0)) (fun h0 => k .ret (s94_6 h0)) := by
  have h2 := e94_44 n N (kseq PHI (Tx94 n) N vc94_45 k) x0n x1 x2 x3 x4_0 h0
  have h3 := (funext fun y0n => funext fun y1 => funext fun y2 => funext fun y3 => funext fun y4_0 => funext fun y80 => funext fun h0 => (e94_45 n N k y0n y1 y2 y3 y4_0 y80 h0) : (fun (y0n : Bool) (y1 y2 y3 y4_0 y80 h0 : D) => (kseq PHI (Tx94 n) N vc94_45 k) .normal (s94_7 y0n y1 y2 y3 y4_0 y80 h0)) = _)
  refine Eq.trans (runC_seq _ _ _ k) (Eq.trans h2 (Eq.trans (congrArg (fun K => m94_44 n N x0n x1 x2 x3 x4_0 h0 K) h3) (by kernel_rfl)))
def m94_85 (n N : Nat) (x0n : Bool) (x1 x2 x3 x4_0 h0 : D) (K : Bool → D → D → D → D → D → D → Option R) : Option R :=
  (bif (F2.ok (.shr .u64) (D.i (IntKind.u64.wrap (IntKind.i64.wrap (x1.toI + x3.toI)))) (D.i 1)) then K x0n x1 x2 x3 x4_0 (D.i (IntKind.i64.wrap (F2.ev (.shr .u64) (D.i (IntKind.u64.wrap (IntKind.i64.wrap (x1.toI + x3.toI)))) (D.i 1)).toI)) h0 else none)
def s94_13 (x0n : Bool) (x1 x2 x3 x4_0 x18 h0 : D) : St := sts 220 [(0, V.ms 0 x0n), (1, V.f x1), (2, V.f x2), (3, V.f x3), (4, V.fn 33 [V.f x4_0] [Ty.p 40]), (18, V.f x18)] [V.f h0]
theorem e94_85 (n N : Nat) (k : Kn R) (x0n : Bool) (x1 x2 x3 x4_0 h0 : D) : runC PHI (Tx94 n) N vc94_85 (s94_0 x0n x1 x2 x3 x4_0 h0) k = m94_85 n N x0n x1 x2 x3 x4_0 h0 (fun x0n x1 x2 x3 x4_0 x18 h0 => k .normal (s94_13 x0n x1 x2 x3 x4_0 x18 h0)) := by
  refine Eq.trans (runC_post _ _ _ k) (Eq.trans (ops_run _ _ _ _) (by kernel_rfl))
def m94_87 (n N : Nat) (x0n : Bool) (x1 x2 x3 x4_0 x18 h0 : D) (K : Bool → D → D → D → D → D → D → D → Option R) : Option R :=
  K x0n x1 x2 x3 x4_0 x18 (D.i (IntKind.i64.wrap (x18.toI + x2.toI))) h0
def s94_14 (x0n : Bool) (x1 x2 x3 x4_0 x18 x19 h0 : D) : St := sts 220 [(0, V.ms 0 x0n), (1, V.f x1), (2, V.f x2), (3, V.f x3), (4, V.fn 33 [V.f x4_0] [Ty.p 40]), (18, V.f x18), (19, V.f x19)] [V.f h0]
theorem e94_87 (n N : Nat) (k : Kn R) (x0n : Bool) (x1 x2 x3 x4_0 x18 h0 : D) : runC PHI (Tx94 n) N vc94_87 (s94_13 x0n x1 x2 x3 x4_0 x18 h0) k = m94_87 n N x0n x1 x2 x3 x4_0 x18 h0 (fun x0n x1 x2 x3 x4_0 x18 x19 h0 => k .normal (s94_14 x0n x1 x2 x3 x4_0 x18 x19 h0)) := by
  refine Eq.trans (runC_post _ _ _ k) (Eq.trans (ops_run _ _ _ _) (by kernel_rfl))
def m94_89 (n N : Nat) (x0n : Bool) (x1 x2 x3 x4_0 x18 x19 h0 : D) (K : Bool → D → D → D → D → D → D → D → Option R) : Option R :=
  K x0n x1 x2 x3 x4_0 x18 x19 h0
theorem e94_89 (n N : Nat) (k : Kn R) (x0n : Bool) (x1 x2 x3 x4_0 x18 x19 h0 : D) : runC PHI (Tx94 n) N vc94_89 (s94_14 x0n x1 x2 x3 x4_0 x18 x19 h0) k = m94_89 n N x0n x1 x2 x3 x4_0 x18 x19 h0 (fun x0n x1 x2 x3 x4_0 x18 x19 h0 => k .normal (s94_14 x0n x1 x2 x3 x4_0 x18 x19 h0)) := by
  refine Eq.trans (runC_post _ _ _ k) (Eq.trans (ops_run _ _ _ _) (by kernel_rfl))
def m94_91 (n N : Nat) (x0n : Bool) (x1 x2 x3 x4_0 x18 x19 h0 : D) (K : Bool → D → D → D → D → D → D → D → D → D → Option R) : Option R :=
  (bif (ltb x18.toI x2.toI) then K x0n x1 x2 x3 x4_0 x18 x19 (D.i (IntKind.i64.wrap (x19.toI - x3.toI))) x18 h0 else K x0n x1 x2 x3 x4_0 x18 x19 x1 x2 h0)
def s94_15 (x0n : Bool) (x1 x2 x3 x4_0 x18 x19 x20 x21 h0 : D) : St := sts 220 [(0, V.ms 0 x0n), (1, V.f x1), (2, V.f x2), (3, V.f x3), (4, V.fn 33 [V.f x4_0] [Ty.p 40]), (18, V.f x18), (19, V.f x19), (20, V.f x20), (21, V.f x21)] [V.f h0]
theorem e94_91 (n N : Nat) (k : Kn R) (x0n : Bool) (x1 x2 x3 x4_0 x18 x19 h0 : D) : runC PHI (Tx94 n) N vc94_91 (s94_14 x0n x1 x2 x3 x4_0 x18 x19 h0) k = m94_91 n N x0n x1 x2 x3 x4_0 x18 x19 h0 (fun x0n x1 x2 x3 x4_0 x18 x19 x20 x21 h0 => k .normal (s94_15 x0n x1 x2 x3 x4_0 x18 x19 x20 x21 h0)) := by kernel_rfl
def m94_101 (n N : Nat) (x0n : Bool) (x1 x2 x3 x4_0 x18 x19 x20 x21 h0 : D) (K : Bool → D → D → D → D → D → D → D → D → D → D → Option R) : Option R :=
  K x0n x1 x2 x3 x4_0 x18 x19 x20 x21 (D.i (IntKind.i64.wrap (x19.toI - 1))) h0
def s94_16 (x0n : Bool) (x1 x2 x3 x4_0 x18 x19 x20 x21 x22 h0 : D) : St := sts 220 [(0, V.ms 0 x0n), (1, V.f x1), (2, V.f x2), (3, V.f x3), (4, V.fn 33 [V.f x4_0] [Ty.p 40]), (18, V.f x18), (19, V.f x19), (20, V.f x20), (21, V.f x21), (22, V.f x22)] [V.f h0]
theorem e94_101 (n N : Nat) (k : Kn R) (x0n : Bool) (x1 x2 x3 x4_0 x18 x19 x20 x21 h0 : D) : runC PHI (Tx94 n) N vc94_101 (s94_15 x0n x1 x2 x3 x4_0 x18 x19 x20 x21 h0) k = m94_101 n N x0n x1 x2 x3 x4_0 x18 x19 x20 x21 h0 (fun x0n x1 x2 x3 x4_0 x18 x19 x20 x21 x22 h0 => k .normal (s94_16 x0n x1 x2 x3 x4_0 x18 x19 x20 x21 x22 h0)) := by
  refine Eq.trans (runC_post _ _ _ k) (Eq.trans (ops_run _ _ _ _) (by kernel_rfl))
def m94_105 (n N : Nat) (x0n : Bool) (x1 x2 x3 x4_0 x18 x19 x20 x21 x22 h0 : D) (K : Bool → D → D → D → D → D → D → D → D → D → D → Option R) (K8 : Bool → D → D → D → D → D → D → D → D → Option R) : Option R :=
  (bif (ltb x20.toI x21.toI) then (bif (F2.ok (.shr .u64) (D.i (IntKind.u64.wrap (IntKind.i64.wrap (x20.toI + x21.toI)))) (D.i 1)) then (bif (inb (IntKind.i64.wrap (x22.toI - (IntKind.i64.wrap (F2.ev (.shr .u64) (D.i (IntKind.u64.wrap (IntKind.i64.wrap (x20.toI + x21.toI)))) (D.i 1)).toI))) h0.toL.length) then (bif (inb (IntKind.i64.wrap (F2.ev (.shr .u64) (D.i (IntKind.u64.wrap (IntKind.i64.wrap (x20.toI + x21.toI)))) (D.i 1)).toI) h0.toL.length) then (bif (pr33 (h0.at ((IntKind.i64.wrap (x22.toI - (IntKind.i64.wrap (F2.ev (.shr .u64) (D.i (IntKind.u64.wrap (IntKind.i64.wrap (x20.toI + x21.toI)))) (D.i 1)).toI))) : Int).toNat) (h0.at ((IntKind.i64.wrap (F2.ev (.shr .u64) (D.i (IntKind.u64.wrap (IntKind.i64.wrap (x20.toI + x21.toI)))) (D.i 1)).toI) : Int).toNat) x4_0) then (bif (!(ltb (sp33 (h0.at ((IntKind.i64.wrap (x22.toI - (IntKind.i64.wrap (F2.ev (.shr .u64) (D.i (IntKind.u64.wrap (IntKind.i64.wrap (x20.toI + x21.toI)))) (D.i 1)).toI))) : Int).toNat) (h0.at ((IntKind.i64.wrap (F2.ev (.shr .u64) (D.i (IntKind.u64.wrap (IntKind.i64.wrap (x20.toI + x21.toI)))) (D.i 1)).toI) : Int).toNat) x4_0) 0)) then K x0n x1 x2 x3 x4_0 x18 x19 (D.i (IntKind.i64.wrap ((IntKind.i64.wrap (F2.ev (.shr .u64) (D.i (IntKind.u64.wrap (IntKind.i64.wrap (x20.toI + x21.toI)))) (D.i 1)).toI) + 1))) x21 x22 h0 else K x0n x1 x2 x3 x4_0 x18 x19 x20 (D.i (IntKind.i64.wrap (F2.ev (.shr .u64) (D.i (IntKind.u64.wrap (IntKind.i64.wrap (x20.toI + x21.toI)))) (D.i 1)).toI)) x22 h0) else none) else none) else none) else none) else K8 x0n x1 x2 x3 x4_0 x18 x19 x20 h0)
def s94_17 (x0n : Bool) (x1 x2 x3 x4_0 x18 x19 x20 h0 : D) : St := sts 220 [(0, V.ms 0 x0n), (1, V.f x1), (2, V.f x2), (3, V.f x3), (4, V.fn 33 [V.f x4_0] [Ty.p 40]), (18, V.f x18), (19, V.f x19), (20, V.f x20)] [V.f h0]
theorem e94_105 (n N : Nat) (k : Kn R) (x0n : Bool) (x1 x2 x3 x4_0 x18 x19 x20 x21 x22 h0 : D) : runC PHI (Tx94 n) N vc94_105 (s94_16 x0n x1 x2 x3 x4_0 x18 x19 x20 x21 x22 h0) k = m94_105 n N x0n x1 x2 x3 x4_0 x18 x19 x20 x21 x22 h0 (fun x0n x1 x2 x3 x4_0 x18 x19 x20 x21 x22 h0 => k .normal (s94_16 x0n x1 x2 x3 x4_0 x18 x19 x20 x21 x22 h0)) (fun x0n x1 x2 x3 x4_0 x18 x19 x20 h0 => k (.exit 8) (s94_17 x0n x1 x2 x3 x4_0 x18 x19 x20 h0)) := by kernel_rfl
def l94_104 (n N : Nat) (j : Nat) (x0n : Bool) (x1 x2 x3 x4_0 x18 x19 x20 x21 x22 h0 : D) (K8 : Bool → D → D → D → D → D → D → D → D → Option R) : Option R :=
  match j with
  | 0 => none
  | j + 1 => (m94_105 n N x0n x1 x2 x3 x4_0 x18 x19 x20 x21 x22 h0 (fun y0n y1 y2 y3 y4_0 y18 y19 y20 y21 y22 h0 => l94_104 n N j y0n y1 y2 y3 y4_0 y18 y19 y20 y21 y22 h0 K8) K8)
def m94_104 (n N : Nat) (x0n : Bool) (x1 x2 x3 x4_0 x18 x19 x20 x21 x22 h0 : D) (K8 : Bool → D → D → D → D → D → D → D → D → Option R) : Option R :=
  l94_104 n N N x0n x1 x2 x3 x4_0 x18 x19 x20 x21 x22 h0 K8
theorem el94_104 (n N : Nat) (k : Kn R) : ∀ (j : Nat) (x0n : Bool) (x1 x2 x3 x4_0 x18 x19 x20 x21 x22 h0 : D), loopGo (runC PHI (Tx94 n) N vc94_105) j (s94_16 x0n x1 x2 x3 x4_0 x18 x19 x20 x21 x22 h0) k = l94_104 n N j x0n x1 x2 x3 x4_0 x18 x19 x20 x21 x22 h0 (fun x0n x1 x2 x3 x4_0 x18 x19 x20 h0 => k (.exit 8) (s94_17 x0n x1 x2 x3 x4_0 x18 x19 x20 h0))
  | 0, _, _, _, _, _, _, _, _, _, _, _ => by kernel_rfl
  | j + 1, x0n, x1, x2, x3, x4_0, x18, x19, x20, x21, x22, h0 => by
    have h2 := e94_105 n N (kloop PHI (Tx94 n) N vc94_105 j k) x0n x1 x2 x3 x4_0 x18 x19 x20 x21 x22 h0
    have h3 : (fun (y0n : Bool) (y1 y2 y3 y4_0 y18 y19 y20 y21 y22 h0 : D) => (kloop PHI (Tx94 n) N vc94_105 j k) .normal (s94_16 y0n y1 y2 y3 y4_0 y18 y19 y20 y21 y22 h0)) = (fun (y0n : Bool) (y1 y2 y3 y4_0 y18 y19 y20 y21 y22 h0 : D) => l94_104 n N j y0n y1 y2 y3 y4_0 y18 y19 y20 y21 y22 h0 (fun x0n x1 x2 x3 x4_0 x18 x19 x20 h0 => k (.exit 8) (s94_17 x0n x1 x2 x3 x4_0 x18 x19 x20 h0))) := funext fun y0n => funext fun y1 => funext fun y2 => funext fun y3 => funext fun y4_0 => funext fun y18 => funext fun y19 => funext fun y20 => funext fun y21 => funext fun y22 => funext fun h0 => (el94_104 n N k j y0n y1 y2 y3 y4_0 y18 y19 y20 y21 y22 h0)
    refine Eq.trans (loop_succ _ j _ k) (Eq.trans h2 (Eq.trans (congrArg (fun K => m94_105 n N x0n x1 x2 x3 x4_0 x18 x19 x20 x21 x22 h0 K (fun x0n x1 x2 x3 x4_0 x18 x19 x20 h0 => (kloop PHI (Tx94 n) N vc94_105 j k) (.exit 8) (s94_17 x0n x1 x2 x3 x4_0 x18 x19 x20 h0))) h3) (by kernel_rfl)))
theorem e94_104 (n N : Nat) (k : Kn R) (x0n : Bool) (x1 x2 x3 x4_0 x18 x19 x20 x21 x22 h0 : D) : runC PHI (Tx94 n) N vc94_104 (s94_16 x0n x1 x2 x3 x4_0 x18 x19 x20 x21 x22 h0) k = m94_104 n N x0n x1 x2 x3 x4_0 x18 x19 x20 x21 x22 h0 (fun x0n x1 x2 x3 x4_0 x18 x19 x20 h0 => k (.exit 8) (s94_17 x0n x1 x2 x3 x4_0 x18 x19 x20 h0)) := by
  refine Eq.trans (runC_loop _ _ k) (Eq.trans (el94_104 n N k N x0n x1 x2 x3 x4_0 x18 x19 x20 x21 x22 h0) (by kernel_rfl))
def m94_103 (n N : Nat) (x0n : Bool) (x1 x2 x3 x4_0 x18 x19 x20 x21 x22 h0 : D) (K : Bool → D → D → D → D → D → D → D → D → Option R) : Option R :=
  (m94_104 n N x0n x1 x2 x3 x4_0 x18 x19 x20 x21 x22 h0 (fun y0n y1 y2 y3 y4_0 y18 y19 y20 h0 => K y0n y1 y2 y3 y4_0 y18 y19 y20 h0))
theorem e94_103 (n N : Nat) (k : Kn R) (x0n : Bool) (x1 x2 x3 x4_0 x18 x19 x20 x21 x22 h0 : D) : runC PHI (Tx94 n) N vc94_103 (s94_16 x0n x1 x2 x3 x4_0 x18 x19 x20 x21 x22 h0) k = m94_103 n N x0n x1 x2 x3 x4_0 x18 x19 x20 x21 x22 h0 (fun x0n x1 x2 x3 x4_0 x18 x19 x20 h0 => k .normal (s94_17 x0n x1 x2 x3 x4_0 x18 x19 x20 h0)) := by
  refine Eq.trans (runC_block _ _ _ k) (Eq.trans (e94_104 n N (kblk 8 k) x0n x1 x2 x3 x4_0 x18 x19 x20 x21 x22 h0) (by kernel_rfl))
def m94_120 (n N : Nat) (x0n : Bool) (x1 x2 x3 x4_0 x18 x19 x20 h0 : D) (K : Bool → D → D → D → D → D → D → D → D → Option R) : Option R :=
  K x0n x1 x2 x3 x4_0 x18 x20 (D.i (IntKind.i64.wrap (x19.toI - x20.toI))) h0
def s94_18 (x0n : Bool) (x1 x2 x3 x4_0 x18 x20 x24 h0 : D) : St := sts 220 [(0, V.ms 0 x0n), (1, V.f x1), (2, V.f x2), (3, V.f x3), (4, V.fn 33 [V.f x4_0] [Ty.p 40]), (18, V.f x18), (20, V.f x20), (24, V.f x24)] [V.f h0]
theorem e94_120 (n N : Nat) (k : Kn R) (x0n : Bool) (x1 x2 x3 x4_0 x18 x19 x20 h0 : D) : runC PHI (Tx94 n) N vc94_120 (s94_17 x0n x1 x2 x3 x4_0 x18 x19 x20 h0) k = m94_120 n N x0n x1 x2 x3 x4_0 x18 x19 x20 h0 (fun x0n x1 x2 x3 x4_0 x18 x20 x24 h0 => k .normal (s94_18 x0n x1 x2 x3 x4_0 x18 x20 x24 h0)) := by
  refine Eq.trans (runC_post _ _ _ k) (Eq.trans (ops_run _ _ _ _) (by kernel_rfl))
def m94_122 (n N : Nat) (x0n : Bool) (x1 x2 x3 x4_0 x18 x20 x24 h0 : D) (K : Bool → D → D → D → D → D → D → D → Option R) : Option R :=
  (bif (ltb x20.toI x2.toI) then (bif (ltb x2.toI x24.toI) then (bif ((pr104_33 x20 x2 x24 x4_0 h0) && (Nat.beq h0.toL.length (sp104_33_h0 x20 x2 x24 x4_0 h0).toL.length && true)) then K x0n x1 x3 x4_0 x18 x20 x24 (sp104_33_h0 x20 x2 x24 x4_0 h0) else none) else K x0n x1 x3 x4_0 x18 x20 x24 h0) else (bif false then (bif ((pr104_33 x20 x2 x24 x4_0 h0) && (Nat.beq h0.toL.length (sp104_33_h0 x20 x2 x24 x4_0 h0).toL.length && true)) then K x0n x1 x3 x4_0 x18 x20 x24 (sp104_33_h0 x20 x2 x24 x4_0 h0) else none) else K x0n x1 x3 x4_0 x18 x20 x24 h0))
def s94_19 (x0n : Bool) (x1 x3 x4_0 x18 x20 x24 h0 : D) : St := sts 220 [(0, V.ms 0 x0n), (1, V.f x1), (3, V.f x3), (4, V.fn 33 [V.f x4_0] [Ty.p 40]), (18, V.f x18), (20, V.f x20), (24, V.f x24)] [V.f h0]
theorem e94_122 (n N : Nat) (k : Kn R) (x0n : Bool) (x1 x2 x3 x4_0 x18 x20 x24 h0 : D) : runC PHI (Tx94 n) N vc94_122 (s94_18 x0n x1 x2 x3 x4_0 x18 x20 x24 h0) k = m94_122 n N x0n x1 x2 x3 x4_0 x18 x20 x24 h0 (fun x0n x1 x3 x4_0 x18 x20 x24 h0 => k .normal (s94_19 x0n x1 x3 x4_0 x18 x20 x24 h0)) := by kernel_rfl
def m94_128 (n N : Nat) (x0n : Bool) (x1 x3 x4_0 x18 x20 x24 h0 : D) (K : Bool → D → D → D → D → D → Option R) : Option R :=
  (bif (ltb x1.toI x20.toI) then (bif (ltb x20.toI x18.toI) then (bif ((prx94_33 n x1 x20 x18 x4_0 h0) && (Nat.beq h0.toL.length (sp94_33_h0 x1 x20 x18 x4_0 h0).toL.length && true)) then K x0n x3 x4_0 x18 x24 (sp94_33_h0 x1 x20 x18 x4_0 h0) else none) else K x0n x3 x4_0 x18 x24 h0) else (bif false then (bif ((prx94_33 n x1 x20 x18 x4_0 h0) && (Nat.beq h0.toL.length (sp94_33_h0 x1 x20 x18 x4_0 h0).toL.length && true)) then K x0n x3 x4_0 x18 x24 (sp94_33_h0 x1 x20 x18 x4_0 h0) else none) else K x0n x3 x4_0 x18 x24 h0))
def s94_20 (x0n : Bool) (x3 x4_0 x18 x24 h0 : D) : St := sts 220 [(0, V.ms 0 x0n), (3, V.f x3), (4, V.fn 33 [V.f x4_0] [Ty.p 40]), (18, V.f x18), (24, V.f x24)] [V.f h0]
theorem e94_128 (n N : Nat) (k : Kn R) (x0n : Bool) (x1 x3 x4_0 x18 x20 x24 h0 : D) : runC PHI (Tx94 n) N vc94_128 (s94_19 x0n x1 x3 x4_0 x18 x20 x24 h0) k = m94_128 n N x0n x1 x3 x4_0 x18 x20 x24 h0 (fun x0n x3 x4_0 x18 x24 h0 => k .normal (s94_20 x0n x3 x4_0 x18 x24 h0)) := by kernel_rfl
def m94_133 (n N : Nat) (x0n : Bool) (x3 x4_0 x18 x24 h0 : D) (K : D → Option R) : Option R :=
  (bif (ltb x18.toI x24.toI) then (bif (ltb x24.toI x3.toI) then (bif ((prx94_33 n x18 x24 x3 x4_0 h0) && (Nat.beq h0.toL.length (sp94_33_h0 x18 x24 x3 x4_0 h0).toL.length && true)) then K (sp94_33_h0 x18 x24 x3 x4_0 h0) else none) else K h0) else (bif false then (bif ((prx94_33 n x18 x24 x3 x4_0 h0) && (Nat.beq h0.toL.length (sp94_33_h0 x18 x24 x3 x4_0 h0).toL.length && true)) then K (sp94_33_h0 x18 x24 x3 x4_0 h0) else none) else K h0))
theorem e94_133 (n N : Nat) (k : Kn R) (x0n : Bool) (x3 x4_0 x18 x24 h0 : D) : runC PHI (Tx94 n) N vc94_133 (s94_20 x0n x3 x4_0 x18 x24 h0) k = m94_133 n N x0n x3 x4_0 x18 x24 h0 (fun h0 => k .normal (s94_6 h0)) := by kernel_rfl
def m94_127 (n N : Nat) (x0n : Bool) (x1 x3 x4_0 x18 x20 x24 h0 : D) (K : D → Option R) : Option R :=
  (m94_128 n N x0n x1 x3 x4_0 x18 x20 x24 h0 (fun y0n y3 y4_0 y18 y24 h0 => (m94_133 n N y0n y3 y4_0 y18 y24 h0 (fun h0 => K h0))))
theorem e94_127 (n N : Nat) (k : Kn R) (x0n : Bool) (x1 x3 x4_0 x18 x20 x24 h0 : D) : runC PHI (Tx94 n) N vc94_127 (s94_19 x0n x1 x3 x4_0 x18 x20 x24 h0) k = m94_127 n N x0n x1 x3 x4_0 x18 x20 x24 h0 (fun h0 => k .normal (s94_6 h0)) := by
  have h2 := e94_128 n N (kseq PHI (Tx94 n) N vc94_133 k) x0n x1 x3 x4_0 x18 x20 x24 h0
  have h3 := (funext fun y0n => funext fun y3 => funext fun y4_0 => funext fun y18 => funext fun y24 => funext fun h0 => (e94_133 n N k y0n y3 y4_0 y18 y24 h0) : (fun (y0n : Bool) (y3 y4_0 y18 y24 h0 : D) => (kseq PHI (Tx94 n) N vc94_133 k) .normal (s94_20 y0n y3 y4_0 y18 y24 h0)) = _)
  refine Eq.trans (runC_seq _ _ _ k) (Eq.trans h2 (Eq.trans (congrArg (fun K => m94_128 n N x0n x1 x3 x4_0 x18 x20 x24 h0 K) h3) (by kernel_rfl)))
def m94_121 (n N : Nat) (x0n : Bool) (x1 x2 x3 x4_0 x18 x20 x24 h0 : D) (K : D → Option R) : Option R :=
  (m94_122 n N x0n x1 x2 x3 x4_0 x18 x20 x24 h0 (fun y0n y1 y3 y4_0 y18 y20 y24 h0 => (m94_127 n N y0n y1 y3 y4_0 y18 y20 y24 h0 (fun h0 => K h0))))
theorem e94_121 (n N : Nat) (k : Kn R) (x0n : Bool) (x1 x2 x3 x4_0 x18 x20 x24 h0 : D) : runC PHI (Tx94 n) N vc94_121 (s94_18 x0n x1 x2 x3 x4_0 x18 x20 x24 h0) k = m94_121 n N x0n x1 x2 x3 x4_0 x18 x20 x24 h0 (fun h0 => k .normal (s94_6 h0)) := by
  have h2 := e94_122 n N (kseq PHI (Tx94 n) N vc94_127 k) x0n x1 x2 x3 x4_0 x18 x20 x24 h0
  have h3 := (funext fun y0n => funext fun y1 => funext fun y3 => funext fun y4_0 => funext fun y18 => funext fun y20 => funext fun y24 => funext fun h0 => (e94_127 n N k y0n y1 y3 y4_0 y18 y20 y24 h0) : (fun (y0n : Bool) (y1 y3 y4_0 y18 y20 y24 h0 : D) => (kseq PHI (Tx94 n) N vc94_127 k) .normal (s94_19 y0n y1 y3 y4_0 y18 y20 y24 h0)) = _)
  refine Eq.trans (runC_seq _ _ _ k) (Eq.trans h2 (Eq.trans (congrArg (fun K => m94_122 n N x0n x1 x2 x3 x4_0 x18 x20 x24 h0 K) h3) (by kernel_rfl)))
def m94_119 (n N : Nat) (x0n : Bool) (x1 x2 x3 x4_0 x18 x19 x20 h0 : D) (K : D → Option R) : Option R :=
  (m94_120 n N x0n x1 x2 x3 x4_0 x18 x19 x20 h0 (fun y0n y1 y2 y3 y4_0 y18 y20 y24 h0 => (m94_121 n N y0n y1 y2 y3 y4_0 y18 y20 y24 h0 (fun h0 => K h0))))
theorem e94_119 (n N : Nat) (k : Kn R) (x0n : Bool) (x1 x2 x3 x4_0 x18 x19 x20 h0 : D) : runC PHI (Tx94 n) N vc94_119 (s94_17 x0n x1 x2 x3 x4_0 x18 x19 x20 h0) k = m94_119 n N x0n x1 x2 x3 x4_0 x18 x19 x20 h0 (fun h0 => k .normal (s94_6 h0)) := by
  have h2 := e94_120 n N (kseq PHI (Tx94 n) N vc94_121 k) x0n x1 x2 x3 x4_0 x18 x19 x20 h0
  have h3 := (funext fun y0n => funext fun y1 => funext fun y2 => funext fun y3 => funext fun y4_0 => funext fun y18 => funext fun y20 => funext fun y24 => funext fun h0 => (e94_121 n N k y0n y1 y2 y3 y4_0 y18 y20 y24 h0) : (fun (y0n : Bool) (y1 y2 y3 y4_0 y18 y20 y24 h0 : D) => (kseq PHI (Tx94 n) N vc94_121 k) .normal (s94_18 y0n y1 y2 y3 y4_0 y18 y20 y24 h0)) = _)
  refine Eq.trans (runC_seq _ _ _ k) (Eq.trans h2 (Eq.trans (congrArg (fun K => m94_120 n N x0n x1 x2 x3 x4_0 x18 x19 x20 h0 K) h3) (by kernel_rfl)))
def m94_102 (n N : Nat) (x0n : Bool) (x1 x2 x3 x4_0 x18 x19 x20 x21 x22 h0 : D) (K : D → Option R) : Option R :=
  (m94_103 n N x0n x1 x2 x3 x4_0 x18 x19 x20 x21 x22 h0 (fun y0n y1 y2 y3 y4_0 y18 y19 y20 h0 => (m94_119 n N y0n y1 y2 y3 y4_0 y18 y19 y20 h0 (fun h0 => K h0))))
theorem e94_102 (n N : Nat) (k : Kn R) (x0n : Bool) (x1 x2 x3 x4_0 x18 x19 x20 x21 x22 h0 : D) : runC PHI (Tx94 n) N vc94_102 (s94_16 x0n x1 x2 x3 x4_0 x18 x19 x20 x21 x22 h0) k = m94_102 n N x0n x1 x2 x3 x4_0 x18 x19 x20 x21 x22 h0 (fun h0 => k .normal (s94_6 h0)) := by
  have h2 := e94_103 n N (kseq PHI (Tx94 n) N vc94_119 k) x0n x1 x2 x3 x4_0 x18 x19 x20 x21 x22 h0
  have h3 := (funext fun y0n => funext fun y1 => funext fun y2 => funext fun y3 => funext fun y4_0 => funext fun y18 => funext fun y19 => funext fun y20 => funext fun h0 => (e94_119 n N k y0n y1 y2 y3 y4_0 y18 y19 y20 h0) : (fun (y0n : Bool) (y1 y2 y3 y4_0 y18 y19 y20 h0 : D) => (kseq PHI (Tx94 n) N vc94_119 k) .normal (s94_17 y0n y1 y2 y3 y4_0 y18 y19 y20 h0)) = _)
  refine Eq.trans (runC_seq _ _ _ k) (Eq.trans h2 (Eq.trans (congrArg (fun K => m94_103 n N x0n x1 x2 x3 x4_0 x18 x19 x20 x21 x22 h0 K) h3) (by kernel_rfl)))
def m94_100 (n N : Nat) (x0n : Bool) (x1 x2 x3 x4_0 x18 x19 x20 x21 h0 : D) (K : D → Option R) : Option R :=
  (m94_101 n N x0n x1 x2 x3 x4_0 x18 x19 x20 x21 h0 (fun y0n y1 y2 y3 y4_0 y18 y19 y20 y21 y22 h0 => (m94_102 n N y0n y1 y2 y3 y4_0 y18 y19 y20 y21 y22 h0 (fun h0 => K h0))))
theorem e94_100 (n N : Nat) (k : Kn R) (x0n : Bool) (x1 x2 x3 x4_0 x18 x19 x20 x21 h0 : D) : runC PHI (Tx94 n) N vc94_100 (s94_15 x0n x1 x2 x3 x4_0 x18 x19 x20 x21 h0) k = m94_100 n N x0n x1 x2 x3 x4_0 x18 x19 x20 x21 h0 (fun h0 => k .normal (s94_6 h0)) := by
  have h2 := e94_101 n N (kseq PHI (Tx94 n) N vc94_102 k) x0n x1 x2 x3 x4_0 x18 x19 x20 x21 h0
  have h3 := (funext fun y0n => funext fun y1 => funext fun y2 => funext fun y3 => funext fun y4_0 => funext fun y18 => funext fun y19 => funext fun y20 => funext fun y21 => funext fun y22 => funext fun h0 => (e94_102 n N k y0n y1 y2 y3 y4_0 y18 y19 y20 y21 y22 h0) : (fun (y0n : Bool) (y1 y2 y3 y4_0 y18 y19 y20 y21 y22 h0 : D) => (kseq PHI (Tx94 n) N vc94_102 k) .normal (s94_16 y0n y1 y2 y3 y4_0 y18 y19 y20 y21 y22 h0)) = _)
  refine Eq.trans (runC_seq _ _ _ k) (Eq.trans h2 (Eq.trans (congrArg (fun K => m94_101 n N x0n x1 x2 x3 x4_0 x18 x19 x20 x21 h0 K) h3) (by kernel_rfl)))
def m94_90 (n N : Nat) (x0n : Bool) (x1 x2 x3 x4_0 x18 x19 h0 : D) (K : D → Option R) : Option R :=
  (m94_91 n N x0n x1 x2 x3 x4_0 x18 x19 h0 (fun y0n y1 y2 y3 y4_0 y18 y19 y20 y21 h0 => (m94_100 n N y0n y1 y2 y3 y4_0 y18 y19 y20 y21 h0 (fun h0 => K h0))))
theorem e94_90 (n N : Nat) (k : Kn R) (x0n : Bool) (x1 x2 x3 x4_0 x18 x19 h0 : D) : runC PHI (Tx94 n) N vc94_90 (s94_14 x0n x1 x2 x3 x4_0 x18 x19 h0) k = m94_90 n N x0n x1 x2 x3 x4_0 x18 x19 h0 (fun h0 => k .normal (s94_6 h0)) := by
  have h2 := e94_91 n N (kseq PHI (Tx94 n) N vc94_100 k) x0n x1 x2 x3 x4_0 x18 x19 h0
  have h3 := (funext fun y0n => funext fun y1 => funext fun y2 => funext fun y3 => funext fun y4_0 => funext fun y18 => funext fun y19 => funext fun y20 => funext fun y21 => funext fun h0 => (e94_100 n N k y0n y1 y2 y3 y4_0 y18 y19 y20 y21 h0) : (fun (y0n : Bool) (y1 y2 y3 y4_0 y18 y19 y20 y21 h0 : D) => (kseq PHI (Tx94 n) N vc94_100 k) .normal (s94_15 y0n y1 y2 y3 y4_0 y18 y19 y20 y21 h0)) = _)
  refine Eq.trans (runC_seq _ _ _ k) (Eq.trans h2 (Eq.trans (congrArg (fun K => m94_91 n N x0n x1 x2 x3 x4_0 x18 x19 h0 K) h3) (by kernel_rfl)))
def m94_88 (n N : Nat) (x0n : Bool) (x1 x2 x3 x4_0 x18 x19 h0 : D) (K : D → Option R) : Option R :=
  (m94_89 n N x0n x1 x2 x3 x4_0 x18 x19 h0 (fun y0n y1 y2 y3 y4_0 y18 y19 h0 => (m94_90 n N y0n y1 y2 y3 y4_0 y18 y19 h0 (fun h0 => K h0))))
theorem e94_88 (n N : Nat) (k : Kn R) (x0n : Bool) (x1 x2 x3 x4_0 x18 x19 h0 : D) : runC PHI (Tx94 n) N vc94_88 (s94_14 x0n x1 x2 x3 x4_0 x18 x19 h0) k = m94_88 n N x0n x1 x2 x3 x4_0 x18 x19 h0 (fun h0 => k .normal (s94_6 h0)) := by
  have h2 := e94_89 n N (kseq PHI (Tx94 n) N vc94_90 k) x0n x1 x2 x3 x4_0 x18 x19 h0
  have h3 := (funext fun y0n => funext fun y1 => funext fun y2 => funext fun y3 => funext fun y4_0 => funext fun y18 => funext fun y19 => funext fun h0 => (e94_90 n N k y0n y1 y2 y3 y4_0 y18 y19 h0) : (fun (y0n : Bool) (y1 y2 y3 y4_0 y18 y19 h0 : D) => (kseq PHI (Tx94 n) N vc94_90 k) .normal (s94_14 y0n y1 y2 y3 y4_0 y18 y19 h0)) = _)
  refine Eq.trans (runC_seq _ _ _ k) (Eq.trans h2 (Eq.trans (congrArg (fun K => m94_89 n N x0n x1 x2 x3 x4_0 x18 x19 h0 K) h3) (by kernel_rfl)))
def m94_86 (n N : Nat) (x0n : Bool) (x1 x2 x3 x4_0 x18 h0 : D) (K : D → Option R) : Option R :=
  (m94_87 n N x0n x1 x2 x3 x4_0 x18 h0 (fun y0n y1 y2 y3 y4_0 y18 y19 h0 => (m94_88 n N y0n y1 y2 y3 y4_0 y18 y19 h0 (fun h0 => K h0))))
theorem e94_86 (n N : Nat) (k : Kn R) (x0n : Bool) (x1 x2 x3 x4_0 x18 h0 : D) : runC PHI (Tx94 n) N vc94_86 (s94_13 x0n x1 x2 x3 x4_0 x18 h0) k = m94_86 n N x0n x1 x2 x3 x4_0 x18 h0 (fun h0 => k .normal (s94_6 h0)) := by
  have h2 := e94_87 n N (kseq PHI (Tx94 n) N vc94_88 k) x0n x1 x2 x3 x4_0 x18 h0
  have h3 := (funext fun y0n => funext fun y1 => funext fun y2 => funext fun y3 => funext fun y4_0 => funext fun y18 => funext fun y19 => funext fun h0 => (e94_88 n N k y0n y1 y2 y3 y4_0 y18 y19 h0) : (fun (y0n : Bool) (y1 y2 y3 y4_0 y18 y19 h0 : D) => (kseq PHI (Tx94 n) N vc94_88 k) .normal (s94_14 y0n y1 y2 y3 y4_0 y18 y19 h0)) = _)
  refine Eq.trans (runC_seq _ _ _ k) (Eq.trans h2 (Eq.trans (congrArg (fun K => m94_87 n N x0n x1 x2 x3 x4_0 x18 h0 K) h3) (by kernel_rfl)))
def m94_84 (n N : Nat) (x0n : Bool) (x1 x2 x3 x4_0 h0 : D) (K : D → Option R) : Option R :=
  (m94_85 n N x0n x1 x2 x3 x4_0 h0 (fun y0n y1 y2 y3 y4_0 y18 h0 => (m94_86 n N y0n y1 y2 y3 y4_0 y18 h0 (fun h0 => K h0))))
theorem e94_84 (n N : Nat) (k : Kn R) (x0n : Bool) (x1 x2 x3 x4_0 h0 : D) : runC PHI (Tx94 n) N vc94_84 (s94_0 x0n x1 x2 x3 x4_0 h0) k = m94_84 n N x0n x1 x2 x3 x4_0 h0 (fun h0 => k .normal (s94_6 h0)) := by
  have h2 := e94_85 n N (kseq PHI (Tx94 n) N vc94_86 k) x0n x1 x2 x3 x4_0 h0
  have h3 := (funext fun y0n => funext fun y1 => funext fun y2 => funext fun y3 => funext fun y4_0 => funext fun y18 => funext fun h0 => (e94_86 n N k y0n y1 y2 y3 y4_0 y18 h0) : (fun (y0n : Bool) (y1 y2 y3 y4_0 y18 h0 : D) => (kseq PHI (Tx94 n) N vc94_86 k) .normal (s94_13 y0n y1 y2 y3 y4_0 y18 h0)) = _)
  refine Eq.trans (runC_seq _ _ _ k) (Eq.trans h2 (Eq.trans (congrArg (fun K => m94_85 n N x0n x1 x2 x3 x4_0 h0 K) h3) (by kernel_rfl)))
def m94_42 (n N : Nat) (x0n : Bool) (x1 x2 x3 x4_0 h0 : D) (K : D → Option R) (Kr : D → Option R) : Option R :=
  (m94_43 n N x0n x1 x2 x3 x4_0 h0 (fun y0n y1 y2 y3 y4_0 h0 => (m94_84 n N y0n y1 y2 y3 y4_0 h0 (fun h0 => K h0))) Kr)
theorem e94_42 (n N : Nat) (k : Kn R) (x0n : Bool) (x1 x2 x3 x4_0 h0 : D) : runC PHI (Tx94 n) N vc94_42 (s94_0 x0n x1 x2 x3 x4_0 h0) k = m94_42 n N x0n x1 x2 x3 x4_0 h0 (fun h0 => k .normal (s94_6 h0)) (fun h0 => k .ret (s94_6 h0)) := by
  have h2 := e94_43 n N (kseq PHI (Tx94 n) N vc94_84 k) x0n x1 x2 x3 x4_0 h0
  have h3 := (funext fun y0n => funext fun y1 => funext fun y2 => funext fun y3 => funext fun y4_0 => funext fun h0 => (e94_84 n N k y0n y1 y2 y3 y4_0 h0) : (fun (y0n : Bool) (y1 y2 y3 y4_0 h0 : D) => (kseq PHI (Tx94 n) N vc94_84 k) .normal (s94_0 y0n y1 y2 y3 y4_0 h0)) = _)
  refine Eq.trans (runC_seq _ _ _ k) (Eq.trans h2 (Eq.trans (congrArg (fun K => m94_43 n N x0n x1 x2 x3 x4_0 h0 K (fun h0 => (kseq PHI (Tx94 n) N vc94_84 k) .ret (s94_6 h0))) h3) (by kernel_rfl)))
def m94_0 (n N : Nat) (x0n : Bool) (x1 x2 x3 x4_0 h0 : D) (K : D → Option R) (Kr : D → Option R) : Option R :=
  (m94_1 n N x0n x1 x2 x3 x4_0 h0 (fun y0n y1 y2 y3 y4_0 h0 => (m94_42 n N y0n y1 y2 y3 y4_0 h0 (fun h0 => K h0) Kr)) Kr)
theorem e94_0 (n N : Nat) (k : Kn R) (x0n : Bool) (x1 x2 x3 x4_0 h0 : D) : runC PHI (Tx94 n) N vc94_0 (s94_0 x0n x1 x2 x3 x4_0 h0) k = m94_0 n N x0n x1 x2 x3 x4_0 h0 (fun h0 => k .normal (s94_6 h0)) (fun h0 => k .ret (s94_6 h0)) := by
  have h2 := e94_1 n N (kseq PHI (Tx94 n) N vc94_42 k) x0n x1 x2 x3 x4_0 h0
  have h3 := (funext fun y0n => funext fun y1 => funext fun y2 => funext fun y3 => funext fun y4_0 => funext fun h0 => (e94_42 n N k y0n y1 y2 y3 y4_0 h0) : (fun (y0n : Bool) (y1 y2 y3 y4_0 h0 : D) => (kseq PHI (Tx94 n) N vc94_42 k) .normal (s94_0 y0n y1 y2 y3 y4_0 h0)) = _)
  refine Eq.trans (runC_seq _ _ _ k) (Eq.trans h2 (Eq.trans (congrArg (fun K => m94_1 n N x0n x1 x2 x3 x4_0 h0 K (fun h0 => (kseq PHI (Tx94 n) N vc94_42 k) .ret (s94_6 h0))) h3) (by kernel_rfl)))
theorem r94 (n N : Nat) (x0n : Bool) (x1 x2 x3 x4_0 h0 : D) : runC PHI (Tx94 n) N vf94.body (enterV vf94 [V.ms 0 x0n, V.f x1, V.f x2, V.f x3, V.fn 33 [V.f x4_0] [Ty.p 40]] [V.f h0]) (finish vf94) = m94_0 n N x0n x1 x2 x3 x4_0 h0 (fun h0 => finish vf94 .normal (s94_6 h0)) (fun h0 => finish vf94 .ret (s94_6 h0)) := 
  Eq.trans (runC_pre (s1 := (s94_0 x0n x1 x2 x3 x4_0 h0)) (by kernel_rfl) _ _) (Eq.trans (e94_0 n N (finish vf94) x0n x1 x2 x3 x4_0 h0) (by kernel_rfl))
end
end
theorem sp94_e {n : Nat} {a m b q : D} {A M B : Nat} (ha : a.toI = (A : Int)) (hm : m.toI = (M : Int)) (hb : b.toI = (B : Int)) {xs : List D} (hl : xs.length ≤ 1000000) (hq : isPtrD q = true) (h1 : A < M) (h2 : M < B) (h3 : B ≤ xs.length) (hA : SrtOn (c33 q) xs A M) (hB : SrtOn (c33 q) xs M B) (hn : B < n + A) : sp94_33_h0 a m b q (.sl xs) = .sl (srtSeg (c33 q) xs A B) ∧ prx94_33 n a m b q (.sl xs) = true := by
  refine ⟨?_, @decide_eq_true _ (Classical.propDecidable _) ⟨A, M, B, xs, ha, hm, hb, rfl, hl, hq, h1, h2, h3, hA, hB, hn⟩⟩
  unfold sp94_33_h0
  rw [ha, hb]
  rfl
theorem f94a {R : Type} (n N : Nat) (nn : Bool) (a q : D) (hq : isPtrD q = true) (A : Nat) (ha : a.toI = (A : Int)) (xs : List D) (hl : xs.length ≤ 1000000) (hA : A < xs.length) (K0 : Bool → D → D → D → Option R) : ∀ J (x y : D) (i j : Nat), x.toI = (i : Int) → y.toI = (j : Int) → i ≤ j → j ≤ xs.length → j < J + i →
    ∃ r : D, r.toI = (hs (fun h => ltb (sp33 (gt xs h) (gt xs A) q) 0) J i j : Nat) ∧ l94_10 n N J nn a q x y (.sl xs) K0 = K0 nn a r (.sl xs)
  | 0, x, y, i, j, _, _, _, _, _ => by omega
  | J + 1, x, y, i, j, hx, hy, h, hj, hJ => by
    unfold hs
    by_cases hij : i < j
    · have e := shr_mid (x := i) (y := j) (by omega)
      have i1 : inb (((i + j) / 2 : Nat) : Int) xs.length = true := inb_t (by omega)
      have i2 : inb (A : Int) xs.length = true := inb_t (by omega)
      have hp : pr33 (gt xs ((i + j) / 2)) (gt xs A) q = true := hq
      have e3 : IntKind.i64.wrap ((((i + j) / 2 : Nat) : Int) + 1) = (((i + j) / 2 + 1 : Nat) : Int) := w64n (by omega) (by omega)
      rw [decide_eq_true hij, cond_true]
      cases hP : ltb (sp33 (gt xs ((i + j) / 2)) (gt xs A) q) 0
      · obtain ⟨r, h1, h2⟩ := f94a n N nn a q hq A ha xs hl hA K0 J x (.i (((i + j) / 2 : Nat) : Int)) i ((i + j) / 2) hx rfl (by omega) (by omega) (by omega)
        refine ⟨r, by rw [cond_false]; exact h1, ?_⟩
        simp only [l94_10, m94_11, hx, hy, ltb_n hij, cond_true, cond_false, e, shr_ok, toL_sl, i1, i2, ha, Int.toNat_natCast, at_sl, hp, hP]
        exact h2
      · obtain ⟨r, h1, h2⟩ := f94a n N nn a q hq A ha xs hl hA K0 J (.i (((i + j) / 2 + 1 : Nat) : Int)) y ((i + j) / 2 + 1) j rfl hy (by omega) (by omega) (by omega)
        refine ⟨r, by rw [cond_true]; exact h1, ?_⟩
        simp only [l94_10, m94_11, hx, hy, ltb_n hij, cond_true, cond_false, e, e3, shr_ok, toL_sl, i1, i2, ha, Int.toNat_natCast, at_sl, hp, hP]
        exact h2
    · have hlt : ltb (i : Int) (j : Int) = false := ltb_f (by omega)
      rw [decide_eq_false hij, cond_false]
      refine ⟨x, hx, ?_⟩
      simp only [l94_10, m94_11, hx, hy, hlt, cond_false]
theorem f94b {R : Type} (n N : Nat) (nn : Bool) (m q : D) (hq : isPtrD q = true) (M : Nat) (hm : m.toI = (M : Int)) (xs : List D) (hl : xs.length ≤ 1000000) (hM : M < xs.length) (K0 : Bool → D → D → D → Option R) : ∀ J (x y : D) (i j : Nat), x.toI = (i : Int) → y.toI = (j : Int) → i ≤ j → j ≤ xs.length → j < J + i →
    ∃ r : D, r.toI = (hs (fun h => !ltb (sp33 (gt xs M) (gt xs h) q) 0) J i j : Nat) ∧ l94_52 n N J nn m q x y (.sl xs) K0 = K0 nn m r (.sl xs)
  | 0, x, y, i, j, _, _, _, _, _ => by omega
  | J + 1, x, y, i, j, hx, hy, h, hj, hJ => by
    unfold hs
    by_cases hij : i < j
    · have e := shr_mid (x := i) (y := j) (by omega)
      have i1 : inb (((i + j) / 2 : Nat) : Int) xs.length = true := inb_t (by omega)
      have i2 : inb (M : Int) xs.length = true := inb_t (by omega)
      have hp : pr33 (gt xs M) (gt xs ((i + j) / 2)) q = true := hq
      have e3 : IntKind.i64.wrap ((((i + j) / 2 : Nat) : Int) + 1) = (((i + j) / 2 + 1 : Nat) : Int) := w64n (by omega) (by omega)
      rw [decide_eq_true hij, cond_true]
      cases hP : ltb (sp33 (gt xs M) (gt xs ((i + j) / 2)) q) 0
      · obtain ⟨r, h1, h2⟩ := f94b n N nn m q hq M hm xs hl hM K0 J (.i (((i + j) / 2 + 1 : Nat) : Int)) y ((i + j) / 2 + 1) j rfl hy (by omega) (by omega) (by omega)
        refine ⟨r, by rw [Bool.not_false, cond_true]; exact h1, ?_⟩
        simp only [l94_52, m94_53, hx, hy, ltb_n hij, cond_true, cond_false, e, e3, shr_ok, toL_sl, i1, i2, hm, Int.toNat_natCast, at_sl, hp, hP, Bool.not_false]
        exact h2
      · obtain ⟨r, h1, h2⟩ := f94b n N nn m q hq M hm xs hl hM K0 J x (.i (((i + j) / 2 : Nat) : Int)) i ((i + j) / 2) hx rfl (by omega) (by omega) (by omega)
        refine ⟨r, by rw [Bool.not_true, cond_false]; exact h1, ?_⟩
        simp only [l94_52, m94_53, hx, hy, ltb_n hij, cond_true, cond_false, e, shr_ok, toL_sl, i1, i2, hm, Int.toNat_natCast, at_sl, hp, hP, Bool.not_true]
        exact h2
    · have hlt : ltb (i : Int) (j : Int) = false := ltb_f (by omega)
      rw [decide_eq_false hij, cond_false]
      refine ⟨x, hx, ?_⟩
      simp only [l94_52, m94_53, hx, hy, hlt, cond_false]
theorem f94c {R : Type} (n N : Nat) (nn : Bool) (a m b q z18 z19 p : D) (hq : isPtrD q = true) (P : Nat) (hp0 : p.toI = (P : Int)) (xs : List D) (hl : xs.length ≤ 1000000) (lo hi : Nat) (hin : ∀ c, lo ≤ c → c < hi → c < xs.length ∧ c ≤ P ∧ P < xs.length + c) (K0 : Bool → D → D → D → D → D → D → D → D → Option R) : ∀ J (x y : D) (i j : Nat), x.toI = (i : Int) → y.toI = (j : Int) → lo ≤ i → i ≤ j → j ≤ hi → j ≤ 1000000 → j < J + i →
    ∃ r : D, r.toI = (hs (fun c => !ltb (sp33 (gt xs (P - c)) (gt xs c) q) 0) J i j : Nat) ∧ l94_104 n N J nn a m b q z18 z19 x y p (.sl xs) K0 = K0 nn a m b q z18 z19 r (.sl xs)
  | 0, x, y, i, j, _, _, _, _, _, _, _ => by omega
  | J + 1, x, y, i, j, hx, hy, hlo, h, hhi, hj, hJ => by
    unfold hs
    by_cases hij : i < j
    · obtain ⟨c1, c2, c3⟩ := hin ((i + j) / 2) (by omega) (by omega)
      have e := shr_mid (x := i) (y := j) (by omega)
      have ep : IntKind.i64.wrap ((P : Int) - (((i + j) / 2 : Nat) : Int)) = ((P - (i + j) / 2 : Nat) : Int) := w64n (by omega) (by omega)
      have i1 : inb (((i + j) / 2 : Nat) : Int) xs.length = true := inb_t (by omega)
      have i2 : inb ((P - (i + j) / 2 : Nat) : Int) xs.length = true := inb_t (by omega)
      have hp : pr33 (gt xs (P - (i + j) / 2)) (gt xs ((i + j) / 2)) q = true := hq
      have e3 : IntKind.i64.wrap ((((i + j) / 2 : Nat) : Int) + 1) = (((i + j) / 2 + 1 : Nat) : Int) := w64n (by omega) (by omega)
      rw [decide_eq_true hij, cond_true]
      cases hP : ltb (sp33 (gt xs (P - (i + j) / 2)) (gt xs ((i + j) / 2)) q) 0
      · obtain ⟨r, h1, h2⟩ := f94c n N nn a m b q z18 z19 p hq P hp0 xs hl lo hi hin K0 J (.i (((i + j) / 2 + 1 : Nat) : Int)) y ((i + j) / 2 + 1) j rfl hy (by omega) (by omega) hhi hj (by omega)
        refine ⟨r, by rw [Bool.not_false, cond_true]; exact h1, ?_⟩
        simp only [l94_104, m94_105, hx, hy, hp0, ltb_n hij, cond_true, cond_false, e, e3, ep, shr_ok, toL_sl, i1, i2, Int.toNat_natCast, at_sl, hp, hP, Bool.not_false]
        exact h2
      · obtain ⟨r, h1, h2⟩ := f94c n N nn a m b q z18 z19 p hq P hp0 xs hl lo hi hin K0 J x (.i (((i + j) / 2 : Nat) : Int)) i ((i + j) / 2) hx rfl (by omega) (by omega) (by omega) (by omega) (by omega)
        refine ⟨r, by rw [Bool.not_true, cond_false]; exact h1, ?_⟩
        simp only [l94_104, m94_105, hx, hy, hp0, ltb_n hij, cond_true, cond_false, e, ep, shr_ok, toL_sl, i1, i2, Int.toNat_natCast, at_sl, hp, hP, Bool.not_true]
        exact h2
    · have hlt : ltb (i : Int) (j : Int) = false := ltb_f (by omega)
      rw [decide_eq_false hij, cond_false]
      refine ⟨x, hx, ?_⟩
      simp only [l94_104, m94_105, hx, hy, hlt, cond_false]
theorem g94a {R : Type} (n N : Nat) (nn : Bool) (xs : List D) (A I : Nat) (hl : xs.length ≤ 1000000) (hI : I ≤ xs.length) (z : D) (hz : z.toI = (I : Int)) (K0 : D → Option R) : ∀ J (x : D) (k : Nat), x.toI = (k : Int) → A ≤ k → k + 1 ≤ I → I < J + k + 1 →
    l94_29 n N J nn z x (.sl (rotL xs A (A + 1) (k + 1))) K0 = K0 (.sl (rotL xs A (A + 1) I))
  | 0, x, k, _, _, _, _ => by omega
  | J + 1, x, k, hx, h1, h2, h3 => by
    have e1 : IntKind.i64.wrap ((I : Int) - 1) = ((I - 1 : Nat) : Int) := w64n (by omega) (by omega)
    rcases Nat.lt_or_ge k (I - 1) with h | h
    · have e2 : IntKind.i64.wrap ((k : Int) + 1) = ((k + 1 : Nat) : Int) := w64n (by omega) (by omega)
      have i1 : inb (k : Int) xs.length = true := inb_t (by omega)
      have i2 : inb ((k + 1 : Nat) : Int) xs.length = true := inb_t (by omega)
      simp only [l94_29, m94_30, hx, hz, e1, ltb_n h, cond_true, e2, toL_sl, rotL_len, i1, i2, Int.toNat_natCast, at_sl, setP_sl, List.length_set, rot_r h1 (show k + 1 < xs.length by omega)]
      exact g94a n N nn xs A I hl hI z hz K0 J (.i ((k + 1 : Nat) : Int)) (k + 1) rfl (by omega) (by omega) (by omega)
    · have e : I = k + 1 := by omega
      subst e
      have hlt : ltb (k : Int) ((k + 1 - 1 : Nat) : Int) = false := ltb_f (by omega)
      simp only [l94_29, m94_30, hx, hz, e1, hlt, cond_false]
theorem g94b {R : Type} (n N : Nat) (nn : Bool) (xs : List D) (M I : Nat) (hl : xs.length ≤ 1000000) (hM : M < xs.length) (z : D) (hz : z.toI = (I : Int)) (K0 : D → Option R) : ∀ J (x : D) (k : Nat), x.toI = (k : Int) → I ≤ k → k ≤ M → k < J + I →
    l94_71 n N J nn z x (.sl (rotL xs k M (M + 1))) K0 = K0 (.sl (rotL xs I M (M + 1)))
  | 0, x, k, _, _, _, _ => by omega
  | J + 1, x, k, hx, h1, h2, h3 => by
    rcases Nat.lt_or_ge I k with h | h
    · have e1 : IntKind.i64.wrap ((k : Int) - 1) = ((k - 1 : Nat) : Int) := w64n (by omega) (by omega)
      have i1 : inb (k : Int) xs.length = true := inb_t (by omega)
      have i2 : inb ((k - 1 : Nat) : Int) xs.length = true := inb_t (by omega)
      have hr := rot_l (l := xs) (k := k - 1) (m := M) (by omega) hM
      rw [show k - 1 + 1 = k by omega] at hr
      simp only [l94_71, m94_72, hx, hz, e1, ltb_n h, cond_true, toL_sl, rotL_len, i1, i2, Int.toNat_natCast, at_sl, setP_sl, List.length_set, hr]
      exact g94b n N nn xs M I hl hM z hz K0 J (.i ((k - 1 : Nat) : Int)) (k - 1) rfl (by omega) (by omega) (by omega)
    · have e : k = I := by omega
      subst e
      simp only [l94_71, m94_72, hx, hz, ltb_self, cond_false]
theorem nltb_t {x y : Int} (h : (!ltb x y) = true) : ¬ x < y := of_decide_eq_false (by rwa [Bool.not_eq_true'] at h)
theorem nltb_f {x y : Int} (h : (!ltb x y) = false) : x < y := of_decide_eq_true (by rwa [Bool.not_eq_false'] at h)
theorem prx94_t {n : Nat} {a m b q h : D} (e : prx94_33 n a m b q h = true) : P94 n a m b q h := by unfold prx94_33 at e; exact @of_decide_eq_true _ (Classical.propDecidable _) e
theorem prx94_0 (a m b q h : D) : prx94_33 0 a m b q h = false := by
  unfold prx94_33
  exact @decide_eq_false _ (Classical.propDecidable _) fun ⟨A, M, B, _, _, _, _, _, _, _, h1, h2, _, _, _, h3⟩ => by omega
theorem k94_122 {R : Type} (n N : Nat) (nn : Bool) (a m b q z18 s e : D) (M S E : Nat) (hm : m.toI = (M : Int)) (hs' : s.toI = (S : Int)) (he : e.toI = (E : Int)) (xs : List D) (hl : xs.length ≤ 1000000) (h1 : S ≤ M) (h2 : M ≤ E) (h3 : E ≤ xs.length) (K : Bool → D → D → D → D → D → D → D → Option R) :
    m94_122 n N nn a m b q z18 s e (.sl xs) K = K nn a b q z18 s e (.sl (rotL xs S M E)) := by
  unfold m94_122
  rw [hm, hs', he]
  rcases Nat.lt_or_ge S M with u | u
  · rcases Nat.lt_or_ge M E with v | v
    · obtain ⟨s1, s2⟩ := sp104_e s m e q S M E hs' hm he xs hl u v h3
      simp only [ltb_n u, ltb_n v, cond_true, s1, s2, toL_sl, rotL_len, beq_same, Bool.and_self]
    · have hlt : ltb (M : Int) (E : Int) = false := ltb_f (by omega)
      simp only [ltb_n u, hlt, cond_true, cond_false, rotL_id (l := xs) (Or.inr (show M = E by omega)) h1 h2]
  · have hlt : ltb (S : Int) (M : Int) = false := ltb_f (by omega)
    simp only [hlt, cond_false, rotL_id (l := xs) (Or.inl (show S = M by omega)) h1 h2]
theorem k94_128 {R : Type} (n N : Nat) (nn : Bool) (a b q z18 s e : D) (hq : isPtrD q = true) (A S M : Nat) (ha : a.toI = (A : Int)) (hs' : s.toI = (S : Int)) (h18 : z18.toI = (M : Int)) (xs : List D) (hl : xs.length ≤ 1000000) (h1 : A ≤ S) (h2 : S ≤ M) (h3 : M ≤ xs.length) (hA : SrtOn (c33 q) xs A S) (hB : SrtOn (c33 q) xs S M) (hn : M < n + A) (K : Bool → D → D → D → D → D → Option R) :
    m94_128 n N nn a b q z18 s e (.sl xs) K = K nn b q z18 e (.sl (srtSeg (c33 q) xs A M)) := by
  unfold m94_128
  rw [ha, hs', h18]
  rcases Nat.lt_or_ge A S with u | u
  · rcases Nat.lt_or_ge S M with v | v
    · obtain ⟨s1, s2⟩ := sp94_e ha hs' h18 hl hq u v h3 hA hB hn
      simp only [ltb_n u, ltb_n v, cond_true, s1, s2, toL_sl, srtSeg_len (c33_c q) (show A ≤ M by omega) h3, beq_same, Bool.and_self]
    · have e : S = M := by omega
      subst e
      simp only [ltb_n u, ltb_self, cond_true, cond_false, srtSeg_id (c33_c q) h1 h3 hA]
  · have e : A = S := by omega
    subst e
    simp only [ltb_self, cond_false, srtSeg_id (c33_c q) h2 h3 hB]
theorem k94_133 {R : Type} (n N : Nat) (nn : Bool) (b q z18 e : D) (hq : isPtrD q = true) (A S M : Nat) (ha : z18.toI = (A : Int)) (hs' : e.toI = (S : Int)) (h18 : b.toI = (M : Int)) (xs : List D) (hl : xs.length ≤ 1000000) (h1 : A ≤ S) (h2 : S ≤ M) (h3 : M ≤ xs.length) (hA : SrtOn (c33 q) xs A S) (hB : SrtOn (c33 q) xs S M) (hn : M < n + A) (K : D → Option R) :
    m94_133 n N nn b q z18 e (.sl xs) K = K (.sl (srtSeg (c33 q) xs A M)) := by
  unfold m94_133
  rw [ha, hs', h18]
  rcases Nat.lt_or_ge A S with u | u
  · rcases Nat.lt_or_ge S M with v | v
    · obtain ⟨s1, s2⟩ := sp94_e ha hs' h18 hl hq u v h3 hA hB hn
      simp only [ltb_n u, ltb_n v, cond_true, s1, s2, toL_sl, srtSeg_len (c33_c q) (show A ≤ M by omega) h3, beq_same, Bool.and_self]
    · have e : S = M := by omega
      subst e
      simp only [ltb_n u, ltb_self, cond_true, cond_false, srtSeg_id (c33_c q) h1 h3 hA]
  · have e : A = S := by omega
    subst e
    simp only [ltb_self, cond_false, srtSeg_id (c33_c q) h2 h3 hB]
theorem w94 {R : Type} (n N : Nat) (nn : Bool) (a m b q : D) (hq : isPtrD q = true) (A M B : Nat) (ha : a.toI = (A : Int)) (hm : m.toI = (M : Int)) (hb : b.toI = (B : Int)) (xs : List D) (hl : xs.length ≤ 1000000) (h1 : A < M) (h2 : M < B) (h3 : B ≤ xs.length) (hA : SrtOn (c33 q) xs A M) (hB : SrtOn (c33 q) xs M B) (hn : B ≤ n + A) (hN : xs.length < N) (K Kr F : D → Option R) (hK : ∀ z, K z = F z) (hKr : ∀ z, Kr z = F z) :
    m94_0 n N nn a m b q (.sl xs) K Kr = F (.sl (srtSeg (c33 q) xs A B)) := by
  have d1 : IntKind.i64.wrap ((M : Int) - (A : Int)) = ((M - A : Nat) : Int) := w64n (by omega) (by omega)
  have d2 : IntKind.i64.wrap ((B : Int) - (M : Int)) = ((B - M : Nat) : Int) := w64n (by omega) (by omega)
  by_cases c1 : M - A = 1
  · have hb1 : eqb ((M - A : Nat) : Int) 1 = true := eqb_t (by omega)
    obtain ⟨r, hr, e⟩ := f94a n N nn a q hq A ha xs hl (by omega) (fun y0n y1 y10 h0 => m94_25 n N y0n y1 y10 h0 Kr) N m b M B hm hb (by omega) h3 (by omega)
    obtain ⟨p1, p2, p3, p4⟩ := hs_spec (P := fun h => ltb (sp33 (gt xs h) (gt xs A) q) 0) N M B (by omega) (by omega)
    revert hr p1 p2 p3 p4
    generalize hs (fun h => ltb (sp33 (gt xs h) (gt xs A) q) 0) N M B = I
    intro hr p1 p2 p3 p4
    simp only [m94_0, m94_1, m94_2, m94_3, toB_b, ha, hm, d1, hb1, cond_true, m94_4, m94_5, m94_6, m94_7, m94_8, m94_9, m94_10]
    refine Eq.trans e ?_
    have g := g94a n N nn xs A I hl (by omega) r hr (fun h0 => m94_40 n N h0 Kr) N a A ha (by omega) (by omega) (by omega)
    rw [rotL_self] at g
    simp only [m94_25, m94_26, m94_27, m94_28, m94_29]
    refine Eq.trans g ?_
    simp only [m94_40, hKr]
    rw [merge_first' (c33_c q) (by omega) p2 h3 (by rw [show A + 1 = M by omega]; exact hB) (fun h => of_decide_eq_true (p3 (by omega))) (fun h => of_decide_eq_false (p4 h))]
  · have hb1 : eqb ((M - A : Nat) : Int) 1 = false := eqb_f (by omega)
    by_cases c2 : B - M = 1
    · have hb2 : eqb ((B - M : Nat) : Int) 1 = true := eqb_t (by omega)
      obtain ⟨r, hr, e⟩ := f94b n N nn m q hq M hm xs hl (by omega) (fun y0n y2 y14 h0 => m94_67 n N y0n y2 y14 h0 Kr) N a m A M ha hm (by omega) (by omega) (by omega)
      obtain ⟨p1, p2, p3, p4⟩ := hs_spec (P := fun h => !ltb (sp33 (gt xs M) (gt xs h) q) 0) N A M (by omega) (by omega)
      revert hr p1 p2 p3 p4
      generalize hs (fun h => !ltb (sp33 (gt xs M) (gt xs h) q) 0) N A M = I
      intro hr p1 p2 p3 p4
      simp only [m94_0, m94_1, m94_2, m94_3, toB_b, ha, hm, hb, d1, d2, hb1, hb2, cond_true, cond_false, m94_41, m94_42, m94_43, m94_44, m94_45, m94_46, m94_47, m94_48, m94_49, m94_50, m94_51, m94_52]
      refine Eq.trans e ?_
      have g := g94b n N nn xs M I hl (by omega) r hr (fun h0 => m94_82 n N h0 Kr) N m M hm (by omega) (by omega) (by omega)
      rw [ins_id] at g
      simp only [m94_67, m94_68, m94_69, m94_70, m94_71]
      refine Eq.trans g ?_
      simp only [m94_82, hKr]
      rw [merge_last' (c33_c q) p1 p2 (by omega) hA (fun h => nltb_f (p4 h)) (fun h => nltb_t (p3 h)), show M + 1 = B by omega]
    · have hb2 : eqb ((B - M : Nat) : Int) 1 = false := eqb_f (by omega)
      have dm := shr_mid (x := A) (y := B) (by omega)
      have d3 : IntKind.i64.wrap ((((A + B) / 2 : Nat) : Int) + (M : Int)) = (((A + B) / 2 + M : Nat) : Int) := w64n (by omega) (by omega)
      have d4 : IntKind.i64.wrap ((((A + B) / 2 + M : Nat) : Int) - 1) = (((A + B) / 2 + M - 1 : Nat) : Int) := w64n (by omega) (by omega)
      simp only [m94_0, m94_1, m94_2, m94_3, toB_b, ha, hm, hb, d1, d2, hb1, hb2, cond_true, cond_false, m94_41, m94_42, m94_43, m94_44, m94_45, m94_83, m94_84, m94_85, shr_ok, dm, m94_86, m94_87, toI_i, d3, m94_88, m94_89, m94_90, m94_91]
      have fin : ∀ (x y : D) (s0 r0 : Nat), x.toI = (s0 : Int) → y.toI = (r0 : Int) → (((A + B) / 2 < M ∧ s0 + B = (A + B) / 2 + M ∧ r0 = (A + B) / 2) ∨ (M ≤ (A + B) / 2 ∧ s0 = A ∧ r0 = M)) →
          m94_100 n N nn a m b q (.i (((A + B) / 2 : Nat) : Int)) (.i (((A + B) / 2 + M : Nat) : Int)) x y (.sl xs) (fun h0 => K h0) = F (.sl (srtSeg (c33 q) xs A B)) := by
        intro x y s0 r0 hx hy hcase
        obtain ⟨r, hr, e⟩ := f94c n N nn a m b q (.i (((A + B) / 2 : Nat) : Int)) (.i (((A + B) / 2 + M : Nat) : Int)) (.i (((A + B) / 2 + M - 1 : Nat) : Int)) hq ((A + B) / 2 + M - 1) rfl xs hl s0 r0 (fun c u v => by omega) (fun y0n y1 y2 y3 y4_0 y18 y19 y20 h0 => m94_119 n N y0n y1 y2 y3 y4_0 y18 y19 y20 h0 (fun h0 => K h0)) N x y s0 r0 hx hy (Nat.le_refl _) (by omega) (Nat.le_refl _) (by omega) (by omega)
        obtain ⟨p1, p2, p3, p4⟩ := hs_spec (P := fun c => !ltb (sp33 (gt xs ((A + B) / 2 + M - 1 - c)) (gt xs c) q) 0) N s0 r0 (by omega) (by omega)
        revert hr p1 p2 p3 p4
        generalize hs (fun c => !ltb (sp33 (gt xs ((A + B) / 2 + M - 1 - c)) (gt xs c) q) 0) N s0 r0 = S
        intro hr p1 p2 p3 p4
        obtain ⟨q1, q2, q3, q4, q5, q6, q7⟩ := merge_gen (c33_c q) h1 h2 h3 hA hB p1 p2 hcase (fun h => by
          have h' : ltb (sp33 (gt xs ((A + B) / 2 + M - 1 - (S - 1))) (gt xs (S - 1)) q) 0 = false := by simpa using p3 h
          rw [show (A + B) / 2 + M - 1 - (S - 1) = (A + B) / 2 + M - S by omega] at h'
          exact of_decide_eq_false h') (fun h => nltb_f (p4 h))
        have d5 : IntKind.i64.wrap ((((A + B) / 2 + M : Nat) : Int) - (S : Int)) = (((A + B) / 2 + M - S : Nat) : Int) := w64n (by omega) (by omega)
        simp only [m94_100, m94_101, toI_i, d4, m94_102, m94_103, m94_104]
        refine Eq.trans e ?_
        simp only [m94_119, m94_120, toI_i, hr, d5, m94_121]
        rw [k94_122 n N nn a m b q _ r _ M S ((A + B) / 2 + M - S) hm hr rfl xs hl q2 q3 (by omega)]
        obtain ⟨t1, t2, t3, t4⟩ := rot_parts q1 q2 q3 q4 h3 hA hB
        rw [show S + ((A + B) / 2 + M - S - M) = (A + B) / 2 by omega] at t2 t3
        simp only [m94_127]
        rw [k94_128 n N nn a b q _ r _ hq A S ((A + B) / 2) ha hr rfl _ (by rw [rotL_len]; exact hl) q1 q5 (by rw [rotL_len]; omega) t1 t2 (by omega)]
        have hlen : (srtSeg (c33 q) (rotL xs S M ((A + B) / 2 + M - S)) A ((A + B) / 2)).length = xs.length := by rw [srtSeg_len (c33_c q) (by omega) (by rw [rotL_len]; omega), rotL_len]
        have ho : ∀ k, (A + B) / 2 ≤ k → gt (srtSeg (c33 q) (rotL xs S M ((A + B) / 2 + M - S)) A ((A + B) / 2)) k = gt (rotL xs S M ((A + B) / 2 + M - S)) k := fun k hk => srtSeg_other (c33_c q) (by omega) (by rw [rotL_len]; omega) (Or.inr hk)
        rw [k94_133 n N nn b q _ _ hq ((A + B) / 2) ((A + B) / 2 + M - S) B rfl rfl hb _ (by omega) q6 q4 (by omega) (t3.same fun k u _ => ho k u) (t4.same fun k u _ => ho k (by omega)) (by omega)]
        rw [q7, hK]
      by_cases c3 : (A + B) / 2 < M
      · have d6 : IntKind.i64.wrap ((((A + B) / 2 + M : Nat) : Int) - (B : Int)) = (((A + B) / 2 + M - B : Nat) : Int) := w64n (by omega) (by omega)
        simp only [ltb_n c3, cond_true, d6]
        exact fin _ _ ((A + B) / 2 + M - B) ((A + B) / 2) rfl rfl (by omega)
      · have hlt : ltb (((A + B) / 2 : Nat) : Int) (M : Int) = false := ltb_f (by omega)
        simp only [hlt, cond_false]
        exact fin _ _ A M ha hm (by omega)
theorem fn94 (z : D) : finish vf94 .normal (s94_6 z) = some (.t [], [.f z]) := by kernel_rfl
theorem fr94 (z : D) : finish vf94 .ret (s94_6 z) = some (.t [], [.f z]) := by kernel_rfl
theorem sp94_v {a m b q : D} {A B : Nat} (ha : a.toI = (A : Int)) (hb : b.toI = (B : Int)) (xs : List D) : sp94_33_h0 a m b q (.sl xs) = .sl (srtSeg (c33 q) xs A B) := by unfold sp94_33_h0; rw [ha, hb]; rfl
theorem z94 (n : Nat) (nn : Bool) (a m b q h : D) (hp : P94 (n + 1) a m b q h) : ∃ N, m94_0 n N nn a m b q h (fun h0 => finish vf94 .normal (s94_6 h0)) (fun h0 => finish vf94 .ret (s94_6 h0)) = some (.t [], [.f (sp94_33_h0 a m b q h)]) := by
  obtain ⟨A, M, B, xs, ha, hm, hb, rfl, hl, hq, h1, h2, h3, hA, hB, hn⟩ := hp
  refine ⟨xs.length + 1, ?_⟩
  rw [sp94_v ha hb]
  have h4 : B ≤ n + A := by omega
  have h5 : xs.length < xs.length + 1 := by omega
  exact w94 n (xs.length + 1) nn a m b q hq A M B ha hm hb xs hl h1 h2 h3 hA hB h4 h5 (fun h0 => finish vf94 .normal (s94_6 h0)) (fun h0 => finish vf94 .ret (s94_6 h0)) (fun z => some (.t [], [.f z])) fn94 fr94
theorem ox94 : ∀ n, FnOk Try.prog PHI (Tx94 n) := FnOk.recm3 hPHI ok93 (by kernel_rfl) prx94_0 fun n nn a m b q h hp => by
  obtain ⟨N, hN⟩ := z94 n nn a m b q h (prx94_t hp)
  exact ⟨N, (r94 n N nn a m b q h).trans hN⟩
noncomputable def pr94_33 (a m b q h : D) : Bool := @decide (∃ n, P94 n a m b q h) (Classical.propDecidable _)
noncomputable def Tb94 : CallF := extendR Tb93 94 (fm3 33 [Ty.p 40] pr94_33 sp94_33_h0)
theorem pr94_t {a m b q h : D} (e : pr94_33 a m b q h = true) : ∃ n, P94 n a m b q h := by unfold pr94_33 at e; exact @of_decide_eq_true _ (Classical.propDecidable _) e
theorem pr94_i {n : Nat} {a m b q h : D} (e : P94 n a m b q h) : pr94_33 a m b q h = true := @decide_eq_true _ (Classical.propDecidable _) ⟨n, e⟩
theorem prx94_i {n : Nat} {a m b q h : D} (e : P94 n a m b q h) : prx94_33 n a m b q h = true := @decide_eq_true _ (Classical.propDecidable _) e
theorem ok94 : FnOk Try.prog PHI Tb94 := FnOk.limR ox94 fun args H r hr => by
  unfold fm3 at hr
  split at hr
  · rename_i nn a b m k' q tys h
    cases e : pr94_33 a b m q h
    · rw [e, Bool.and_false, Bool.and_false] at hr
      cases hr
    · obtain ⟨n, hn⟩ := pr94_t e
      refine ⟨n, ?_⟩
      have e2 : fm3 33 [Ty.p 40] (prx94_33 n) sp94_33_h0 [.ms 0 nn, .f a, .f b, .f m, .fn k' [.f q] tys] [.f h] = (Nat.beq k' 33 && (Ty.eqAll tys [Ty.p 40] && prx94_33 n a b m q h), .t [], [.f (sp94_33_h0 a b m q h)]) := rfl
      rw [e2, prx94_i hn]
      rw [e] at hr
      exact hr
  · cases hr
end Go.Vam.C14
