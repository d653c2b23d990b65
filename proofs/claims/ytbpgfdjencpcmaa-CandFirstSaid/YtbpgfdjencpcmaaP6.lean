/- Chapter 20: what functions come to, part 6. No conditions. -/
import Derived.Test.YtbpgfdjencpcmaaP5
import Derived.KernelRfl
set_option linter.unusedVariables false
set_option linter.unusedSimpArgs false
set_option maxRecDepth 100000
namespace Go.Vam.C20
open Go.Proofs
theorem loop_pass {R : Type} (L : Nat → Nat → Option R) (n : Nat) (K : Option R) (hs : ∀ j i, i < n → L (j + 1) i = L j (i + 1)) (he : ∀ j, L (j + 1) n = K) : ∀ k i j, i + k = n → k < j → L j i = K
  | _, _, 0, _, h => by omega
  | 0, i, j + 1, h, _ => by
    have : i = n := by omega
    subst this
    exact he j
  | k + 1, i, j + 1, h, h' => by
    rw [hs j i (by omega)]
    exact loop_pass L n K hs he k (i + 1) j (by omega) (by omega)
/-! ### No more than may be -/
def leM (m : Int) (o : D) : Prop := (o.toL.length : Int) ≤ m
theorem leM_addM {m : Int} {o t : D} {xs : List D} (h : leM m o) : leM m (addM m o t xs) := by
  unfold addM
  by_cases hl : (o.toL.length : Int) < m
  · rw [ltb_t hl]
    have := addS_len o t xs
    show ((addS o t xs).toL.length : Int) ≤ m
    omega
  · rw [ltb_f hl]; exact h
theorem leM_fold {m : Int} {g : D → D → D} (hg : ∀ o d, leM m o → leM m (g o d)) : ∀ (l : List D) (o : D), leM m o → leM m (l.foldl g o)
  | [], o, h => h
  | x :: l, o, h => leM_fold hg l _ (hg o x h)
theorem leM_gQ {m : Int} {o q : D} (h : leM m o) : leM m (gQ m o q) := leM_fold (fun o d ho => leM_addM ho) _ _ h
theorem leM_gM {m : Int} {a o b : D} (h : leM m o) : leM m (gM m a o b) := by
  unfold gM
  cases eqb (a.at 0).toI (b.at 0).toI
  · exact h
  · exact leM_addM h
theorem leM_gB {m : Int} {base o a : D} (h : leM m o) : leM m (gB m base o a) := leM_fold (fun o d ho => leM_gM ho) _ _ h
theorem mx_0 (n : Int) : 0 ≤ mx n := by
  unfold mx
  simp only [mmI, cond_true, cond_false]
  split <;> split <;> omega
theorem leM_all1 (l : D) {m : Int} (hm : 0 ≤ m) : leM m (all1 l m) := leM_fold (fun o d ho => leM_gQ ho) _ _ (show ((0 : Nat) : Int) ≤ m by omega)
theorem leM_12 (l n : D) : leM (mx n.toI) (sp12 l n) := leM_fold (fun o d ho => leM_gB ho) _ _ (leM_all1 l (mx_0 _))
theorem cut0 (d : D) (k : Nat) : (cutD d ((k : Nat) : Int).toNat (0 : Int).toNat).toL = d.toL.take k := by
  rw [toL_cut, Int.toNat_natCast]; rfl
theorem pw_get {α : Type} {r : α → α → Prop} {l : List α} (h : l.Pairwise r) {i j : Nat} (hij : i < j) (hj : j < l.length) : r (l[i]'(by omega)) l[j] := List.pairwise_iff_getElem.1 h i j (by omega) hj hij
theorem getD_take {xs : List D} {i k : Nat} (hi : i < (xs.take k).length) : (xs.take k).getD i .nil = xs.getD i .nil := by
  rw [List.length_take] at hi
  rw [getD_at (show i < (xs.take k).length by rw [List.length_take]; exact hi), getD_at (show i < xs.length by omega), List.getElem_take]
theorem guard_le {k n : Nat} (h : k ≤ n) : (leb 0 0 && leb 0 (k : Int) && leb (k : Int) (n : Int)) = true := by
  rw [leb_t (show (0 : Int) ≤ k by omega), leb_t (show (k : Int) ≤ n by omega)]; rfl
section
variable {R : Type}
def m5_1 (N : Nat) (x0 x1 : D) (K : D → D → Option R) : Option R :=
  K x0 x1
def s5_0 (x0 x1 : D) : St := sts 99 [(0, V.f x0), (1, V.f x1)] []
theorem e5_1 (N : Nat) (k : Kn R) (x0 x1 : D) : runC PHI Tb4 N vc5_1 (s5_0 x0 x1) k = m5_1 N x0 x1 (fun x0 x1 => k .normal (s5_0 x0 x1)) := by
  refine Eq.trans (runC_post _ _ _ k) (Eq.trans (ops_run _ _ _ _) (by kernel_rfl))
def m5_3 (N : Nat) (x0 x1 : D) (K : D → D → Option R) (Kr : D → Option R) : Option R :=
  (bif (!sp7) then (bif true then Kr (D.b sp7) else K x0 x1) else (bif (ltb 8 (x0.toL.length : Int)) then Kr (D.b sp7) else K x0 x1))
def s5_1 (x4 : D) : St := sts 99 [(4, V.f x4)] []
theorem e5_3 (N : Nat) (k : Kn R) (x0 x1 : D) : runC PHI Tb4 N vc5_3 (s5_0 x0 x1) k = m5_3 N x0 x1 (fun x0 x1 => k .normal (s5_0 x0 x1)) (fun x4 => k .ret (s5_1 x4)) := by kernel_rfl
def m5_12 (N : Nat) (x0 x1 : D) (K : D → D → D → D → D → Option R) : Option R :=
  K x0 x1 x0 (D.i (x0.toL.length : Int)) (D.i 0)
def s5_2 (x0 x1 x24 x25 x26 : D) : St := sts 99 [(0, V.f x0), (1, V.f x1), (24, V.f x24), (25, V.f x25), (26, V.f x26)] []
theorem e5_12 (N : Nat) (k : Kn R) (x0 x1 : D) : runC PHI Tb4 N vc5_12 (s5_0 x0 x1) k = m5_12 N x0 x1 (fun x0 x1 x24 x25 x26 => k .normal (s5_2 x0 x1 x24 x25 x26)) := by
  refine Eq.trans (runC_post _ _ _ k) (Eq.trans (ops_run _ _ _ _) (by kernel_rfl))
def m5_15 (N : Nat) (x0 x1 x24 x25 x26 : D) (K : D → D → D → D → D → Option R) (K0 : D → D → Option R) (Kr : D → Option R) : Option R :=
  (bif (ltb x26.toI x25.toI) then (bif (inb x26.toI x24.toL.length) then (bif (!(sp8 (x24.at (x26.toI : Int).toNat))) then Kr (D.b true) else K x0 x1 x24 x25 (D.i (IntKind.wrap IntKind.i64 (x26.toI + 1)))) else none) else K0 x0 x1)
theorem e5_15 (N : Nat) (k : Kn R) (x0 x1 x24 x25 x26 : D) : runC PHI Tb4 N vc5_15 (s5_2 x0 x1 x24 x25 x26) k = m5_15 N x0 x1 x24 x25 x26 (fun x0 x1 x24 x25 x26 => k .normal (s5_2 x0 x1 x24 x25 x26)) (fun x0 x1 => k (.exit 0) (s5_0 x0 x1)) (fun x4 => k .ret (s5_1 x4)) := by kernel_rfl
def l5_14 (N : Nat) (j : Nat) (x0 x1 x24 x25 x26 : D) (K0 : D → D → Option R) (Kr : D → Option R) : Option R :=
  match j with
  | 0 => none
  | j + 1 => (m5_15 N x0 x1 x24 x25 x26 (fun y0 y1 y24 y25 y26 => l5_14 N j y0 y1 y24 y25 y26 K0 Kr) K0 Kr)
def m5_14 (N : Nat) (x0 x1 x24 x25 x26 : D) (K0 : D → D → Option R) (Kr : D → Option R) : Option R :=
  l5_14 N N x0 x1 x24 x25 x26 K0 Kr
theorem el5_14 (N : Nat) (k : Kn R) : ∀ (j : Nat) (x0 x1 x24 x25 x26 : D), loopGo (runC PHI Tb4 N vc5_15) j (s5_2 x0 x1 x24 x25 x26) k = l5_14 N j x0 x1 x24 x25 x26 (fun x0 x1 => k (.exit 0) (s5_0 x0 x1)) (fun x4 => k .ret (s5_1 x4))
  | 0, _, _, _, _, _ => by kernel_rfl
  | j + 1, x0, x1, x24, x25, x26 => by
    have h2 := e5_15 N (kloop PHI Tb4 N vc5_15 j k) x0 x1 x24 x25 x26
    have h3 : (fun (y0 y1 y24 y25 y26 : D) => (kloop PHI Tb4 N vc5_15 j k) .normal (s5_2 y0 y1 y24 y25 y26)) = (fun (y0 y1 y24 y25 y26 : D) => l5_14 N j y0 y1 y24 y25 y26 (fun x0 x1 => k (.exit 0) (s5_0 x0 x1)) (fun x4 => k .ret (s5_1 x4))) := funext fun y0 => funext fun y1 => funext fun y24 => funext fun y25 => funext fun y26 => (el5_14 N k j y0 y1 y24 y25 y26)
    refine Eq.trans (loop_succ _ j _ k) (Eq.trans h2 (Eq.trans (congrArg (fun K => m5_15 N x0 x1 x24 x25 x26 K (fun x0 x1 => (kloop PHI Tb4 N vc5_15 j k) (.exit 0) (s5_0 x0 x1)) (fun x4 => (kloop PHI Tb4 N vc5_15 j k) .ret (s5_1 x4))) h3) (by kernel_rfl)))
theorem e5_14 (N : Nat) (k : Kn R) (x0 x1 x24 x25 x26 : D) : runC PHI Tb4 N vc5_14 (s5_2 x0 x1 x24 x25 x26) k = m5_14 N x0 x1 x24 x25 x26 (fun x0 x1 => k (.exit 0) (s5_0 x0 x1)) (fun x4 => k .ret (s5_1 x4)) := by
  refine Eq.trans (runC_loop _ _ k) (Eq.trans (el5_14 N k N x0 x1 x24 x25 x26) (by kernel_rfl))
def m5_13 (N : Nat) (x0 x1 x24 x25 x26 : D) (K : D → D → Option R) (Kr : D → Option R) : Option R :=
  (m5_14 N x0 x1 x24 x25 x26 (fun y0 y1 => K y0 y1) Kr)
theorem e5_13 (N : Nat) (k : Kn R) (x0 x1 x24 x25 x26 : D) : runC PHI Tb4 N vc5_13 (s5_2 x0 x1 x24 x25 x26) k = m5_13 N x0 x1 x24 x25 x26 (fun x0 x1 => k .normal (s5_0 x0 x1)) (fun x4 => k .ret (s5_1 x4)) := by
  refine Eq.trans (runC_block _ _ _ k) (Eq.trans (e5_14 N (kblk 0 k) x0 x1 x24 x25 x26) (by kernel_rfl))
def m5_11 (N : Nat) (x0 x1 : D) (K : D → D → Option R) (Kr : D → Option R) : Option R :=
  (m5_12 N x0 x1 (fun y0 y1 y24 y25 y26 => (m5_13 N y0 y1 y24 y25 y26 (fun y0 y1 => K y0 y1) Kr)))
theorem e5_11 (N : Nat) (k : Kn R) (x0 x1 : D) : runC PHI Tb4 N vc5_11 (s5_0 x0 x1) k = m5_11 N x0 x1 (fun x0 x1 => k .normal (s5_0 x0 x1)) (fun x4 => k .ret (s5_1 x4)) := by
  have h2 := e5_12 N (kseq PHI Tb4 N vc5_13 k) x0 x1
  have h3 := (funext fun y0 => funext fun y1 => funext fun y24 => funext fun y25 => funext fun y26 => (e5_13 N k y0 y1 y24 y25 y26) : (fun (y0 y1 y24 y25 y26 : D) => (kseq PHI Tb4 N vc5_13 k) .normal (s5_2 y0 y1 y24 y25 y26)) = _)
  refine Eq.trans (runC_seq _ _ _ k) (Eq.trans h2 (Eq.trans (congrArg (fun K => m5_12 N x0 x1 K) h3) (by kernel_rfl)))
def m5_34 (N : Nat) (x0 x1 : D) (K : D → D → Option R) : Option R :=
  (bif (pr12 x0 x1) then K x1 (sp12 x0 x1) else none)
def s5_3 (x1 x7 : D) : St := sts 99 [(1, V.f x1), (7, V.f x7)] []
theorem e5_34 (N : Nat) (k : Kn R) (x0 x1 : D) : runC PHI Tb4 N vc5_34 (s5_0 x0 x1) k = m5_34 N x0 x1 (fun x1 x7 => k .normal (s5_3 x1 x7)) := by
  refine Eq.trans (runC_post _ _ _ k) (Eq.trans (ops_run _ _ _ _) (by kernel_rfl))
def m5_36 (N : Nat) (x1 x7 : D) (K : D → Option R) (Kr : D → Option R) : Option R :=
  (bif (ltb (mmI true 0 [(mmI false x1.toI [16])]) (x7.toL.length : Int)) then Kr (D.b false) else K x7)
def s5_4 (x7 : D) : St := sts 99 [(7, V.f x7)] []
theorem e5_36 (N : Nat) (k : Kn R) (x1 x7 : D) : runC PHI Tb4 N vc5_36 (s5_3 x1 x7) k = m5_36 N x1 x7 (fun x7 => k .normal (s5_4 x7)) (fun x4 => k .ret (s5_1 x4)) := by kernel_rfl
def m5_45 (N : Nat) (x7 : D) (K : D → D → D → D → Option R) : Option R :=
  K x7 x7 (D.i (x7.toL.length : Int)) (D.i 0)
def s5_5 (x7 x43 x44 x45 : D) : St := sts 99 [(7, V.f x7), (43, V.f x43), (44, V.f x44), (45, V.f x45)] []
theorem e5_45 (N : Nat) (k : Kn R) (x7 : D) : runC PHI Tb4 N vc5_45 (s5_4 x7) k = m5_45 N x7 (fun x7 x43 x44 x45 => k .normal (s5_5 x7 x43 x44 x45)) := by
  refine Eq.trans (runC_post _ _ _ k) (Eq.trans (ops_run _ _ _ _) (by kernel_rfl))
def m5_49 (N : Nat) (x7 x43 x44 x45 : D) (K : D → D → D → D → D → Option R) : Option R :=
  K x7 x43 x44 x45 (D.b (ltb x45.toI x44.toI))
def s5_6 (x7 x43 x44 x45 x46 : D) : St := sts 99 [(7, V.f x7), (43, V.f x43), (44, V.f x44), (45, V.f x45), (46, V.f x46)] []
theorem e5_49 (N : Nat) (k : Kn R) (x7 x43 x44 x45 : D) : runC PHI Tb4 N vc5_49 (s5_5 x7 x43 x44 x45) k = m5_49 N x7 x43 x44 x45 (fun x7 x43 x44 x45 x46 => k .normal (s5_6 x7 x43 x44 x45 x46)) := by
  refine Eq.trans (runC_post _ _ _ k) (Eq.trans (ops_run _ _ _ _) (by kernel_rfl))
def m5_51 (N : Nat) (x7 x43 x44 x45 x46 : D) (K : D → D → D → D → Option R) (K2 : Option R) : Option R :=
  (bif x46.toB then K x7 x43 x44 x45 else K2)
def s5_7 : St := sts 99 [] []
theorem e5_51 (N : Nat) (k : Kn R) (x7 x43 x44 x45 x46 : D) : runC PHI Tb4 N vc5_51 (s5_6 x7 x43 x44 x45 x46) k = m5_51 N x7 x43 x44 x45 x46 (fun x7 x43 x44 x45 => k .normal (s5_5 x7 x43 x44 x45)) (k (.exit 2) s5_7) := by kernel_rfl
def m5_57 (N : Nat) (x7 x43 x44 x45 : D) (K : D → D → D → D → D → D → Option R) : Option R :=
  (bif (inb x45.toI x43.toL.length) then K x7 x45 (D.p (x43.at (x45.toI : Int).toNat)) x43 x44 x45 else none)
def s5_8 (x7 x8 x9 x43 x44 x45 : D) : St := sts 99 [(7, V.f x7), (8, V.f x8), (9, V.f x9), (43, V.f x43), (44, V.f x44), (45, V.f x45)] []
theorem e5_57 (N : Nat) (k : Kn R) (x7 x43 x44 x45 : D) : runC PHI Tb4 N vc5_57 (s5_5 x7 x43 x44 x45) k = m5_57 N x7 x43 x44 x45 (fun x7 x8 x9 x43 x44 x45 => k .normal (s5_8 x7 x8 x9 x43 x44 x45)) := by
  refine Eq.trans (runC_post _ _ _ k) (Eq.trans (ops_run _ _ _ _) (by kernel_rfl))
def m5_59 (N : Nat) (x7 x8 x9 x43 x44 x45 : D) (K : D → D → D → D → D → D → Option R) (Kr : D → Option R) : Option R :=
  (bif (isPtrD x9) then (bif (ltb ((x9.deref.at 1).toL.length : Int) 1) then (bif true then Kr (D.b false) else K x7 x8 x9 x43 x44 x45) else (bif (isPtrD x9) then (bif (ltb 3 ((x9.deref.at 1).toL.length : Int)) then (bif true then Kr (D.b false) else K x7 x8 x9 x43 x44 x45) else (bif (isPtrD x9) then (bif (x9.deref.at 2).toB then Kr (D.b false) else K x7 x8 x9 x43 x44 x45) else none)) else none)) else none)
theorem e5_59 (N : Nat) (k : Kn R) (x7 x8 x9 x43 x44 x45 : D) : runC PHI Tb4 N vc5_59 (s5_8 x7 x8 x9 x43 x44 x45) k = m5_59 N x7 x8 x9 x43 x44 x45 (fun x7 x8 x9 x43 x44 x45 => k .normal (s5_8 x7 x8 x9 x43 x44 x45)) (fun x4 => k .ret (s5_1 x4)) := by kernel_rfl
def m5_68 (N : Nat) (x7 x8 x9 x43 x44 x45 : D) (K : D → D → D → D → D → D → D → D → D → Option R) : Option R :=
  (bif (isPtrD x9) then K x7 x8 x9 x43 x44 x45 (x9.deref.at 1) (D.i ((x9.deref.at 1).toL.length : Int)) (D.i 0) else none)
def s5_9 (x7 x8 x9 x43 x44 x45 x65 x66 x67 : D) : St := sts 99 [(7, V.f x7), (8, V.f x8), (9, V.f x9), (43, V.f x43), (44, V.f x44), (45, V.f x45), (65, V.f x65), (66, V.f x66), (67, V.f x67)] []
theorem e5_68 (N : Nat) (k : Kn R) (x7 x8 x9 x43 x44 x45 : D) : runC PHI Tb4 N vc5_68 (s5_8 x7 x8 x9 x43 x44 x45) k = m5_68 N x7 x8 x9 x43 x44 x45 (fun x7 x8 x9 x43 x44 x45 x65 x66 x67 => k .normal (s5_9 x7 x8 x9 x43 x44 x45 x65 x66 x67)) := by
  refine Eq.trans (runC_post _ _ _ k) (Eq.trans (ops_run _ _ _ _) (by kernel_rfl))
def m5_72 (N : Nat) (x7 x8 x9 x43 x44 x45 x65 x66 x67 : D) (K : D → D → D → D → D → D → D → D → D → D → Option R) : Option R :=
  K x7 x8 x9 x43 x44 x45 x65 x66 x67 (D.b (ltb x67.toI x66.toI))
def s5_10 (x7 x8 x9 x43 x44 x45 x65 x66 x67 x68 : D) : St := sts 99 [(7, V.f x7), (8, V.f x8), (9, V.f x9), (43, V.f x43), (44, V.f x44), (45, V.f x45), (65, V.f x65), (66, V.f x66), (67, V.f x67), (68, V.f x68)] []
theorem e5_72 (N : Nat) (k : Kn R) (x7 x8 x9 x43 x44 x45 x65 x66 x67 : D) : runC PHI Tb4 N vc5_72 (s5_9 x7 x8 x9 x43 x44 x45 x65 x66 x67) k = m5_72 N x7 x8 x9 x43 x44 x45 x65 x66 x67 (fun x7 x8 x9 x43 x44 x45 x65 x66 x67 x68 => k .normal (s5_10 x7 x8 x9 x43 x44 x45 x65 x66 x67 x68)) := by
  refine Eq.trans (runC_post _ _ _ k) (Eq.trans (ops_run _ _ _ _) (by kernel_rfl))
def m5_74 (N : Nat) (x7 x8 x9 x43 x44 x45 x65 x66 x67 x68 : D) (K : D → D → D → D → D → D → D → D → D → Option R) (K4 : D → D → D → D → D → D → Option R) : Option R :=
  (bif x68.toB then K x7 x8 x9 x43 x44 x45 x65 x66 x67 else K4 x7 x8 x9 x43 x44 x45)
theorem e5_74 (N : Nat) (k : Kn R) (x7 x8 x9 x43 x44 x45 x65 x66 x67 x68 : D) : runC PHI Tb4 N vc5_74 (s5_10 x7 x8 x9 x43 x44 x45 x65 x66 x67 x68) k = m5_74 N x7 x8 x9 x43 x44 x45 x65 x66 x67 x68 (fun x7 x8 x9 x43 x44 x45 x65 x66 x67 => k .normal (s5_9 x7 x8 x9 x43 x44 x45 x65 x66 x67)) (fun x7 x8 x9 x43 x44 x45 => k (.exit 4) (s5_8 x7 x8 x9 x43 x44 x45)) := by kernel_rfl
def m5_80 (N : Nat) (x7 x8 x9 x43 x44 x45 x65 x66 x67 : D) (K : D → D → D → D → D → D → D → D → D → D → D → Option R) : Option R :=
  (bif (inb x67.toI x65.toL.length) then K x7 x8 x9 x67 (x65.at (x67.toI : Int).toNat) x43 x44 x45 x65 x66 x67 else none)
def s5_11 (x7 x8 x9 x10 x11 x43 x44 x45 x65 x66 x67 : D) : St := sts 99 [(7, V.f x7), (8, V.f x8), (9, V.f x9), (10, V.f x10), (11, V.f x11), (43, V.f x43), (44, V.f x44), (45, V.f x45), (65, V.f x65), (66, V.f x66), (67, V.f x67)] []
theorem e5_80 (N : Nat) (k : Kn R) (x7 x8 x9 x43 x44 x45 x65 x66 x67 : D) : runC PHI Tb4 N vc5_80 (s5_9 x7 x8 x9 x43 x44 x45 x65 x66 x67) k = m5_80 N x7 x8 x9 x43 x44 x45 x65 x66 x67 (fun x7 x8 x9 x10 x11 x43 x44 x45 x65 x66 x67 => k .normal (s5_11 x7 x8 x9 x10 x11 x43 x44 x45 x65 x66 x67)) := by
  refine Eq.trans (runC_post _ _ _ k) (Eq.trans (ops_run _ _ _ _) (by kernel_rfl))
def m5_82 (N : Nat) (x7 x8 x9 x10 x11 x43 x44 x45 x65 x66 x67 : D) (K : D → D → D → D → D → D → D → D → D → D → D → D → D → Option R) : Option R :=
  (bif (isPtrD x9) then (bif (leb 0 0 && leb 0 x10.toI && leb x10.toI ((x9.deref.at 1).toL.length : Int)) then K x7 x8 x9 x11 x43 x44 x45 x65 x66 x67 (cutD (x9.deref.at 1) (x10.toI : Int).toNat (0 : Int).toNat) (D.i ((cutD (x9.deref.at 1) (x10.toI : Int).toNat (0 : Int).toNat).toL.length : Int)) (D.i 0) else none) else none)
def s5_12 (x7 x8 x9 x11 x43 x44 x45 x65 x66 x67 x75 x76 x77 : D) : St := sts 99 [(7, V.f x7), (8, V.f x8), (9, V.f x9), (11, V.f x11), (43, V.f x43), (44, V.f x44), (45, V.f x45), (65, V.f x65), (66, V.f x66), (67, V.f x67), (75, V.f x75), (76, V.f x76), (77, V.f x77)] []
theorem e5_82 (N : Nat) (k : Kn R) (x7 x8 x9 x10 x11 x43 x44 x45 x65 x66 x67 : D) : runC PHI Tb4 N vc5_82 (s5_11 x7 x8 x9 x10 x11 x43 x44 x45 x65 x66 x67) k = m5_82 N x7 x8 x9 x10 x11 x43 x44 x45 x65 x66 x67 (fun x7 x8 x9 x11 x43 x44 x45 x65 x66 x67 x75 x76 x77 => k .normal (s5_12 x7 x8 x9 x11 x43 x44 x45 x65 x66 x67 x75 x76 x77)) := by
  refine Eq.trans (runC_post _ _ _ k) (Eq.trans (ops_run _ _ _ _) (by kernel_rfl))
def m5_85 (N : Nat) (x7 x8 x9 x11 x43 x44 x45 x65 x66 x67 x75 x76 x77 : D) (K : D → D → D → D → D → D → D → D → D → D → D → D → D → Option R) (K6 : D → D → D → D → D → D → D → D → D → Option R) (Kr : D → Option R) : Option R :=
  (bif (ltb x77.toI x76.toI) then (bif (inb x77.toI x75.toL.length) then (bif (eqb (x75.at (x77.toI : Int).toNat).toI x11.toI) then Kr (D.b false) else K x7 x8 x9 x11 x43 x44 x45 x65 x66 x67 x75 x76 (D.i (IntKind.wrap IntKind.i64 (x77.toI + 1)))) else none) else K6 x7 x8 x9 x43 x44 x45 x65 x66 x67)
theorem e5_85 (N : Nat) (k : Kn R) (x7 x8 x9 x11 x43 x44 x45 x65 x66 x67 x75 x76 x77 : D) : runC PHI Tb4 N vc5_85 (s5_12 x7 x8 x9 x11 x43 x44 x45 x65 x66 x67 x75 x76 x77) k = m5_85 N x7 x8 x9 x11 x43 x44 x45 x65 x66 x67 x75 x76 x77 (fun x7 x8 x9 x11 x43 x44 x45 x65 x66 x67 x75 x76 x77 => k .normal (s5_12 x7 x8 x9 x11 x43 x44 x45 x65 x66 x67 x75 x76 x77)) (fun x7 x8 x9 x43 x44 x45 x65 x66 x67 => k (.exit 6) (s5_9 x7 x8 x9 x43 x44 x45 x65 x66 x67)) (fun x4 => k .ret (s5_1 x4)) := by kernel_rfl
def l5_84 (N : Nat) (j : Nat) (x7 x8 x9 x11 x43 x44 x45 x65 x66 x67 x75 x76 x77 : D) (K6 : D → D → D → D → D → D → D → D → D → Option R) (Kr : D → Option R) : Option R :=
  match j with
  | 0 => none
  | j + 1 => (m5_85 N x7 x8 x9 x11 x43 x44 x45 x65 x66 x67 x75 x76 x77 (fun y7 y8 y9 y11 y43 y44 y45 y65 y66 y67 y75 y76 y77 => l5_84 N j y7 y8 y9 y11 y43 y44 y45 y65 y66 y67 y75 y76 y77 K6 Kr) K6 Kr)
def m5_84 (N : Nat) (x7 x8 x9 x11 x43 x44 x45 x65 x66 x67 x75 x76 x77 : D) (K6 : D → D → D → D → D → D → D → D → D → Option R) (Kr : D → Option R) : Option R :=
  l5_84 N N x7 x8 x9 x11 x43 x44 x45 x65 x66 x67 x75 x76 x77 K6 Kr
theorem el5_84 (N : Nat) (k : Kn R) : ∀ (j : Nat) (x7 x8 x9 x11 x43 x44 x45 x65 x66 x67 x75 x76 x77 : D), loopGo (runC PHI Tb4 N vc5_85) j (s5_12 x7 x8 x9 x11 x43 x44 x45 x65 x66 x67 x75 x76 x77) k = l5_84 N j x7 x8 x9 x11 x43 x44 x45 x65 x66 x67 x75 x76 x77 (fun x7 x8 x9 x43 x44 x45 x65 x66 x67 => k (.exit 6) (s5_9 x7 x8 x9 x43 x44 x45 x65 x66 x67)) (fun x4 => k .ret (s5_1 x4))
  | 0, _, _, _, _, _, _, _, _, _, _, _, _, _ => by kernel_rfl
  | j + 1, x7, x8, x9, x11, x43, x44, x45, x65, x66, x67, x75, x76, x77 => by
    have h2 := e5_85 N (kloop PHI Tb4 N vc5_85 j k) x7 x8 x9 x11 x43 x44 x45 x65 x66 x67 x75 x76 x77
    have h3 : (fun (y7 y8 y9 y11 y43 y44 y45 y65 y66 y67 y75 y76 y77 : D) => (kloop PHI Tb4 N vc5_85 j k) .normal (s5_12 y7 y8 y9 y11 y43 y44 y45 y65 y66 y67 y75 y76 y77)) = (fun (y7 y8 y9 y11 y43 y44 y45 y65 y66 y67 y75 y76 y77 : D) => l5_84 N j y7 y8 y9 y11 y43 y44 y45 y65 y66 y67 y75 y76 y77 (fun x7 x8 x9 x43 x44 x45 x65 x66 x67 => k (.exit 6) (s5_9 x7 x8 x9 x43 x44 x45 x65 x66 x67)) (fun x4 => k .ret (s5_1 x4))) := funext fun y7 => funext fun y8 => funext fun y9 => funext fun y11 => funext fun y43 => funext fun y44 => funext fun y45 => funext fun y65 => funext fun y66 => funext fun y67 => funext fun y75 => funext fun y76 => funext fun y77 => (el5_84 N k j y7 y8 y9 y11 y43 y44 y45 y65 y66 y67 y75 y76 y77)
    refine Eq.trans (loop_succ _ j _ k) (Eq.trans h2 (Eq.trans (congrArg (fun K => m5_85 N x7 x8 x9 x11 x43 x44 x45 x65 x66 x67 x75 x76 x77 K (fun x7 x8 x9 x43 x44 x45 x65 x66 x67 => (kloop PHI Tb4 N vc5_85 j k) (.exit 6) (s5_9 x7 x8 x9 x43 x44 x45 x65 x66 x67)) (fun x4 => (kloop PHI Tb4 N vc5_85 j k) .ret (s5_1 x4))) h3) (by kernel_rfl)))
theorem e5_84 (N : Nat) (k : Kn R) (x7 x8 x9 x11 x43 x44 x45 x65 x66 x67 x75 x76 x77 : D) : runC PHI Tb4 N vc5_84 (s5_12 x7 x8 x9 x11 x43 x44 x45 x65 x66 x67 x75 x76 x77) k = m5_84 N x7 x8 x9 x11 x43 x44 x45 x65 x66 x67 x75 x76 x77 (fun x7 x8 x9 x43 x44 x45 x65 x66 x67 => k (.exit 6) (s5_9 x7 x8 x9 x43 x44 x45 x65 x66 x67)) (fun x4 => k .ret (s5_1 x4)) := by
  refine Eq.trans (runC_loop _ _ k) (Eq.trans (el5_84 N k N x7 x8 x9 x11 x43 x44 x45 x65 x66 x67 x75 x76 x77) (by kernel_rfl))
def m5_83 (N : Nat) (x7 x8 x9 x11 x43 x44 x45 x65 x66 x67 x75 x76 x77 : D) (K : D → D → D → D → D → D → D → D → D → Option R) (Kr : D → Option R) : Option R :=
  (m5_84 N x7 x8 x9 x11 x43 x44 x45 x65 x66 x67 x75 x76 x77 (fun y7 y8 y9 y43 y44 y45 y65 y66 y67 => K y7 y8 y9 y43 y44 y45 y65 y66 y67) Kr)
theorem e5_83 (N : Nat) (k : Kn R) (x7 x8 x9 x11 x43 x44 x45 x65 x66 x67 x75 x76 x77 : D) : runC PHI Tb4 N vc5_83 (s5_12 x7 x8 x9 x11 x43 x44 x45 x65 x66 x67 x75 x76 x77) k = m5_83 N x7 x8 x9 x11 x43 x44 x45 x65 x66 x67 x75 x76 x77 (fun x7 x8 x9 x43 x44 x45 x65 x66 x67 => k .normal (s5_9 x7 x8 x9 x43 x44 x45 x65 x66 x67)) (fun x4 => k .ret (s5_1 x4)) := by
  refine Eq.trans (runC_block _ _ _ k) (Eq.trans (e5_84 N (kblk 6 k) x7 x8 x9 x11 x43 x44 x45 x65 x66 x67 x75 x76 x77) (by kernel_rfl))
def m5_81 (N : Nat) (x7 x8 x9 x10 x11 x43 x44 x45 x65 x66 x67 : D) (K : D → D → D → D → D → D → D → D → D → Option R) (Kr : D → Option R) : Option R :=
  (m5_82 N x7 x8 x9 x10 x11 x43 x44 x45 x65 x66 x67 (fun y7 y8 y9 y11 y43 y44 y45 y65 y66 y67 y75 y76 y77 => (m5_83 N y7 y8 y9 y11 y43 y44 y45 y65 y66 y67 y75 y76 y77 (fun y7 y8 y9 y43 y44 y45 y65 y66 y67 => K y7 y8 y9 y43 y44 y45 y65 y66 y67) Kr)))
theorem e5_81 (N : Nat) (k : Kn R) (x7 x8 x9 x10 x11 x43 x44 x45 x65 x66 x67 : D) : runC PHI Tb4 N vc5_81 (s5_11 x7 x8 x9 x10 x11 x43 x44 x45 x65 x66 x67) k = m5_81 N x7 x8 x9 x10 x11 x43 x44 x45 x65 x66 x67 (fun x7 x8 x9 x43 x44 x45 x65 x66 x67 => k .normal (s5_9 x7 x8 x9 x43 x44 x45 x65 x66 x67)) (fun x4 => k .ret (s5_1 x4)) := by
  have h2 := e5_82 N (kseq PHI Tb4 N vc5_83 k) x7 x8 x9 x10 x11 x43 x44 x45 x65 x66 x67
  have h3 := (funext fun y7 => funext fun y8 => funext fun y9 => funext fun y11 => funext fun y43 => funext fun y44 => funext fun y45 => funext fun y65 => funext fun y66 => funext fun y67 => funext fun y75 => funext fun y76 => funext fun y77 => (e5_83 N k y7 y8 y9 y11 y43 y44 y45 y65 y66 y67 y75 y76 y77) : (fun (y7 y8 y9 y11 y43 y44 y45 y65 y66 y67 y75 y76 y77 : D) => (kseq PHI Tb4 N vc5_83 k) .normal (s5_12 y7 y8 y9 y11 y43 y44 y45 y65 y66 y67 y75 y76 y77)) = _)
  refine Eq.trans (runC_seq _ _ _ k) (Eq.trans h2 (Eq.trans (congrArg (fun K => m5_82 N x7 x8 x9 x10 x11 x43 x44 x45 x65 x66 x67 K) h3) (by kernel_rfl)))
def m5_79 (N : Nat) (x7 x8 x9 x43 x44 x45 x65 x66 x67 : D) (K : D → D → D → D → D → D → D → D → D → Option R) (Kr : D → Option R) : Option R :=
  (m5_80 N x7 x8 x9 x43 x44 x45 x65 x66 x67 (fun y7 y8 y9 y10 y11 y43 y44 y45 y65 y66 y67 => (m5_81 N y7 y8 y9 y10 y11 y43 y44 y45 y65 y66 y67 (fun y7 y8 y9 y43 y44 y45 y65 y66 y67 => K y7 y8 y9 y43 y44 y45 y65 y66 y67) Kr)))
theorem e5_79 (N : Nat) (k : Kn R) (x7 x8 x9 x43 x44 x45 x65 x66 x67 : D) : runC PHI Tb4 N vc5_79 (s5_9 x7 x8 x9 x43 x44 x45 x65 x66 x67) k = m5_79 N x7 x8 x9 x43 x44 x45 x65 x66 x67 (fun x7 x8 x9 x43 x44 x45 x65 x66 x67 => k .normal (s5_9 x7 x8 x9 x43 x44 x45 x65 x66 x67)) (fun x4 => k .ret (s5_1 x4)) := by
  have h2 := e5_80 N (kseq PHI Tb4 N vc5_81 k) x7 x8 x9 x43 x44 x45 x65 x66 x67
  have h3 := (funext fun y7 => funext fun y8 => funext fun y9 => funext fun y10 => funext fun y11 => funext fun y43 => funext fun y44 => funext fun y45 => funext fun y65 => funext fun y66 => funext fun y67 => (e5_81 N k y7 y8 y9 y10 y11 y43 y44 y45 y65 y66 y67) : (fun (y7 y8 y9 y10 y11 y43 y44 y45 y65 y66 y67 : D) => (kseq PHI Tb4 N vc5_81 k) .normal (s5_11 y7 y8 y9 y10 y11 y43 y44 y45 y65 y66 y67)) = _)
  refine Eq.trans (runC_seq _ _ _ k) (Eq.trans h2 (Eq.trans (congrArg (fun K => m5_80 N x7 x8 x9 x43 x44 x45 x65 x66 x67 K) h3) (by kernel_rfl)))
def m5_78 (N : Nat) (x7 x8 x9 x43 x44 x45 x65 x66 x67 : D) (K : D → D → D → D → D → D → D → D → D → Option R) (Kr : D → Option R) : Option R :=
  (m5_79 N x7 x8 x9 x43 x44 x45 x65 x66 x67 (fun y7 y8 y9 y43 y44 y45 y65 y66 y67 => K y7 y8 y9 y43 y44 y45 y65 y66 y67) Kr)
theorem e5_78 (N : Nat) (k : Kn R) (x7 x8 x9 x43 x44 x45 x65 x66 x67 : D) : runC PHI Tb4 N vc5_78 (s5_9 x7 x8 x9 x43 x44 x45 x65 x66 x67) k = m5_78 N x7 x8 x9 x43 x44 x45 x65 x66 x67 (fun x7 x8 x9 x43 x44 x45 x65 x66 x67 => k .normal (s5_9 x7 x8 x9 x43 x44 x45 x65 x66 x67)) (fun x4 => k .ret (s5_1 x4)) := by
  refine Eq.trans (runC_block _ _ _ k) (Eq.trans (e5_79 N (kblk 5 k) x7 x8 x9 x43 x44 x45 x65 x66 x67) (by kernel_rfl))
def m5_103 (N : Nat) (x7 x8 x9 x43 x44 x45 x65 x66 x67 : D) (K : D → D → D → D → D → D → D → D → D → Option R) : Option R :=
  K x7 x8 x9 x43 x44 x45 x65 x66 (D.i (IntKind.wrap IntKind.i64 (x67.toI + 1)))
theorem e5_103 (N : Nat) (k : Kn R) (x7 x8 x9 x43 x44 x45 x65 x66 x67 : D) : runC PHI Tb4 N vc5_103 (s5_9 x7 x8 x9 x43 x44 x45 x65 x66 x67) k = m5_103 N x7 x8 x9 x43 x44 x45 x65 x66 x67 (fun x7 x8 x9 x43 x44 x45 x65 x66 x67 => k .normal (s5_9 x7 x8 x9 x43 x44 x45 x65 x66 x67)) := by
  refine Eq.trans (runC_post _ _ _ k) (Eq.trans (ops_run _ _ _ _) (by kernel_rfl))
def m5_77 (N : Nat) (x7 x8 x9 x43 x44 x45 x65 x66 x67 : D) (K : D → D → D → D → D → D → D → D → D → Option R) (Kr : D → Option R) : Option R :=
  (m5_78 N x7 x8 x9 x43 x44 x45 x65 x66 x67 (fun y7 y8 y9 y43 y44 y45 y65 y66 y67 => (m5_103 N y7 y8 y9 y43 y44 y45 y65 y66 y67 (fun y7 y8 y9 y43 y44 y45 y65 y66 y67 => K y7 y8 y9 y43 y44 y45 y65 y66 y67))) Kr)
theorem e5_77 (N : Nat) (k : Kn R) (x7 x8 x9 x43 x44 x45 x65 x66 x67 : D) : runC PHI Tb4 N vc5_77 (s5_9 x7 x8 x9 x43 x44 x45 x65 x66 x67) k = m5_77 N x7 x8 x9 x43 x44 x45 x65 x66 x67 (fun x7 x8 x9 x43 x44 x45 x65 x66 x67 => k .normal (s5_9 x7 x8 x9 x43 x44 x45 x65 x66 x67)) (fun x4 => k .ret (s5_1 x4)) := by
  have h2 := e5_78 N (kseq PHI Tb4 N vc5_103 k) x7 x8 x9 x43 x44 x45 x65 x66 x67
  have h3 := (funext fun y7 => funext fun y8 => funext fun y9 => funext fun y43 => funext fun y44 => funext fun y45 => funext fun y65 => funext fun y66 => funext fun y67 => (e5_103 N k y7 y8 y9 y43 y44 y45 y65 y66 y67) : (fun (y7 y8 y9 y43 y44 y45 y65 y66 y67 : D) => (kseq PHI Tb4 N vc5_103 k) .normal (s5_9 y7 y8 y9 y43 y44 y45 y65 y66 y67)) = _)
  refine Eq.trans (runC_seq _ _ _ k) (Eq.trans h2 (Eq.trans (congrArg (fun K => m5_78 N x7 x8 x9 x43 x44 x45 x65 x66 x67 K (fun x4 => (kseq PHI Tb4 N vc5_103 k) .ret (s5_1 x4))) h3) (by kernel_rfl)))
def m5_73 (N : Nat) (x7 x8 x9 x43 x44 x45 x65 x66 x67 x68 : D) (K : D → D → D → D → D → D → D → D → D → Option R) (K4 : D → D → D → D → D → D → Option R) (Kr : D → Option R) : Option R :=
  (m5_74 N x7 x8 x9 x43 x44 x45 x65 x66 x67 x68 (fun y7 y8 y9 y43 y44 y45 y65 y66 y67 => (m5_77 N y7 y8 y9 y43 y44 y45 y65 y66 y67 (fun y7 y8 y9 y43 y44 y45 y65 y66 y67 => K y7 y8 y9 y43 y44 y45 y65 y66 y67) Kr)) K4)
theorem e5_73 (N : Nat) (k : Kn R) (x7 x8 x9 x43 x44 x45 x65 x66 x67 x68 : D) : runC PHI Tb4 N vc5_73 (s5_10 x7 x8 x9 x43 x44 x45 x65 x66 x67 x68) k = m5_73 N x7 x8 x9 x43 x44 x45 x65 x66 x67 x68 (fun x7 x8 x9 x43 x44 x45 x65 x66 x67 => k .normal (s5_9 x7 x8 x9 x43 x44 x45 x65 x66 x67)) (fun x7 x8 x9 x43 x44 x45 => k (.exit 4) (s5_8 x7 x8 x9 x43 x44 x45)) (fun x4 => k .ret (s5_1 x4)) := by
  have h2 := e5_74 N (kseq PHI Tb4 N vc5_77 k) x7 x8 x9 x43 x44 x45 x65 x66 x67 x68
  have h3 := (funext fun y7 => funext fun y8 => funext fun y9 => funext fun y43 => funext fun y44 => funext fun y45 => funext fun y65 => funext fun y66 => funext fun y67 => (e5_77 N k y7 y8 y9 y43 y44 y45 y65 y66 y67) : (fun (y7 y8 y9 y43 y44 y45 y65 y66 y67 : D) => (kseq PHI Tb4 N vc5_77 k) .normal (s5_9 y7 y8 y9 y43 y44 y45 y65 y66 y67)) = _)
  refine Eq.trans (runC_seq _ _ _ k) (Eq.trans h2 (Eq.trans (congrArg (fun K => m5_74 N x7 x8 x9 x43 x44 x45 x65 x66 x67 x68 K (fun x7 x8 x9 x43 x44 x45 => (kseq PHI Tb4 N vc5_77 k) (.exit 4) (s5_8 x7 x8 x9 x43 x44 x45))) h3) (by kernel_rfl)))
def m5_71 (N : Nat) (x7 x8 x9 x43 x44 x45 x65 x66 x67 : D) (K : D → D → D → D → D → D → D → D → D → Option R) (K4 : D → D → D → D → D → D → Option R) (Kr : D → Option R) : Option R :=
  (m5_72 N x7 x8 x9 x43 x44 x45 x65 x66 x67 (fun y7 y8 y9 y43 y44 y45 y65 y66 y67 y68 => (m5_73 N y7 y8 y9 y43 y44 y45 y65 y66 y67 y68 (fun y7 y8 y9 y43 y44 y45 y65 y66 y67 => K y7 y8 y9 y43 y44 y45 y65 y66 y67) K4 Kr)))
theorem e5_71 (N : Nat) (k : Kn R) (x7 x8 x9 x43 x44 x45 x65 x66 x67 : D) : runC PHI Tb4 N vc5_71 (s5_9 x7 x8 x9 x43 x44 x45 x65 x66 x67) k = m5_71 N x7 x8 x9 x43 x44 x45 x65 x66 x67 (fun x7 x8 x9 x43 x44 x45 x65 x66 x67 => k .normal (s5_9 x7 x8 x9 x43 x44 x45 x65 x66 x67)) (fun x7 x8 x9 x43 x44 x45 => k (.exit 4) (s5_8 x7 x8 x9 x43 x44 x45)) (fun x4 => k .ret (s5_1 x4)) := by
  have h2 := e5_72 N (kseq PHI Tb4 N vc5_73 k) x7 x8 x9 x43 x44 x45 x65 x66 x67
  have h3 := (funext fun y7 => funext fun y8 => funext fun y9 => funext fun y43 => funext fun y44 => funext fun y45 => funext fun y65 => funext fun y66 => funext fun y67 => funext fun y68 => (e5_73 N k y7 y8 y9 y43 y44 y45 y65 y66 y67 y68) : (fun (y7 y8 y9 y43 y44 y45 y65 y66 y67 y68 : D) => (kseq PHI Tb4 N vc5_73 k) .normal (s5_10 y7 y8 y9 y43 y44 y45 y65 y66 y67 y68)) = _)
  refine Eq.trans (runC_seq _ _ _ k) (Eq.trans h2 (Eq.trans (congrArg (fun K => m5_72 N x7 x8 x9 x43 x44 x45 x65 x66 x67 K) h3) (by kernel_rfl)))
def l5_70 (N : Nat) (j : Nat) (x7 x8 x9 x43 x44 x45 x65 x66 x67 : D) (K4 : D → D → D → D → D → D → Option R) (Kr : D → Option R) : Option R :=
  match j with
  | 0 => none
  | j + 1 => (m5_71 N x7 x8 x9 x43 x44 x45 x65 x66 x67 (fun y7 y8 y9 y43 y44 y45 y65 y66 y67 => l5_70 N j y7 y8 y9 y43 y44 y45 y65 y66 y67 K4 Kr) K4 Kr)
def m5_70 (N : Nat) (x7 x8 x9 x43 x44 x45 x65 x66 x67 : D) (K4 : D → D → D → D → D → D → Option R) (Kr : D → Option R) : Option R :=
  l5_70 N N x7 x8 x9 x43 x44 x45 x65 x66 x67 K4 Kr
theorem el5_70 (N : Nat) (k : Kn R) : ∀ (j : Nat) (x7 x8 x9 x43 x44 x45 x65 x66 x67 : D), loopGo (runC PHI Tb4 N vc5_71) j (s5_9 x7 x8 x9 x43 x44 x45 x65 x66 x67) k = l5_70 N j x7 x8 x9 x43 x44 x45 x65 x66 x67 (fun x7 x8 x9 x43 x44 x45 => k (.exit 4) (s5_8 x7 x8 x9 x43 x44 x45)) (fun x4 => k .ret (s5_1 x4))
  | 0, _, _, _, _, _, _, _, _, _ => by kernel_rfl
  | j + 1, x7, x8, x9, x43, x44, x45, x65, x66, x67 => by
    have h2 := e5_71 N (kloop PHI Tb4 N vc5_71 j k) x7 x8 x9 x43 x44 x45 x65 x66 x67
    have h3 : (fun (y7 y8 y9 y43 y44 y45 y65 y66 y67 : D) => (kloop PHI Tb4 N vc5_71 j k) .normal (s5_9 y7 y8 y9 y43 y44 y45 y65 y66 y67)) = (fun (y7 y8 y9 y43 y44 y45 y65 y66 y67 : D) => l5_70 N j y7 y8 y9 y43 y44 y45 y65 y66 y67 (fun x7 x8 x9 x43 x44 x45 => k (.exit 4) (s5_8 x7 x8 x9 x43 x44 x45)) (fun x4 => k .ret (s5_1 x4))) := funext fun y7 => funext fun y8 => funext fun y9 => funext fun y43 => funext fun y44 => funext fun y45 => funext fun y65 => funext fun y66 => funext fun y67 => (el5_70 N k j y7 y8 y9 y43 y44 y45 y65 y66 y67)
    refine Eq.trans (loop_succ _ j _ k) (Eq.trans h2 (Eq.trans (congrArg (fun K => m5_71 N x7 x8 x9 x43 x44 x45 x65 x66 x67 K (fun x7 x8 x9 x43 x44 x45 => (kloop PHI Tb4 N vc5_71 j k) (.exit 4) (s5_8 x7 x8 x9 x43 x44 x45)) (fun x4 => (kloop PHI Tb4 N vc5_71 j k) .ret (s5_1 x4))) h3) (by kernel_rfl)))
theorem e5_70 (N : Nat) (k : Kn R) (x7 x8 x9 x43 x44 x45 x65 x66 x67 : D) : runC PHI Tb4 N vc5_70 (s5_9 x7 x8 x9 x43 x44 x45 x65 x66 x67) k = m5_70 N x7 x8 x9 x43 x44 x45 x65 x66 x67 (fun x7 x8 x9 x43 x44 x45 => k (.exit 4) (s5_8 x7 x8 x9 x43 x44 x45)) (fun x4 => k .ret (s5_1 x4)) := by
  refine Eq.trans (runC_loop _ _ k) (Eq.trans (el5_70 N k N x7 x8 x9 x43 x44 x45 x65 x66 x67) (by kernel_rfl))
def m5_69 (N : Nat) (x7 x8 x9 x43 x44 x45 x65 x66 x67 : D) (K : D → D → D → D → D → D → Option R) (Kr : D → Option R) : Option R :=
  (m5_70 N x7 x8 x9 x43 x44 x45 x65 x66 x67 (fun y7 y8 y9 y43 y44 y45 => K y7 y8 y9 y43 y44 y45) Kr)
theorem e5_69 (N : Nat) (k : Kn R) (x7 x8 x9 x43 x44 x45 x65 x66 x67 : D) : runC PHI Tb4 N vc5_69 (s5_9 x7 x8 x9 x43 x44 x45 x65 x66 x67) k = m5_69 N x7 x8 x9 x43 x44 x45 x65 x66 x67 (fun x7 x8 x9 x43 x44 x45 => k .normal (s5_8 x7 x8 x9 x43 x44 x45)) (fun x4 => k .ret (s5_1 x4)) := by
  refine Eq.trans (runC_block _ _ _ k) (Eq.trans (e5_70 N (kblk 4 k) x7 x8 x9 x43 x44 x45 x65 x66 x67) (by kernel_rfl))
def m5_67 (N : Nat) (x7 x8 x9 x43 x44 x45 : D) (K : D → D → D → D → D → D → Option R) (Kr : D → Option R) : Option R :=
  (m5_68 N x7 x8 x9 x43 x44 x45 (fun y7 y8 y9 y43 y44 y45 y65 y66 y67 => (m5_69 N y7 y8 y9 y43 y44 y45 y65 y66 y67 (fun y7 y8 y9 y43 y44 y45 => K y7 y8 y9 y43 y44 y45) Kr)))
theorem e5_67 (N : Nat) (k : Kn R) (x7 x8 x9 x43 x44 x45 : D) : runC PHI Tb4 N vc5_67 (s5_8 x7 x8 x9 x43 x44 x45) k = m5_67 N x7 x8 x9 x43 x44 x45 (fun x7 x8 x9 x43 x44 x45 => k .normal (s5_8 x7 x8 x9 x43 x44 x45)) (fun x4 => k .ret (s5_1 x4)) := by
  have h2 := e5_68 N (kseq PHI Tb4 N vc5_69 k) x7 x8 x9 x43 x44 x45
  have h3 := (funext fun y7 => funext fun y8 => funext fun y9 => funext fun y43 => funext fun y44 => funext fun y45 => funext fun y65 => funext fun y66 => funext fun y67 => (e5_69 N k y7 y8 y9 y43 y44 y45 y65 y66 y67) : (fun (y7 y8 y9 y43 y44 y45 y65 y66 y67 : D) => (kseq PHI Tb4 N vc5_69 k) .normal (s5_9 y7 y8 y9 y43 y44 y45 y65 y66 y67)) = _)
  refine Eq.trans (runC_seq _ _ _ k) (Eq.trans h2 (Eq.trans (congrArg (fun K => m5_68 N x7 x8 x9 x43 x44 x45 K) h3) (by kernel_rfl)))
def m5_105 (N : Nat) (x7 x8 x9 x43 x44 x45 : D) (K : D → D → D → D → D → D → D → D → Option R) : Option R :=
  (bif (leb 0 0 && leb 0 x8.toI && leb x8.toI (x7.toL.length : Int)) then K x7 x9 x43 x44 x45 (cutD x7 (x8.toI : Int).toNat (0 : Int).toNat) (D.i ((cutD x7 (x8.toI : Int).toNat (0 : Int).toNat).toL.length : Int)) (D.i 0) else none)
def s5_13 (x7 x9 x43 x44 x45 x88 x89 x90 : D) : St := sts 99 [(7, V.f x7), (9, V.f x9), (43, V.f x43), (44, V.f x44), (45, V.f x45), (88, V.f x88), (89, V.f x89), (90, V.f x90)] []
theorem e5_105 (N : Nat) (k : Kn R) (x7 x8 x9 x43 x44 x45 : D) : runC PHI Tb4 N vc5_105 (s5_8 x7 x8 x9 x43 x44 x45) k = m5_105 N x7 x8 x9 x43 x44 x45 (fun x7 x9 x43 x44 x45 x88 x89 x90 => k .normal (s5_13 x7 x9 x43 x44 x45 x88 x89 x90)) := by
  refine Eq.trans (runC_post _ _ _ k) (Eq.trans (ops_run _ _ _ _) (by kernel_rfl))
def m5_108 (N : Nat) (x7 x9 x43 x44 x45 x88 x89 x90 : D) (K : D → D → D → D → D → D → D → D → Option R) (K8 : D → D → D → D → Option R) (Kr : D → Option R) : Option R :=
  (bif (ltb x90.toI x89.toI) then (bif (inb x90.toI x88.toL.length) then (bif (isPtrD x9) then (bif (sp14 (x88.at (x90.toI : Int).toNat) x9.deref) then Kr (D.b false) else K x7 x9 x43 x44 x45 x88 x89 (D.i (IntKind.wrap IntKind.i64 (x90.toI + 1)))) else none) else none) else K8 x7 x43 x44 x45)
theorem e5_108 (N : Nat) (k : Kn R) (x7 x9 x43 x44 x45 x88 x89 x90 : D) : runC PHI Tb4 N vc5_108 (s5_13 x7 x9 x43 x44 x45 x88 x89 x90) k = m5_108 N x7 x9 x43 x44 x45 x88 x89 x90 (fun x7 x9 x43 x44 x45 x88 x89 x90 => k .normal (s5_13 x7 x9 x43 x44 x45 x88 x89 x90)) (fun x7 x43 x44 x45 => k (.exit 8) (s5_5 x7 x43 x44 x45)) (fun x4 => k .ret (s5_1 x4)) := by kernel_rfl
def l5_107 (N : Nat) (j : Nat) (x7 x9 x43 x44 x45 x88 x89 x90 : D) (K8 : D → D → D → D → Option R) (Kr : D → Option R) : Option R :=
  match j with
  | 0 => none
  | j + 1 => (m5_108 N x7 x9 x43 x44 x45 x88 x89 x90 (fun y7 y9 y43 y44 y45 y88 y89 y90 => l5_107 N j y7 y9 y43 y44 y45 y88 y89 y90 K8 Kr) K8 Kr)
def m5_107 (N : Nat) (x7 x9 x43 x44 x45 x88 x89 x90 : D) (K8 : D → D → D → D → Option R) (Kr : D → Option R) : Option R :=
  l5_107 N N x7 x9 x43 x44 x45 x88 x89 x90 K8 Kr
theorem el5_107 (N : Nat) (k : Kn R) : ∀ (j : Nat) (x7 x9 x43 x44 x45 x88 x89 x90 : D), loopGo (runC PHI Tb4 N vc5_108) j (s5_13 x7 x9 x43 x44 x45 x88 x89 x90) k = l5_107 N j x7 x9 x43 x44 x45 x88 x89 x90 (fun x7 x43 x44 x45 => k (.exit 8) (s5_5 x7 x43 x44 x45)) (fun x4 => k .ret (s5_1 x4))
  | 0, _, _, _, _, _, _, _, _ => by kernel_rfl
  | j + 1, x7, x9, x43, x44, x45, x88, x89, x90 => by
    have h2 := e5_108 N (kloop PHI Tb4 N vc5_108 j k) x7 x9 x43 x44 x45 x88 x89 x90
    have h3 : (fun (y7 y9 y43 y44 y45 y88 y89 y90 : D) => (kloop PHI Tb4 N vc5_108 j k) .normal (s5_13 y7 y9 y43 y44 y45 y88 y89 y90)) = (fun (y7 y9 y43 y44 y45 y88 y89 y90 : D) => l5_107 N j y7 y9 y43 y44 y45 y88 y89 y90 (fun x7 x43 x44 x45 => k (.exit 8) (s5_5 x7 x43 x44 x45)) (fun x4 => k .ret (s5_1 x4))) := funext fun y7 => funext fun y9 => funext fun y43 => funext fun y44 => funext fun y45 => funext fun y88 => funext fun y89 => funext fun y90 => (el5_107 N k j y7 y9 y43 y44 y45 y88 y89 y90)
    refine Eq.trans (loop_succ _ j _ k) (Eq.trans h2 (Eq.trans (congrArg (fun K => m5_108 N x7 x9 x43 x44 x45 x88 x89 x90 K (fun x7 x43 x44 x45 => (kloop PHI Tb4 N vc5_108 j k) (.exit 8) (s5_5 x7 x43 x44 x45)) (fun x4 => (kloop PHI Tb4 N vc5_108 j k) .ret (s5_1 x4))) h3) (by kernel_rfl)))
theorem e5_107 (N : Nat) (k : Kn R) (x7 x9 x43 x44 x45 x88 x89 x90 : D) : runC PHI Tb4 N vc5_107 (s5_13 x7 x9 x43 x44 x45 x88 x89 x90) k = m5_107 N x7 x9 x43 x44 x45 x88 x89 x90 (fun x7 x43 x44 x45 => k (.exit 8) (s5_5 x7 x43 x44 x45)) (fun x4 => k .ret (s5_1 x4)) := by
  refine Eq.trans (runC_loop _ _ k) (Eq.trans (el5_107 N k N x7 x9 x43 x44 x45 x88 x89 x90) (by kernel_rfl))
def m5_106 (N : Nat) (x7 x9 x43 x44 x45 x88 x89 x90 : D) (K : D → D → D → D → Option R) (Kr : D → Option R) : Option R :=
  (m5_107 N x7 x9 x43 x44 x45 x88 x89 x90 (fun y7 y43 y44 y45 => K y7 y43 y44 y45) Kr)
theorem e5_106 (N : Nat) (k : Kn R) (x7 x9 x43 x44 x45 x88 x89 x90 : D) : runC PHI Tb4 N vc5_106 (s5_13 x7 x9 x43 x44 x45 x88 x89 x90) k = m5_106 N x7 x9 x43 x44 x45 x88 x89 x90 (fun x7 x43 x44 x45 => k .normal (s5_5 x7 x43 x44 x45)) (fun x4 => k .ret (s5_1 x4)) := by
  refine Eq.trans (runC_block _ _ _ k) (Eq.trans (e5_107 N (kblk 8 k) x7 x9 x43 x44 x45 x88 x89 x90) (by kernel_rfl))
def m5_104 (N : Nat) (x7 x8 x9 x43 x44 x45 : D) (K : D → D → D → D → Option R) (Kr : D → Option R) : Option R :=
  (m5_105 N x7 x8 x9 x43 x44 x45 (fun y7 y9 y43 y44 y45 y88 y89 y90 => (m5_106 N y7 y9 y43 y44 y45 y88 y89 y90 (fun y7 y43 y44 y45 => K y7 y43 y44 y45) Kr)))
theorem e5_104 (N : Nat) (k : Kn R) (x7 x8 x9 x43 x44 x45 : D) : runC PHI Tb4 N vc5_104 (s5_8 x7 x8 x9 x43 x44 x45) k = m5_104 N x7 x8 x9 x43 x44 x45 (fun x7 x43 x44 x45 => k .normal (s5_5 x7 x43 x44 x45)) (fun x4 => k .ret (s5_1 x4)) := by
  have h2 := e5_105 N (kseq PHI Tb4 N vc5_106 k) x7 x8 x9 x43 x44 x45
  have h3 := (funext fun y7 => funext fun y9 => funext fun y43 => funext fun y44 => funext fun y45 => funext fun y88 => funext fun y89 => funext fun y90 => (e5_106 N k y7 y9 y43 y44 y45 y88 y89 y90) : (fun (y7 y9 y43 y44 y45 y88 y89 y90 : D) => (kseq PHI Tb4 N vc5_106 k) .normal (s5_13 y7 y9 y43 y44 y45 y88 y89 y90)) = _)
  refine Eq.trans (runC_seq _ _ _ k) (Eq.trans h2 (Eq.trans (congrArg (fun K => m5_105 N x7 x8 x9 x43 x44 x45 K) h3) (by kernel_rfl)))
def m5_66 (N : Nat) (x7 x8 x9 x43 x44 x45 : D) (K : D → D → D → D → Option R) (Kr : D → Option R) : Option R :=
  (m5_67 N x7 x8 x9 x43 x44 x45 (fun y7 y8 y9 y43 y44 y45 => (m5_104 N y7 y8 y9 y43 y44 y45 (fun y7 y43 y44 y45 => K y7 y43 y44 y45) Kr)) Kr)
theorem e5_66 (N : Nat) (k : Kn R) (x7 x8 x9 x43 x44 x45 : D) : runC PHI Tb4 N vc5_66 (s5_8 x7 x8 x9 x43 x44 x45) k = m5_66 N x7 x8 x9 x43 x44 x45 (fun x7 x43 x44 x45 => k .normal (s5_5 x7 x43 x44 x45)) (fun x4 => k .ret (s5_1 x4)) := by
  have h2 := e5_67 N (kseq PHI Tb4 N vc5_104 k) x7 x8 x9 x43 x44 x45
  have h3 := (funext fun y7 => funext fun y8 => funext fun y9 => funext fun y43 => funext fun y44 => funext fun y45 => (e5_104 N k y7 y8 y9 y43 y44 y45) : (fun (y7 y8 y9 y43 y44 y45 : D) => (kseq PHI Tb4 N vc5_104 k) .normal (s5_8 y7 y8 y9 y43 y44 y45)) = _)
  refine Eq.trans (runC_seq _ _ _ k) (Eq.trans h2 (Eq.trans (congrArg (fun K => m5_67 N x7 x8 x9 x43 x44 x45 K (fun x4 => (kseq PHI Tb4 N vc5_104 k) .ret (s5_1 x4))) h3) (by kernel_rfl)))
def m5_58 (N : Nat) (x7 x8 x9 x43 x44 x45 : D) (K : D → D → D → D → Option R) (Kr : D → Option R) : Option R :=
  (m5_59 N x7 x8 x9 x43 x44 x45 (fun y7 y8 y9 y43 y44 y45 => (m5_66 N y7 y8 y9 y43 y44 y45 (fun y7 y43 y44 y45 => K y7 y43 y44 y45) Kr)) Kr)
theorem e5_58 (N : Nat) (k : Kn R) (x7 x8 x9 x43 x44 x45 : D) : runC PHI Tb4 N vc5_58 (s5_8 x7 x8 x9 x43 x44 x45) k = m5_58 N x7 x8 x9 x43 x44 x45 (fun x7 x43 x44 x45 => k .normal (s5_5 x7 x43 x44 x45)) (fun x4 => k .ret (s5_1 x4)) := by
  have h2 := e5_59 N (kseq PHI Tb4 N vc5_66 k) x7 x8 x9 x43 x44 x45
  have h3 := (funext fun y7 => funext fun y8 => funext fun y9 => funext fun y43 => funext fun y44 => funext fun y45 => (e5_66 N k y7 y8 y9 y43 y44 y45) : (fun (y7 y8 y9 y43 y44 y45 : D) => (kseq PHI Tb4 N vc5_66 k) .normal (s5_8 y7 y8 y9 y43 y44 y45)) = _)
  refine Eq.trans (runC_seq _ _ _ k) (Eq.trans h2 (Eq.trans (congrArg (fun K => m5_59 N x7 x8 x9 x43 x44 x45 K (fun x4 => (kseq PHI Tb4 N vc5_66 k) .ret (s5_1 x4))) h3) (by kernel_rfl)))
def m5_56 (N : Nat) (x7 x43 x44 x45 : D) (K : D → D → D → D → Option R) (Kr : D → Option R) : Option R :=
  (m5_57 N x7 x43 x44 x45 (fun y7 y8 y9 y43 y44 y45 => (m5_58 N y7 y8 y9 y43 y44 y45 (fun y7 y43 y44 y45 => K y7 y43 y44 y45) Kr)))
theorem e5_56 (N : Nat) (k : Kn R) (x7 x43 x44 x45 : D) : runC PHI Tb4 N vc5_56 (s5_5 x7 x43 x44 x45) k = m5_56 N x7 x43 x44 x45 (fun x7 x43 x44 x45 => k .normal (s5_5 x7 x43 x44 x45)) (fun x4 => k .ret (s5_1 x4)) := by
  have h2 := e5_57 N (kseq PHI Tb4 N vc5_58 k) x7 x43 x44 x45
  have h3 := (funext fun y7 => funext fun y8 => funext fun y9 => funext fun y43 => funext fun y44 => funext fun y45 => (e5_58 N k y7 y8 y9 y43 y44 y45) : (fun (y7 y8 y9 y43 y44 y45 : D) => (kseq PHI Tb4 N vc5_58 k) .normal (s5_8 y7 y8 y9 y43 y44 y45)) = _)
  refine Eq.trans (runC_seq _ _ _ k) (Eq.trans h2 (Eq.trans (congrArg (fun K => m5_57 N x7 x43 x44 x45 K) h3) (by kernel_rfl)))
def m5_55 (N : Nat) (x7 x43 x44 x45 : D) (K : D → D → D → D → Option R) (Kr : D → Option R) : Option R :=
  (m5_56 N x7 x43 x44 x45 (fun y7 y43 y44 y45 => K y7 y43 y44 y45) Kr)
theorem e5_55 (N : Nat) (k : Kn R) (x7 x43 x44 x45 : D) : runC PHI Tb4 N vc5_55 (s5_5 x7 x43 x44 x45) k = m5_55 N x7 x43 x44 x45 (fun x7 x43 x44 x45 => k .normal (s5_5 x7 x43 x44 x45)) (fun x4 => k .ret (s5_1 x4)) := by
  refine Eq.trans (runC_block _ _ _ k) (Eq.trans (e5_56 N (kblk 3 k) x7 x43 x44 x45) (by kernel_rfl))
def m5_126 (N : Nat) (x7 x43 x44 x45 : D) (K : D → D → D → D → Option R) : Option R :=
  K x7 x43 x44 (D.i (IntKind.wrap IntKind.i64 (x45.toI + 1)))
theorem e5_126 (N : Nat) (k : Kn R) (x7 x43 x44 x45 : D) : runC PHI Tb4 N vc5_126 (s5_5 x7 x43 x44 x45) k = m5_126 N x7 x43 x44 x45 (fun x7 x43 x44 x45 => k .normal (s5_5 x7 x43 x44 x45)) := by
  refine Eq.trans (runC_post _ _ _ k) (Eq.trans (ops_run _ _ _ _) (by kernel_rfl))
def m5_54 (N : Nat) (x7 x43 x44 x45 : D) (K : D → D → D → D → Option R) (Kr : D → Option R) : Option R :=
  (m5_55 N x7 x43 x44 x45 (fun y7 y43 y44 y45 => (m5_126 N y7 y43 y44 y45 (fun y7 y43 y44 y45 => K y7 y43 y44 y45))) Kr)
theorem e5_54 (N : Nat) (k : Kn R) (x7 x43 x44 x45 : D) : runC PHI Tb4 N vc5_54 (s5_5 x7 x43 x44 x45) k = m5_54 N x7 x43 x44 x45 (fun x7 x43 x44 x45 => k .normal (s5_5 x7 x43 x44 x45)) (fun x4 => k .ret (s5_1 x4)) := by
  have h2 := e5_55 N (kseq PHI Tb4 N vc5_126 k) x7 x43 x44 x45
  have h3 := (funext fun y7 => funext fun y43 => funext fun y44 => funext fun y45 => (e5_126 N k y7 y43 y44 y45) : (fun (y7 y43 y44 y45 : D) => (kseq PHI Tb4 N vc5_126 k) .normal (s5_5 y7 y43 y44 y45)) = _)
  refine Eq.trans (runC_seq _ _ _ k) (Eq.trans h2 (Eq.trans (congrArg (fun K => m5_55 N x7 x43 x44 x45 K (fun x4 => (kseq PHI Tb4 N vc5_126 k) .ret (s5_1 x4))) h3) (by kernel_rfl)))
def m5_50 (N : Nat) (x7 x43 x44 x45 x46 : D) (K : D → D → D → D → Option R) (K2 : Option R) (Kr : D → Option R) : Option R :=
  (m5_51 N x7 x43 x44 x45 x46 (fun y7 y43 y44 y45 => (m5_54 N y7 y43 y44 y45 (fun y7 y43 y44 y45 => K y7 y43 y44 y45) Kr)) K2)
theorem e5_50 (N : Nat) (k : Kn R) (x7 x43 x44 x45 x46 : D) : runC PHI Tb4 N vc5_50 (s5_6 x7 x43 x44 x45 x46) k = m5_50 N x7 x43 x44 x45 x46 (fun x7 x43 x44 x45 => k .normal (s5_5 x7 x43 x44 x45)) (k (.exit 2) s5_7) (fun x4 => k .ret (s5_1 x4)) := by
  have h2 := e5_51 N (kseq PHI Tb4 N vc5_54 k) x7 x43 x44 x45 x46
  have h3 := (funext fun y7 => funext fun y43 => funext fun y44 => funext fun y45 => (e5_54 N k y7 y43 y44 y45) : (fun (y7 y43 y44 y45 : D) => (kseq PHI Tb4 N vc5_54 k) .normal (s5_5 y7 y43 y44 y45)) = _)
  refine Eq.trans (runC_seq _ _ _ k) (Eq.trans h2 (Eq.trans (congrArg (fun K => m5_51 N x7 x43 x44 x45 x46 K ((kseq PHI Tb4 N vc5_54 k) (.exit 2) s5_7)) h3) (by kernel_rfl)))
def m5_48 (N : Nat) (x7 x43 x44 x45 : D) (K : D → D → D → D → Option R) (K2 : Option R) (Kr : D → Option R) : Option R :=
  (m5_49 N x7 x43 x44 x45 (fun y7 y43 y44 y45 y46 => (m5_50 N y7 y43 y44 y45 y46 (fun y7 y43 y44 y45 => K y7 y43 y44 y45) K2 Kr)))
theorem e5_48 (N : Nat) (k : Kn R) (x7 x43 x44 x45 : D) : runC PHI Tb4 N vc5_48 (s5_5 x7 x43 x44 x45) k = m5_48 N x7 x43 x44 x45 (fun x7 x43 x44 x45 => k .normal (s5_5 x7 x43 x44 x45)) (k (.exit 2) s5_7) (fun x4 => k .ret (s5_1 x4)) := by
  have h2 := e5_49 N (kseq PHI Tb4 N vc5_50 k) x7 x43 x44 x45
  have h3 := (funext fun y7 => funext fun y43 => funext fun y44 => funext fun y45 => funext fun y46 => (e5_50 N k y7 y43 y44 y45 y46) : (fun (y7 y43 y44 y45 y46 : D) => (kseq PHI Tb4 N vc5_50 k) .normal (s5_6 y7 y43 y44 y45 y46)) = _)
  refine Eq.trans (runC_seq _ _ _ k) (Eq.trans h2 (Eq.trans (congrArg (fun K => m5_49 N x7 x43 x44 x45 K) h3) (by kernel_rfl)))
def l5_47 (N : Nat) (j : Nat) (x7 x43 x44 x45 : D) (K2 : Option R) (Kr : D → Option R) : Option R :=
  match j with
  | 0 => none
  | j + 1 => (m5_48 N x7 x43 x44 x45 (fun y7 y43 y44 y45 => l5_47 N j y7 y43 y44 y45 K2 Kr) K2 Kr)
def m5_47 (N : Nat) (x7 x43 x44 x45 : D) (K2 : Option R) (Kr : D → Option R) : Option R :=
  l5_47 N N x7 x43 x44 x45 K2 Kr
theorem el5_47 (N : Nat) (k : Kn R) : ∀ (j : Nat) (x7 x43 x44 x45 : D), loopGo (runC PHI Tb4 N vc5_48) j (s5_5 x7 x43 x44 x45) k = l5_47 N j x7 x43 x44 x45 (k (.exit 2) s5_7) (fun x4 => k .ret (s5_1 x4))
  | 0, _, _, _, _ => by kernel_rfl
  | j + 1, x7, x43, x44, x45 => by
    have h2 := e5_48 N (kloop PHI Tb4 N vc5_48 j k) x7 x43 x44 x45
    have h3 : (fun (y7 y43 y44 y45 : D) => (kloop PHI Tb4 N vc5_48 j k) .normal (s5_5 y7 y43 y44 y45)) = (fun (y7 y43 y44 y45 : D) => l5_47 N j y7 y43 y44 y45 (k (.exit 2) s5_7) (fun x4 => k .ret (s5_1 x4))) := funext fun y7 => funext fun y43 => funext fun y44 => funext fun y45 => (el5_47 N k j y7 y43 y44 y45)
    refine Eq.trans (loop_succ _ j _ k) (Eq.trans h2 (Eq.trans (congrArg (fun K => m5_48 N x7 x43 x44 x45 K ((kloop PHI Tb4 N vc5_48 j k) (.exit 2) s5_7) (fun x4 => (kloop PHI Tb4 N vc5_48 j k) .ret (s5_1 x4))) h3) (by kernel_rfl)))
theorem e5_47 (N : Nat) (k : Kn R) (x7 x43 x44 x45 : D) : runC PHI Tb4 N vc5_47 (s5_5 x7 x43 x44 x45) k = m5_47 N x7 x43 x44 x45 (k (.exit 2) s5_7) (fun x4 => k .ret (s5_1 x4)) := by
  refine Eq.trans (runC_loop _ _ k) (Eq.trans (el5_47 N k N x7 x43 x44 x45) (by kernel_rfl))
def m5_46 (N : Nat) (x7 x43 x44 x45 : D) (K : Option R) (Kr : D → Option R) : Option R :=
  (m5_47 N x7 x43 x44 x45 (K) Kr)
theorem e5_46 (N : Nat) (k : Kn R) (x7 x43 x44 x45 : D) : runC PHI Tb4 N vc5_46 (s5_5 x7 x43 x44 x45) k = m5_46 N x7 x43 x44 x45 (k .normal s5_7) (fun x4 => k .ret (s5_1 x4)) := by
  refine Eq.trans (runC_block _ _ _ k) (Eq.trans (e5_47 N (kblk 2 k) x7 x43 x44 x45) (by kernel_rfl))
def m5_44 (N : Nat) (x7 : D) (K : Option R) (Kr : D → Option R) : Option R :=
  (m5_45 N x7 (fun y7 y43 y44 y45 => (m5_46 N y7 y43 y44 y45 (K) Kr)))
theorem e5_44 (N : Nat) (k : Kn R) (x7 : D) : runC PHI Tb4 N vc5_44 (s5_4 x7) k = m5_44 N x7 (k .normal s5_7) (fun x4 => k .ret (s5_1 x4)) := by
  have h2 := e5_45 N (kseq PHI Tb4 N vc5_46 k) x7
  have h3 := (funext fun y7 => funext fun y43 => funext fun y44 => funext fun y45 => (e5_46 N k y7 y43 y44 y45) : (fun (y7 y43 y44 y45 : D) => (kseq PHI Tb4 N vc5_46 k) .normal (s5_5 y7 y43 y44 y45)) = _)
  refine Eq.trans (runC_seq _ _ _ k) (Eq.trans h2 (Eq.trans (congrArg (fun K => m5_45 N x7 K) h3) (by kernel_rfl)))
def m5_127 (N : Nat) (Kr : D → Option R) : Option R :=
  Kr (D.b true)
theorem e5_127 (N : Nat) (k : Kn R) : runC PHI Tb4 N vc5_127 s5_7 k = m5_127 N (fun x4 => k .ret (s5_1 x4)) := by kernel_rfl
def m5_43 (N : Nat) (x7 : D) (Kr : D → Option R) : Option R :=
  (m5_44 N x7 ((m5_127 N Kr)) Kr)
theorem e5_43 (N : Nat) (k : Kn R) (x7 : D) : runC PHI Tb4 N vc5_43 (s5_4 x7) k = m5_43 N x7 (fun x4 => k .ret (s5_1 x4)) := by
  have h2 := e5_44 N (kseq PHI Tb4 N vc5_127 k) x7
  have h3 := ((e5_127 N k ) : ((kseq PHI Tb4 N vc5_127 k) .normal s5_7) = _)
  refine Eq.trans (runC_seq _ _ _ k) (Eq.trans h2 (Eq.trans (congrArg (fun K => m5_44 N x7 K (fun x4 => (kseq PHI Tb4 N vc5_127 k) .ret (s5_1 x4))) h3) (by kernel_rfl)))
def m5_35 (N : Nat) (x1 x7 : D) (Kr : D → Option R) : Option R :=
  (m5_36 N x1 x7 (fun y7 => (m5_43 N y7 Kr)) Kr)
theorem e5_35 (N : Nat) (k : Kn R) (x1 x7 : D) : runC PHI Tb4 N vc5_35 (s5_3 x1 x7) k = m5_35 N x1 x7 (fun x4 => k .ret (s5_1 x4)) := by
  have h2 := e5_36 N (kseq PHI Tb4 N vc5_43 k) x1 x7
  have h3 := (funext fun y7 => (e5_43 N k y7) : (fun (y7 : D) => (kseq PHI Tb4 N vc5_43 k) .normal (s5_4 y7)) = _)
  refine Eq.trans (runC_seq _ _ _ k) (Eq.trans h2 (Eq.trans (congrArg (fun K => m5_36 N x1 x7 K (fun x4 => (kseq PHI Tb4 N vc5_43 k) .ret (s5_1 x4))) h3) (by kernel_rfl)))
def m5_33 (N : Nat) (x0 x1 : D) (Kr : D → Option R) : Option R :=
  (m5_34 N x0 x1 (fun y1 y7 => (m5_35 N y1 y7 Kr)))
theorem e5_33 (N : Nat) (k : Kn R) (x0 x1 : D) : runC PHI Tb4 N vc5_33 (s5_0 x0 x1) k = m5_33 N x0 x1 (fun x4 => k .ret (s5_1 x4)) := by
  have h2 := e5_34 N (kseq PHI Tb4 N vc5_35 k) x0 x1
  have h3 := (funext fun y1 => funext fun y7 => (e5_35 N k y1 y7) : (fun (y1 y7 : D) => (kseq PHI Tb4 N vc5_35 k) .normal (s5_3 y1 y7)) = _)
  refine Eq.trans (runC_seq _ _ _ k) (Eq.trans h2 (Eq.trans (congrArg (fun K => m5_34 N x0 x1 K) h3) (by kernel_rfl)))
def m5_10 (N : Nat) (x0 x1 : D) (Kr : D → Option R) : Option R :=
  (m5_11 N x0 x1 (fun y0 y1 => (m5_33 N y0 y1 Kr)) Kr)
theorem e5_10 (N : Nat) (k : Kn R) (x0 x1 : D) : runC PHI Tb4 N vc5_10 (s5_0 x0 x1) k = m5_10 N x0 x1 (fun x4 => k .ret (s5_1 x4)) := by
  have h2 := e5_11 N (kseq PHI Tb4 N vc5_33 k) x0 x1
  have h3 := (funext fun y0 => funext fun y1 => (e5_33 N k y0 y1) : (fun (y0 y1 : D) => (kseq PHI Tb4 N vc5_33 k) .normal (s5_0 y0 y1)) = _)
  refine Eq.trans (runC_seq _ _ _ k) (Eq.trans h2 (Eq.trans (congrArg (fun K => m5_11 N x0 x1 K (fun x4 => (kseq PHI Tb4 N vc5_33 k) .ret (s5_1 x4))) h3) (by kernel_rfl)))
def m5_2 (N : Nat) (x0 x1 : D) (Kr : D → Option R) : Option R :=
  (m5_3 N x0 x1 (fun y0 y1 => (m5_10 N y0 y1 Kr)) Kr)
theorem e5_2 (N : Nat) (k : Kn R) (x0 x1 : D) : runC PHI Tb4 N vc5_2 (s5_0 x0 x1) k = m5_2 N x0 x1 (fun x4 => k .ret (s5_1 x4)) := by
  have h2 := e5_3 N (kseq PHI Tb4 N vc5_10 k) x0 x1
  have h3 := (funext fun y0 => funext fun y1 => (e5_10 N k y0 y1) : (fun (y0 y1 : D) => (kseq PHI Tb4 N vc5_10 k) .normal (s5_0 y0 y1)) = _)
  refine Eq.trans (runC_seq _ _ _ k) (Eq.trans h2 (Eq.trans (congrArg (fun K => m5_3 N x0 x1 K (fun x4 => (kseq PHI Tb4 N vc5_10 k) .ret (s5_1 x4))) h3) (by kernel_rfl)))
def m5_0 (N : Nat) (x0 x1 : D) (Kr : D → Option R) : Option R :=
  (m5_1 N x0 x1 (fun y0 y1 => (m5_2 N y0 y1 Kr)))
theorem e5_0 (N : Nat) (k : Kn R) (x0 x1 : D) : runC PHI Tb4 N vc5_0 (s5_0 x0 x1) k = m5_0 N x0 x1 (fun x4 => k .ret (s5_1 x4)) := by
  have h2 := e5_1 N (kseq PHI Tb4 N vc5_2 k) x0 x1
  have h3 := (funext fun y0 => funext fun y1 => (e5_2 N k y0 y1) : (fun (y0 y1 : D) => (kseq PHI Tb4 N vc5_2 k) .normal (s5_0 y0 y1)) = _)
  refine Eq.trans (runC_seq _ _ _ k) (Eq.trans h2 (Eq.trans (congrArg (fun K => m5_1 N x0 x1 K) h3) (by kernel_rfl)))
theorem r5 (N : Nat) (x0 x1 : D) : runC PHI Tb4 N vf5.body (enterV vf5 [V.f x0, V.f x1] []) (finish vf5) = m5_0 N x0 x1 (fun x4 => finish vf5 .ret (s5_1 x4)) := 
  Eq.trans (runC_pre (s1 := (s5_0 x0 x1)) (by kernel_rfl) _ _) (Eq.trans (e5_0 N (finish vf5) x0 x1) (by kernel_rfl))
end
section
variable {R : Type}
theorem ps84 (N : Nat) (x7 x8 x9 x11 x43 x44 x45 x65 x66 x67 us : D) (K6 : D → D → D → D → D → D → D → D → D → Option R) (Kr : D → Option R) (hu : us.toL.length ≤ 16) (hne : ∀ i, i < us.toL.length → eqb (us.toL.getD i .nil).toI x11.toI = false) (hN : 17 ≤ N) :
    l5_84 N N x7 x8 x9 x11 x43 x44 x45 x65 x66 x67 us (.i (us.toL.length : Int)) (.i 0) K6 Kr = K6 x7 x8 x9 x43 x44 x45 x65 x66 x67 :=
  loop_pass (fun j i => l5_84 N j x7 x8 x9 x11 x43 x44 x45 x65 x66 x67 us (.i (us.toL.length : Int)) (.i (i : Nat)) K6 Kr) us.toL.length _
    (fun j i hi => by simp only [l5_84, m5_85, toI_i, cond_true, cond_false, ltb_n hi, inb_t hi, at_nat, hne i hi, succ_n hi (show us.toL.length ≤ 9223372036854775807 by omega)])
    (fun j => by simp only [l5_84, m5_85, toI_i, ltb_self, cond_false])
    us.toL.length 0 N (by omega) (by omega)
theorem ps70 (N : Nat) (x7 x8 d x43 x44 x45 : D) (K4 : D → D → D → D → D → D → Option R) (Kr : D → Option R) (hd : goodD d) (hN : 17 ≤ N) :
    l5_70 N N x7 x8 (.p d) x43 x44 x45 (d.at 1) (.i ((d.at 1).toL.length : Int)) (.i 0) K4 Kr = K4 x7 x8 (.p d) x43 x44 x45 := by
  have hl := hd.len
  have hn := hd.nd
  generalize hys : (d.at 1).toL = ys at hl hn
  exact loop_pass (fun j i => l5_70 N j x7 x8 (.p d) x43 x44 x45 (d.at 1) (.i (ys.length : Int)) (.i (i : Nat)) K4 Kr) ys.length _
    (fun j i hi => by
      have hc : (cutD (d.at 1) ((i : Nat) : Int).toNat (0 : Int).toNat).toL = ys.take i := by rw [cut0, hys]
      have hlc : (ys.take i).length ≤ 16 := by rw [List.length_take]; omega
      simp only [l5_70, m5_71, m5_72, m5_73, m5_74, m5_77, m5_78, m5_79, m5_80, m5_81, m5_82, m5_83, m5_84, m5_103, isPtr_p, deref_p, toI_i, toB_b, cond_true, ltb_n hi, hys, inb_t hi, at_nat, guard_le (Nat.le_of_lt hi)]
      rw [ps84 N _ _ _ _ _ _ _ _ _ _ _ _ _ (by rw [hc]; exact hlc) (fun k hk => by
        rw [hc] at hk ⊢
        have hk' : k < i := by rw [List.length_take] at hk; omega
        rw [getD_take hk, getD_at (show k < ys.length by omega), getD_at hi]
        exact eqb_f (pw_get hn hk' hi)) hN]
      simp only [toI_i, succ_n hi (show ys.length ≤ 9223372036854775807 by omega)])
    (fun j => by simp only [l5_70, m5_71, m5_72, m5_73, m5_74, toI_i, toB_b, ltb_self, cond_false])
    ys.length 0 N (by omega) (by omega)
theorem ps107 (N : Nat) (x7 d x43 x44 x45 us : D) (K8 : D → D → D → D → Option R) (Kr : D → Option R) (hu : us.toL.length ≤ 16) (hne : ∀ i, i < us.toL.length → sp14 (us.toL.getD i .nil) d = false) (hN : 17 ≤ N) :
    l5_107 N N x7 (.p d) x43 x44 x45 us (.i (us.toL.length : Int)) (.i 0) K8 Kr = K8 x7 x43 x44 x45 :=
  loop_pass (fun j i => l5_107 N j x7 (.p d) x43 x44 x45 us (.i (us.toL.length : Int)) (.i (i : Nat)) K8 Kr) us.toL.length _
    (fun j i hi => by simp only [l5_107, m5_108, isPtr_p, deref_p, toI_i, cond_true, cond_false, ltb_n hi, inb_t hi, at_nat, hne i hi, succ_n hi (show us.toL.length ≤ 9223372036854775807 by omega)])
    (fun j => by simp only [l5_107, m5_108, toI_i, ltb_self, cond_false])
    us.toL.length 0 N (by omega) (by omega)
theorem ps47 (N : Nat) (o : D) (K2 : Option R) (Kr : D → Option R) (ho : good16 o) (hN : 17 ≤ N) :
    l5_47 N N o o (.i (o.toL.length : Int)) (.i 0) K2 Kr = K2 :=
  loop_pass (fun j i => l5_47 N j o o (.i (o.toL.length : Int)) (.i (i : Nat)) K2 Kr) o.toL.length _
    (fun j i hi => by
      have hd := ho.1.1 _ (getD_mem hi)
      have h16 := ho.2
      have hpw : ∀ k, k < i → sp14 (o.toL.getD k .nil) (o.toL.getD i .nil) = false := fun k hk => by
        rw [getD_at (show k < o.toL.length by omega), getD_at hi]
        have h1 : sameTC o.toL[k] o.toL[i] = false := pw_get ho.1.2 hk hi
        have r1 : (o.toL[k].at 2).toB = false := ho.1.real _ (List.getElem_mem _)
        have r2 : (o.toL[i].at 2).toB = false := ho.1.real _ (List.getElem_mem _)
        unfold sp14
        rw [r1, r2]
        exact h1
      generalize hdd : o.toL.getD i .nil = d at hd hpw
      have c1 : ltb ((d.at 1).toL.length : Int) 1 = false := by
        obtain ⟨t, ys, rfl, h, _⟩ := hd
        refine ltb_f ?_
        have : ys.length ≠ 0 := fun e => h (List.length_eq_zero_iff.1 e)
        show ¬ (ys.length : Int) < 1
        omega
      have c2 : ltb 3 ((d.at 1).toL.length : Int) = false := ltb_f (by have := hd.len; omega)
      have c3 : (d.at 2).toB = false := by obtain ⟨t, ys, rfl, _⟩ := hd; rfl
      have hc : (cutD o ((i : Nat) : Int).toNat (0 : Int).toNat).toL = o.toL.take i := cut0 o i
      have hlc : (o.toL.take i).length ≤ 16 := by rw [List.length_take]; omega
      simp only [l5_47, m5_48, m5_49, m5_50, m5_51, m5_54, m5_55, m5_56, m5_57, m5_58, m5_59, m5_66, m5_67, m5_68, m5_69, m5_70, m5_126, isPtr_p, deref_p, toI_i, toB_b, cond_true, cond_false, ltb_n hi, inb_t hi, at_nat, hdd, c1, c2, c3]
      rw [ps70 N _ _ d _ _ _ _ _ hd hN]
      simp only [m5_104, m5_105, m5_106, m5_107, toI_i, guard_le (Nat.le_of_lt hi), cond_true]
      rw [ps107 N _ d _ _ _ _ _ _ (by rw [hc]; exact hlc) (fun k hk => by
        rw [hc] at hk ⊢
        rw [getD_take hk]
        exact hpw k (by rw [List.length_take] at hk; omega)) hN]
      simp only [toI_i, succ_n hi (show o.toL.length ≤ 9223372036854775807 by omega)])
    (fun j => by simp only [l5_47, m5_48, m5_49, m5_50, m5_51, toI_i, toB_b, ltb_self, cond_false])
    o.toL.length 0 N (by omega) (by have := ho.2; omega)
end
def Tb5 : CallF := extend Tb4 5 (fn2 (fun _ _ => true) fun _ _ => .f (.b true))
theorem ok5 : FnOk Try.prog PHI Tb5 := FnOk.add2 (vf := vf5) hPHI ok4 (by kernel_rfl) fun l n ha _ => by
  have hl := (ha.is 0 rfl rfl).len' (e := 26) (by kernel_rfl)
  obtain ⟨N, hN, hN2⟩ : ∃ N, 17 ≤ N ∧ l.toL.length + 1 ≤ N := ⟨l.toL.length + 18, by omega, by omega⟩
  refine ⟨N, (r5 _ l n).trans ?_⟩
  simp only [m5_0, m5_1, m5_2, m5_3, m5_10, m5_11, m5_12, m5_13, m5_14]
  show (bif false then _ else _) = _
  cases h8 : ltb 8 (l.toL.length : Int)
  · simp only [cond_false]
    have h := loop_find (fun j i => l5_14 N j l n l (.i (l.toL.length : Int)) (.i (i : Nat)) (fun y0 y1 => m5_33 N y0 y1 fun x4 => finish vf5 .ret (s5_1 x4)) (fun x4 => finish vf5 .ret (s5_1 x4))) (fun i => !sp8 (l.toL.getD i .nil)) l.toL.length (m5_33 N l n fun x4 => finish vf5 .ret (s5_1 x4)) (fun i => finish vf5 .ret (s5_1 (.b true)))
      (fun j i hi => by simp only [l5_14, m5_15, toI_i, cond_true, ltb_n hi, inb_t hi, at_nat, succ_n hi hl])
      (fun j => by simp only [l5_14, m5_15, toI_i, ltb_self, cond_false])
      l.toL.length 0 N (by omega) (by omega)
    refine h.trans ?_
    rw [fst_any0 (fun q => !sp8 q)]
    cases hs : l.toL.any fun q => !sp8 q
    · have hp := small_all h8 hs
      have hm : ltb (mmI true 0 [mmI false n.toI [16]]) ((sp12 l n).toL.length : Int) = false := ltb_f (by have := leM_12 l n; unfold leM mx at this; omega)
      simp only [cond_false, m5_33, m5_34, m5_35, m5_36, m5_43, m5_44, m5_45, m5_46, m5_47, m5_127, show pr12 l n = true from hp, cond_true, hm]
      rw [ps47 N _ _ _ (g16_12 l n) hN]
      rfl
    · rfl
  · rfl

end Go.Vam.C20
