/- Chapter 20: what functions come to, part 7. No conditions. -/
import Derived.Test.YtbpgfdjencpcmaaP6
import Derived.KernelRfl
set_option linter.unusedVariables false
set_option linter.unusedSimpArgs false
set_option maxRecDepth 100000
namespace Go.Vam.C20
open Go.Proofs
/-! ### What one query's are comes first -/
def ext (o o' : D) : Prop := ∃ r, o'.toL = o.toL ++ r
theorem ext_refl (o : D) : ext o o := ⟨[], by simp⟩
theorem ext_trans {a b c : D} (h : ext a b) (h' : ext b c) : ext a c := by
  obtain ⟨r, hr⟩ := h
  obtain ⟨s, hs⟩ := h'
  exact ⟨r ++ s, by rw [hs, hr, List.append_assoc]⟩
theorem ext_addM (m : Int) (o t : D) (xs : List D) : ext o (addM m o t xs) := by
  unfold addM
  cases ltb (o.toL.length : Int) m
  · exact ext_refl o
  · simp only [cond_true]
    unfold addS
    cases (xs.take 3).isEmpty || o.toL.any (fun d => eqb (d.at 0).toI t.toI && sp40 (d.at 1) (.sl (xs.take 3)))
    · exact ⟨_, rfl⟩
    · exact ext_refl o
theorem ext_fold {g : D → D → D} (hg : ∀ o d, ext o (g o d)) : ∀ (l : List D) (o : D), ext o (l.foldl g o)
  | [], o => ext_refl o
  | x :: l, o => ext_trans (hg o x) (ext_fold hg l _)
theorem ext_gQ (m : Int) (o q : D) : ext o (gQ m o q) := ext_fold (fun o d => ext_addM _ _ _ _) _ _
theorem ext_gM (m : Int) (a o b : D) : ext o (gM m a o b) := by
  unfold gM
  cases eqb (a.at 0).toI (b.at 0).toI
  · exact ext_refl o
  · exact ext_addM _ _ _ _
theorem ext_gB (m : Int) (base o a : D) : ext o (gB m base o a) := ext_fold (fun o d => ext_gM _ _ _ _) _ _
theorem gA_full {m : Int} {o : D} (h : ¬ (o.toL.length : Int) < m) : ∀ l : List D, l.foldl (gA m) o = o
  | [] => rfl
  | x :: l => by
    have e : gA m o x = o := by unfold gA addM; rw [ltb_f h]; rfl
    rw [List.foldl_cons, e]; exact gA_full h l
theorem gA_take (m : Int) : ∀ (l : List D) (o : D), (∀ d ∈ l, goodD d) → (o.toL ++ l).Pairwise (fun a b => sameTC a b = false) → (o.toL.length : Int) ≤ m → (l.foldl (gA m) o).toL = (o.toL ++ l).take m.toNat
  | [], o, _, _, hm => by
    rw [List.append_nil, List.take_of_length_le (by omega)]; rfl
  | d :: l, o, hg, hp, hm => by
    by_cases hl : (o.toL.length : Int) < m
    · obtain ⟨t, ys, rfl, hne, h3, _⟩ := hg d List.mem_cons_self
      have ht : ys.take 3 = ys := List.take_of_length_le h3
      have hp' := List.pairwise_append.1 hp
      have hany : o.toL.any (fun x => eqb (x.at 0).toI t.toI && sp40 (x.at 1) (.sl ys)) = false := by
        rw [List.any_eq_false]
        intro x hx
        have h1 : sameTC x (.ag [t, .sl ys, .b false]) = false := hp'.2.2 x hx _ List.mem_cons_self
        have h2 : (eqb (x.at 0).toI t.toI && sp40 (x.at 1) (.sl ys)) = false := h1
        rw [h2]; decide
      have e : gA m o (.ag [t, .sl ys, .b false]) = .sl (o.toL ++ [.ag [t, .sl ys, .b false]]) := by
        show addM m o t ys = _
        unfold addM addS
        rw [ltb_t hl, ht, hany]
        cases ys with
        | nil => exact absurd rfl hne
        | cons y ys => rfl
      rw [List.foldl_cons, e, gA_take m l _ (fun d hd => hg d (List.mem_cons_of_mem _ hd)) (by rw [toL_sl, List.append_assoc]; exact hp) (by rw [toL_sl, List.length_append]; simp only [List.length_cons, List.length_nil]; omega), toL_sl, List.append_assoc]
      rfl
    · rw [gA_full hl, List.take_append_of_le_length (by omega), List.take_of_length_le (by omega)]
theorem first_12 {l q : D} {rest : List D} (hl : l.toL = q :: rest) (n : D) : ∃ r, (sp12 l n).toL = (sp10 q).toL.take (mx n.toI).toNat ++ r := by
  have h1 : (gQ (mx n.toI) (.sz []) q).toL = (sp10 q).toL.take (mx n.toI).toNat := by
    have := gA_take (mx n.toI) (sp10 q).toL (.sz []) (goodL_10 q).1 (by rw [toL_sz, List.nil_append]; exact (goodL_10 q).2) (by have := mx_0 n.toI; simp [D.toL]; omega)
    rw [toL_sz, List.nil_append] at this
    exact this
  have h2 : ext (gQ (mx n.toI) (.sz []) q) (all1 l (mx n.toI)) := by
    unfold all1
    rw [hl]
    exact ext_fold (fun o d => ext_gQ _ _ _) rest _
  have h3 : ext (all1 l (mx n.toI)) (sp12 l n) := ext_fold (fun o d => ext_gB _ _ _ _) _ _
  obtain ⟨r, hr⟩ := ext_trans h2 h3
  exact ⟨r, by rw [hr, h1]⟩
theorem first_get {xs r : List D} {m i : Nat} (h1 : i < xs.length) (h2 : i < m) : (xs.take m ++ r).getD i .nil = xs.getD i .nil := by
  have ht : i < (xs.take m).length := by rw [List.length_take]; omega
  rw [getD_at (show i < (xs.take m ++ r).length by rw [List.length_append]; omega), getD_at h1, List.getElem_append_left ht, List.getElem_take]
section
variable {R : Type}
def m6_1 (N : Nat) (x0 x1 : D) (K : D → D → Option R) : Option R :=
  K x0 x1
def s6_0 (x0 x1 : D) : St := sts 97 [(0, V.f x0), (1, V.f x1)] []
theorem e6_1 (N : Nat) (k : Kn R) (x0 x1 : D) : runC PHI Tb5 N vc6_1 (s6_0 x0 x1) k = m6_1 N x0 x1 (fun x0 x1 => k .normal (s6_0 x0 x1)) := by
  refine Eq.trans (runC_post _ _ _ k) (Eq.trans (ops_run _ _ _ _) (by kernel_rfl))
def m6_3 (N : Nat) (x0 x1 : D) (K : D → D → Option R) (Kr : D → Option R) : Option R :=
  (bif (!sp7) then (bif true then Kr (D.b sp7) else K x0 x1) else (bif (ltb 8 (x0.toL.length : Int)) then (bif true then Kr (D.b sp7) else K x0 x1) else (bif (eqb (x0.toL.length : Int) 0) then Kr (D.b sp7) else K x0 x1)))
def s6_1 (x4 : D) : St := sts 97 [(4, V.f x4)] []
theorem e6_3 (N : Nat) (k : Kn R) (x0 x1 : D) : runC PHI Tb5 N vc6_3 (s6_0 x0 x1) k = m6_3 N x0 x1 (fun x0 x1 => k .normal (s6_0 x0 x1)) (fun x4 => k .ret (s6_1 x4)) := by kernel_rfl
def m6_12 (N : Nat) (x0 x1 : D) (K : D → D → D → D → D → Option R) : Option R :=
  K x0 x1 x0 (D.i (x0.toL.length : Int)) (D.i 0)
def s6_2 (x0 x1 x27 x28 x29 : D) : St := sts 97 [(0, V.f x0), (1, V.f x1), (27, V.f x27), (28, V.f x28), (29, V.f x29)] []
theorem e6_12 (N : Nat) (k : Kn R) (x0 x1 : D) : runC PHI Tb5 N vc6_12 (s6_0 x0 x1) k = m6_12 N x0 x1 (fun x0 x1 x27 x28 x29 => k .normal (s6_2 x0 x1 x27 x28 x29)) := by
  refine Eq.trans (runC_post _ _ _ k) (Eq.trans (ops_run _ _ _ _) (by kernel_rfl))
def m6_15 (N : Nat) (x0 x1 x27 x28 x29 : D) (K : D → D → D → D → D → Option R) (K0 : D → D → Option R) (Kr : D → Option R) : Option R :=
  (bif (ltb x29.toI x28.toI) then (bif (inb x29.toI x27.toL.length) then (bif (!(sp8 (x27.at (x29.toI : Int).toNat))) then Kr (D.b true) else K x0 x1 x27 x28 (D.i (IntKind.wrap IntKind.i64 (x29.toI + 1)))) else none) else K0 x0 x1)
theorem e6_15 (N : Nat) (k : Kn R) (x0 x1 x27 x28 x29 : D) : runC PHI Tb5 N vc6_15 (s6_2 x0 x1 x27 x28 x29) k = m6_15 N x0 x1 x27 x28 x29 (fun x0 x1 x27 x28 x29 => k .normal (s6_2 x0 x1 x27 x28 x29)) (fun x0 x1 => k (.exit 0) (s6_0 x0 x1)) (fun x4 => k .ret (s6_1 x4)) := by kernel_rfl
def l6_14 (N : Nat) (j : Nat) (x0 x1 x27 x28 x29 : D) (K0 : D → D → Option R) (Kr : D → Option R) : Option R :=
  match j with
  | 0 => none
  | j + 1 => (m6_15 N x0 x1 x27 x28 x29 (fun y0 y1 y27 y28 y29 => l6_14 N j y0 y1 y27 y28 y29 K0 Kr) K0 Kr)
def m6_14 (N : Nat) (x0 x1 x27 x28 x29 : D) (K0 : D → D → Option R) (Kr : D → Option R) : Option R :=
  l6_14 N N x0 x1 x27 x28 x29 K0 Kr
theorem el6_14 (N : Nat) (k : Kn R) : ∀ (j : Nat) (x0 x1 x27 x28 x29 : D), loopGo (runC PHI Tb5 N vc6_15) j (s6_2 x0 x1 x27 x28 x29) k = l6_14 N j x0 x1 x27 x28 x29 (fun x0 x1 => k (.exit 0) (s6_0 x0 x1)) (fun x4 => k .ret (s6_1 x4))
  | 0, _, _, _, _, _ => by kernel_rfl
  | j + 1, x0, x1, x27, x28, x29 => by
    have h2 := e6_15 N (kloop PHI Tb5 N vc6_15 j k) x0 x1 x27 x28 x29
    have h3 : (fun (y0 y1 y27 y28 y29 : D) => (kloop PHI Tb5 N vc6_15 j k) .normal (s6_2 y0 y1 y27 y28 y29)) = (fun (y0 y1 y27 y28 y29 : D) => l6_14 N j y0 y1 y27 y28 y29 (fun x0 x1 => k (.exit 0) (s6_0 x0 x1)) (fun x4 => k .ret (s6_1 x4))) := funext fun y0 => funext fun y1 => funext fun y27 => funext fun y28 => funext fun y29 => (el6_14 N k j y0 y1 y27 y28 y29)
    refine Eq.trans (loop_succ _ j _ k) (Eq.trans h2 (Eq.trans (congrArg (fun K => m6_15 N x0 x1 x27 x28 x29 K (fun x0 x1 => (kloop PHI Tb5 N vc6_15 j k) (.exit 0) (s6_0 x0 x1)) (fun x4 => (kloop PHI Tb5 N vc6_15 j k) .ret (s6_1 x4))) h3) (by kernel_rfl)))
theorem e6_14 (N : Nat) (k : Kn R) (x0 x1 x27 x28 x29 : D) : runC PHI Tb5 N vc6_14 (s6_2 x0 x1 x27 x28 x29) k = m6_14 N x0 x1 x27 x28 x29 (fun x0 x1 => k (.exit 0) (s6_0 x0 x1)) (fun x4 => k .ret (s6_1 x4)) := by
  refine Eq.trans (runC_loop _ _ k) (Eq.trans (el6_14 N k N x0 x1 x27 x28 x29) (by kernel_rfl))
def m6_13 (N : Nat) (x0 x1 x27 x28 x29 : D) (K : D → D → Option R) (Kr : D → Option R) : Option R :=
  (m6_14 N x0 x1 x27 x28 x29 (fun y0 y1 => K y0 y1) Kr)
theorem e6_13 (N : Nat) (k : Kn R) (x0 x1 x27 x28 x29 : D) : runC PHI Tb5 N vc6_13 (s6_2 x0 x1 x27 x28 x29) k = m6_13 N x0 x1 x27 x28 x29 (fun x0 x1 => k .normal (s6_0 x0 x1)) (fun x4 => k .ret (s6_1 x4)) := by
  refine Eq.trans (runC_block _ _ _ k) (Eq.trans (e6_14 N (kblk 0 k) x0 x1 x27 x28 x29) (by kernel_rfl))
def m6_11 (N : Nat) (x0 x1 : D) (K : D → D → Option R) (Kr : D → Option R) : Option R :=
  (m6_12 N x0 x1 (fun y0 y1 y27 y28 y29 => (m6_13 N y0 y1 y27 y28 y29 (fun y0 y1 => K y0 y1) Kr)))
theorem e6_11 (N : Nat) (k : Kn R) (x0 x1 : D) : runC PHI Tb5 N vc6_11 (s6_0 x0 x1) k = m6_11 N x0 x1 (fun x0 x1 => k .normal (s6_0 x0 x1)) (fun x4 => k .ret (s6_1 x4)) := by
  have h2 := e6_12 N (kseq PHI Tb5 N vc6_13 k) x0 x1
  have h3 := (funext fun y0 => funext fun y1 => funext fun y27 => funext fun y28 => funext fun y29 => (e6_13 N k y0 y1 y27 y28 y29) : (fun (y0 y1 y27 y28 y29 : D) => (kseq PHI Tb5 N vc6_13 k) .normal (s6_2 y0 y1 y27 y28 y29)) = _)
  refine Eq.trans (runC_seq _ _ _ k) (Eq.trans h2 (Eq.trans (congrArg (fun K => m6_12 N x0 x1 K) h3) (by kernel_rfl)))
def m6_34 (N : Nat) (x0 x1 : D) (K : D → D → D → D → Option R) : Option R :=
  (bif (inb 0 x0.toL.length) then (bif (pr10 (x0.at (0 : Int).toNat)) then (bif (pr12 x0 (D.i 16)) then K x0 x1 (sp10 (x0.at (0 : Int).toNat)) (sp12 x0 (D.i 16)) else none) else none) else none)
def s6_3 (x0 x1 x7 x8 : D) : St := sts 97 [(0, V.f x0), (1, V.f x1), (7, V.f x7), (8, V.f x8)] []
theorem e6_34 (N : Nat) (k : Kn R) (x0 x1 : D) : runC PHI Tb5 N vc6_34 (s6_0 x0 x1) k = m6_34 N x0 x1 (fun x0 x1 x7 x8 => k .normal (s6_3 x0 x1 x7 x8)) := by
  refine Eq.trans (runC_post _ _ _ k) (Eq.trans (ops_run _ _ _ _) (by kernel_rfl))
def m6_37 (N : Nat) (x0 x1 x7 x8 : D) (K : D → D → D → D → D → D → D → Option R) : Option R :=
  K x0 x1 x7 x8 x7 (D.i (x7.toL.length : Int)) (D.i 0)
def s6_4 (x0 x1 x7 x8 x43 x44 x45 : D) : St := sts 97 [(0, V.f x0), (1, V.f x1), (7, V.f x7), (8, V.f x8), (43, V.f x43), (44, V.f x44), (45, V.f x45)] []
theorem e6_37 (N : Nat) (k : Kn R) (x0 x1 x7 x8 : D) : runC PHI Tb5 N vc6_37 (s6_3 x0 x1 x7 x8) k = m6_37 N x0 x1 x7 x8 (fun x0 x1 x7 x8 x43 x44 x45 => k .normal (s6_4 x0 x1 x7 x8 x43 x44 x45)) := by
  refine Eq.trans (runC_post _ _ _ k) (Eq.trans (ops_run _ _ _ _) (by kernel_rfl))
def m6_40 (N : Nat) (x0 x1 x7 x8 x43 x44 x45 : D) (K : D → D → D → D → D → D → D → Option R) (K2 : D → D → D → D → Option R) (Kr : D → Option R) : Option R :=
  (bif (ltb x45.toI x44.toI) then (bif (inb x45.toI x43.toL.length) then (bif (ltb x45.toI (x8.toL.length : Int)) then (bif (inb x45.toI x8.toL.length) then (bif (!(sp14 (x8.at (x45.toI : Int).toNat) (x43.at (x45.toI : Int).toNat))) then Kr (D.b false) else K x0 x1 x7 x8 x43 x44 (D.i (IntKind.wrap IntKind.i64 (x45.toI + 1)))) else none) else (bif false then Kr (D.b false) else K x0 x1 x7 x8 x43 x44 (D.i (IntKind.wrap IntKind.i64 (x45.toI + 1))))) else none) else K2 x0 x1 x7 x8)
theorem e6_40 (N : Nat) (k : Kn R) (x0 x1 x7 x8 x43 x44 x45 : D) : runC PHI Tb5 N vc6_40 (s6_4 x0 x1 x7 x8 x43 x44 x45) k = m6_40 N x0 x1 x7 x8 x43 x44 x45 (fun x0 x1 x7 x8 x43 x44 x45 => k .normal (s6_4 x0 x1 x7 x8 x43 x44 x45)) (fun x0 x1 x7 x8 => k (.exit 2) (s6_3 x0 x1 x7 x8)) (fun x4 => k .ret (s6_1 x4)) := by kernel_rfl
def l6_39 (N : Nat) (j : Nat) (x0 x1 x7 x8 x43 x44 x45 : D) (K2 : D → D → D → D → Option R) (Kr : D → Option R) : Option R :=
  match j with
  | 0 => none
  | j + 1 => (m6_40 N x0 x1 x7 x8 x43 x44 x45 (fun y0 y1 y7 y8 y43 y44 y45 => l6_39 N j y0 y1 y7 y8 y43 y44 y45 K2 Kr) K2 Kr)
def m6_39 (N : Nat) (x0 x1 x7 x8 x43 x44 x45 : D) (K2 : D → D → D → D → Option R) (Kr : D → Option R) : Option R :=
  l6_39 N N x0 x1 x7 x8 x43 x44 x45 K2 Kr
theorem el6_39 (N : Nat) (k : Kn R) : ∀ (j : Nat) (x0 x1 x7 x8 x43 x44 x45 : D), loopGo (runC PHI Tb5 N vc6_40) j (s6_4 x0 x1 x7 x8 x43 x44 x45) k = l6_39 N j x0 x1 x7 x8 x43 x44 x45 (fun x0 x1 x7 x8 => k (.exit 2) (s6_3 x0 x1 x7 x8)) (fun x4 => k .ret (s6_1 x4))
  | 0, _, _, _, _, _, _, _ => by kernel_rfl
  | j + 1, x0, x1, x7, x8, x43, x44, x45 => by
    have h2 := e6_40 N (kloop PHI Tb5 N vc6_40 j k) x0 x1 x7 x8 x43 x44 x45
    have h3 : (fun (y0 y1 y7 y8 y43 y44 y45 : D) => (kloop PHI Tb5 N vc6_40 j k) .normal (s6_4 y0 y1 y7 y8 y43 y44 y45)) = (fun (y0 y1 y7 y8 y43 y44 y45 : D) => l6_39 N j y0 y1 y7 y8 y43 y44 y45 (fun x0 x1 x7 x8 => k (.exit 2) (s6_3 x0 x1 x7 x8)) (fun x4 => k .ret (s6_1 x4))) := funext fun y0 => funext fun y1 => funext fun y7 => funext fun y8 => funext fun y43 => funext fun y44 => funext fun y45 => (el6_39 N k j y0 y1 y7 y8 y43 y44 y45)
    refine Eq.trans (loop_succ _ j _ k) (Eq.trans h2 (Eq.trans (congrArg (fun K => m6_40 N x0 x1 x7 x8 x43 x44 x45 K (fun x0 x1 x7 x8 => (kloop PHI Tb5 N vc6_40 j k) (.exit 2) (s6_3 x0 x1 x7 x8)) (fun x4 => (kloop PHI Tb5 N vc6_40 j k) .ret (s6_1 x4))) h3) (by kernel_rfl)))
theorem e6_39 (N : Nat) (k : Kn R) (x0 x1 x7 x8 x43 x44 x45 : D) : runC PHI Tb5 N vc6_39 (s6_4 x0 x1 x7 x8 x43 x44 x45) k = m6_39 N x0 x1 x7 x8 x43 x44 x45 (fun x0 x1 x7 x8 => k (.exit 2) (s6_3 x0 x1 x7 x8)) (fun x4 => k .ret (s6_1 x4)) := by
  refine Eq.trans (runC_loop _ _ k) (Eq.trans (el6_39 N k N x0 x1 x7 x8 x43 x44 x45) (by kernel_rfl))
def m6_38 (N : Nat) (x0 x1 x7 x8 x43 x44 x45 : D) (K : D → D → D → D → Option R) (Kr : D → Option R) : Option R :=
  (m6_39 N x0 x1 x7 x8 x43 x44 x45 (fun y0 y1 y7 y8 => K y0 y1 y7 y8) Kr)
theorem e6_38 (N : Nat) (k : Kn R) (x0 x1 x7 x8 x43 x44 x45 : D) : runC PHI Tb5 N vc6_38 (s6_4 x0 x1 x7 x8 x43 x44 x45) k = m6_38 N x0 x1 x7 x8 x43 x44 x45 (fun x0 x1 x7 x8 => k .normal (s6_3 x0 x1 x7 x8)) (fun x4 => k .ret (s6_1 x4)) := by
  refine Eq.trans (runC_block _ _ _ k) (Eq.trans (e6_39 N (kblk 2 k) x0 x1 x7 x8 x43 x44 x45) (by kernel_rfl))
def m6_36 (N : Nat) (x0 x1 x7 x8 : D) (K : D → D → D → D → Option R) (Kr : D → Option R) : Option R :=
  (m6_37 N x0 x1 x7 x8 (fun y0 y1 y7 y8 y43 y44 y45 => (m6_38 N y0 y1 y7 y8 y43 y44 y45 (fun y0 y1 y7 y8 => K y0 y1 y7 y8) Kr)))
theorem e6_36 (N : Nat) (k : Kn R) (x0 x1 x7 x8 : D) : runC PHI Tb5 N vc6_36 (s6_3 x0 x1 x7 x8) k = m6_36 N x0 x1 x7 x8 (fun x0 x1 x7 x8 => k .normal (s6_3 x0 x1 x7 x8)) (fun x4 => k .ret (s6_1 x4)) := by
  have h2 := e6_37 N (kseq PHI Tb5 N vc6_38 k) x0 x1 x7 x8
  have h3 := (funext fun y0 => funext fun y1 => funext fun y7 => funext fun y8 => funext fun y43 => funext fun y44 => funext fun y45 => (e6_38 N k y0 y1 y7 y8 y43 y44 y45) : (fun (y0 y1 y7 y8 y43 y44 y45 : D) => (kseq PHI Tb5 N vc6_38 k) .normal (s6_4 y0 y1 y7 y8 y43 y44 y45)) = _)
  refine Eq.trans (runC_seq _ _ _ k) (Eq.trans h2 (Eq.trans (congrArg (fun K => m6_37 N x0 x1 x7 x8 K) h3) (by kernel_rfl)))
def m6_59 (N : Nat) (x0 x1 x7 x8 : D) (K : D → D → D → Option R) : Option R :=
  (bif (pr12 x0 (D.i (mmI true 0 [(mmI false x1.toI [(x8.toL.length : Int)])]))) then K x7 x8 (sp12 x0 (D.i (mmI true 0 [(mmI false x1.toI [(x8.toL.length : Int)])]))) else none)
def s6_5 (x7 x8 x11 : D) : St := sts 97 [(7, V.f x7), (8, V.f x8), (11, V.f x11)] []
theorem e6_59 (N : Nat) (k : Kn R) (x0 x1 x7 x8 : D) : runC PHI Tb5 N vc6_59 (s6_3 x0 x1 x7 x8) k = m6_59 N x0 x1 x7 x8 (fun x7 x8 x11 => k .normal (s6_5 x7 x8 x11)) := by
  refine Eq.trans (runC_post _ _ _ k) (Eq.trans (ops_run _ _ _ _) (by kernel_rfl))
def m6_62 (N : Nat) (x7 x8 x11 : D) (K : D → D → D → D → D → D → Option R) : Option R :=
  K x7 x8 x11 x11 (D.i (x11.toL.length : Int)) (D.i 0)
def s6_6 (x7 x8 x11 x71 x72 x73 : D) : St := sts 97 [(7, V.f x7), (8, V.f x8), (11, V.f x11), (71, V.f x71), (72, V.f x72), (73, V.f x73)] []
theorem e6_62 (N : Nat) (k : Kn R) (x7 x8 x11 : D) : runC PHI Tb5 N vc6_62 (s6_5 x7 x8 x11) k = m6_62 N x7 x8 x11 (fun x7 x8 x11 x71 x72 x73 => k .normal (s6_6 x7 x8 x11 x71 x72 x73)) := by
  refine Eq.trans (runC_post _ _ _ k) (Eq.trans (ops_run _ _ _ _) (by kernel_rfl))
def m6_65 (N : Nat) (x7 x8 x11 x71 x72 x73 : D) (K : D → D → D → D → D → D → Option R) (K4 : D → D → Option R) (Kr : D → Option R) : Option R :=
  (bif (ltb x73.toI x72.toI) then (bif (inb x73.toI x71.toL.length) then (bif (ltb x73.toI (x7.toL.length : Int)) then (bif (inb x73.toI x7.toL.length) then (bif (!(sp14 (x7.at (x73.toI : Int).toNat) (x71.at (x73.toI : Int).toNat))) then Kr (D.b false) else K x7 x8 x11 x71 x72 (D.i (IntKind.wrap IntKind.i64 (x73.toI + 1)))) else none) else (bif false then Kr (D.b false) else K x7 x8 x11 x71 x72 (D.i (IntKind.wrap IntKind.i64 (x73.toI + 1))))) else none) else K4 x8 x11)
def s6_7 (x8 x11 : D) : St := sts 97 [(8, V.f x8), (11, V.f x11)] []
theorem e6_65 (N : Nat) (k : Kn R) (x7 x8 x11 x71 x72 x73 : D) : runC PHI Tb5 N vc6_65 (s6_6 x7 x8 x11 x71 x72 x73) k = m6_65 N x7 x8 x11 x71 x72 x73 (fun x7 x8 x11 x71 x72 x73 => k .normal (s6_6 x7 x8 x11 x71 x72 x73)) (fun x8 x11 => k (.exit 4) (s6_7 x8 x11)) (fun x4 => k .ret (s6_1 x4)) := by kernel_rfl
def l6_64 (N : Nat) (j : Nat) (x7 x8 x11 x71 x72 x73 : D) (K4 : D → D → Option R) (Kr : D → Option R) : Option R :=
  match j with
  | 0 => none
  | j + 1 => (m6_65 N x7 x8 x11 x71 x72 x73 (fun y7 y8 y11 y71 y72 y73 => l6_64 N j y7 y8 y11 y71 y72 y73 K4 Kr) K4 Kr)
def m6_64 (N : Nat) (x7 x8 x11 x71 x72 x73 : D) (K4 : D → D → Option R) (Kr : D → Option R) : Option R :=
  l6_64 N N x7 x8 x11 x71 x72 x73 K4 Kr
theorem el6_64 (N : Nat) (k : Kn R) : ∀ (j : Nat) (x7 x8 x11 x71 x72 x73 : D), loopGo (runC PHI Tb5 N vc6_65) j (s6_6 x7 x8 x11 x71 x72 x73) k = l6_64 N j x7 x8 x11 x71 x72 x73 (fun x8 x11 => k (.exit 4) (s6_7 x8 x11)) (fun x4 => k .ret (s6_1 x4))
  | 0, _, _, _, _, _, _ => by kernel_rfl
  | j + 1, x7, x8, x11, x71, x72, x73 => by
    have h2 := e6_65 N (kloop PHI Tb5 N vc6_65 j k) x7 x8 x11 x71 x72 x73
    have h3 : (fun (y7 y8 y11 y71 y72 y73 : D) => (kloop PHI Tb5 N vc6_65 j k) .normal (s6_6 y7 y8 y11 y71 y72 y73)) = (fun (y7 y8 y11 y71 y72 y73 : D) => l6_64 N j y7 y8 y11 y71 y72 y73 (fun x8 x11 => k (.exit 4) (s6_7 x8 x11)) (fun x4 => k .ret (s6_1 x4))) := funext fun y7 => funext fun y8 => funext fun y11 => funext fun y71 => funext fun y72 => funext fun y73 => (el6_64 N k j y7 y8 y11 y71 y72 y73)
    refine Eq.trans (loop_succ _ j _ k) (Eq.trans h2 (Eq.trans (congrArg (fun K => m6_65 N x7 x8 x11 x71 x72 x73 K (fun x8 x11 => (kloop PHI Tb5 N vc6_65 j k) (.exit 4) (s6_7 x8 x11)) (fun x4 => (kloop PHI Tb5 N vc6_65 j k) .ret (s6_1 x4))) h3) (by kernel_rfl)))
theorem e6_64 (N : Nat) (k : Kn R) (x7 x8 x11 x71 x72 x73 : D) : runC PHI Tb5 N vc6_64 (s6_6 x7 x8 x11 x71 x72 x73) k = m6_64 N x7 x8 x11 x71 x72 x73 (fun x8 x11 => k (.exit 4) (s6_7 x8 x11)) (fun x4 => k .ret (s6_1 x4)) := by
  refine Eq.trans (runC_loop _ _ k) (Eq.trans (el6_64 N k N x7 x8 x11 x71 x72 x73) (by kernel_rfl))
def m6_63 (N : Nat) (x7 x8 x11 x71 x72 x73 : D) (K : D → D → Option R) (Kr : D → Option R) : Option R :=
  (m6_64 N x7 x8 x11 x71 x72 x73 (fun y8 y11 => K y8 y11) Kr)
theorem e6_63 (N : Nat) (k : Kn R) (x7 x8 x11 x71 x72 x73 : D) : runC PHI Tb5 N vc6_63 (s6_6 x7 x8 x11 x71 x72 x73) k = m6_63 N x7 x8 x11 x71 x72 x73 (fun x8 x11 => k .normal (s6_7 x8 x11)) (fun x4 => k .ret (s6_1 x4)) := by
  refine Eq.trans (runC_block _ _ _ k) (Eq.trans (e6_64 N (kblk 4 k) x7 x8 x11 x71 x72 x73) (by kernel_rfl))
def m6_61 (N : Nat) (x7 x8 x11 : D) (K : D → D → Option R) (Kr : D → Option R) : Option R :=
  (m6_62 N x7 x8 x11 (fun y7 y8 y11 y71 y72 y73 => (m6_63 N y7 y8 y11 y71 y72 y73 (fun y8 y11 => K y8 y11) Kr)))
theorem e6_61 (N : Nat) (k : Kn R) (x7 x8 x11 : D) : runC PHI Tb5 N vc6_61 (s6_5 x7 x8 x11) k = m6_61 N x7 x8 x11 (fun x8 x11 => k .normal (s6_7 x8 x11)) (fun x4 => k .ret (s6_1 x4)) := by
  have h2 := e6_62 N (kseq PHI Tb5 N vc6_63 k) x7 x8 x11
  have h3 := (funext fun y7 => funext fun y8 => funext fun y11 => funext fun y71 => funext fun y72 => funext fun y73 => (e6_63 N k y7 y8 y11 y71 y72 y73) : (fun (y7 y8 y11 y71 y72 y73 : D) => (kseq PHI Tb5 N vc6_63 k) .normal (s6_6 y7 y8 y11 y71 y72 y73)) = _)
  refine Eq.trans (runC_seq _ _ _ k) (Eq.trans h2 (Eq.trans (congrArg (fun K => m6_62 N x7 x8 x11 K) h3) (by kernel_rfl)))
def m6_83 (N : Nat) (x8 x11 : D) (Kr : D → Option R) : Option R :=
  Kr (D.b (leb (x11.toL.length : Int) (x8.toL.length : Int)))
theorem e6_83 (N : Nat) (k : Kn R) (x8 x11 : D) : runC PHI Tb5 N vc6_83 (s6_7 x8 x11) k = m6_83 N x8 x11 (fun x4 => k .ret (s6_1 x4)) := by kernel_rfl
def m6_60 (N : Nat) (x7 x8 x11 : D) (Kr : D → Option R) : Option R :=
  (m6_61 N x7 x8 x11 (fun y8 y11 => (m6_83 N y8 y11 Kr)) Kr)
theorem e6_60 (N : Nat) (k : Kn R) (x7 x8 x11 : D) : runC PHI Tb5 N vc6_60 (s6_5 x7 x8 x11) k = m6_60 N x7 x8 x11 (fun x4 => k .ret (s6_1 x4)) := by
  have h2 := e6_61 N (kseq PHI Tb5 N vc6_83 k) x7 x8 x11
  have h3 := (funext fun y8 => funext fun y11 => (e6_83 N k y8 y11) : (fun (y8 y11 : D) => (kseq PHI Tb5 N vc6_83 k) .normal (s6_7 y8 y11)) = _)
  refine Eq.trans (runC_seq _ _ _ k) (Eq.trans h2 (Eq.trans (congrArg (fun K => m6_61 N x7 x8 x11 K (fun x4 => (kseq PHI Tb5 N vc6_83 k) .ret (s6_1 x4))) h3) (by kernel_rfl)))
def m6_58 (N : Nat) (x0 x1 x7 x8 : D) (Kr : D → Option R) : Option R :=
  (m6_59 N x0 x1 x7 x8 (fun y7 y8 y11 => (m6_60 N y7 y8 y11 Kr)))
theorem e6_58 (N : Nat) (k : Kn R) (x0 x1 x7 x8 : D) : runC PHI Tb5 N vc6_58 (s6_3 x0 x1 x7 x8) k = m6_58 N x0 x1 x7 x8 (fun x4 => k .ret (s6_1 x4)) := by
  have h2 := e6_59 N (kseq PHI Tb5 N vc6_60 k) x0 x1 x7 x8
  have h3 := (funext fun y7 => funext fun y8 => funext fun y11 => (e6_60 N k y7 y8 y11) : (fun (y7 y8 y11 : D) => (kseq PHI Tb5 N vc6_60 k) .normal (s6_5 y7 y8 y11)) = _)
  refine Eq.trans (runC_seq _ _ _ k) (Eq.trans h2 (Eq.trans (congrArg (fun K => m6_59 N x0 x1 x7 x8 K) h3) (by kernel_rfl)))
def m6_35 (N : Nat) (x0 x1 x7 x8 : D) (Kr : D → Option R) : Option R :=
  (m6_36 N x0 x1 x7 x8 (fun y0 y1 y7 y8 => (m6_58 N y0 y1 y7 y8 Kr)) Kr)
theorem e6_35 (N : Nat) (k : Kn R) (x0 x1 x7 x8 : D) : runC PHI Tb5 N vc6_35 (s6_3 x0 x1 x7 x8) k = m6_35 N x0 x1 x7 x8 (fun x4 => k .ret (s6_1 x4)) := by
  have h2 := e6_36 N (kseq PHI Tb5 N vc6_58 k) x0 x1 x7 x8
  have h3 := (funext fun y0 => funext fun y1 => funext fun y7 => funext fun y8 => (e6_58 N k y0 y1 y7 y8) : (fun (y0 y1 y7 y8 : D) => (kseq PHI Tb5 N vc6_58 k) .normal (s6_3 y0 y1 y7 y8)) = _)
  refine Eq.trans (runC_seq _ _ _ k) (Eq.trans h2 (Eq.trans (congrArg (fun K => m6_36 N x0 x1 x7 x8 K (fun x4 => (kseq PHI Tb5 N vc6_58 k) .ret (s6_1 x4))) h3) (by kernel_rfl)))
def m6_33 (N : Nat) (x0 x1 : D) (Kr : D → Option R) : Option R :=
  (m6_34 N x0 x1 (fun y0 y1 y7 y8 => (m6_35 N y0 y1 y7 y8 Kr)))
theorem e6_33 (N : Nat) (k : Kn R) (x0 x1 : D) : runC PHI Tb5 N vc6_33 (s6_0 x0 x1) k = m6_33 N x0 x1 (fun x4 => k .ret (s6_1 x4)) := by
  have h2 := e6_34 N (kseq PHI Tb5 N vc6_35 k) x0 x1
  have h3 := (funext fun y0 => funext fun y1 => funext fun y7 => funext fun y8 => (e6_35 N k y0 y1 y7 y8) : (fun (y0 y1 y7 y8 : D) => (kseq PHI Tb5 N vc6_35 k) .normal (s6_3 y0 y1 y7 y8)) = _)
  refine Eq.trans (runC_seq _ _ _ k) (Eq.trans h2 (Eq.trans (congrArg (fun K => m6_34 N x0 x1 K) h3) (by kernel_rfl)))
def m6_10 (N : Nat) (x0 x1 : D) (Kr : D → Option R) : Option R :=
  (m6_11 N x0 x1 (fun y0 y1 => (m6_33 N y0 y1 Kr)) Kr)
theorem e6_10 (N : Nat) (k : Kn R) (x0 x1 : D) : runC PHI Tb5 N vc6_10 (s6_0 x0 x1) k = m6_10 N x0 x1 (fun x4 => k .ret (s6_1 x4)) := by
  have h2 := e6_11 N (kseq PHI Tb5 N vc6_33 k) x0 x1
  have h3 := (funext fun y0 => funext fun y1 => (e6_33 N k y0 y1) : (fun (y0 y1 : D) => (kseq PHI Tb5 N vc6_33 k) .normal (s6_0 y0 y1)) = _)
  refine Eq.trans (runC_seq _ _ _ k) (Eq.trans h2 (Eq.trans (congrArg (fun K => m6_11 N x0 x1 K (fun x4 => (kseq PHI Tb5 N vc6_33 k) .ret (s6_1 x4))) h3) (by kernel_rfl)))
def m6_2 (N : Nat) (x0 x1 : D) (Kr : D → Option R) : Option R :=
  (m6_3 N x0 x1 (fun y0 y1 => (m6_10 N y0 y1 Kr)) Kr)
theorem e6_2 (N : Nat) (k : Kn R) (x0 x1 : D) : runC PHI Tb5 N vc6_2 (s6_0 x0 x1) k = m6_2 N x0 x1 (fun x4 => k .ret (s6_1 x4)) := by
  have h2 := e6_3 N (kseq PHI Tb5 N vc6_10 k) x0 x1
  have h3 := (funext fun y0 => funext fun y1 => (e6_10 N k y0 y1) : (fun (y0 y1 : D) => (kseq PHI Tb5 N vc6_10 k) .normal (s6_0 y0 y1)) = _)
  refine Eq.trans (runC_seq _ _ _ k) (Eq.trans h2 (Eq.trans (congrArg (fun K => m6_3 N x0 x1 K (fun x4 => (kseq PHI Tb5 N vc6_10 k) .ret (s6_1 x4))) h3) (by kernel_rfl)))
def m6_0 (N : Nat) (x0 x1 : D) (Kr : D → Option R) : Option R :=
  (m6_1 N x0 x1 (fun y0 y1 => (m6_2 N y0 y1 Kr)))
theorem e6_0 (N : Nat) (k : Kn R) (x0 x1 : D) : runC PHI Tb5 N vc6_0 (s6_0 x0 x1) k = m6_0 N x0 x1 (fun x4 => k .ret (s6_1 x4)) := by
  have h2 := e6_1 N (kseq PHI Tb5 N vc6_2 k) x0 x1
  have h3 := (funext fun y0 => funext fun y1 => (e6_2 N k y0 y1) : (fun (y0 y1 : D) => (kseq PHI Tb5 N vc6_2 k) .normal (s6_0 y0 y1)) = _)
  refine Eq.trans (runC_seq _ _ _ k) (Eq.trans h2 (Eq.trans (congrArg (fun K => m6_1 N x0 x1 K) h3) (by kernel_rfl)))
theorem r6 (N : Nat) (x0 x1 : D) : runC PHI Tb5 N vf6.body (enterV vf6 [V.f x0, V.f x1] []) (finish vf6) = m6_0 N x0 x1 (fun x4 => finish vf6 .ret (s6_1 x4)) := 
  Eq.trans (runC_pre (s1 := (s6_0 x0 x1)) (by kernel_rfl) _ _) (Eq.trans (e6_0 N (finish vf6) x0 x1) (by kernel_rfl))
end
section
variable {R : Type}
theorem ps39 (N : Nat) (x0 x1 one al : D) (K2 : D → D → D → D → Option R) (Kr : D → Option R) (hu : one.toL.length ≤ 8388608) (hs : ∀ i, i < one.toL.length → i < al.toL.length → al.toL.getD i .nil = one.toL.getD i .nil) (hN : 8388609 ≤ N) :
    l6_39 N N x0 x1 one al one (.i (one.toL.length : Int)) (.i 0) K2 Kr = K2 x0 x1 one al :=
  loop_pass (fun j i => l6_39 N j x0 x1 one al one (.i (one.toL.length : Int)) (.i (i : Nat)) K2 Kr) one.toL.length _
    (fun j i hi => by
      simp only [l6_39, m6_40, toI_i, cond_true, cond_false, ltb_n hi, inb_t hi, at_nat, succ_n hi (show one.toL.length ≤ 9223372036854775807 by omega)]
      by_cases hl : i < al.toL.length
      · rw [ltb_n hl, inb_t hl, hs i hi hl, sp14_self]; rfl
      · rw [ltb_f (show ¬ (i : Int) < (al.toL.length : Int) by omega)]; rfl)
    (fun j => by simp only [l6_39, m6_40, toI_i, ltb_self, cond_false])
    one.toL.length 0 N (by omega) (by omega)
theorem ps64 (N : Nat) (one al few : D) (K4 : D → D → Option R) (Kr : D → Option R) (hu : few.toL.length ≤ 16) (hs : ∀ i, i < few.toL.length → i < one.toL.length → few.toL.getD i .nil = one.toL.getD i .nil) (hN : 8388609 ≤ N) :
    l6_64 N N one al few few (.i (few.toL.length : Int)) (.i 0) K4 Kr = K4 al few :=
  loop_pass (fun j i => l6_64 N j one al few few (.i (few.toL.length : Int)) (.i (i : Nat)) K4 Kr) few.toL.length _
    (fun j i hi => by
      simp only [l6_64, m6_65, toI_i, cond_true, cond_false, ltb_n hi, inb_t hi, at_nat, succ_n hi (show few.toL.length ≤ 9223372036854775807 by omega)]
      by_cases hl : i < one.toL.length
      · rw [ltb_n hl, inb_t hl, hs i hi hl, sp14_self]; rfl
      · rw [ltb_f (show ¬ (i : Int) < (one.toL.length : Int) by omega)]; rfl)
    (fun j => by simp only [l6_64, m6_65, toI_i, ltb_self, cond_false])
    few.toL.length 0 N (by omega) (by omega)
end
def Tb6 : CallF := extend Tb5 6 (fn2 (fun _ _ => true) fun _ _ => .f (.b true))
theorem ok6 : FnOk Try.prog PHI Tb6 := FnOk.add2 (vf := vf6) hPHI ok5 (by kernel_rfl) fun l n ha _ => by
  have hl := (ha.is 0 rfl rfl).len' (e := 26) (by kernel_rfl)
  obtain ⟨N, hN, hN2⟩ : ∃ N, 8388609 ≤ N ∧ l.toL.length + 1 ≤ N := ⟨l.toL.length + 8388609, by omega, by omega⟩
  refine ⟨N, (r6 _ l n).trans ?_⟩
  simp only [m6_0, m6_1, m6_2, m6_3, m6_10, m6_11, m6_12, m6_13, m6_14]
  show (bif false then _ else _) = _
  cases h8 : ltb 8 (l.toL.length : Int)
  · cases h0 : eqb (l.toL.length : Int) 0
    · simp only [cond_false]
      have h := loop_find (fun j i => l6_14 N j l n l (.i (l.toL.length : Int)) (.i (i : Nat)) (fun y0 y1 => m6_33 N y0 y1 fun x4 => finish vf6 .ret (s6_1 x4)) (fun x4 => finish vf6 .ret (s6_1 x4))) (fun i => !sp8 (l.toL.getD i .nil)) l.toL.length (m6_33 N l n fun x4 => finish vf6 .ret (s6_1 x4)) (fun i => finish vf6 .ret (s6_1 (.b true)))
        (fun j i hi => by simp only [l6_14, m6_15, toI_i, cond_true, ltb_n hi, inb_t hi, at_nat, succ_n hi hl])
        (fun j => by simp only [l6_14, m6_15, toI_i, ltb_self, cond_false])
        l.toL.length 0 N (by omega) (by omega)
      refine h.trans ?_
      rw [fst_any0 (fun q => !sp8 q)]
      cases hs : l.toL.any fun q => !sp8 q
      · have hp := small_all h8 hs
        have hp' := hp
        simp only [prAll, Bool.and_eq_true, List.all_eq_true] at hp'
        have hpos : 0 < l.toL.length := by
          rcases Nat.eq_zero_or_pos l.toL.length with e | e
          · rw [e] at h0; exact absurd h0 (by decide)
          · exact e
        have e0 : l.at (0 : Int).toNat = l.toL.getD 0 .nil := rfl
        obtain ⟨q, rest, hq⟩ : ∃ q rest, l.toL = q :: rest := by
          cases hc : l.toL with
          | nil => rw [hc] at hpos; simp at hpos
          | cons q rest => exact ⟨q, rest, rfl⟩
        have eq0 : l.toL.getD 0 .nil = q := by rw [hq]; rfl
        have hpq : prOf q = true := hp'.2 q (by rw [hq]; exact List.mem_cons_self)
        have i0 : inb 0 l.toL.length = true := inb_of (by omega) (by omega)
        simp only [cond_false, m6_33, m6_34, m6_35, m6_36, m6_37, m6_38, m6_39, e0, eq0, i0, show pr10 q = true from hpq, show ∀ x, pr12 l x = true from fun _ => hp, cond_true]
        have b16 : mx 16 = 16 := rfl
        have la : ((sp12 l (.i 16)).toL.length : Int) ≤ 16 := leM_12 l (.i 16)
        rw [ps39 N _ _ _ _ _ _ (len_10 hpq) (fun i h1 h2 => by
          obtain ⟨r, hr⟩ := first_12 hq (.i 16)
          rw [hr]
          exact first_get h1 (by show i < (mx 16).toNat; rw [b16]; show i < 16; omega)) hN]
        simp only [m6_58, m6_59, m6_60, m6_61, m6_62, m6_63, m6_64, m6_83, show ∀ x, pr12 l x = true from fun _ => hp, cond_true]
        generalize hm' : mmI true 0 [mmI false n.toI [((sp12 l (.i 16)).toL.length : Int)]] = m'
        have hb : m' ≤ ((sp12 l (.i 16)).toL.length : Int) ∧ 0 ≤ m' := by
          rw [← hm']
          simp only [mmI, cond_true, cond_false]
          split <;> split <;> omega
        have hmx : mx m' = m' := by
          unfold mx
          simp only [mmI, cond_true, cond_false]
          split <;> split <;> omega
        have lf : ((sp12 l (.i m')).toL.length : Int) ≤ m' := by
          have := leM_12 l (.i m')
          unfold leM at this
          rw [toI_i, hmx] at this; exact this
        rw [ps64 N _ _ _ _ _ (by omega) (fun i h1 h2 => by
          obtain ⟨r, hr⟩ := first_12 hq (.i m')
          rw [hr]
          exact first_get h2 (by show i < (mx m').toNat; rw [hmx]; omega)) hN]
        rw [leb_t (show ((sp12 l (.i m')).toL.length : Int) ≤ ((sp12 l (.i 16)).toL.length : Int) by omega)]
        rfl
      · rfl
    · rfl
  · rfl

end Go.Vam.C20
