/- Chapter 20: what functions come to, part 5. No conditions. -/
import Derived.Test.YtbpgfdjencpcmaaP4
import Derived.KernelRfl
set_option linter.unusedVariables false
set_option linter.unusedSimpArgs false
set_option maxRecDepth 100000
namespace Go.Vam.C20
open Go.Proofs
/-! ### Merge -/
theorem sp42_27 (xs : D) : cutD xs (mmI false (xs.toL.length : Int) [3]).toNat (0 : Int).toNat = sp27 xs (.i 3) := rfl
def sp30_0 (a b : D) : D := bif eqb (a.at 0).toI (b.at 0).toI then .ag [a.at 0, sp27 (sp19 (a.at 1) (b.at 1)) (.i 3), .b false] else .ag [.i 0, .sz [], .b false]
def sp30_1 (a b : D) : Bool := eqb (a.at 0).toI (b.at 0).toI
def pr30 (a b : D) : Bool := pr19 (a.at 1) (b.at 1)
section
variable {R : Type}
def m30_0 (N : Nat) (x0 x1 : D) (Kr : D → D → Option R) : Option R :=
  (bif (!eqb (x0.at 0).toI (x1.at 0).toI) then Kr (D.p (D.ag [(D.i 0), (D.sz []), (D.b false)])) (D.b false) else (bif (pr19 (x0.at 1) (x1.at 1)) then (bif (leb 0 0 && leb 0 (mmI false ((sp19 (x0.at 1) (x1.at 1)).toL.length : Int) [3]) && leb (mmI false ((sp19 (x0.at 1) (x1.at 1)).toL.length : Int) [3]) ((sp19 (x0.at 1) (x1.at 1)).toL.length : Int)) then Kr (D.p (D.ag [(x0.at 0), (cutD (sp19 (x0.at 1) (x1.at 1)) ((mmI false ((sp19 (x0.at 1) (x1.at 1)).toL.length : Int) [3]) : Int).toNat (0 : Int).toNat), (D.b false)])) (D.b true) else none) else none))
def s30_0 (x0 x1 : D) : St := sts 26 [(0, V.f x0), (1, V.f x1)] []
def s30_1 (x4 x5 : D) : St := sts 26 [(4, V.f x4), (5, V.f x5)] []
theorem e30_0 (N : Nat) (k : Kn R) (x0 x1 : D) : runC PHI Tb3 N vc30_0 (s30_0 x0 x1) k = m30_0 N x0 x1 (fun x4 x5 => k .ret (s30_1 x4 x5)) := by kernel_rfl
theorem r30 (N : Nat) (x0 x1 : D) : runC PHI Tb3 N vf30.body (enterV vf30 [V.f x0, V.f x1] []) (finish vf30) = m30_0 N x0 x1 (fun x4 x5 => finish vf30 .ret (s30_1 x4 x5)) := 
  Eq.trans (runC_pre (s1 := (s30_0 x0 x1)) (by kernel_rfl) _ _) (Eq.trans (e30_0 N (finish vf30) x0 x1) (by kernel_rfl))
end
def Tb30 : CallF := extend Tb3 30 (fn2 pr30 fun a b => .t [.f (sp30_0 a b), .f (.b (sp30_1 a b))])
theorem ok30 : FnOk Try.prog PHI Tb30 := FnOk.add2 hPHI ok3 (by kernel_rfl) fun a b ha hp => ⟨0, (r30 0 a b).trans (by
  unfold m30_0 sp30_0 sp30_1
  rw [show pr19 (a.at 1) (b.at 1) = true from hp, mm_guard]
  cases eqb (a.at 0).toI (b.at 0).toI <;> rfl)⟩
def sp31_0 (a b : D) : D := bif eqb (a.at 0).toI (b.at 0).toI then .ag [a.at 0, sp27 (sp28 (a.at 1) (b.at 1)) (.i 3), .b false] else .ag [.i 0, .sz [], .b false]
def sp31_1 (a b : D) : Bool := eqb (a.at 0).toI (b.at 0).toI
def pr31 (a b : D) : Bool := pr28 (a.at 1) (b.at 1)
section
variable {R : Type}
def m31_0 (N : Nat) (x0 x1 : D) (Kr : D → D → Option R) : Option R :=
  (bif (!eqb (x0.at 0).toI (x1.at 0).toI) then Kr (D.p (D.ag [(D.i 0), (D.sz []), (D.b false)])) (D.b false) else (bif (pr28 (x0.at 1) (x1.at 1)) then (bif (pr27 (sp28 (x0.at 1) (x1.at 1)) (D.i 3)) then Kr (D.p (D.ag [(x0.at 0), (sp27 (sp28 (x0.at 1) (x1.at 1)) (D.i 3)), (D.b false)])) (D.b true) else none) else none))
def s31_0 (x0 x1 : D) : St := sts 21 [(0, V.f x0), (1, V.f x1)] []
def s31_1 (x4 x5 : D) : St := sts 21 [(4, V.f x4), (5, V.f x5)] []
theorem e31_0 (N : Nat) (k : Kn R) (x0 x1 : D) : runC PHI Tb30 N vc31_0 (s31_0 x0 x1) k = m31_0 N x0 x1 (fun x4 x5 => k .ret (s31_1 x4 x5)) := by kernel_rfl
theorem r31 (N : Nat) (x0 x1 : D) : runC PHI Tb30 N vf31.body (enterV vf31 [V.f x0, V.f x1] []) (finish vf31) = m31_0 N x0 x1 (fun x4 x5 => finish vf31 .ret (s31_1 x4 x5)) := 
  Eq.trans (runC_pre (s1 := (s31_0 x0 x1)) (by kernel_rfl) _ _) (Eq.trans (e31_0 N (finish vf31) x0 x1) (by kernel_rfl))
end
def Tb31 : CallF := extend Tb30 31 (fn2 pr31 fun a b => .t [.f (sp31_0 a b), .f (.b (sp31_1 a b))])
theorem ok31 : FnOk Try.prog PHI Tb31 := FnOk.add2 hPHI ok30 (by kernel_rfl) fun a b ha hp => ⟨0, (r31 0 a b).trans (by
  unfold m31_0 sp31_0 sp31_1
  rw [show pr28 (a.at 1) (b.at 1) = true from hp, show pr27 (sp28 (a.at 1) (b.at 1)) (.i 3) = true from rfl]
  cases eqb (a.at 0).toI (b.at 0).toI <;> rfl)⟩
/-! ### What an index told is -/
/-- Unlike each other. -/
def nd (ys : List D) : Prop := ys.Pairwise fun x y => x.toI ≠ y.toI
def goodD (d : D) : Prop := ∃ t ys, d = .ag [t, .sl ys, .b false] ∧ ys ≠ [] ∧ ys.length ≤ 3 ∧ nd ys
def sameTC (a b : D) : Bool := eqb (a.at 0).toI (b.at 0).toI && sp40 (a.at 1) (b.at 1)
def goodL (o : D) : Prop := (∀ d ∈ o.toL, goodD d) ∧ o.toL.Pairwise fun a b => sameTC a b = false
theorem goodL.real {o : D} (h : goodL o) : realF o := fun d hd => by obtain ⟨t, ys, rfl, _⟩ := h.1 d hd; rfl
theorem goodL_nil : goodL (.sz []) := ⟨fun d hd => (by cases hd), List.Pairwise.nil⟩
theorem nd_take {xs : List D} (h : nd xs) (n : Nat) : nd (xs.take n) := List.Pairwise.sublist (List.take_sublist n xs) h
theorem goodL_addS {o t : D} {xs : List D} (h : goodL o) (hx : nd xs) : goodL (addS o t xs) := by
  unfold addS
  cases hc : (xs.take 3).isEmpty || o.toL.any (fun d => eqb (d.at 0).toI t.toI && sp40 (d.at 1) (.sl (xs.take 3)))
  · simp only [Bool.or_eq_false_iff, List.any_eq_false] at hc
    obtain ⟨h1, h2⟩ := hc
    refine ⟨fun d hd => ?_, ?_⟩
    · simp only [cond_false, toL_sl, List.mem_append, List.mem_singleton] at hd
      rcases hd with hd | rfl
      · exact h.1 d hd
      · exact ⟨t, xs.take 3, rfl, (fun e => by rw [e] at h1; cases h1), (by rw [List.length_take]; omega), nd_take hx 3⟩
    · simp only [cond_false, toL_sl]
      rw [List.pairwise_append]
      refine ⟨h.2, List.pairwise_singleton _ _, fun a ha b hb => ?_⟩
      rw [List.mem_singleton] at hb
      subst hb
      exact Bool.eq_false_iff.2 (h2 a ha)
  · exact h
theorem nd_add1 {xs : List D} {c : D} (h : nd xs) : nd (add1 xs c) := by
  unfold add1
  cases hc : has xs c
  · show nd (xs ++ [c])
    unfold nd
    rw [List.pairwise_append]
    refine ⟨h, List.pairwise_singleton _ _, fun a ha b hb => ?_⟩
    rw [List.mem_singleton] at hb
    subst hb
    intro e
    have : has xs b = true := List.any_eq_true.2 ⟨a, ha, eqb_t e.symm⟩
    rw [hc] at this; cases this
  · exact h
theorem nd_uni : ∀ (ys xs : List D), nd xs → nd (uni xs ys)
  | [], xs, h => h
  | y :: ys, xs, h => nd_uni ys (add1 xs y) (nd_add1 h)
theorem nd_stepA {q : D} {f : Int} {sg : D → Bool} {op x o : D} {s : List D} (h : nd s) : nd (stepA q f sg op x o s) := by
  unfold stepA
  cases eqb (x.at 0).toI 2 && (eqb (sp43 q (x.at 3)) f && (sg op && !rdN o.wt q o f))
  · exact h
  · exact nd_add1 h
theorem nd_fold {g : List D → D → List D} (hg : ∀ s x, nd s → nd (g s x)) : ∀ (l s : List D), nd s → nd (l.foldl g s)
  | [], s, h => h
  | x :: l, s, h => nd_fold hg l _ (hg s x h)
theorem nd_held (q : D) (f : Int) (sg : D → Bool) : nd (heldL q f sg) := by
  refine nd_fold (fun s n h => ?_) _ _ List.Pairwise.nil
  unfold stepN
  cases eqb (n.at 0).toI 7 && eqb ((n.at 6).toL.length : Int) 2
  · exact h
  · exact nd_stepA (nd_stepA h)
theorem nd_plc {q : D} {f : Int} : ∀ (l s r : List D), nd s → runO (plcO q f) l s = some r → nd r
  | [], s, r, hs, h => by injection h with h; subst h; exact hs
  | a :: l, s, r, hs, h => by
    rw [runO] at h
    unfold plcO at h
    cases hq : eqb (sp43 q a) f
    · rw [hq] at h; cases h
    · rw [hq] at h
      exact nd_plc l _ r (nd_add1 hs) h
theorem nd_by (q : D) (f : Int) : nd (byL q f) := by
  unfold byL
  cases sp20 q && !(q.at 7).toL.any sp22
  · exact List.Pairwise.nil
  · simp only [cond_true]
    cases h : runO (plcO q f) ((q.at 7).toL.map fun x => x.at 0) [] with
    | none => exact List.Pairwise.nil
    | some r => exact nd_plc _ _ _ List.Pairwise.nil h
theorem goodL_fold {g : D → D → D} (h : ∀ o c, goodL o → goodL (g o c)) : ∀ (l : List D) (o : D), goodL o → goodL (l.foldl g o)
  | [], o, ho => ho
  | x :: l, o, ho => goodL_fold h l _ (h o x ho)
theorem goodL_ofT {q t : D} {f : Int} {o : D} (h : goodL o) : goodL (ofT q t f o) := by
  unfold ofT
  simp only
  have h3 := goodL_fold (g := of3 t) (fun o c ho => goodL_addS ho (List.pairwise_singleton _ _)) (uni (heldL q f (sgn true)) (heldL q f (sgn false))) _ (goodL_fold (g := of2 t (heldL q f (sgn true))) (fun o c ho => goodL_addS ho (nd_add1 (nd_take (nd_held q f (sgn true)) 2))) (heldL q f (sgn false)) _ (goodL_addS (t := t) h (nd_held q f (sgn true))))
  cases ltb 0 ((byL q f).length : Int)
  · exact goodL_addS h3 (nd_by q f)
  · exact goodL_addS (goodL_addS h3 (nd_by q f)) (nd_uni _ _ (nd_held q f (sgn true)))
theorem goodL_10 (q : D) : goodL (sp10 q) := by
  have := foldI_inv (n := nOf q) (f := fun i o => ofT q ((q.at 0).toL.getD i .nil) (i : Nat) o) (I := fun _ o => goodL o) (fun i s _ hs => goodL_ofT hs) (nOf q) 0 (.sz []) (by omega) goodL_nil
  exact this
theorem len_10 {q : D} (hp : prOf q = true) : (sp10 q).toL.length ≤ 8388608 := by
  simp only [prOf, Bool.and_eq_true] at hp
  have ht := leN_le hp.1
  have hm : nOf q ≤ (q.at 0).toL.length := Nat.min_le_left _ _
  have := foldI_inv (n := nOf q) (f := fun i o => ofT q ((q.at 0).toL.getD i .nil) (i : Nat) o) (I := fun i o => o.toL.length ≤ 8192 * i) (fun i s _ hs => by
    have := ofT_len q ((q.at 0).toL.getD i .nil) (i : Nat) s (leN_le hp.2.1); omega) (nOf q) 0 (.sz []) (by omega) (by simp [D.toL])
  have h2 : (sp10 q).toL.length ≤ 8192 * nOf q := this
  omega

end Go.Vam.C20
namespace Go.Vam.C20
open Go.Proofs
theorem loop_fold2 {R σ : Type} (L : Nat → Nat → σ → Option R) (K : σ → Option R) (n : Nat) (f : Nat → σ → σ) (I : Nat → σ → Prop) (hs : ∀ j i s, i < n → I i s → L (j + 1) i s = L j (i + 1) (f i s) ∨ (L (j + 1) i s = K s ∧ ∀ i, f i s = s)) (hI : ∀ i s, i < n → I i s → I (i + 1) (f i s)) (he : ∀ j s, I n s → L (j + 1) n s = K s) :
    ∀ k i j s, i + k = n → k < j → I i s → L j i s = K (foldI f k i s)
  | _, _, 0, _, _, h, _ => by omega
  | 0, i, j + 1, s, h, _, hi => by
    have : i = n := by omega
    subst this
    rw [he j s hi]; rfl
  | k + 1, i, j + 1, s, h, h', hi => by
    rcases hs j i s (by omega) hi with h1 | ⟨h1, h2⟩
    · rw [h1, foldI]
      exact loop_fold2 L K n f I hs hI he k (i + 1) j _ (by omega) (by omega) (hI i s (by omega) hi)
    · rw [h1]
      have : ∀ k i, foldI f k i s = s := by
        intro k
        induction k with
        | zero => intro i; rfl
        | succ k ih => intro i; rw [foldI, h2 i]; exact ih _
      rw [this]
/-! ### The indexes that might help queries -/
def mx (n : Int) : Int := mmI true 0 [mmI false n [16]]
theorem mx_b (n : Int) : mx n ≤ 16 := by
  unfold mx
  simp only [mmI, cond_true, cond_false]
  split <;> split <;> omega
def addM (m : Int) (o t : D) (xs : List D) : D := bif ltb (o.toL.length : Int) m then addS o t xs else o
def gA (m : Int) (o d : D) : D := addM m o (d.at 0) (d.at 1).toL
def gQ (m : Int) (o q : D) : D := (sp10 q).toL.foldl (gA m) o
def gM (m : Int) (a o b : D) : D := bif eqb (a.at 0).toI (b.at 0).toI then addM m o (a.at 0) ((uni (a.at 1).toL (b.at 1).toL).take 3) else o
def gB (m : Int) (base o a : D) : D := base.toL.foldl (gM m a) o
def all1 (l : D) (m : Int) : D := l.toL.foldl (gQ m) (.sz [])
def sp12 (l n : D) : D := (all1 l (mx n.toI)).toL.foldl (gB (mx n.toI) (all1 l (mx n.toI))) (all1 l (mx n.toI))
def prAll (l : D) : Bool := leN l.toL.length 8 && l.toL.all prOf
def pr12 (l _ : D) : Bool := prAll l
/-- Good, and no more than sixteen. -/
def good16 (o : D) : Prop := goodL o ∧ o.toL.length ≤ 16
theorem g16_addM {m : Int} {o t : D} {xs : List D} (hm : m ≤ 16) (h : good16 o) (hx : nd xs) : good16 (addM m o t xs) := by
  unfold addM
  by_cases hl : (o.toL.length : Int) < m
  · rw [ltb_t hl]
    have := addS_len o t xs
    exact ⟨goodL_addS h.1 hx, by simp only [cond_true]; omega⟩
  · rw [ltb_f hl]; exact h
theorem goodD.nd {d : D} (h : goodD d) : nd (d.at 1).toL := by obtain ⟨t, ys, rfl, _, _, h⟩ := h; exact h
theorem g16_gA {m : Int} {o d : D} (hm : m ≤ 16) (h : good16 o) (hd : goodD d) : good16 (gA m o d) := g16_addM hm h hd.nd
theorem g16_fold {g : D → D → D} {p : D → Prop} (hg : ∀ o d, good16 o → p d → good16 (g o d)) : ∀ (l : List D) (o : D), (∀ d ∈ l, p d) → good16 o → good16 (l.foldl g o)
  | [], o, _, h => h
  | x :: l, o, hp, h => g16_fold hg l _ (fun d hd => hp d (List.mem_cons_of_mem _ hd)) (hg o x h (hp x List.mem_cons_self))
theorem g16_gQ {m : Int} {o q : D} (hm : m ≤ 16) (h : good16 o) : good16 (gQ m o q) := g16_fold (p := goodD) (fun o d ho hd => g16_gA hm ho hd) _ _ (goodL_10 q).1 h
theorem g16_gM {m : Int} {a o b : D} (hm : m ≤ 16) (h : good16 o) (ha : goodD a) : good16 (gM m a o b) := by
  unfold gM
  cases eqb (a.at 0).toI (b.at 0).toI
  · exact h
  · exact g16_addM hm h (nd_take (nd_uni _ _ ha.nd) 3)
theorem g16_gB {m : Int} {base o a : D} (hm : m ≤ 16) (h : good16 o) (ha : goodD a) : good16 (gB m base o a) := g16_fold (p := fun _ => True) (fun o d ho _ => g16_gM hm ho ha) _ _ (fun _ _ => trivial) h
theorem g16_nil : good16 (.sz []) := ⟨goodL_nil, by simp [D.toL]⟩
theorem g16_all1 (l : D) {m : Int} (hm : m ≤ 16) : good16 (all1 l m) := g16_fold (p := fun _ => True) (fun o d ho _ => g16_gQ hm ho) _ _ (fun _ _ => trivial) g16_nil
theorem g16_12 (l n : D) : good16 (sp12 l n) := g16_fold (p := goodD) (fun o d ho hd => g16_gB (mx_b _) ho hd) _ _ (g16_all1 l (mx_b _)).1.1 (g16_all1 l (mx_b _))
theorem getD_mem {xs : List D} {i : Nat} (h : i < xs.length) : xs.getD i .nil ∈ xs := by rw [getD_at h]; exact List.getElem_mem h
section
variable {R : Type}
def m12_1 (N : Nat) (x0 x1 : D) (K : D → D → Option R) : Option R :=
  K x0 x1
def s12_0 (x0 x1 : D) : St := sts 80 [(0, V.f x0), (1, V.f x1)] []
theorem e12_1 (N : Nat) (k : Kn R) (x0 x1 : D) : runC PHI Tb31 N vc12_1 (s12_0 x0 x1) k = m12_1 N x0 x1 (fun x0 x1 => k .normal (s12_0 x0 x1)) := by
  refine Eq.trans (runC_post _ _ _ k) (Eq.trans (ops_run _ _ _ _) (by kernel_rfl))
def m12_3 (N : Nat) (x0 x1 : D) (K : D → D → Option R) : Option R :=
  K x0 (D.i (mmI true 0 [(mmI false x1.toI [16])]))
theorem e12_3 (N : Nat) (k : Kn R) (x0 x1 : D) : runC PHI Tb31 N vc12_3 (s12_0 x0 x1) k = m12_3 N x0 x1 (fun x0 x1 => k .normal (s12_0 x0 x1)) := by
  refine Eq.trans (runC_post _ _ _ k) (Eq.trans (ops_run _ _ _ _) (by kernel_rfl))
def m12_5 (N : Nat) (x0 x1 : D) (K : D → D → D → Option R) : Option R :=
  K x0 x1 (D.sz [])
def s12_1 (x0 x1 x5 : D) : St := sts 80 [(0, V.f x0), (1, V.f x1), (5, V.f x5)] []
theorem e12_5 (N : Nat) (k : Kn R) (x0 x1 : D) : runC PHI Tb31 N vc12_5 (s12_0 x0 x1) k = m12_5 N x0 x1 (fun x0 x1 x5 => k .normal (s12_1 x0 x1 x5)) := by
  refine Eq.trans (runC_post _ _ _ k) (Eq.trans (ops_run _ _ _ _) (by kernel_rfl))
def m12_8 (N : Nat) (x0 x1 x5 : D) (K : D → D → D → D → D → Option R) : Option R :=
  K x1 x5 x0 (D.i (x0.toL.length : Int)) (D.i 0)
def s12_2 (x1 x5 x20 x21 x22 : D) : St := sts 80 [(1, V.f x1), (5, V.f x5), (20, V.f x20), (21, V.f x21), (22, V.f x22)] []
theorem e12_8 (N : Nat) (k : Kn R) (x0 x1 x5 : D) : runC PHI Tb31 N vc12_8 (s12_1 x0 x1 x5) k = m12_8 N x0 x1 x5 (fun x1 x5 x20 x21 x22 => k .normal (s12_2 x1 x5 x20 x21 x22)) := by
  refine Eq.trans (runC_post _ _ _ k) (Eq.trans (ops_run _ _ _ _) (by kernel_rfl))
def m12_12 (N : Nat) (x1 x5 x20 x21 x22 : D) (K : D → D → D → D → D → D → Option R) : Option R :=
  K x1 x5 x20 x21 x22 (D.b (ltb x22.toI x21.toI))
def s12_3 (x1 x5 x20 x21 x22 x23 : D) : St := sts 80 [(1, V.f x1), (5, V.f x5), (20, V.f x20), (21, V.f x21), (22, V.f x22), (23, V.f x23)] []
theorem e12_12 (N : Nat) (k : Kn R) (x1 x5 x20 x21 x22 : D) : runC PHI Tb31 N vc12_12 (s12_2 x1 x5 x20 x21 x22) k = m12_12 N x1 x5 x20 x21 x22 (fun x1 x5 x20 x21 x22 x23 => k .normal (s12_3 x1 x5 x20 x21 x22 x23)) := by
  refine Eq.trans (runC_post _ _ _ k) (Eq.trans (ops_run _ _ _ _) (by kernel_rfl))
def m12_14 (N : Nat) (x1 x5 x20 x21 x22 x23 : D) (K : D → D → D → D → D → Option R) (K0 : D → D → Option R) : Option R :=
  (bif x23.toB then K x1 x5 x20 x21 x22 else K0 x1 x5)
def s12_4 (x1 x5 : D) : St := sts 80 [(1, V.f x1), (5, V.f x5)] []
theorem e12_14 (N : Nat) (k : Kn R) (x1 x5 x20 x21 x22 x23 : D) : runC PHI Tb31 N vc12_14 (s12_3 x1 x5 x20 x21 x22 x23) k = m12_14 N x1 x5 x20 x21 x22 x23 (fun x1 x5 x20 x21 x22 => k .normal (s12_2 x1 x5 x20 x21 x22)) (fun x1 x5 => k (.exit 0) (s12_4 x1 x5)) := by kernel_rfl
def m12_20 (N : Nat) (x1 x5 x20 x21 x22 : D) (K : D → D → D → D → D → D → Option R) : Option R :=
  (bif (inb x22.toI x20.toL.length) then K x1 x5 (D.p (x20.at (x22.toI : Int).toNat)) x20 x21 x22 else none)
def s12_5 (x1 x5 x7 x20 x21 x22 : D) : St := sts 80 [(1, V.f x1), (5, V.f x5), (7, V.f x7), (20, V.f x20), (21, V.f x21), (22, V.f x22)] []
theorem e12_20 (N : Nat) (k : Kn R) (x1 x5 x20 x21 x22 : D) : runC PHI Tb31 N vc12_20 (s12_2 x1 x5 x20 x21 x22) k = m12_20 N x1 x5 x20 x21 x22 (fun x1 x5 x7 x20 x21 x22 => k .normal (s12_5 x1 x5 x7 x20 x21 x22)) := by
  refine Eq.trans (runC_post _ _ _ k) (Eq.trans (ops_run _ _ _ _) (by kernel_rfl))
def m12_22 (N : Nat) (x1 x5 x7 x20 x21 x22 : D) (K : D → D → D → D → D → D → D → D → Option R) : Option R :=
  (bif (isPtrD x7) then (bif (pr10 x7.deref) then K x1 x5 x20 x21 x22 (sp10 x7.deref) (D.i ((sp10 x7.deref).toL.length : Int)) (D.i 0) else none) else none)
def s12_6 (x1 x5 x20 x21 x22 x27 x28 x29 : D) : St := sts 80 [(1, V.f x1), (5, V.f x5), (20, V.f x20), (21, V.f x21), (22, V.f x22), (27, V.f x27), (28, V.f x28), (29, V.f x29)] []
theorem e12_22 (N : Nat) (k : Kn R) (x1 x5 x7 x20 x21 x22 : D) : runC PHI Tb31 N vc12_22 (s12_5 x1 x5 x7 x20 x21 x22) k = m12_22 N x1 x5 x7 x20 x21 x22 (fun x1 x5 x20 x21 x22 x27 x28 x29 => k .normal (s12_6 x1 x5 x20 x21 x22 x27 x28 x29)) := by
  refine Eq.trans (runC_post _ _ _ k) (Eq.trans (ops_run _ _ _ _) (by kernel_rfl))
def m12_25 (N : Nat) (x1 x5 x20 x21 x22 x27 x28 x29 : D) (K : D → D → D → D → D → D → D → D → Option R) (K2 : D → D → D → D → D → Option R) : Option R :=
  (bif (ltb x29.toI x28.toI) then (bif (inb x29.toI x27.toL.length) then (bif (ltb (x5.toL.length : Int) x1.toI) then (bif (pr18 x5 ((x27.at (x29.toI : Int).toNat).at 0) ((x27.at (x29.toI : Int).toNat).at 1)) then K x1 (sp18 x5 ((x27.at (x29.toI : Int).toNat).at 0) ((x27.at (x29.toI : Int).toNat).at 1)) x20 x21 x22 x27 x28 (D.i (IntKind.wrap IntKind.i64 (x29.toI + 1))) else none) else K x1 x5 x20 x21 x22 x27 x28 (D.i (IntKind.wrap IntKind.i64 (x29.toI + 1)))) else none) else K2 x1 x5 x20 x21 x22)
theorem e12_25 (N : Nat) (k : Kn R) (x1 x5 x20 x21 x22 x27 x28 x29 : D) : runC PHI Tb31 N vc12_25 (s12_6 x1 x5 x20 x21 x22 x27 x28 x29) k = m12_25 N x1 x5 x20 x21 x22 x27 x28 x29 (fun x1 x5 x20 x21 x22 x27 x28 x29 => k .normal (s12_6 x1 x5 x20 x21 x22 x27 x28 x29)) (fun x1 x5 x20 x21 x22 => k (.exit 2) (s12_2 x1 x5 x20 x21 x22)) := by kernel_rfl
def l12_24 (N : Nat) (j : Nat) (x1 x5 x20 x21 x22 x27 x28 x29 : D) (K2 : D → D → D → D → D → Option R) : Option R :=
  match j with
  | 0 => none
  | j + 1 => (m12_25 N x1 x5 x20 x21 x22 x27 x28 x29 (fun y1 y5 y20 y21 y22 y27 y28 y29 => l12_24 N j y1 y5 y20 y21 y22 y27 y28 y29 K2) K2)
def m12_24 (N : Nat) (x1 x5 x20 x21 x22 x27 x28 x29 : D) (K2 : D → D → D → D → D → Option R) : Option R :=
  l12_24 N N x1 x5 x20 x21 x22 x27 x28 x29 K2
theorem el12_24 (N : Nat) (k : Kn R) : ∀ (j : Nat) (x1 x5 x20 x21 x22 x27 x28 x29 : D), loopGo (runC PHI Tb31 N vc12_25) j (s12_6 x1 x5 x20 x21 x22 x27 x28 x29) k = l12_24 N j x1 x5 x20 x21 x22 x27 x28 x29 (fun x1 x5 x20 x21 x22 => k (.exit 2) (s12_2 x1 x5 x20 x21 x22))
  | 0, _, _, _, _, _, _, _, _ => by kernel_rfl
  | j + 1, x1, x5, x20, x21, x22, x27, x28, x29 => by
    have h2 := e12_25 N (kloop PHI Tb31 N vc12_25 j k) x1 x5 x20 x21 x22 x27 x28 x29
    have h3 : (fun (y1 y5 y20 y21 y22 y27 y28 y29 : D) => (kloop PHI Tb31 N vc12_25 j k) .normal (s12_6 y1 y5 y20 y21 y22 y27 y28 y29)) = (fun (y1 y5 y20 y21 y22 y27 y28 y29 : D) => l12_24 N j y1 y5 y20 y21 y22 y27 y28 y29 (fun x1 x5 x20 x21 x22 => k (.exit 2) (s12_2 x1 x5 x20 x21 x22))) := funext fun y1 => funext fun y5 => funext fun y20 => funext fun y21 => funext fun y22 => funext fun y27 => funext fun y28 => funext fun y29 => (el12_24 N k j y1 y5 y20 y21 y22 y27 y28 y29)
    refine Eq.trans (loop_succ _ j _ k) (Eq.trans h2 (Eq.trans (congrArg (fun K => m12_25 N x1 x5 x20 x21 x22 x27 x28 x29 K (fun x1 x5 x20 x21 x22 => (kloop PHI Tb31 N vc12_25 j k) (.exit 2) (s12_2 x1 x5 x20 x21 x22))) h3) (by kernel_rfl)))
theorem e12_24 (N : Nat) (k : Kn R) (x1 x5 x20 x21 x22 x27 x28 x29 : D) : runC PHI Tb31 N vc12_24 (s12_6 x1 x5 x20 x21 x22 x27 x28 x29) k = m12_24 N x1 x5 x20 x21 x22 x27 x28 x29 (fun x1 x5 x20 x21 x22 => k (.exit 2) (s12_2 x1 x5 x20 x21 x22)) := by
  refine Eq.trans (runC_loop _ _ k) (Eq.trans (el12_24 N k N x1 x5 x20 x21 x22 x27 x28 x29) (by kernel_rfl))
def m12_23 (N : Nat) (x1 x5 x20 x21 x22 x27 x28 x29 : D) (K : D → D → D → D → D → Option R) : Option R :=
  (m12_24 N x1 x5 x20 x21 x22 x27 x28 x29 (fun y1 y5 y20 y21 y22 => K y1 y5 y20 y21 y22))
theorem e12_23 (N : Nat) (k : Kn R) (x1 x5 x20 x21 x22 x27 x28 x29 : D) : runC PHI Tb31 N vc12_23 (s12_6 x1 x5 x20 x21 x22 x27 x28 x29) k = m12_23 N x1 x5 x20 x21 x22 x27 x28 x29 (fun x1 x5 x20 x21 x22 => k .normal (s12_2 x1 x5 x20 x21 x22)) := by
  refine Eq.trans (runC_block _ _ _ k) (Eq.trans (e12_24 N (kblk 2 k) x1 x5 x20 x21 x22 x27 x28 x29) (by kernel_rfl))
def m12_21 (N : Nat) (x1 x5 x7 x20 x21 x22 : D) (K : D → D → D → D → D → Option R) : Option R :=
  (m12_22 N x1 x5 x7 x20 x21 x22 (fun y1 y5 y20 y21 y22 y27 y28 y29 => (m12_23 N y1 y5 y20 y21 y22 y27 y28 y29 (fun y1 y5 y20 y21 y22 => K y1 y5 y20 y21 y22))))
theorem e12_21 (N : Nat) (k : Kn R) (x1 x5 x7 x20 x21 x22 : D) : runC PHI Tb31 N vc12_21 (s12_5 x1 x5 x7 x20 x21 x22) k = m12_21 N x1 x5 x7 x20 x21 x22 (fun x1 x5 x20 x21 x22 => k .normal (s12_2 x1 x5 x20 x21 x22)) := by
  have h2 := e12_22 N (kseq PHI Tb31 N vc12_23 k) x1 x5 x7 x20 x21 x22
  have h3 := (funext fun y1 => funext fun y5 => funext fun y20 => funext fun y21 => funext fun y22 => funext fun y27 => funext fun y28 => funext fun y29 => (e12_23 N k y1 y5 y20 y21 y22 y27 y28 y29) : (fun (y1 y5 y20 y21 y22 y27 y28 y29 : D) => (kseq PHI Tb31 N vc12_23 k) .normal (s12_6 y1 y5 y20 y21 y22 y27 y28 y29)) = _)
  refine Eq.trans (runC_seq _ _ _ k) (Eq.trans h2 (Eq.trans (congrArg (fun K => m12_22 N x1 x5 x7 x20 x21 x22 K) h3) (by kernel_rfl)))
def m12_19 (N : Nat) (x1 x5 x20 x21 x22 : D) (K : D → D → D → D → D → Option R) : Option R :=
  (m12_20 N x1 x5 x20 x21 x22 (fun y1 y5 y7 y20 y21 y22 => (m12_21 N y1 y5 y7 y20 y21 y22 (fun y1 y5 y20 y21 y22 => K y1 y5 y20 y21 y22))))
theorem e12_19 (N : Nat) (k : Kn R) (x1 x5 x20 x21 x22 : D) : runC PHI Tb31 N vc12_19 (s12_2 x1 x5 x20 x21 x22) k = m12_19 N x1 x5 x20 x21 x22 (fun x1 x5 x20 x21 x22 => k .normal (s12_2 x1 x5 x20 x21 x22)) := by
  have h2 := e12_20 N (kseq PHI Tb31 N vc12_21 k) x1 x5 x20 x21 x22
  have h3 := (funext fun y1 => funext fun y5 => funext fun y7 => funext fun y20 => funext fun y21 => funext fun y22 => (e12_21 N k y1 y5 y7 y20 y21 y22) : (fun (y1 y5 y7 y20 y21 y22 : D) => (kseq PHI Tb31 N vc12_21 k) .normal (s12_5 y1 y5 y7 y20 y21 y22)) = _)
  refine Eq.trans (runC_seq _ _ _ k) (Eq.trans h2 (Eq.trans (congrArg (fun K => m12_20 N x1 x5 x20 x21 x22 K) h3) (by kernel_rfl)))
def m12_18 (N : Nat) (x1 x5 x20 x21 x22 : D) (K : D → D → D → D → D → Option R) : Option R :=
  (m12_19 N x1 x5 x20 x21 x22 (fun y1 y5 y20 y21 y22 => K y1 y5 y20 y21 y22))
theorem e12_18 (N : Nat) (k : Kn R) (x1 x5 x20 x21 x22 : D) : runC PHI Tb31 N vc12_18 (s12_2 x1 x5 x20 x21 x22) k = m12_18 N x1 x5 x20 x21 x22 (fun x1 x5 x20 x21 x22 => k .normal (s12_2 x1 x5 x20 x21 x22)) := by
  refine Eq.trans (runC_block _ _ _ k) (Eq.trans (e12_19 N (kblk 1 k) x1 x5 x20 x21 x22) (by kernel_rfl))
def m12_41 (N : Nat) (x1 x5 x20 x21 x22 : D) (K : D → D → D → D → D → Option R) : Option R :=
  K x1 x5 x20 x21 (D.i (IntKind.wrap IntKind.i64 (x22.toI + 1)))
theorem e12_41 (N : Nat) (k : Kn R) (x1 x5 x20 x21 x22 : D) : runC PHI Tb31 N vc12_41 (s12_2 x1 x5 x20 x21 x22) k = m12_41 N x1 x5 x20 x21 x22 (fun x1 x5 x20 x21 x22 => k .normal (s12_2 x1 x5 x20 x21 x22)) := by
  refine Eq.trans (runC_post _ _ _ k) (Eq.trans (ops_run _ _ _ _) (by kernel_rfl))
def m12_17 (N : Nat) (x1 x5 x20 x21 x22 : D) (K : D → D → D → D → D → Option R) : Option R :=
  (m12_18 N x1 x5 x20 x21 x22 (fun y1 y5 y20 y21 y22 => (m12_41 N y1 y5 y20 y21 y22 (fun y1 y5 y20 y21 y22 => K y1 y5 y20 y21 y22))))
theorem e12_17 (N : Nat) (k : Kn R) (x1 x5 x20 x21 x22 : D) : runC PHI Tb31 N vc12_17 (s12_2 x1 x5 x20 x21 x22) k = m12_17 N x1 x5 x20 x21 x22 (fun x1 x5 x20 x21 x22 => k .normal (s12_2 x1 x5 x20 x21 x22)) := by
  have h2 := e12_18 N (kseq PHI Tb31 N vc12_41 k) x1 x5 x20 x21 x22
  have h3 := (funext fun y1 => funext fun y5 => funext fun y20 => funext fun y21 => funext fun y22 => (e12_41 N k y1 y5 y20 y21 y22) : (fun (y1 y5 y20 y21 y22 : D) => (kseq PHI Tb31 N vc12_41 k) .normal (s12_2 y1 y5 y20 y21 y22)) = _)
  refine Eq.trans (runC_seq _ _ _ k) (Eq.trans h2 (Eq.trans (congrArg (fun K => m12_18 N x1 x5 x20 x21 x22 K) h3) (by kernel_rfl)))
def m12_13 (N : Nat) (x1 x5 x20 x21 x22 x23 : D) (K : D → D → D → D → D → Option R) (K0 : D → D → Option R) : Option R :=
  (m12_14 N x1 x5 x20 x21 x22 x23 (fun y1 y5 y20 y21 y22 => (m12_17 N y1 y5 y20 y21 y22 (fun y1 y5 y20 y21 y22 => K y1 y5 y20 y21 y22))) K0)
theorem e12_13 (N : Nat) (k : Kn R) (x1 x5 x20 x21 x22 x23 : D) : runC PHI Tb31 N vc12_13 (s12_3 x1 x5 x20 x21 x22 x23) k = m12_13 N x1 x5 x20 x21 x22 x23 (fun x1 x5 x20 x21 x22 => k .normal (s12_2 x1 x5 x20 x21 x22)) (fun x1 x5 => k (.exit 0) (s12_4 x1 x5)) := by
  have h2 := e12_14 N (kseq PHI Tb31 N vc12_17 k) x1 x5 x20 x21 x22 x23
  have h3 := (funext fun y1 => funext fun y5 => funext fun y20 => funext fun y21 => funext fun y22 => (e12_17 N k y1 y5 y20 y21 y22) : (fun (y1 y5 y20 y21 y22 : D) => (kseq PHI Tb31 N vc12_17 k) .normal (s12_2 y1 y5 y20 y21 y22)) = _)
  refine Eq.trans (runC_seq _ _ _ k) (Eq.trans h2 (Eq.trans (congrArg (fun K => m12_14 N x1 x5 x20 x21 x22 x23 K (fun x1 x5 => (kseq PHI Tb31 N vc12_17 k) (.exit 0) (s12_4 x1 x5))) h3) (by kernel_rfl)))
def m12_11 (N : Nat) (x1 x5 x20 x21 x22 : D) (K : D → D → D → D → D → Option R) (K0 : D → D → Option R) : Option R :=
  (m12_12 N x1 x5 x20 x21 x22 (fun y1 y5 y20 y21 y22 y23 => (m12_13 N y1 y5 y20 y21 y22 y23 (fun y1 y5 y20 y21 y22 => K y1 y5 y20 y21 y22) K0)))
theorem e12_11 (N : Nat) (k : Kn R) (x1 x5 x20 x21 x22 : D) : runC PHI Tb31 N vc12_11 (s12_2 x1 x5 x20 x21 x22) k = m12_11 N x1 x5 x20 x21 x22 (fun x1 x5 x20 x21 x22 => k .normal (s12_2 x1 x5 x20 x21 x22)) (fun x1 x5 => k (.exit 0) (s12_4 x1 x5)) := by
  have h2 := e12_12 N (kseq PHI Tb31 N vc12_13 k) x1 x5 x20 x21 x22
  have h3 := (funext fun y1 => funext fun y5 => funext fun y20 => funext fun y21 => funext fun y22 => funext fun y23 => (e12_13 N k y1 y5 y20 y21 y22 y23) : (fun (y1 y5 y20 y21 y22 y23 : D) => (kseq PHI Tb31 N vc12_13 k) .normal (s12_3 y1 y5 y20 y21 y22 y23)) = _)
  refine Eq.trans (runC_seq _ _ _ k) (Eq.trans h2 (Eq.trans (congrArg (fun K => m12_12 N x1 x5 x20 x21 x22 K) h3) (by kernel_rfl)))
def l12_10 (N : Nat) (j : Nat) (x1 x5 x20 x21 x22 : D) (K0 : D → D → Option R) : Option R :=
  match j with
  | 0 => none
  | j + 1 => (m12_11 N x1 x5 x20 x21 x22 (fun y1 y5 y20 y21 y22 => l12_10 N j y1 y5 y20 y21 y22 K0) K0)
def m12_10 (N : Nat) (x1 x5 x20 x21 x22 : D) (K0 : D → D → Option R) : Option R :=
  l12_10 N N x1 x5 x20 x21 x22 K0
theorem el12_10 (N : Nat) (k : Kn R) : ∀ (j : Nat) (x1 x5 x20 x21 x22 : D), loopGo (runC PHI Tb31 N vc12_11) j (s12_2 x1 x5 x20 x21 x22) k = l12_10 N j x1 x5 x20 x21 x22 (fun x1 x5 => k (.exit 0) (s12_4 x1 x5))
  | 0, _, _, _, _, _ => by kernel_rfl
  | j + 1, x1, x5, x20, x21, x22 => by
    have h2 := e12_11 N (kloop PHI Tb31 N vc12_11 j k) x1 x5 x20 x21 x22
    have h3 : (fun (y1 y5 y20 y21 y22 : D) => (kloop PHI Tb31 N vc12_11 j k) .normal (s12_2 y1 y5 y20 y21 y22)) = (fun (y1 y5 y20 y21 y22 : D) => l12_10 N j y1 y5 y20 y21 y22 (fun x1 x5 => k (.exit 0) (s12_4 x1 x5))) := funext fun y1 => funext fun y5 => funext fun y20 => funext fun y21 => funext fun y22 => (el12_10 N k j y1 y5 y20 y21 y22)
    refine Eq.trans (loop_succ _ j _ k) (Eq.trans h2 (Eq.trans (congrArg (fun K => m12_11 N x1 x5 x20 x21 x22 K (fun x1 x5 => (kloop PHI Tb31 N vc12_11 j k) (.exit 0) (s12_4 x1 x5))) h3) (by kernel_rfl)))
theorem e12_10 (N : Nat) (k : Kn R) (x1 x5 x20 x21 x22 : D) : runC PHI Tb31 N vc12_10 (s12_2 x1 x5 x20 x21 x22) k = m12_10 N x1 x5 x20 x21 x22 (fun x1 x5 => k (.exit 0) (s12_4 x1 x5)) := by
  refine Eq.trans (runC_loop _ _ k) (Eq.trans (el12_10 N k N x1 x5 x20 x21 x22) (by kernel_rfl))
def m12_9 (N : Nat) (x1 x5 x20 x21 x22 : D) (K : D → D → Option R) : Option R :=
  (m12_10 N x1 x5 x20 x21 x22 (fun y1 y5 => K y1 y5))
theorem e12_9 (N : Nat) (k : Kn R) (x1 x5 x20 x21 x22 : D) : runC PHI Tb31 N vc12_9 (s12_2 x1 x5 x20 x21 x22) k = m12_9 N x1 x5 x20 x21 x22 (fun x1 x5 => k .normal (s12_4 x1 x5)) := by
  refine Eq.trans (runC_block _ _ _ k) (Eq.trans (e12_10 N (kblk 0 k) x1 x5 x20 x21 x22) (by kernel_rfl))
def m12_7 (N : Nat) (x0 x1 x5 : D) (K : D → D → Option R) : Option R :=
  (m12_8 N x0 x1 x5 (fun y1 y5 y20 y21 y22 => (m12_9 N y1 y5 y20 y21 y22 (fun y1 y5 => K y1 y5))))
theorem e12_7 (N : Nat) (k : Kn R) (x0 x1 x5 : D) : runC PHI Tb31 N vc12_7 (s12_1 x0 x1 x5) k = m12_7 N x0 x1 x5 (fun x1 x5 => k .normal (s12_4 x1 x5)) := by
  have h2 := e12_8 N (kseq PHI Tb31 N vc12_9 k) x0 x1 x5
  have h3 := (funext fun y1 => funext fun y5 => funext fun y20 => funext fun y21 => funext fun y22 => (e12_9 N k y1 y5 y20 y21 y22) : (fun (y1 y5 y20 y21 y22 : D) => (kseq PHI Tb31 N vc12_9 k) .normal (s12_2 y1 y5 y20 y21 y22)) = _)
  refine Eq.trans (runC_seq _ _ _ k) (Eq.trans h2 (Eq.trans (congrArg (fun K => m12_8 N x0 x1 x5 K) h3) (by kernel_rfl)))
def m12_43 (N : Nat) (x1 x5 : D) (K : D → D → D → Option R) : Option R :=
  K x1 x5 x5
def s12_7 (x1 x5 x10 : D) : St := sts 80 [(1, V.f x1), (5, V.f x5), (10, V.f x10)] []
theorem e12_43 (N : Nat) (k : Kn R) (x1 x5 : D) : runC PHI Tb31 N vc12_43 (s12_4 x1 x5) k = m12_43 N x1 x5 (fun x1 x5 x10 => k .normal (s12_7 x1 x5 x10)) := by
  refine Eq.trans (runC_post _ _ _ k) (Eq.trans (ops_run _ _ _ _) (by kernel_rfl))
def m12_46 (N : Nat) (x1 x5 x10 : D) (K : D → D → D → D → D → D → Option R) : Option R :=
  K x1 x5 x10 x10 (D.i (x10.toL.length : Int)) (D.i 0)
def s12_8 (x1 x5 x10 x46 x47 x48 : D) : St := sts 80 [(1, V.f x1), (5, V.f x5), (10, V.f x10), (46, V.f x46), (47, V.f x47), (48, V.f x48)] []
theorem e12_46 (N : Nat) (k : Kn R) (x1 x5 x10 : D) : runC PHI Tb31 N vc12_46 (s12_7 x1 x5 x10) k = m12_46 N x1 x5 x10 (fun x1 x5 x10 x46 x47 x48 => k .normal (s12_8 x1 x5 x10 x46 x47 x48)) := by
  refine Eq.trans (runC_post _ _ _ k) (Eq.trans (ops_run _ _ _ _) (by kernel_rfl))
def m12_50 (N : Nat) (x1 x5 x10 x46 x47 x48 : D) (K : D → D → D → D → D → D → D → Option R) : Option R :=
  K x1 x5 x10 x46 x47 x48 (D.b (ltb x48.toI x47.toI))
def s12_9 (x1 x5 x10 x46 x47 x48 x49 : D) : St := sts 80 [(1, V.f x1), (5, V.f x5), (10, V.f x10), (46, V.f x46), (47, V.f x47), (48, V.f x48), (49, V.f x49)] []
theorem e12_50 (N : Nat) (k : Kn R) (x1 x5 x10 x46 x47 x48 : D) : runC PHI Tb31 N vc12_50 (s12_8 x1 x5 x10 x46 x47 x48) k = m12_50 N x1 x5 x10 x46 x47 x48 (fun x1 x5 x10 x46 x47 x48 x49 => k .normal (s12_9 x1 x5 x10 x46 x47 x48 x49)) := by
  refine Eq.trans (runC_post _ _ _ k) (Eq.trans (ops_run _ _ _ _) (by kernel_rfl))
def m12_52 (N : Nat) (x1 x5 x10 x46 x47 x48 x49 : D) (K : D → D → D → D → D → D → Option R) (K4 : D → Option R) : Option R :=
  (bif x49.toB then K x1 x5 x10 x46 x47 x48 else K4 x5)
def s12_10 (x5 : D) : St := sts 80 [(5, V.f x5)] []
theorem e12_52 (N : Nat) (k : Kn R) (x1 x5 x10 x46 x47 x48 x49 : D) : runC PHI Tb31 N vc12_52 (s12_9 x1 x5 x10 x46 x47 x48 x49) k = m12_52 N x1 x5 x10 x46 x47 x48 x49 (fun x1 x5 x10 x46 x47 x48 => k .normal (s12_8 x1 x5 x10 x46 x47 x48)) (fun x5 => k (.exit 4) (s12_10 x5)) := by kernel_rfl
def m12_58 (N : Nat) (x1 x5 x10 x46 x47 x48 : D) (K : D → D → D → D → D → D → D → Option R) : Option R :=
  (bif (inb x48.toI x46.toL.length) then K x1 x5 x10 (D.p (x46.at (x48.toI : Int).toNat)) x46 x47 x48 else none)
def s12_11 (x1 x5 x10 x12 x46 x47 x48 : D) : St := sts 80 [(1, V.f x1), (5, V.f x5), (10, V.f x10), (12, V.f x12), (46, V.f x46), (47, V.f x47), (48, V.f x48)] []
theorem e12_58 (N : Nat) (k : Kn R) (x1 x5 x10 x46 x47 x48 : D) : runC PHI Tb31 N vc12_58 (s12_8 x1 x5 x10 x46 x47 x48) k = m12_58 N x1 x5 x10 x46 x47 x48 (fun x1 x5 x10 x12 x46 x47 x48 => k .normal (s12_11 x1 x5 x10 x12 x46 x47 x48)) := by
  refine Eq.trans (runC_post _ _ _ k) (Eq.trans (ops_run _ _ _ _) (by kernel_rfl))
def m12_60 (N : Nat) (x1 x5 x10 x12 x46 x47 x48 : D) (K : D → D → D → D → D → D → D → D → D → D → Option R) : Option R :=
  K x1 x5 x10 x12 x46 x47 x48 x10 (D.i (x10.toL.length : Int)) (D.i 0)
def s12_12 (x1 x5 x10 x12 x46 x47 x48 x52 x53 x54 : D) : St := sts 80 [(1, V.f x1), (5, V.f x5), (10, V.f x10), (12, V.f x12), (46, V.f x46), (47, V.f x47), (48, V.f x48), (52, V.f x52), (53, V.f x53), (54, V.f x54)] []
theorem e12_60 (N : Nat) (k : Kn R) (x1 x5 x10 x12 x46 x47 x48 : D) : runC PHI Tb31 N vc12_60 (s12_11 x1 x5 x10 x12 x46 x47 x48) k = m12_60 N x1 x5 x10 x12 x46 x47 x48 (fun x1 x5 x10 x12 x46 x47 x48 x52 x53 x54 => k .normal (s12_12 x1 x5 x10 x12 x46 x47 x48 x52 x53 x54)) := by
  refine Eq.trans (runC_post _ _ _ k) (Eq.trans (ops_run _ _ _ _) (by kernel_rfl))
def m12_63 (N : Nat) (x1 x5 x10 x12 x46 x47 x48 x52 x53 x54 : D) (K : D → D → D → D → D → D → D → D → D → D → Option R) (K6 : D → D → D → D → D → D → Option R) : Option R :=
  (bif (ltb x54.toI x53.toI) then (bif (inb x54.toI x52.toL.length) then (bif (isPtrD x12) then (bif (pr30 x12.deref (x52.at (x54.toI : Int).toNat)) then (bif (sp30_1 x12.deref (x52.at (x54.toI : Int).toNat)) then (bif (ltb (x5.toL.length : Int) x1.toI) then (bif (pr18 x5 ((sp30_0 x12.deref (x52.at (x54.toI : Int).toNat)).at 0) ((sp30_0 x12.deref (x52.at (x54.toI : Int).toNat)).at 1)) then K x1 (sp18 x5 ((sp30_0 x12.deref (x52.at (x54.toI : Int).toNat)).at 0) ((sp30_0 x12.deref (x52.at (x54.toI : Int).toNat)).at 1)) x10 x12 x46 x47 x48 x52 x53 (D.i (IntKind.wrap IntKind.i64 (x54.toI + 1))) else none) else K x1 x5 x10 x12 x46 x47 x48 x52 x53 (D.i (IntKind.wrap IntKind.i64 (x54.toI + 1)))) else (bif false then (bif (pr18 x5 ((sp30_0 x12.deref (x52.at (x54.toI : Int).toNat)).at 0) ((sp30_0 x12.deref (x52.at (x54.toI : Int).toNat)).at 1)) then K x1 (sp18 x5 ((sp30_0 x12.deref (x52.at (x54.toI : Int).toNat)).at 0) ((sp30_0 x12.deref (x52.at (x54.toI : Int).toNat)).at 1)) x10 x12 x46 x47 x48 x52 x53 (D.i (IntKind.wrap IntKind.i64 (x54.toI + 1))) else none) else K x1 x5 x10 x12 x46 x47 x48 x52 x53 (D.i (IntKind.wrap IntKind.i64 (x54.toI + 1))))) else none) else none) else none) else K6 x1 x5 x10 x46 x47 x48)
theorem e12_63 (N : Nat) (k : Kn R) (x1 x5 x10 x12 x46 x47 x48 x52 x53 x54 : D) : runC PHI Tb31 N vc12_63 (s12_12 x1 x5 x10 x12 x46 x47 x48 x52 x53 x54) k = m12_63 N x1 x5 x10 x12 x46 x47 x48 x52 x53 x54 (fun x1 x5 x10 x12 x46 x47 x48 x52 x53 x54 => k .normal (s12_12 x1 x5 x10 x12 x46 x47 x48 x52 x53 x54)) (fun x1 x5 x10 x46 x47 x48 => k (.exit 6) (s12_8 x1 x5 x10 x46 x47 x48)) := by kernel_rfl
def l12_62 (N : Nat) (j : Nat) (x1 x5 x10 x12 x46 x47 x48 x52 x53 x54 : D) (K6 : D → D → D → D → D → D → Option R) : Option R :=
  match j with
  | 0 => none
  | j + 1 => (m12_63 N x1 x5 x10 x12 x46 x47 x48 x52 x53 x54 (fun y1 y5 y10 y12 y46 y47 y48 y52 y53 y54 => l12_62 N j y1 y5 y10 y12 y46 y47 y48 y52 y53 y54 K6) K6)
def m12_62 (N : Nat) (x1 x5 x10 x12 x46 x47 x48 x52 x53 x54 : D) (K6 : D → D → D → D → D → D → Option R) : Option R :=
  l12_62 N N x1 x5 x10 x12 x46 x47 x48 x52 x53 x54 K6
theorem el12_62 (N : Nat) (k : Kn R) : ∀ (j : Nat) (x1 x5 x10 x12 x46 x47 x48 x52 x53 x54 : D), loopGo (runC PHI Tb31 N vc12_63) j (s12_12 x1 x5 x10 x12 x46 x47 x48 x52 x53 x54) k = l12_62 N j x1 x5 x10 x12 x46 x47 x48 x52 x53 x54 (fun x1 x5 x10 x46 x47 x48 => k (.exit 6) (s12_8 x1 x5 x10 x46 x47 x48))
  | 0, _, _, _, _, _, _, _, _, _, _ => by kernel_rfl
  | j + 1, x1, x5, x10, x12, x46, x47, x48, x52, x53, x54 => by
    have h2 := e12_63 N (kloop PHI Tb31 N vc12_63 j k) x1 x5 x10 x12 x46 x47 x48 x52 x53 x54
    have h3 : (fun (y1 y5 y10 y12 y46 y47 y48 y52 y53 y54 : D) => (kloop PHI Tb31 N vc12_63 j k) .normal (s12_12 y1 y5 y10 y12 y46 y47 y48 y52 y53 y54)) = (fun (y1 y5 y10 y12 y46 y47 y48 y52 y53 y54 : D) => l12_62 N j y1 y5 y10 y12 y46 y47 y48 y52 y53 y54 (fun x1 x5 x10 x46 x47 x48 => k (.exit 6) (s12_8 x1 x5 x10 x46 x47 x48))) := funext fun y1 => funext fun y5 => funext fun y10 => funext fun y12 => funext fun y46 => funext fun y47 => funext fun y48 => funext fun y52 => funext fun y53 => funext fun y54 => (el12_62 N k j y1 y5 y10 y12 y46 y47 y48 y52 y53 y54)
    refine Eq.trans (loop_succ _ j _ k) (Eq.trans h2 (Eq.trans (congrArg (fun K => m12_63 N x1 x5 x10 x12 x46 x47 x48 x52 x53 x54 K (fun x1 x5 x10 x46 x47 x48 => (kloop PHI Tb31 N vc12_63 j k) (.exit 6) (s12_8 x1 x5 x10 x46 x47 x48))) h3) (by kernel_rfl)))
theorem e12_62 (N : Nat) (k : Kn R) (x1 x5 x10 x12 x46 x47 x48 x52 x53 x54 : D) : runC PHI Tb31 N vc12_62 (s12_12 x1 x5 x10 x12 x46 x47 x48 x52 x53 x54) k = m12_62 N x1 x5 x10 x12 x46 x47 x48 x52 x53 x54 (fun x1 x5 x10 x46 x47 x48 => k (.exit 6) (s12_8 x1 x5 x10 x46 x47 x48)) := by
  refine Eq.trans (runC_loop _ _ k) (Eq.trans (el12_62 N k N x1 x5 x10 x12 x46 x47 x48 x52 x53 x54) (by kernel_rfl))
def m12_61 (N : Nat) (x1 x5 x10 x12 x46 x47 x48 x52 x53 x54 : D) (K : D → D → D → D → D → D → Option R) : Option R :=
  (m12_62 N x1 x5 x10 x12 x46 x47 x48 x52 x53 x54 (fun y1 y5 y10 y46 y47 y48 => K y1 y5 y10 y46 y47 y48))
theorem e12_61 (N : Nat) (k : Kn R) (x1 x5 x10 x12 x46 x47 x48 x52 x53 x54 : D) : runC PHI Tb31 N vc12_61 (s12_12 x1 x5 x10 x12 x46 x47 x48 x52 x53 x54) k = m12_61 N x1 x5 x10 x12 x46 x47 x48 x52 x53 x54 (fun x1 x5 x10 x46 x47 x48 => k .normal (s12_8 x1 x5 x10 x46 x47 x48)) := by
  refine Eq.trans (runC_block _ _ _ k) (Eq.trans (e12_62 N (kblk 6 k) x1 x5 x10 x12 x46 x47 x48 x52 x53 x54) (by kernel_rfl))
def m12_59 (N : Nat) (x1 x5 x10 x12 x46 x47 x48 : D) (K : D → D → D → D → D → D → Option R) : Option R :=
  (m12_60 N x1 x5 x10 x12 x46 x47 x48 (fun y1 y5 y10 y12 y46 y47 y48 y52 y53 y54 => (m12_61 N y1 y5 y10 y12 y46 y47 y48 y52 y53 y54 (fun y1 y5 y10 y46 y47 y48 => K y1 y5 y10 y46 y47 y48))))
theorem e12_59 (N : Nat) (k : Kn R) (x1 x5 x10 x12 x46 x47 x48 : D) : runC PHI Tb31 N vc12_59 (s12_11 x1 x5 x10 x12 x46 x47 x48) k = m12_59 N x1 x5 x10 x12 x46 x47 x48 (fun x1 x5 x10 x46 x47 x48 => k .normal (s12_8 x1 x5 x10 x46 x47 x48)) := by
  have h2 := e12_60 N (kseq PHI Tb31 N vc12_61 k) x1 x5 x10 x12 x46 x47 x48
  have h3 := (funext fun y1 => funext fun y5 => funext fun y10 => funext fun y12 => funext fun y46 => funext fun y47 => funext fun y48 => funext fun y52 => funext fun y53 => funext fun y54 => (e12_61 N k y1 y5 y10 y12 y46 y47 y48 y52 y53 y54) : (fun (y1 y5 y10 y12 y46 y47 y48 y52 y53 y54 : D) => (kseq PHI Tb31 N vc12_61 k) .normal (s12_12 y1 y5 y10 y12 y46 y47 y48 y52 y53 y54)) = _)
  refine Eq.trans (runC_seq _ _ _ k) (Eq.trans h2 (Eq.trans (congrArg (fun K => m12_60 N x1 x5 x10 x12 x46 x47 x48 K) h3) (by kernel_rfl)))
def m12_57 (N : Nat) (x1 x5 x10 x46 x47 x48 : D) (K : D → D → D → D → D → D → Option R) : Option R :=
  (m12_58 N x1 x5 x10 x46 x47 x48 (fun y1 y5 y10 y12 y46 y47 y48 => (m12_59 N y1 y5 y10 y12 y46 y47 y48 (fun y1 y5 y10 y46 y47 y48 => K y1 y5 y10 y46 y47 y48))))
theorem e12_57 (N : Nat) (k : Kn R) (x1 x5 x10 x46 x47 x48 : D) : runC PHI Tb31 N vc12_57 (s12_8 x1 x5 x10 x46 x47 x48) k = m12_57 N x1 x5 x10 x46 x47 x48 (fun x1 x5 x10 x46 x47 x48 => k .normal (s12_8 x1 x5 x10 x46 x47 x48)) := by
  have h2 := e12_58 N (kseq PHI Tb31 N vc12_59 k) x1 x5 x10 x46 x47 x48
  have h3 := (funext fun y1 => funext fun y5 => funext fun y10 => funext fun y12 => funext fun y46 => funext fun y47 => funext fun y48 => (e12_59 N k y1 y5 y10 y12 y46 y47 y48) : (fun (y1 y5 y10 y12 y46 y47 y48 : D) => (kseq PHI Tb31 N vc12_59 k) .normal (s12_11 y1 y5 y10 y12 y46 y47 y48)) = _)
  refine Eq.trans (runC_seq _ _ _ k) (Eq.trans h2 (Eq.trans (congrArg (fun K => m12_58 N x1 x5 x10 x46 x47 x48 K) h3) (by kernel_rfl)))
def m12_56 (N : Nat) (x1 x5 x10 x46 x47 x48 : D) (K : D → D → D → D → D → D → Option R) : Option R :=
  (m12_57 N x1 x5 x10 x46 x47 x48 (fun y1 y5 y10 y46 y47 y48 => K y1 y5 y10 y46 y47 y48))
theorem e12_56 (N : Nat) (k : Kn R) (x1 x5 x10 x46 x47 x48 : D) : runC PHI Tb31 N vc12_56 (s12_8 x1 x5 x10 x46 x47 x48) k = m12_56 N x1 x5 x10 x46 x47 x48 (fun x1 x5 x10 x46 x47 x48 => k .normal (s12_8 x1 x5 x10 x46 x47 x48)) := by
  refine Eq.trans (runC_block _ _ _ k) (Eq.trans (e12_57 N (kblk 5 k) x1 x5 x10 x46 x47 x48) (by kernel_rfl))
def m12_81 (N : Nat) (x1 x5 x10 x46 x47 x48 : D) (K : D → D → D → D → D → D → Option R) : Option R :=
  K x1 x5 x10 x46 x47 (D.i (IntKind.wrap IntKind.i64 (x48.toI + 1)))
theorem e12_81 (N : Nat) (k : Kn R) (x1 x5 x10 x46 x47 x48 : D) : runC PHI Tb31 N vc12_81 (s12_8 x1 x5 x10 x46 x47 x48) k = m12_81 N x1 x5 x10 x46 x47 x48 (fun x1 x5 x10 x46 x47 x48 => k .normal (s12_8 x1 x5 x10 x46 x47 x48)) := by
  refine Eq.trans (runC_post _ _ _ k) (Eq.trans (ops_run _ _ _ _) (by kernel_rfl))
def m12_55 (N : Nat) (x1 x5 x10 x46 x47 x48 : D) (K : D → D → D → D → D → D → Option R) : Option R :=
  (m12_56 N x1 x5 x10 x46 x47 x48 (fun y1 y5 y10 y46 y47 y48 => (m12_81 N y1 y5 y10 y46 y47 y48 (fun y1 y5 y10 y46 y47 y48 => K y1 y5 y10 y46 y47 y48))))
theorem e12_55 (N : Nat) (k : Kn R) (x1 x5 x10 x46 x47 x48 : D) : runC PHI Tb31 N vc12_55 (s12_8 x1 x5 x10 x46 x47 x48) k = m12_55 N x1 x5 x10 x46 x47 x48 (fun x1 x5 x10 x46 x47 x48 => k .normal (s12_8 x1 x5 x10 x46 x47 x48)) := by
  have h2 := e12_56 N (kseq PHI Tb31 N vc12_81 k) x1 x5 x10 x46 x47 x48
  have h3 := (funext fun y1 => funext fun y5 => funext fun y10 => funext fun y46 => funext fun y47 => funext fun y48 => (e12_81 N k y1 y5 y10 y46 y47 y48) : (fun (y1 y5 y10 y46 y47 y48 : D) => (kseq PHI Tb31 N vc12_81 k) .normal (s12_8 y1 y5 y10 y46 y47 y48)) = _)
  refine Eq.trans (runC_seq _ _ _ k) (Eq.trans h2 (Eq.trans (congrArg (fun K => m12_56 N x1 x5 x10 x46 x47 x48 K) h3) (by kernel_rfl)))
def m12_51 (N : Nat) (x1 x5 x10 x46 x47 x48 x49 : D) (K : D → D → D → D → D → D → Option R) (K4 : D → Option R) : Option R :=
  (m12_52 N x1 x5 x10 x46 x47 x48 x49 (fun y1 y5 y10 y46 y47 y48 => (m12_55 N y1 y5 y10 y46 y47 y48 (fun y1 y5 y10 y46 y47 y48 => K y1 y5 y10 y46 y47 y48))) K4)
theorem e12_51 (N : Nat) (k : Kn R) (x1 x5 x10 x46 x47 x48 x49 : D) : runC PHI Tb31 N vc12_51 (s12_9 x1 x5 x10 x46 x47 x48 x49) k = m12_51 N x1 x5 x10 x46 x47 x48 x49 (fun x1 x5 x10 x46 x47 x48 => k .normal (s12_8 x1 x5 x10 x46 x47 x48)) (fun x5 => k (.exit 4) (s12_10 x5)) := by
  have h2 := e12_52 N (kseq PHI Tb31 N vc12_55 k) x1 x5 x10 x46 x47 x48 x49
  have h3 := (funext fun y1 => funext fun y5 => funext fun y10 => funext fun y46 => funext fun y47 => funext fun y48 => (e12_55 N k y1 y5 y10 y46 y47 y48) : (fun (y1 y5 y10 y46 y47 y48 : D) => (kseq PHI Tb31 N vc12_55 k) .normal (s12_8 y1 y5 y10 y46 y47 y48)) = _)
  refine Eq.trans (runC_seq _ _ _ k) (Eq.trans h2 (Eq.trans (congrArg (fun K => m12_52 N x1 x5 x10 x46 x47 x48 x49 K (fun x5 => (kseq PHI Tb31 N vc12_55 k) (.exit 4) (s12_10 x5))) h3) (by kernel_rfl)))
def m12_49 (N : Nat) (x1 x5 x10 x46 x47 x48 : D) (K : D → D → D → D → D → D → Option R) (K4 : D → Option R) : Option R :=
  (m12_50 N x1 x5 x10 x46 x47 x48 (fun y1 y5 y10 y46 y47 y48 y49 => (m12_51 N y1 y5 y10 y46 y47 y48 y49 (fun y1 y5 y10 y46 y47 y48 => K y1 y5 y10 y46 y47 y48) K4)))
theorem e12_49 (N : Nat) (k : Kn R) (x1 x5 x10 x46 x47 x48 : D) : runC PHI Tb31 N vc12_49 (s12_8 x1 x5 x10 x46 x47 x48) k = m12_49 N x1 x5 x10 x46 x47 x48 (fun x1 x5 x10 x46 x47 x48 => k .normal (s12_8 x1 x5 x10 x46 x47 x48)) (fun x5 => k (.exit 4) (s12_10 x5)) := by
  have h2 := e12_50 N (kseq PHI Tb31 N vc12_51 k) x1 x5 x10 x46 x47 x48
  have h3 := (funext fun y1 => funext fun y5 => funext fun y10 => funext fun y46 => funext fun y47 => funext fun y48 => funext fun y49 => (e12_51 N k y1 y5 y10 y46 y47 y48 y49) : (fun (y1 y5 y10 y46 y47 y48 y49 : D) => (kseq PHI Tb31 N vc12_51 k) .normal (s12_9 y1 y5 y10 y46 y47 y48 y49)) = _)
  refine Eq.trans (runC_seq _ _ _ k) (Eq.trans h2 (Eq.trans (congrArg (fun K => m12_50 N x1 x5 x10 x46 x47 x48 K) h3) (by kernel_rfl)))
def l12_48 (N : Nat) (j : Nat) (x1 x5 x10 x46 x47 x48 : D) (K4 : D → Option R) : Option R :=
  match j with
  | 0 => none
  | j + 1 => (m12_49 N x1 x5 x10 x46 x47 x48 (fun y1 y5 y10 y46 y47 y48 => l12_48 N j y1 y5 y10 y46 y47 y48 K4) K4)
def m12_48 (N : Nat) (x1 x5 x10 x46 x47 x48 : D) (K4 : D → Option R) : Option R :=
  l12_48 N N x1 x5 x10 x46 x47 x48 K4
theorem el12_48 (N : Nat) (k : Kn R) : ∀ (j : Nat) (x1 x5 x10 x46 x47 x48 : D), loopGo (runC PHI Tb31 N vc12_49) j (s12_8 x1 x5 x10 x46 x47 x48) k = l12_48 N j x1 x5 x10 x46 x47 x48 (fun x5 => k (.exit 4) (s12_10 x5))
  | 0, _, _, _, _, _, _ => by kernel_rfl
  | j + 1, x1, x5, x10, x46, x47, x48 => by
    have h2 := e12_49 N (kloop PHI Tb31 N vc12_49 j k) x1 x5 x10 x46 x47 x48
    have h3 : (fun (y1 y5 y10 y46 y47 y48 : D) => (kloop PHI Tb31 N vc12_49 j k) .normal (s12_8 y1 y5 y10 y46 y47 y48)) = (fun (y1 y5 y10 y46 y47 y48 : D) => l12_48 N j y1 y5 y10 y46 y47 y48 (fun x5 => k (.exit 4) (s12_10 x5))) := funext fun y1 => funext fun y5 => funext fun y10 => funext fun y46 => funext fun y47 => funext fun y48 => (el12_48 N k j y1 y5 y10 y46 y47 y48)
    refine Eq.trans (loop_succ _ j _ k) (Eq.trans h2 (Eq.trans (congrArg (fun K => m12_49 N x1 x5 x10 x46 x47 x48 K (fun x5 => (kloop PHI Tb31 N vc12_49 j k) (.exit 4) (s12_10 x5))) h3) (by kernel_rfl)))
theorem e12_48 (N : Nat) (k : Kn R) (x1 x5 x10 x46 x47 x48 : D) : runC PHI Tb31 N vc12_48 (s12_8 x1 x5 x10 x46 x47 x48) k = m12_48 N x1 x5 x10 x46 x47 x48 (fun x5 => k (.exit 4) (s12_10 x5)) := by
  refine Eq.trans (runC_loop _ _ k) (Eq.trans (el12_48 N k N x1 x5 x10 x46 x47 x48) (by kernel_rfl))
def m12_47 (N : Nat) (x1 x5 x10 x46 x47 x48 : D) (K : D → Option R) : Option R :=
  (m12_48 N x1 x5 x10 x46 x47 x48 (fun y5 => K y5))
theorem e12_47 (N : Nat) (k : Kn R) (x1 x5 x10 x46 x47 x48 : D) : runC PHI Tb31 N vc12_47 (s12_8 x1 x5 x10 x46 x47 x48) k = m12_47 N x1 x5 x10 x46 x47 x48 (fun x5 => k .normal (s12_10 x5)) := by
  refine Eq.trans (runC_block _ _ _ k) (Eq.trans (e12_48 N (kblk 4 k) x1 x5 x10 x46 x47 x48) (by kernel_rfl))
def m12_45 (N : Nat) (x1 x5 x10 : D) (K : D → Option R) : Option R :=
  (m12_46 N x1 x5 x10 (fun y1 y5 y10 y46 y47 y48 => (m12_47 N y1 y5 y10 y46 y47 y48 (fun y5 => K y5))))
theorem e12_45 (N : Nat) (k : Kn R) (x1 x5 x10 : D) : runC PHI Tb31 N vc12_45 (s12_7 x1 x5 x10) k = m12_45 N x1 x5 x10 (fun x5 => k .normal (s12_10 x5)) := by
  have h2 := e12_46 N (kseq PHI Tb31 N vc12_47 k) x1 x5 x10
  have h3 := (funext fun y1 => funext fun y5 => funext fun y10 => funext fun y46 => funext fun y47 => funext fun y48 => (e12_47 N k y1 y5 y10 y46 y47 y48) : (fun (y1 y5 y10 y46 y47 y48 : D) => (kseq PHI Tb31 N vc12_47 k) .normal (s12_8 y1 y5 y10 y46 y47 y48)) = _)
  refine Eq.trans (runC_seq _ _ _ k) (Eq.trans h2 (Eq.trans (congrArg (fun K => m12_46 N x1 x5 x10 K) h3) (by kernel_rfl)))
def m12_82 (N : Nat) (x5 : D) (Kr : D → Option R) : Option R :=
  Kr x5
def s12_13 (x4 : D) : St := sts 80 [(4, V.f x4)] []
theorem e12_82 (N : Nat) (k : Kn R) (x5 : D) : runC PHI Tb31 N vc12_82 (s12_10 x5) k = m12_82 N x5 (fun x4 => k .ret (s12_13 x4)) := by kernel_rfl
def m12_44 (N : Nat) (x1 x5 x10 : D) (Kr : D → Option R) : Option R :=
  (m12_45 N x1 x5 x10 (fun y5 => (m12_82 N y5 Kr)))
theorem e12_44 (N : Nat) (k : Kn R) (x1 x5 x10 : D) : runC PHI Tb31 N vc12_44 (s12_7 x1 x5 x10) k = m12_44 N x1 x5 x10 (fun x4 => k .ret (s12_13 x4)) := by
  have h2 := e12_45 N (kseq PHI Tb31 N vc12_82 k) x1 x5 x10
  have h3 := (funext fun y5 => (e12_82 N k y5) : (fun (y5 : D) => (kseq PHI Tb31 N vc12_82 k) .normal (s12_10 y5)) = _)
  refine Eq.trans (runC_seq _ _ _ k) (Eq.trans h2 (Eq.trans (congrArg (fun K => m12_45 N x1 x5 x10 K) h3) (by kernel_rfl)))
def m12_42 (N : Nat) (x1 x5 : D) (Kr : D → Option R) : Option R :=
  (m12_43 N x1 x5 (fun y1 y5 y10 => (m12_44 N y1 y5 y10 Kr)))
theorem e12_42 (N : Nat) (k : Kn R) (x1 x5 : D) : runC PHI Tb31 N vc12_42 (s12_4 x1 x5) k = m12_42 N x1 x5 (fun x4 => k .ret (s12_13 x4)) := by
  have h2 := e12_43 N (kseq PHI Tb31 N vc12_44 k) x1 x5
  have h3 := (funext fun y1 => funext fun y5 => funext fun y10 => (e12_44 N k y1 y5 y10) : (fun (y1 y5 y10 : D) => (kseq PHI Tb31 N vc12_44 k) .normal (s12_7 y1 y5 y10)) = _)
  refine Eq.trans (runC_seq _ _ _ k) (Eq.trans h2 (Eq.trans (congrArg (fun K => m12_43 N x1 x5 K) h3) (by kernel_rfl)))
def m12_6 (N : Nat) (x0 x1 x5 : D) (Kr : D → Option R) : Option R :=
  (m12_7 N x0 x1 x5 (fun y1 y5 => (m12_42 N y1 y5 Kr)))
theorem e12_6 (N : Nat) (k : Kn R) (x0 x1 x5 : D) : runC PHI Tb31 N vc12_6 (s12_1 x0 x1 x5) k = m12_6 N x0 x1 x5 (fun x4 => k .ret (s12_13 x4)) := by
  have h2 := e12_7 N (kseq PHI Tb31 N vc12_42 k) x0 x1 x5
  have h3 := (funext fun y1 => funext fun y5 => (e12_42 N k y1 y5) : (fun (y1 y5 : D) => (kseq PHI Tb31 N vc12_42 k) .normal (s12_4 y1 y5)) = _)
  refine Eq.trans (runC_seq _ _ _ k) (Eq.trans h2 (Eq.trans (congrArg (fun K => m12_7 N x0 x1 x5 K) h3) (by kernel_rfl)))
def m12_4 (N : Nat) (x0 x1 : D) (Kr : D → Option R) : Option R :=
  (m12_5 N x0 x1 (fun y0 y1 y5 => (m12_6 N y0 y1 y5 Kr)))
theorem e12_4 (N : Nat) (k : Kn R) (x0 x1 : D) : runC PHI Tb31 N vc12_4 (s12_0 x0 x1) k = m12_4 N x0 x1 (fun x4 => k .ret (s12_13 x4)) := by
  have h2 := e12_5 N (kseq PHI Tb31 N vc12_6 k) x0 x1
  have h3 := (funext fun y0 => funext fun y1 => funext fun y5 => (e12_6 N k y0 y1 y5) : (fun (y0 y1 y5 : D) => (kseq PHI Tb31 N vc12_6 k) .normal (s12_1 y0 y1 y5)) = _)
  refine Eq.trans (runC_seq _ _ _ k) (Eq.trans h2 (Eq.trans (congrArg (fun K => m12_5 N x0 x1 K) h3) (by kernel_rfl)))
def m12_2 (N : Nat) (x0 x1 : D) (Kr : D → Option R) : Option R :=
  (m12_3 N x0 x1 (fun y0 y1 => (m12_4 N y0 y1 Kr)))
theorem e12_2 (N : Nat) (k : Kn R) (x0 x1 : D) : runC PHI Tb31 N vc12_2 (s12_0 x0 x1) k = m12_2 N x0 x1 (fun x4 => k .ret (s12_13 x4)) := by
  have h2 := e12_3 N (kseq PHI Tb31 N vc12_4 k) x0 x1
  have h3 := (funext fun y0 => funext fun y1 => (e12_4 N k y0 y1) : (fun (y0 y1 : D) => (kseq PHI Tb31 N vc12_4 k) .normal (s12_0 y0 y1)) = _)
  refine Eq.trans (runC_seq _ _ _ k) (Eq.trans h2 (Eq.trans (congrArg (fun K => m12_3 N x0 x1 K) h3) (by kernel_rfl)))
def m12_0 (N : Nat) (x0 x1 : D) (Kr : D → Option R) : Option R :=
  (m12_1 N x0 x1 (fun y0 y1 => (m12_2 N y0 y1 Kr)))
theorem e12_0 (N : Nat) (k : Kn R) (x0 x1 : D) : runC PHI Tb31 N vc12_0 (s12_0 x0 x1) k = m12_0 N x0 x1 (fun x4 => k .ret (s12_13 x4)) := by
  have h2 := e12_1 N (kseq PHI Tb31 N vc12_2 k) x0 x1
  have h3 := (funext fun y0 => funext fun y1 => (e12_2 N k y0 y1) : (fun (y0 y1 : D) => (kseq PHI Tb31 N vc12_2 k) .normal (s12_0 y0 y1)) = _)
  refine Eq.trans (runC_seq _ _ _ k) (Eq.trans h2 (Eq.trans (congrArg (fun K => m12_1 N x0 x1 K) h3) (by kernel_rfl)))
theorem r12 (N : Nat) (x0 x1 : D) : runC PHI Tb31 N vf12.body (enterV vf12 [V.f x0, V.f x1] []) (finish vf12) = m12_0 N x0 x1 (fun x4 => finish vf12 .ret (s12_13 x4)) := 
  Eq.trans (runC_pre (s1 := (s12_0 x0 x1)) (by kernel_rfl) _ _) (Eq.trans (e12_0 N (finish vf12) x0 x1) (by kernel_rfl))
end
theorem goodD.ok {d : D} (h : goodD d) : okN (d.at 1) = true := by obtain ⟨t, ys, rfl, _⟩ := h; rfl
theorem goodD.len {d : D} (h : goodD d) : (d.at 1).toL.length ≤ 3 := by obtain ⟨t, ys, rfl, _, h, _⟩ := h; exact h
theorem p18g {s t c : D} (hs : s.toL.length ≤ 16) (hc : okN c = true) : pr18 s t c = true := by
  unfold pr18; rw [hc, leN_t (show s.toL.length ≤ 1099511627776 by omega)]; rfl
section
variable {R : Type}
theorem lp24 (N : Nat) (m : Int) (o : D) (w lw iw us : D) (K : D → D → D → D → D → Option R) (hm : m ≤ 16) (ho : good16 o) (hg : ∀ d ∈ us.toL, goodD d) (hu : us.toL.length ≤ 8388608) (hN : 8388609 ≤ N) :
    l12_24 N N (.i m) o w lw iw us (.i (us.toL.length : Int)) (.i 0) K = K (.i m) (us.toL.foldl (gA m) o) w lw iw := by
  have h := loop_fold (fun j i s => l12_24 N j (.i m) s w lw iw us (.i (us.toL.length : Int)) (.i (i : Nat)) K) (fun s => K (.i m) s w lw iw) us.toL.length (fun i s => gA m s (us.toL.getD i .nil)) (fun _ s => good16 s)
    (fun j i s hi hs => by
      have hd := hg _ (getD_mem hi)
      simp only [l12_24, m12_25, toI_i, cond_true, ltb_n hi, inb_t hi, at_nat, succ_n hi (show us.toL.length ≤ 9223372036854775807 by omega), p18g hs.2 hd.ok, sp18]
      unfold gA addM
      cases ltb (s.toL.length : Int) m <;> rfl)
    (fun i s hi hs => g16_gA hm hs (hg _ (getD_mem hi)))
    (fun j s hs => by simp only [l12_24, m12_25, toI_i, ltb_self, cond_false])
    us.toL.length 0 N o (by omega) (by omega) ho
  refine h.trans ?_
  rw [foldI_list (g := gA m) us.toL us.toL.length 0 o (by omega)]
  rfl
theorem merge_eq {a b o : D} (ha : goodD a) (hb : goodD b) (h : eqb (a.at 0).toI (b.at 0).toI = true) : okN ((sp30_0 a b).at 1) = true ∧ sp18 o ((sp30_0 a b).at 0) ((sp30_0 a b).at 1) = addS o (a.at 0) ((uni (a.at 1).toL (b.at 1).toL).take 3) ∧ pr30 a b = true := by
  obtain ⟨ta, ya, rfl, na, la, _⟩ := ha
  obtain ⟨tb, yb, rfl, nb, lb, _⟩ := hb
  have e : sp30_0 (.ag [ta, .sl ya, .b false]) (.ag [tb, .sl yb, .b false]) = .ag [ta, sp27 (sp19 (.sl ya) (.sl yb)) (.i 3), .b false] := by
    unfold sp30_0; rw [h]; rfl
  rw [e]
  refine ⟨rfl, ?_, ?_⟩
  · show addS o ta (sp27 (sp19 (.sl ya) (.sl yb)) (.i 3)).toL = _
    rw [toL_27 (sp19 (.sl ya) (.sl yb)) (.i 3) (show (0 : Int) ≤ 3 by decide)]
    rfl
  · unfold pr30 pr19
    rw [show (((D.ag [ta, .sl ya, .b false]).at 1).toL) = ya from rfl, show (((D.ag [tb, .sl yb, .b false]).at 1).toL) = yb from rfl, leN_t (show ya.length ≤ 549755813888 by omega), leN_t (show yb.length ≤ 549755813888 by omega)]
    rfl
theorem pr30_g {a b : D} (ha : goodD a) (hb : goodD b) : pr30 a b = true := by
  unfold pr30 pr19
  have h1 := ha.len
  have h2 := hb.len
  rw [ha.ok, leN_t (show (a.at 1).toL.length ≤ 549755813888 by omega), leN_t (show (b.at 1).toL.length ≤ 549755813888 by omega)]; rfl
theorem lp62 (N : Nat) (m : Int) (o a : D) (w lw iw us : D) (K : D → D → D → D → D → D → Option R) (hm : m ≤ 16) (ho : good16 o) (ha : goodD a) (hg : ∀ d ∈ us.toL, goodD d) (hu : us.toL.length ≤ 16) (hN : 8388609 ≤ N) :
    l12_62 N N (.i m) o us (.p a) w lw iw us (.i (us.toL.length : Int)) (.i 0) K = K (.i m) (us.toL.foldl (gM m a) o) us w lw iw := by
  have h := loop_fold (fun j i s => l12_62 N j (.i m) s us (.p a) w lw iw us (.i (us.toL.length : Int)) (.i (i : Nat)) K) (fun s => K (.i m) s us w lw iw) us.toL.length (fun i s => gM m a s (us.toL.getD i .nil)) (fun _ s => good16 s)
    (fun j i s hi hs => by
      have hd := hg _ (getD_mem hi)
      simp only [l12_62, m12_63, isPtr_p, deref_p, toI_i, cond_true, ltb_n hi, inb_t hi, at_nat, succ_n hi (show us.toL.length ≤ 9223372036854775807 by omega), pr30_g ha hd]
      unfold gM addM sp30_1
      generalize us.toL.getD i .nil = b at hd ⊢
      cases hq : eqb (a.at 0).toI (b.at 0).toI
      · rfl
      · obtain ⟨q1, q2, _⟩ := merge_eq (o := s) ha hd hq
        cases ltb (s.toL.length : Int) m
        · rfl
        · rw [p18g hs.2 q1, q2]; rfl)
    (fun i s hi hs => g16_gM hm hs ha)
    (fun j s hs => by simp only [l12_62, m12_63, toI_i, ltb_self, cond_false])
    us.toL.length 0 N o (by omega) (by omega) ho
  refine h.trans ?_
  rw [foldI_list (g := gM m a) us.toL us.toL.length 0 o (by omega)]
  rfl
theorem lp10 (N : Nat) (m : Int) (l : D) (K : D → D → Option R) (hm : m ≤ 16) (hl : l.toL.length ≤ 8) (hp : ∀ q ∈ l.toL, prOf q = true) (hN : 8388609 ≤ N) :
    l12_10 N N (.i m) (.sz []) l (.i (l.toL.length : Int)) (.i 0) K = K (.i m) (all1 l m) := by
  have h := loop_fold (fun j i s => l12_10 N j (.i m) s l (.i (l.toL.length : Int)) (.i (i : Nat)) K) (fun s => K (.i m) s) l.toL.length (fun i s => gQ m s (l.toL.getD i .nil)) (fun _ s => good16 s)
    (fun j i s hi hs => by
      have hq := hp _ (getD_mem hi)
      simp only [l12_10, m12_11, m12_12, m12_13, m12_14, m12_17, m12_18, m12_19, m12_20, m12_21, m12_22, m12_23, m12_24, m12_41, isPtr_p, deref_p, toI_i, toB_b, cond_true, ltb_n hi, inb_t hi, at_nat, show pr10 (l.toL.getD i .nil) = true from hq]
      rw [lp24 N m s _ _ _ _ _ hm hs (goodL_10 _).1 (len_10 hq) hN]
      simp only [toI_i, succ_n hi (show l.toL.length ≤ 9223372036854775807 by omega)]
      rfl)
    (fun i s hi hs => g16_gQ hm hs)
    (fun j s hs => by simp only [l12_10, m12_11, m12_12, m12_13, m12_14, toI_i, toB_b, ltb_self, cond_false])
    l.toL.length 0 N (.sz []) (by omega) (by omega) g16_nil
  refine h.trans ?_
  rw [foldI_list (g := gQ m) l.toL l.toL.length 0 _ (by omega)]
  rfl
theorem lp48 (N : Nat) (m : Int) (o us : D) (K : D → Option R) (hm : m ≤ 16) (ho : good16 o) (hg : ∀ d ∈ us.toL, goodD d) (hu : us.toL.length ≤ 16) (hN : 8388609 ≤ N) :
    l12_48 N N (.i m) o us us (.i (us.toL.length : Int)) (.i 0) K = K (us.toL.foldl (gB m us) o) := by
  have h := loop_fold (fun j i s => l12_48 N j (.i m) s us us (.i (us.toL.length : Int)) (.i (i : Nat)) K) (fun s => K s) us.toL.length (fun i s => gB m us s (us.toL.getD i .nil)) (fun _ s => good16 s)
    (fun j i s hi hs => by
      have hd := hg _ (getD_mem hi)
      simp only [l12_48, m12_49, m12_50, m12_51, m12_52, m12_55, m12_56, m12_57, m12_58, m12_59, m12_60, m12_61, m12_62, m12_81, toI_i, toB_b, cond_true, ltb_n hi, inb_t hi, at_nat]
      rw [lp62 N m s _ _ _ _ us _ hm hs hd hg hu hN]
      simp only [toI_i, succ_n hi (show us.toL.length ≤ 9223372036854775807 by omega)]
      rfl)
    (fun i s hi hs => g16_gB hm hs (hg _ (getD_mem hi)))
    (fun j s hs => by simp only [l12_48, m12_49, m12_50, m12_51, m12_52, toI_i, toB_b, ltb_self, cond_false])
    us.toL.length 0 N o (by omega) (by omega) ho
  refine h.trans ?_
  rw [foldI_list (g := gB m us) us.toL us.toL.length 0 o (by omega)]
  rfl
end
def Tb12 : CallF := extend Tb31 12 (fn2 pr12 fun l n => .f (sp12 l n))
theorem ok12 : FnOk Try.prog PHI Tb12 := FnOk.add2 hPHI ok31 (by kernel_rfl) fun l n ha hp => by
  obtain ⟨N, hN⟩ : ∃ N, 8388609 ≤ N := ⟨8388609, Nat.le_refl _⟩
  refine ⟨N, (r12 _ l n).trans ?_⟩
  have hp' : prAll l = true := hp
  simp only [prAll, Bool.and_eq_true, List.all_eq_true] at hp'
  have hl := leN_le hp'.1
  simp only [m12_0, m12_1, m12_2, m12_3, m12_4, m12_5, m12_6, m12_7, m12_8, m12_9, m12_10]
  rw [show mmI true 0 [mmI false n.toI [16]] = mx n.toI from rfl, lp10 N (mx n.toI) l _ (mx_b _) hl hp'.2 (by omega)]
  simp only [m12_42, m12_43, m12_44, m12_45, m12_46, m12_47, m12_48, m12_82]
  have h1 := g16_all1 l (mx_b n.toI)
  rw [lp48 N (mx n.toI) _ _ _ (mx_b _) h1 h1.1.1 h1.2 (by omega)]
  rfl
def sp13 (l n : D) : D := sp12 l n
def pr13 (l _ : D) : Bool := prAll l
section
variable {R : Type}
def m13_1 (N : Nat) (x0 x1 : D) (K : D → D → Option R) : Option R :=
  K x0 x1
def s13_0 (x0 x1 : D) : St := sts 91 [(0, V.f x0), (1, V.f x1)] []
theorem e13_1 (N : Nat) (k : Kn R) (x0 x1 : D) : runC PHI Tb12 N vc13_1 (s13_0 x0 x1) k = m13_1 N x0 x1 (fun x0 x1 => k .normal (s13_0 x0 x1)) := by
  refine Eq.trans (runC_post _ _ _ k) (Eq.trans (ops_run _ _ _ _) (by kernel_rfl))
def m13_3 (N : Nat) (x0 x1 : D) (K : D → D → Option R) : Option R :=
  K x0 (D.i (mmI true 0 [(mmI false x1.toI [16])]))
theorem e13_3 (N : Nat) (k : Kn R) (x0 x1 : D) : runC PHI Tb12 N vc13_3 (s13_0 x0 x1) k = m13_3 N x0 x1 (fun x0 x1 => k .normal (s13_0 x0 x1)) := by
  refine Eq.trans (runC_post _ _ _ k) (Eq.trans (ops_run _ _ _ _) (by kernel_rfl))
def m13_5 (N : Nat) (x0 x1 : D) (K : D → D → D → Option R) : Option R :=
  K x0 x1 (D.sz [])
def s13_1 (x0 x1 x5 : D) : St := sts 91 [(0, V.f x0), (1, V.f x1), (5, V.f x5)] []
theorem e13_5 (N : Nat) (k : Kn R) (x0 x1 : D) : runC PHI Tb12 N vc13_5 (s13_0 x0 x1) k = m13_5 N x0 x1 (fun x0 x1 x5 => k .normal (s13_1 x0 x1 x5)) := by
  refine Eq.trans (runC_post _ _ _ k) (Eq.trans (ops_run _ _ _ _) (by kernel_rfl))
def m13_8 (N : Nat) (x0 x1 x5 : D) (K : D → D → D → D → Option R) : Option R :=
  K x0 x1 x5 (D.i 0)
def s13_2 (x0 x1 x5 x6 : D) : St := sts 91 [(0, V.f x0), (1, V.f x1), (5, V.f x5), (6, V.f x6)] []
theorem e13_8 (N : Nat) (k : Kn R) (x0 x1 x5 : D) : runC PHI Tb12 N vc13_8 (s13_1 x0 x1 x5) k = m13_8 N x0 x1 x5 (fun x0 x1 x5 x6 => k .normal (s13_2 x0 x1 x5 x6)) := by
  refine Eq.trans (runC_post _ _ _ k) (Eq.trans (ops_run _ _ _ _) (by kernel_rfl))
def m13_12 (N : Nat) (x0 x1 x5 x6 : D) (K : D → D → D → D → Option R) (K0 : D → D → Option R) : Option R :=
  (bif (ltb x6.toI (x0.toL.length : Int)) then K x0 x1 x5 x6 else K0 x1 x5)
def s13_3 (x1 x5 : D) : St := sts 91 [(1, V.f x1), (5, V.f x5)] []
theorem e13_12 (N : Nat) (k : Kn R) (x0 x1 x5 x6 : D) : runC PHI Tb12 N vc13_12 (s13_2 x0 x1 x5 x6) k = m13_12 N x0 x1 x5 x6 (fun x0 x1 x5 x6 => k .normal (s13_2 x0 x1 x5 x6)) (fun x1 x5 => k (.exit 0) (s13_3 x1 x5)) := by kernel_rfl
def m13_20 (N : Nat) (x0 x1 x5 x6 : D) (K : D → D → D → D → D → Option R) : Option R :=
  (bif (inb x6.toI x0.toL.length) then (bif (pr11 (x0.at (x6.toI : Int).toNat)) then K x0 x1 x5 x6 (sp11 (x0.at (x6.toI : Int).toNat)) else none) else none)
def s13_4 (x0 x1 x5 x6 x7 : D) : St := sts 91 [(0, V.f x0), (1, V.f x1), (5, V.f x5), (6, V.f x6), (7, V.f x7)] []
theorem e13_20 (N : Nat) (k : Kn R) (x0 x1 x5 x6 : D) : runC PHI Tb12 N vc13_20 (s13_2 x0 x1 x5 x6) k = m13_20 N x0 x1 x5 x6 (fun x0 x1 x5 x6 x7 => k .normal (s13_4 x0 x1 x5 x6 x7)) := by
  refine Eq.trans (runC_post _ _ _ k) (Eq.trans (ops_run _ _ _ _) (by kernel_rfl))
def m13_22 (N : Nat) (x0 x1 x5 x6 x7 : D) (K : D → D → D → D → D → D → Option R) : Option R :=
  K x0 x1 x5 x6 x7 (D.i 0)
def s13_5 (x0 x1 x5 x6 x7 x8 : D) : St := sts 91 [(0, V.f x0), (1, V.f x1), (5, V.f x5), (6, V.f x6), (7, V.f x7), (8, V.f x8)] []
theorem e13_22 (N : Nat) (k : Kn R) (x0 x1 x5 x6 x7 : D) : runC PHI Tb12 N vc13_22 (s13_4 x0 x1 x5 x6 x7) k = m13_22 N x0 x1 x5 x6 x7 (fun x0 x1 x5 x6 x7 x8 => k .normal (s13_5 x0 x1 x5 x6 x7 x8)) := by
  refine Eq.trans (runC_post _ _ _ k) (Eq.trans (ops_run _ _ _ _) (by kernel_rfl))
def m13_25 (N : Nat) (x0 x1 x5 x6 x7 x8 : D) (K : D → D → D → D → D → D → Option R) (K2 : D → D → D → D → Option R) : Option R :=
  (bif (ltb x8.toI (x7.toL.length : Int)) then (bif (ltb (x5.toL.length : Int) x1.toI) then (bif (inb x8.toI x7.toL.length) then (bif (inb x8.toI x7.toL.length) then (bif (pr25 x5 ((x7.at (x8.toI : Int).toNat).at 0) ((x7.at (x8.toI : Int).toNat).at 1)) then K x0 x1 (sp25 x5 ((x7.at (x8.toI : Int).toNat).at 0) ((x7.at (x8.toI : Int).toNat).at 1)) x6 x7 (D.i (IntKind.wrap IntKind.i64 (x8.toI + 1))) else none) else none) else none) else K2 x0 x1 x5 x6) else (bif false then (bif (inb x8.toI x7.toL.length) then (bif (inb x8.toI x7.toL.length) then (bif (pr25 x5 ((x7.at (x8.toI : Int).toNat).at 0) ((x7.at (x8.toI : Int).toNat).at 1)) then K x0 x1 (sp25 x5 ((x7.at (x8.toI : Int).toNat).at 0) ((x7.at (x8.toI : Int).toNat).at 1)) x6 x7 (D.i (IntKind.wrap IntKind.i64 (x8.toI + 1))) else none) else none) else none) else K2 x0 x1 x5 x6))
theorem e13_25 (N : Nat) (k : Kn R) (x0 x1 x5 x6 x7 x8 : D) : runC PHI Tb12 N vc13_25 (s13_5 x0 x1 x5 x6 x7 x8) k = m13_25 N x0 x1 x5 x6 x7 x8 (fun x0 x1 x5 x6 x7 x8 => k .normal (s13_5 x0 x1 x5 x6 x7 x8)) (fun x0 x1 x5 x6 => k (.exit 2) (s13_2 x0 x1 x5 x6)) := by kernel_rfl
def l13_24 (N : Nat) (j : Nat) (x0 x1 x5 x6 x7 x8 : D) (K2 : D → D → D → D → Option R) : Option R :=
  match j with
  | 0 => none
  | j + 1 => (m13_25 N x0 x1 x5 x6 x7 x8 (fun y0 y1 y5 y6 y7 y8 => l13_24 N j y0 y1 y5 y6 y7 y8 K2) K2)
def m13_24 (N : Nat) (x0 x1 x5 x6 x7 x8 : D) (K2 : D → D → D → D → Option R) : Option R :=
  l13_24 N N x0 x1 x5 x6 x7 x8 K2
theorem el13_24 (N : Nat) (k : Kn R) : ∀ (j : Nat) (x0 x1 x5 x6 x7 x8 : D), loopGo (runC PHI Tb12 N vc13_25) j (s13_5 x0 x1 x5 x6 x7 x8) k = l13_24 N j x0 x1 x5 x6 x7 x8 (fun x0 x1 x5 x6 => k (.exit 2) (s13_2 x0 x1 x5 x6))
  | 0, _, _, _, _, _, _ => by kernel_rfl
  | j + 1, x0, x1, x5, x6, x7, x8 => by
    have h2 := e13_25 N (kloop PHI Tb12 N vc13_25 j k) x0 x1 x5 x6 x7 x8
    have h3 : (fun (y0 y1 y5 y6 y7 y8 : D) => (kloop PHI Tb12 N vc13_25 j k) .normal (s13_5 y0 y1 y5 y6 y7 y8)) = (fun (y0 y1 y5 y6 y7 y8 : D) => l13_24 N j y0 y1 y5 y6 y7 y8 (fun x0 x1 x5 x6 => k (.exit 2) (s13_2 x0 x1 x5 x6))) := funext fun y0 => funext fun y1 => funext fun y5 => funext fun y6 => funext fun y7 => funext fun y8 => (el13_24 N k j y0 y1 y5 y6 y7 y8)
    refine Eq.trans (loop_succ _ j _ k) (Eq.trans h2 (Eq.trans (congrArg (fun K => m13_25 N x0 x1 x5 x6 x7 x8 K (fun x0 x1 x5 x6 => (kloop PHI Tb12 N vc13_25 j k) (.exit 2) (s13_2 x0 x1 x5 x6))) h3) (by kernel_rfl)))
theorem e13_24 (N : Nat) (k : Kn R) (x0 x1 x5 x6 x7 x8 : D) : runC PHI Tb12 N vc13_24 (s13_5 x0 x1 x5 x6 x7 x8) k = m13_24 N x0 x1 x5 x6 x7 x8 (fun x0 x1 x5 x6 => k (.exit 2) (s13_2 x0 x1 x5 x6)) := by
  refine Eq.trans (runC_loop _ _ k) (Eq.trans (el13_24 N k N x0 x1 x5 x6 x7 x8) (by kernel_rfl))
def m13_23 (N : Nat) (x0 x1 x5 x6 x7 x8 : D) (K : D → D → D → D → Option R) : Option R :=
  (m13_24 N x0 x1 x5 x6 x7 x8 (fun y0 y1 y5 y6 => K y0 y1 y5 y6))
theorem e13_23 (N : Nat) (k : Kn R) (x0 x1 x5 x6 x7 x8 : D) : runC PHI Tb12 N vc13_23 (s13_5 x0 x1 x5 x6 x7 x8) k = m13_23 N x0 x1 x5 x6 x7 x8 (fun x0 x1 x5 x6 => k .normal (s13_2 x0 x1 x5 x6)) := by
  refine Eq.trans (runC_block _ _ _ k) (Eq.trans (e13_24 N (kblk 2 k) x0 x1 x5 x6 x7 x8) (by kernel_rfl))
def m13_21 (N : Nat) (x0 x1 x5 x6 x7 : D) (K : D → D → D → D → Option R) : Option R :=
  (m13_22 N x0 x1 x5 x6 x7 (fun y0 y1 y5 y6 y7 y8 => (m13_23 N y0 y1 y5 y6 y7 y8 (fun y0 y1 y5 y6 => K y0 y1 y5 y6))))
theorem e13_21 (N : Nat) (k : Kn R) (x0 x1 x5 x6 x7 : D) : runC PHI Tb12 N vc13_21 (s13_4 x0 x1 x5 x6 x7) k = m13_21 N x0 x1 x5 x6 x7 (fun x0 x1 x5 x6 => k .normal (s13_2 x0 x1 x5 x6)) := by
  have h2 := e13_22 N (kseq PHI Tb12 N vc13_23 k) x0 x1 x5 x6 x7
  have h3 := (funext fun y0 => funext fun y1 => funext fun y5 => funext fun y6 => funext fun y7 => funext fun y8 => (e13_23 N k y0 y1 y5 y6 y7 y8) : (fun (y0 y1 y5 y6 y7 y8 : D) => (kseq PHI Tb12 N vc13_23 k) .normal (s13_5 y0 y1 y5 y6 y7 y8)) = _)
  refine Eq.trans (runC_seq _ _ _ k) (Eq.trans h2 (Eq.trans (congrArg (fun K => m13_22 N x0 x1 x5 x6 x7 K) h3) (by kernel_rfl)))
def m13_19 (N : Nat) (x0 x1 x5 x6 : D) (K : D → D → D → D → Option R) : Option R :=
  (m13_20 N x0 x1 x5 x6 (fun y0 y1 y5 y6 y7 => (m13_21 N y0 y1 y5 y6 y7 (fun y0 y1 y5 y6 => K y0 y1 y5 y6))))
theorem e13_19 (N : Nat) (k : Kn R) (x0 x1 x5 x6 : D) : runC PHI Tb12 N vc13_19 (s13_2 x0 x1 x5 x6) k = m13_19 N x0 x1 x5 x6 (fun x0 x1 x5 x6 => k .normal (s13_2 x0 x1 x5 x6)) := by
  have h2 := e13_20 N (kseq PHI Tb12 N vc13_21 k) x0 x1 x5 x6
  have h3 := (funext fun y0 => funext fun y1 => funext fun y5 => funext fun y6 => funext fun y7 => (e13_21 N k y0 y1 y5 y6 y7) : (fun (y0 y1 y5 y6 y7 : D) => (kseq PHI Tb12 N vc13_21 k) .normal (s13_4 y0 y1 y5 y6 y7)) = _)
  refine Eq.trans (runC_seq _ _ _ k) (Eq.trans h2 (Eq.trans (congrArg (fun K => m13_20 N x0 x1 x5 x6 K) h3) (by kernel_rfl)))
def m13_18 (N : Nat) (x0 x1 x5 x6 : D) (K : D → D → D → D → Option R) : Option R :=
  (m13_19 N x0 x1 x5 x6 (fun y0 y1 y5 y6 => K y0 y1 y5 y6))
theorem e13_18 (N : Nat) (k : Kn R) (x0 x1 x5 x6 : D) : runC PHI Tb12 N vc13_18 (s13_2 x0 x1 x5 x6) k = m13_18 N x0 x1 x5 x6 (fun x0 x1 x5 x6 => k .normal (s13_2 x0 x1 x5 x6)) := by
  refine Eq.trans (runC_block _ _ _ k) (Eq.trans (e13_19 N (kblk 1 k) x0 x1 x5 x6) (by kernel_rfl))
def m13_35 (N : Nat) (x0 x1 x5 x6 : D) (K : D → D → D → D → Option R) : Option R :=
  K x0 x1 x5 (D.i (IntKind.wrap IntKind.i64 (x6.toI + 1)))
theorem e13_35 (N : Nat) (k : Kn R) (x0 x1 x5 x6 : D) : runC PHI Tb12 N vc13_35 (s13_2 x0 x1 x5 x6) k = m13_35 N x0 x1 x5 x6 (fun x0 x1 x5 x6 => k .normal (s13_2 x0 x1 x5 x6)) := by
  refine Eq.trans (runC_post _ _ _ k) (Eq.trans (ops_run _ _ _ _) (by kernel_rfl))
def m13_17 (N : Nat) (x0 x1 x5 x6 : D) (K : D → D → D → D → Option R) : Option R :=
  (m13_18 N x0 x1 x5 x6 (fun y0 y1 y5 y6 => (m13_35 N y0 y1 y5 y6 (fun y0 y1 y5 y6 => K y0 y1 y5 y6))))
theorem e13_17 (N : Nat) (k : Kn R) (x0 x1 x5 x6 : D) : runC PHI Tb12 N vc13_17 (s13_2 x0 x1 x5 x6) k = m13_17 N x0 x1 x5 x6 (fun x0 x1 x5 x6 => k .normal (s13_2 x0 x1 x5 x6)) := by
  have h2 := e13_18 N (kseq PHI Tb12 N vc13_35 k) x0 x1 x5 x6
  have h3 := (funext fun y0 => funext fun y1 => funext fun y5 => funext fun y6 => (e13_35 N k y0 y1 y5 y6) : (fun (y0 y1 y5 y6 : D) => (kseq PHI Tb12 N vc13_35 k) .normal (s13_2 y0 y1 y5 y6)) = _)
  refine Eq.trans (runC_seq _ _ _ k) (Eq.trans h2 (Eq.trans (congrArg (fun K => m13_18 N x0 x1 x5 x6 K) h3) (by kernel_rfl)))
def m13_11 (N : Nat) (x0 x1 x5 x6 : D) (K : D → D → D → D → Option R) (K0 : D → D → Option R) : Option R :=
  (m13_12 N x0 x1 x5 x6 (fun y0 y1 y5 y6 => (m13_17 N y0 y1 y5 y6 (fun y0 y1 y5 y6 => K y0 y1 y5 y6))) K0)
theorem e13_11 (N : Nat) (k : Kn R) (x0 x1 x5 x6 : D) : runC PHI Tb12 N vc13_11 (s13_2 x0 x1 x5 x6) k = m13_11 N x0 x1 x5 x6 (fun x0 x1 x5 x6 => k .normal (s13_2 x0 x1 x5 x6)) (fun x1 x5 => k (.exit 0) (s13_3 x1 x5)) := by
  have h2 := e13_12 N (kseq PHI Tb12 N vc13_17 k) x0 x1 x5 x6
  have h3 := (funext fun y0 => funext fun y1 => funext fun y5 => funext fun y6 => (e13_17 N k y0 y1 y5 y6) : (fun (y0 y1 y5 y6 : D) => (kseq PHI Tb12 N vc13_17 k) .normal (s13_2 y0 y1 y5 y6)) = _)
  refine Eq.trans (runC_seq _ _ _ k) (Eq.trans h2 (Eq.trans (congrArg (fun K => m13_12 N x0 x1 x5 x6 K (fun x1 x5 => (kseq PHI Tb12 N vc13_17 k) (.exit 0) (s13_3 x1 x5))) h3) (by kernel_rfl)))
def l13_10 (N : Nat) (j : Nat) (x0 x1 x5 x6 : D) (K0 : D → D → Option R) : Option R :=
  match j with
  | 0 => none
  | j + 1 => (m13_11 N x0 x1 x5 x6 (fun y0 y1 y5 y6 => l13_10 N j y0 y1 y5 y6 K0) K0)
def m13_10 (N : Nat) (x0 x1 x5 x6 : D) (K0 : D → D → Option R) : Option R :=
  l13_10 N N x0 x1 x5 x6 K0
theorem el13_10 (N : Nat) (k : Kn R) : ∀ (j : Nat) (x0 x1 x5 x6 : D), loopGo (runC PHI Tb12 N vc13_11) j (s13_2 x0 x1 x5 x6) k = l13_10 N j x0 x1 x5 x6 (fun x1 x5 => k (.exit 0) (s13_3 x1 x5))
  | 0, _, _, _, _ => by kernel_rfl
  | j + 1, x0, x1, x5, x6 => by
    have h2 := e13_11 N (kloop PHI Tb12 N vc13_11 j k) x0 x1 x5 x6
    have h3 : (fun (y0 y1 y5 y6 : D) => (kloop PHI Tb12 N vc13_11 j k) .normal (s13_2 y0 y1 y5 y6)) = (fun (y0 y1 y5 y6 : D) => l13_10 N j y0 y1 y5 y6 (fun x1 x5 => k (.exit 0) (s13_3 x1 x5))) := funext fun y0 => funext fun y1 => funext fun y5 => funext fun y6 => (el13_10 N k j y0 y1 y5 y6)
    refine Eq.trans (loop_succ _ j _ k) (Eq.trans h2 (Eq.trans (congrArg (fun K => m13_11 N x0 x1 x5 x6 K (fun x1 x5 => (kloop PHI Tb12 N vc13_11 j k) (.exit 0) (s13_3 x1 x5))) h3) (by kernel_rfl)))
theorem e13_10 (N : Nat) (k : Kn R) (x0 x1 x5 x6 : D) : runC PHI Tb12 N vc13_10 (s13_2 x0 x1 x5 x6) k = m13_10 N x0 x1 x5 x6 (fun x1 x5 => k (.exit 0) (s13_3 x1 x5)) := by
  refine Eq.trans (runC_loop _ _ k) (Eq.trans (el13_10 N k N x0 x1 x5 x6) (by kernel_rfl))
def m13_9 (N : Nat) (x0 x1 x5 x6 : D) (K : D → D → Option R) : Option R :=
  (m13_10 N x0 x1 x5 x6 (fun y1 y5 => K y1 y5))
theorem e13_9 (N : Nat) (k : Kn R) (x0 x1 x5 x6 : D) : runC PHI Tb12 N vc13_9 (s13_2 x0 x1 x5 x6) k = m13_9 N x0 x1 x5 x6 (fun x1 x5 => k .normal (s13_3 x1 x5)) := by
  refine Eq.trans (runC_block _ _ _ k) (Eq.trans (e13_10 N (kblk 0 k) x0 x1 x5 x6) (by kernel_rfl))
def m13_7 (N : Nat) (x0 x1 x5 : D) (K : D → D → Option R) : Option R :=
  (m13_8 N x0 x1 x5 (fun y0 y1 y5 y6 => (m13_9 N y0 y1 y5 y6 (fun y1 y5 => K y1 y5))))
theorem e13_7 (N : Nat) (k : Kn R) (x0 x1 x5 : D) : runC PHI Tb12 N vc13_7 (s13_1 x0 x1 x5) k = m13_7 N x0 x1 x5 (fun x1 x5 => k .normal (s13_3 x1 x5)) := by
  have h2 := e13_8 N (kseq PHI Tb12 N vc13_9 k) x0 x1 x5
  have h3 := (funext fun y0 => funext fun y1 => funext fun y5 => funext fun y6 => (e13_9 N k y0 y1 y5 y6) : (fun (y0 y1 y5 y6 : D) => (kseq PHI Tb12 N vc13_9 k) .normal (s13_2 y0 y1 y5 y6)) = _)
  refine Eq.trans (runC_seq _ _ _ k) (Eq.trans h2 (Eq.trans (congrArg (fun K => m13_8 N x0 x1 x5 K) h3) (by kernel_rfl)))
def m13_37 (N : Nat) (x1 x5 : D) (K : D → D → D → Option R) : Option R :=
  K x1 x5 x5
def s13_6 (x1 x5 x9 : D) : St := sts 91 [(1, V.f x1), (5, V.f x5), (9, V.f x9)] []
theorem e13_37 (N : Nat) (k : Kn R) (x1 x5 : D) : runC PHI Tb12 N vc13_37 (s13_3 x1 x5) k = m13_37 N x1 x5 (fun x1 x5 x9 => k .normal (s13_6 x1 x5 x9)) := by
  refine Eq.trans (runC_post _ _ _ k) (Eq.trans (ops_run _ _ _ _) (by kernel_rfl))
def m13_40 (N : Nat) (x1 x5 x9 : D) (K : D → D → D → D → Option R) : Option R :=
  K x1 x5 x9 (D.i 0)
def s13_7 (x1 x5 x9 x10 : D) : St := sts 91 [(1, V.f x1), (5, V.f x5), (9, V.f x9), (10, V.f x10)] []
theorem e13_40 (N : Nat) (k : Kn R) (x1 x5 x9 : D) : runC PHI Tb12 N vc13_40 (s13_6 x1 x5 x9) k = m13_40 N x1 x5 x9 (fun x1 x5 x9 x10 => k .normal (s13_7 x1 x5 x9 x10)) := by
  refine Eq.trans (runC_post _ _ _ k) (Eq.trans (ops_run _ _ _ _) (by kernel_rfl))
def m13_44 (N : Nat) (x1 x5 x9 x10 : D) (K : D → D → D → D → Option R) (K4 : D → Option R) : Option R :=
  (bif (ltb x10.toI (x9.toL.length : Int)) then K x1 x5 x9 x10 else K4 x5)
def s13_8 (x5 : D) : St := sts 91 [(5, V.f x5)] []
theorem e13_44 (N : Nat) (k : Kn R) (x1 x5 x9 x10 : D) : runC PHI Tb12 N vc13_44 (s13_7 x1 x5 x9 x10) k = m13_44 N x1 x5 x9 x10 (fun x1 x5 x9 x10 => k .normal (s13_7 x1 x5 x9 x10)) (fun x5 => k (.exit 4) (s13_8 x5)) := by kernel_rfl
def m13_52 (N : Nat) (x1 x5 x9 x10 : D) (K : D → D → D → D → D → Option R) : Option R :=
  K x1 x5 x9 x10 (D.i 0)
def s13_9 (x1 x5 x9 x10 x11 : D) : St := sts 91 [(1, V.f x1), (5, V.f x5), (9, V.f x9), (10, V.f x10), (11, V.f x11)] []
theorem e13_52 (N : Nat) (k : Kn R) (x1 x5 x9 x10 : D) : runC PHI Tb12 N vc13_52 (s13_7 x1 x5 x9 x10) k = m13_52 N x1 x5 x9 x10 (fun x1 x5 x9 x10 x11 => k .normal (s13_9 x1 x5 x9 x10 x11)) := by
  refine Eq.trans (runC_post _ _ _ k) (Eq.trans (ops_run _ _ _ _) (by kernel_rfl))
def m13_55 (N : Nat) (x1 x5 x9 x10 x11 : D) (K : D → D → D → D → D → Option R) (K6 : D → D → D → D → Option R) : Option R :=
  (bif (ltb x11.toI (x9.toL.length : Int)) then (bif (ltb (x5.toL.length : Int) x1.toI) then (bif (inb x10.toI x9.toL.length) then (bif (inb x11.toI x9.toL.length) then (bif (pr31 (x9.at (x10.toI : Int).toNat) (x9.at (x11.toI : Int).toNat)) then (bif (sp31_1 (x9.at (x10.toI : Int).toNat) (x9.at (x11.toI : Int).toNat)) then (bif (pr25 x5 ((sp31_0 (x9.at (x10.toI : Int).toNat) (x9.at (x11.toI : Int).toNat)).at 0) ((sp31_0 (x9.at (x10.toI : Int).toNat) (x9.at (x11.toI : Int).toNat)).at 1)) then K x1 (sp25 x5 ((sp31_0 (x9.at (x10.toI : Int).toNat) (x9.at (x11.toI : Int).toNat)).at 0) ((sp31_0 (x9.at (x10.toI : Int).toNat) (x9.at (x11.toI : Int).toNat)).at 1)) x9 x10 (D.i (IntKind.wrap IntKind.i64 (x11.toI + 1))) else none) else K x1 x5 x9 x10 (D.i (IntKind.wrap IntKind.i64 (x11.toI + 1)))) else none) else none) else none) else K6 x1 x5 x9 x10) else (bif false then (bif (inb x10.toI x9.toL.length) then (bif (inb x11.toI x9.toL.length) then (bif (pr31 (x9.at (x10.toI : Int).toNat) (x9.at (x11.toI : Int).toNat)) then (bif (sp31_1 (x9.at (x10.toI : Int).toNat) (x9.at (x11.toI : Int).toNat)) then (bif (pr25 x5 ((sp31_0 (x9.at (x10.toI : Int).toNat) (x9.at (x11.toI : Int).toNat)).at 0) ((sp31_0 (x9.at (x10.toI : Int).toNat) (x9.at (x11.toI : Int).toNat)).at 1)) then K x1 (sp25 x5 ((sp31_0 (x9.at (x10.toI : Int).toNat) (x9.at (x11.toI : Int).toNat)).at 0) ((sp31_0 (x9.at (x10.toI : Int).toNat) (x9.at (x11.toI : Int).toNat)).at 1)) x9 x10 (D.i (IntKind.wrap IntKind.i64 (x11.toI + 1))) else none) else K x1 x5 x9 x10 (D.i (IntKind.wrap IntKind.i64 (x11.toI + 1)))) else none) else none) else none) else K6 x1 x5 x9 x10))
theorem e13_55 (N : Nat) (k : Kn R) (x1 x5 x9 x10 x11 : D) : runC PHI Tb12 N vc13_55 (s13_9 x1 x5 x9 x10 x11) k = m13_55 N x1 x5 x9 x10 x11 (fun x1 x5 x9 x10 x11 => k .normal (s13_9 x1 x5 x9 x10 x11)) (fun x1 x5 x9 x10 => k (.exit 6) (s13_7 x1 x5 x9 x10)) := by kernel_rfl
def l13_54 (N : Nat) (j : Nat) (x1 x5 x9 x10 x11 : D) (K6 : D → D → D → D → Option R) : Option R :=
  match j with
  | 0 => none
  | j + 1 => (m13_55 N x1 x5 x9 x10 x11 (fun y1 y5 y9 y10 y11 => l13_54 N j y1 y5 y9 y10 y11 K6) K6)
def m13_54 (N : Nat) (x1 x5 x9 x10 x11 : D) (K6 : D → D → D → D → Option R) : Option R :=
  l13_54 N N x1 x5 x9 x10 x11 K6
theorem el13_54 (N : Nat) (k : Kn R) : ∀ (j : Nat) (x1 x5 x9 x10 x11 : D), loopGo (runC PHI Tb12 N vc13_55) j (s13_9 x1 x5 x9 x10 x11) k = l13_54 N j x1 x5 x9 x10 x11 (fun x1 x5 x9 x10 => k (.exit 6) (s13_7 x1 x5 x9 x10))
  | 0, _, _, _, _, _ => by kernel_rfl
  | j + 1, x1, x5, x9, x10, x11 => by
    have h2 := e13_55 N (kloop PHI Tb12 N vc13_55 j k) x1 x5 x9 x10 x11
    have h3 : (fun (y1 y5 y9 y10 y11 : D) => (kloop PHI Tb12 N vc13_55 j k) .normal (s13_9 y1 y5 y9 y10 y11)) = (fun (y1 y5 y9 y10 y11 : D) => l13_54 N j y1 y5 y9 y10 y11 (fun x1 x5 x9 x10 => k (.exit 6) (s13_7 x1 x5 x9 x10))) := funext fun y1 => funext fun y5 => funext fun y9 => funext fun y10 => funext fun y11 => (el13_54 N k j y1 y5 y9 y10 y11)
    refine Eq.trans (loop_succ _ j _ k) (Eq.trans h2 (Eq.trans (congrArg (fun K => m13_55 N x1 x5 x9 x10 x11 K (fun x1 x5 x9 x10 => (kloop PHI Tb12 N vc13_55 j k) (.exit 6) (s13_7 x1 x5 x9 x10))) h3) (by kernel_rfl)))
theorem e13_54 (N : Nat) (k : Kn R) (x1 x5 x9 x10 x11 : D) : runC PHI Tb12 N vc13_54 (s13_9 x1 x5 x9 x10 x11) k = m13_54 N x1 x5 x9 x10 x11 (fun x1 x5 x9 x10 => k (.exit 6) (s13_7 x1 x5 x9 x10)) := by
  refine Eq.trans (runC_loop _ _ k) (Eq.trans (el13_54 N k N x1 x5 x9 x10 x11) (by kernel_rfl))
def m13_53 (N : Nat) (x1 x5 x9 x10 x11 : D) (K : D → D → D → D → Option R) : Option R :=
  (m13_54 N x1 x5 x9 x10 x11 (fun y1 y5 y9 y10 => K y1 y5 y9 y10))
theorem e13_53 (N : Nat) (k : Kn R) (x1 x5 x9 x10 x11 : D) : runC PHI Tb12 N vc13_53 (s13_9 x1 x5 x9 x10 x11) k = m13_53 N x1 x5 x9 x10 x11 (fun x1 x5 x9 x10 => k .normal (s13_7 x1 x5 x9 x10)) := by
  refine Eq.trans (runC_block _ _ _ k) (Eq.trans (e13_54 N (kblk 6 k) x1 x5 x9 x10 x11) (by kernel_rfl))
def m13_51 (N : Nat) (x1 x5 x9 x10 : D) (K : D → D → D → D → Option R) : Option R :=
  (m13_52 N x1 x5 x9 x10 (fun y1 y5 y9 y10 y11 => (m13_53 N y1 y5 y9 y10 y11 (fun y1 y5 y9 y10 => K y1 y5 y9 y10))))
theorem e13_51 (N : Nat) (k : Kn R) (x1 x5 x9 x10 : D) : runC PHI Tb12 N vc13_51 (s13_7 x1 x5 x9 x10) k = m13_51 N x1 x5 x9 x10 (fun x1 x5 x9 x10 => k .normal (s13_7 x1 x5 x9 x10)) := by
  have h2 := e13_52 N (kseq PHI Tb12 N vc13_53 k) x1 x5 x9 x10
  have h3 := (funext fun y1 => funext fun y5 => funext fun y9 => funext fun y10 => funext fun y11 => (e13_53 N k y1 y5 y9 y10 y11) : (fun (y1 y5 y9 y10 y11 : D) => (kseq PHI Tb12 N vc13_53 k) .normal (s13_9 y1 y5 y9 y10 y11)) = _)
  refine Eq.trans (runC_seq _ _ _ k) (Eq.trans h2 (Eq.trans (congrArg (fun K => m13_52 N x1 x5 x9 x10 K) h3) (by kernel_rfl)))
def m13_50 (N : Nat) (x1 x5 x9 x10 : D) (K : D → D → D → D → Option R) : Option R :=
  (m13_51 N x1 x5 x9 x10 (fun y1 y5 y9 y10 => K y1 y5 y9 y10))
theorem e13_50 (N : Nat) (k : Kn R) (x1 x5 x9 x10 : D) : runC PHI Tb12 N vc13_50 (s13_7 x1 x5 x9 x10) k = m13_50 N x1 x5 x9 x10 (fun x1 x5 x9 x10 => k .normal (s13_7 x1 x5 x9 x10)) := by
  refine Eq.trans (runC_block _ _ _ k) (Eq.trans (e13_51 N (kblk 5 k) x1 x5 x9 x10) (by kernel_rfl))
def m13_71 (N : Nat) (x1 x5 x9 x10 : D) (K : D → D → D → D → Option R) : Option R :=
  K x1 x5 x9 (D.i (IntKind.wrap IntKind.i64 (x10.toI + 1)))
theorem e13_71 (N : Nat) (k : Kn R) (x1 x5 x9 x10 : D) : runC PHI Tb12 N vc13_71 (s13_7 x1 x5 x9 x10) k = m13_71 N x1 x5 x9 x10 (fun x1 x5 x9 x10 => k .normal (s13_7 x1 x5 x9 x10)) := by
  refine Eq.trans (runC_post _ _ _ k) (Eq.trans (ops_run _ _ _ _) (by kernel_rfl))
def m13_49 (N : Nat) (x1 x5 x9 x10 : D) (K : D → D → D → D → Option R) : Option R :=
  (m13_50 N x1 x5 x9 x10 (fun y1 y5 y9 y10 => (m13_71 N y1 y5 y9 y10 (fun y1 y5 y9 y10 => K y1 y5 y9 y10))))
theorem e13_49 (N : Nat) (k : Kn R) (x1 x5 x9 x10 : D) : runC PHI Tb12 N vc13_49 (s13_7 x1 x5 x9 x10) k = m13_49 N x1 x5 x9 x10 (fun x1 x5 x9 x10 => k .normal (s13_7 x1 x5 x9 x10)) := by
  have h2 := e13_50 N (kseq PHI Tb12 N vc13_71 k) x1 x5 x9 x10
  have h3 := (funext fun y1 => funext fun y5 => funext fun y9 => funext fun y10 => (e13_71 N k y1 y5 y9 y10) : (fun (y1 y5 y9 y10 : D) => (kseq PHI Tb12 N vc13_71 k) .normal (s13_7 y1 y5 y9 y10)) = _)
  refine Eq.trans (runC_seq _ _ _ k) (Eq.trans h2 (Eq.trans (congrArg (fun K => m13_50 N x1 x5 x9 x10 K) h3) (by kernel_rfl)))
def m13_43 (N : Nat) (x1 x5 x9 x10 : D) (K : D → D → D → D → Option R) (K4 : D → Option R) : Option R :=
  (m13_44 N x1 x5 x9 x10 (fun y1 y5 y9 y10 => (m13_49 N y1 y5 y9 y10 (fun y1 y5 y9 y10 => K y1 y5 y9 y10))) K4)
theorem e13_43 (N : Nat) (k : Kn R) (x1 x5 x9 x10 : D) : runC PHI Tb12 N vc13_43 (s13_7 x1 x5 x9 x10) k = m13_43 N x1 x5 x9 x10 (fun x1 x5 x9 x10 => k .normal (s13_7 x1 x5 x9 x10)) (fun x5 => k (.exit 4) (s13_8 x5)) := by
  have h2 := e13_44 N (kseq PHI Tb12 N vc13_49 k) x1 x5 x9 x10
  have h3 := (funext fun y1 => funext fun y5 => funext fun y9 => funext fun y10 => (e13_49 N k y1 y5 y9 y10) : (fun (y1 y5 y9 y10 : D) => (kseq PHI Tb12 N vc13_49 k) .normal (s13_7 y1 y5 y9 y10)) = _)
  refine Eq.trans (runC_seq _ _ _ k) (Eq.trans h2 (Eq.trans (congrArg (fun K => m13_44 N x1 x5 x9 x10 K (fun x5 => (kseq PHI Tb12 N vc13_49 k) (.exit 4) (s13_8 x5))) h3) (by kernel_rfl)))
def l13_42 (N : Nat) (j : Nat) (x1 x5 x9 x10 : D) (K4 : D → Option R) : Option R :=
  match j with
  | 0 => none
  | j + 1 => (m13_43 N x1 x5 x9 x10 (fun y1 y5 y9 y10 => l13_42 N j y1 y5 y9 y10 K4) K4)
def m13_42 (N : Nat) (x1 x5 x9 x10 : D) (K4 : D → Option R) : Option R :=
  l13_42 N N x1 x5 x9 x10 K4
theorem el13_42 (N : Nat) (k : Kn R) : ∀ (j : Nat) (x1 x5 x9 x10 : D), loopGo (runC PHI Tb12 N vc13_43) j (s13_7 x1 x5 x9 x10) k = l13_42 N j x1 x5 x9 x10 (fun x5 => k (.exit 4) (s13_8 x5))
  | 0, _, _, _, _ => by kernel_rfl
  | j + 1, x1, x5, x9, x10 => by
    have h2 := e13_43 N (kloop PHI Tb12 N vc13_43 j k) x1 x5 x9 x10
    have h3 : (fun (y1 y5 y9 y10 : D) => (kloop PHI Tb12 N vc13_43 j k) .normal (s13_7 y1 y5 y9 y10)) = (fun (y1 y5 y9 y10 : D) => l13_42 N j y1 y5 y9 y10 (fun x5 => k (.exit 4) (s13_8 x5))) := funext fun y1 => funext fun y5 => funext fun y9 => funext fun y10 => (el13_42 N k j y1 y5 y9 y10)
    refine Eq.trans (loop_succ _ j _ k) (Eq.trans h2 (Eq.trans (congrArg (fun K => m13_43 N x1 x5 x9 x10 K (fun x5 => (kloop PHI Tb12 N vc13_43 j k) (.exit 4) (s13_8 x5))) h3) (by kernel_rfl)))
theorem e13_42 (N : Nat) (k : Kn R) (x1 x5 x9 x10 : D) : runC PHI Tb12 N vc13_42 (s13_7 x1 x5 x9 x10) k = m13_42 N x1 x5 x9 x10 (fun x5 => k (.exit 4) (s13_8 x5)) := by
  refine Eq.trans (runC_loop _ _ k) (Eq.trans (el13_42 N k N x1 x5 x9 x10) (by kernel_rfl))
def m13_41 (N : Nat) (x1 x5 x9 x10 : D) (K : D → Option R) : Option R :=
  (m13_42 N x1 x5 x9 x10 (fun y5 => K y5))
theorem e13_41 (N : Nat) (k : Kn R) (x1 x5 x9 x10 : D) : runC PHI Tb12 N vc13_41 (s13_7 x1 x5 x9 x10) k = m13_41 N x1 x5 x9 x10 (fun x5 => k .normal (s13_8 x5)) := by
  refine Eq.trans (runC_block _ _ _ k) (Eq.trans (e13_42 N (kblk 4 k) x1 x5 x9 x10) (by kernel_rfl))
def m13_39 (N : Nat) (x1 x5 x9 : D) (K : D → Option R) : Option R :=
  (m13_40 N x1 x5 x9 (fun y1 y5 y9 y10 => (m13_41 N y1 y5 y9 y10 (fun y5 => K y5))))
theorem e13_39 (N : Nat) (k : Kn R) (x1 x5 x9 : D) : runC PHI Tb12 N vc13_39 (s13_6 x1 x5 x9) k = m13_39 N x1 x5 x9 (fun x5 => k .normal (s13_8 x5)) := by
  have h2 := e13_40 N (kseq PHI Tb12 N vc13_41 k) x1 x5 x9
  have h3 := (funext fun y1 => funext fun y5 => funext fun y9 => funext fun y10 => (e13_41 N k y1 y5 y9 y10) : (fun (y1 y5 y9 y10 : D) => (kseq PHI Tb12 N vc13_41 k) .normal (s13_7 y1 y5 y9 y10)) = _)
  refine Eq.trans (runC_seq _ _ _ k) (Eq.trans h2 (Eq.trans (congrArg (fun K => m13_40 N x1 x5 x9 K) h3) (by kernel_rfl)))
def m13_72 (N : Nat) (x5 : D) (Kr : D → Option R) : Option R :=
  Kr x5
def s13_10 (x4 : D) : St := sts 91 [(4, V.f x4)] []
theorem e13_72 (N : Nat) (k : Kn R) (x5 : D) : runC PHI Tb12 N vc13_72 (s13_8 x5) k = m13_72 N x5 (fun x4 => k .ret (s13_10 x4)) := by kernel_rfl
def m13_38 (N : Nat) (x1 x5 x9 : D) (Kr : D → Option R) : Option R :=
  (m13_39 N x1 x5 x9 (fun y5 => (m13_72 N y5 Kr)))
theorem e13_38 (N : Nat) (k : Kn R) (x1 x5 x9 : D) : runC PHI Tb12 N vc13_38 (s13_6 x1 x5 x9) k = m13_38 N x1 x5 x9 (fun x4 => k .ret (s13_10 x4)) := by
  have h2 := e13_39 N (kseq PHI Tb12 N vc13_72 k) x1 x5 x9
  have h3 := (funext fun y5 => (e13_72 N k y5) : (fun (y5 : D) => (kseq PHI Tb12 N vc13_72 k) .normal (s13_8 y5)) = _)
  refine Eq.trans (runC_seq _ _ _ k) (Eq.trans h2 (Eq.trans (congrArg (fun K => m13_39 N x1 x5 x9 K) h3) (by kernel_rfl)))
def m13_36 (N : Nat) (x1 x5 : D) (Kr : D → Option R) : Option R :=
  (m13_37 N x1 x5 (fun y1 y5 y9 => (m13_38 N y1 y5 y9 Kr)))
theorem e13_36 (N : Nat) (k : Kn R) (x1 x5 : D) : runC PHI Tb12 N vc13_36 (s13_3 x1 x5) k = m13_36 N x1 x5 (fun x4 => k .ret (s13_10 x4)) := by
  have h2 := e13_37 N (kseq PHI Tb12 N vc13_38 k) x1 x5
  have h3 := (funext fun y1 => funext fun y5 => funext fun y9 => (e13_38 N k y1 y5 y9) : (fun (y1 y5 y9 : D) => (kseq PHI Tb12 N vc13_38 k) .normal (s13_6 y1 y5 y9)) = _)
  refine Eq.trans (runC_seq _ _ _ k) (Eq.trans h2 (Eq.trans (congrArg (fun K => m13_37 N x1 x5 K) h3) (by kernel_rfl)))
def m13_6 (N : Nat) (x0 x1 x5 : D) (Kr : D → Option R) : Option R :=
  (m13_7 N x0 x1 x5 (fun y1 y5 => (m13_36 N y1 y5 Kr)))
theorem e13_6 (N : Nat) (k : Kn R) (x0 x1 x5 : D) : runC PHI Tb12 N vc13_6 (s13_1 x0 x1 x5) k = m13_6 N x0 x1 x5 (fun x4 => k .ret (s13_10 x4)) := by
  have h2 := e13_7 N (kseq PHI Tb12 N vc13_36 k) x0 x1 x5
  have h3 := (funext fun y1 => funext fun y5 => (e13_36 N k y1 y5) : (fun (y1 y5 : D) => (kseq PHI Tb12 N vc13_36 k) .normal (s13_3 y1 y5)) = _)
  refine Eq.trans (runC_seq _ _ _ k) (Eq.trans h2 (Eq.trans (congrArg (fun K => m13_7 N x0 x1 x5 K) h3) (by kernel_rfl)))
def m13_4 (N : Nat) (x0 x1 : D) (Kr : D → Option R) : Option R :=
  (m13_5 N x0 x1 (fun y0 y1 y5 => (m13_6 N y0 y1 y5 Kr)))
theorem e13_4 (N : Nat) (k : Kn R) (x0 x1 : D) : runC PHI Tb12 N vc13_4 (s13_0 x0 x1) k = m13_4 N x0 x1 (fun x4 => k .ret (s13_10 x4)) := by
  have h2 := e13_5 N (kseq PHI Tb12 N vc13_6 k) x0 x1
  have h3 := (funext fun y0 => funext fun y1 => funext fun y5 => (e13_6 N k y0 y1 y5) : (fun (y0 y1 y5 : D) => (kseq PHI Tb12 N vc13_6 k) .normal (s13_1 y0 y1 y5)) = _)
  refine Eq.trans (runC_seq _ _ _ k) (Eq.trans h2 (Eq.trans (congrArg (fun K => m13_5 N x0 x1 K) h3) (by kernel_rfl)))
def m13_2 (N : Nat) (x0 x1 : D) (Kr : D → Option R) : Option R :=
  (m13_3 N x0 x1 (fun y0 y1 => (m13_4 N y0 y1 Kr)))
theorem e13_2 (N : Nat) (k : Kn R) (x0 x1 : D) : runC PHI Tb12 N vc13_2 (s13_0 x0 x1) k = m13_2 N x0 x1 (fun x4 => k .ret (s13_10 x4)) := by
  have h2 := e13_3 N (kseq PHI Tb12 N vc13_4 k) x0 x1
  have h3 := (funext fun y0 => funext fun y1 => (e13_4 N k y0 y1) : (fun (y0 y1 : D) => (kseq PHI Tb12 N vc13_4 k) .normal (s13_0 y0 y1)) = _)
  refine Eq.trans (runC_seq _ _ _ k) (Eq.trans h2 (Eq.trans (congrArg (fun K => m13_3 N x0 x1 K) h3) (by kernel_rfl)))
def m13_0 (N : Nat) (x0 x1 : D) (Kr : D → Option R) : Option R :=
  (m13_1 N x0 x1 (fun y0 y1 => (m13_2 N y0 y1 Kr)))
theorem e13_0 (N : Nat) (k : Kn R) (x0 x1 : D) : runC PHI Tb12 N vc13_0 (s13_0 x0 x1) k = m13_0 N x0 x1 (fun x4 => k .ret (s13_10 x4)) := by
  have h2 := e13_1 N (kseq PHI Tb12 N vc13_2 k) x0 x1
  have h3 := (funext fun y0 => funext fun y1 => (e13_2 N k y0 y1) : (fun (y0 y1 : D) => (kseq PHI Tb12 N vc13_2 k) .normal (s13_0 y0 y1)) = _)
  refine Eq.trans (runC_seq _ _ _ k) (Eq.trans h2 (Eq.trans (congrArg (fun K => m13_1 N x0 x1 K) h3) (by kernel_rfl)))
theorem r13 (N : Nat) (x0 x1 : D) : runC PHI Tb12 N vf13.body (enterV vf13 [V.f x0, V.f x1] []) (finish vf13) = m13_0 N x0 x1 (fun x4 => finish vf13 .ret (s13_10 x4)) := 
  Eq.trans (runC_pre (s1 := (s13_0 x0 x1)) (by kernel_rfl) _ _) (Eq.trans (e13_0 N (finish vf13) x0 x1) (by kernel_rfl))
end
theorem nsl_ne {ys : List D} (h : ys ≠ []) : D.sl ys = nsl ys := by cases ys with | nil => exact absurd rfl h | cons => rfl
theorem sp25_g {s d : D} (hs : goodL s) (hd : goodD d) : sp25 s (d.at 0) (d.at 1) = addS s (d.at 0) (d.at 1).toL := by
  obtain ⟨t, ys, rfl, h, _⟩ := hd
  show sp25 s t (.sl ys) = addS s t ys
  rw [nsl_ne h, sp25_nsl hs.real]
theorem sp31_g {a b o : D} (ho : goodL o) (ha : goodD a) (hb : goodD b) (h : eqb (a.at 0).toI (b.at 0).toI = true) : sp25 o ((sp31_0 a b).at 0) ((sp31_0 a b).at 1) = addS o (a.at 0) ((uni (a.at 1).toL (b.at 1).toL).take 3) := by
  obtain ⟨ta, ya, rfl, na, la, _⟩ := ha
  obtain ⟨tb, yb, rfl, nb, lb, _⟩ := hb
  have e : sp31_0 (.ag [ta, .sl ya, .b false]) (.ag [tb, .sl yb, .b false]) = .ag [ta, sp27 (sp28 (.sl ya) (.sl yb)) (.i 3), .b false] := by
    unfold sp31_0; rw [h]; rfl
  rw [e]
  show sp25 o ta (sp27 (sp28 (.sl ya) (.sl yb)) (.i 3)) = addS o ta ((uni ya yb).take 3)
  rw [nsl_ne na, nsl_28, nsl_27 _ 3 (by decide), sp25_nsl ho.real]; rfl
theorem pr31_g {a b : D} (ha : goodD a) (hb : goodD b) : pr31 a b = true := by
  unfold pr31 pr28
  have h1 := ha.len
  have h2 := hb.len
  rw [leN_t (show (a.at 1).toL.length ≤ 549755813888 by omega), leN_t (show (b.at 1).toL.length ≤ 549755813888 by omega)]; rfl
theorem p25g {s t c : D} (hs : s.toL.length ≤ 16) : pr25 s t c = true := leN_t (by omega)
section
variable {R : Type}
theorem lr24 (N : Nat) (m : Int) (o : D) (l iw us : D) (K : D → D → D → D → Option R) (hm : m ≤ 16) (ho : good16 o) (hg : ∀ d ∈ us.toL, goodD d) (hu : us.toL.length ≤ 8388608) (hN : 8388609 ≤ N) :
    l13_24 N N l (.i m) o iw us (.i 0) K = K l (.i m) (us.toL.foldl (gA m) o) iw := by
  have h := loop_fold2 (fun j i s => l13_24 N j l (.i m) s iw us (.i (i : Nat)) K) (fun s => K l (.i m) s iw) us.toL.length (fun i s => gA m s (us.toL.getD i .nil)) (fun _ s => good16 s)
    (fun j i s hi hs => by
      have hd := hg _ (getD_mem hi)
      cases hlt : ltb (s.toL.length : Int) m
      · refine .inr ⟨by simp only [l13_24, m13_25, toI_i, cond_true, ltb_n hi, hlt, cond_false], fun i => by unfold gA addM; rw [hlt]; rfl⟩
      · refine .inl ?_
        simp only [l13_24, m13_25, toI_i, cond_true, ltb_n hi, inb_t hi, at_nat, succ_n hi (show us.toL.length ≤ 9223372036854775807 by omega), p25g hs.2, sp25_g hs.1 hd, hlt]
        unfold gA addM
        rw [hlt]; rfl)
    (fun i s hi hs => g16_gA hm hs (hg _ (getD_mem hi)))
    (fun j s hs => by simp only [l13_24, m13_25, toI_i, ltb_self, cond_false])
    us.toL.length 0 N o (by omega) (by omega) ho
  refine h.trans ?_
  rw [foldI_list (g := gA m) us.toL us.toL.length 0 o (by omega)]
  rfl
theorem lr54 (N : Nat) (m : Int) (o us : D) (i0 : Nat) (K : D → D → D → D → Option R) (hm : m ≤ 16) (ho : good16 o) (hi0 : i0 < us.toL.length) (hg : ∀ d ∈ us.toL, goodD d) (hu : us.toL.length ≤ 16) (hN : 8388609 ≤ N) :
    l13_54 N N (.i m) o us (.i (i0 : Nat)) (.i 0) K = K (.i m) (us.toL.foldl (gM m (us.toL.getD i0 .nil)) o) us (.i (i0 : Nat)) := by
  have ha := hg _ (getD_mem hi0)
  have h := loop_fold2 (fun j i s => l13_54 N j (.i m) s us (.i (i0 : Nat)) (.i (i : Nat)) K) (fun s => K (.i m) s us (.i (i0 : Nat))) us.toL.length (fun i s => gM m (us.toL.getD i0 .nil) s (us.toL.getD i .nil)) (fun _ s => good16 s)
    (fun j i s hi hs => by
      have hd := hg _ (getD_mem hi)
      cases hlt : ltb (s.toL.length : Int) m
      · refine .inr ⟨by simp only [l13_54, m13_55, toI_i, cond_true, ltb_n hi, hlt, cond_false], fun i => ?_⟩
        unfold gM addM
        rw [hlt]
        cases eqb ((us.toL.getD i0 .nil).at 0).toI ((us.toL.getD i .nil).at 0).toI <;> rfl
      · refine .inl ?_
        simp only [l13_54, m13_55, toI_i, cond_true, ltb_n hi, inb_t hi, inb_t hi0, at_nat, succ_n hi (show us.toL.length ≤ 9223372036854775807 by omega), p25g hs.2, pr31_g ha hd, hlt]
        unfold gM addM sp31_1
        generalize us.toL.getD i0 .nil = a at ha ⊢
        generalize us.toL.getD i .nil = b at hd ⊢
        cases hq : eqb (a.at 0).toI (b.at 0).toI
        · rfl
        · rw [sp31_g hs.1 ha hd hq, hlt]; rfl)
    (fun i s hi hs => g16_gM hm hs ha)
    (fun j s hs => by simp only [l13_54, m13_55, toI_i, ltb_self, cond_false])
    us.toL.length 0 N o (by omega) (by omega) ho
  refine h.trans ?_
  rw [foldI_list (g := gM m (us.toL.getD i0 .nil)) us.toL us.toL.length 0 o (by omega)]
  rfl
theorem lr10 (N : Nat) (m : Int) (l : D) (K : D → D → Option R) (hm : m ≤ 16) (hl : l.toL.length ≤ 8) (hp : ∀ q ∈ l.toL, prOf q = true) (hN : 8388609 ≤ N) :
    l13_10 N N l (.i m) (.sz []) (.i 0) K = K (.i m) (all1 l m) := by
  have h := loop_fold (fun j i s => l13_10 N j l (.i m) s (.i (i : Nat)) K) (fun s => K (.i m) s) l.toL.length (fun i s => gQ m s (l.toL.getD i .nil)) (fun _ s => good16 s)
    (fun j i s hi hs => by
      have hq := hp _ (getD_mem hi)
      simp only [l13_10, m13_11, m13_12, m13_17, m13_18, m13_19, m13_20, m13_21, m13_22, m13_23, m13_24, m13_35, toI_i, cond_true, ltb_n hi, inb_t hi, at_nat, show pr11 (l.toL.getD i .nil) = true from hq, sp11]
      rw [lr24 N m s _ _ _ _ hm hs (goodL_10 _).1 (len_10 hq) hN]
      simp only [toI_i, succ_n hi (show l.toL.length ≤ 9223372036854775807 by omega)]
      rfl)
    (fun i s hi hs => g16_gQ hm hs)
    (fun j s hs => by simp only [l13_10, m13_11, m13_12, toI_i, ltb_self, cond_false])
    l.toL.length 0 N (.sz []) (by omega) (by omega) g16_nil
  refine h.trans ?_
  rw [foldI_list (g := gQ m) l.toL l.toL.length 0 _ (by omega)]
  rfl
theorem lr42 (N : Nat) (m : Int) (o us : D) (K : D → Option R) (hm : m ≤ 16) (ho : good16 o) (hg : ∀ d ∈ us.toL, goodD d) (hu : us.toL.length ≤ 16) (hN : 8388609 ≤ N) :
    l13_42 N N (.i m) o us (.i 0) K = K (us.toL.foldl (gB m us) o) := by
  have h := loop_fold (fun j i s => l13_42 N j (.i m) s us (.i (i : Nat)) K) (fun s => K s) us.toL.length (fun i s => gB m us s (us.toL.getD i .nil)) (fun _ s => good16 s)
    (fun j i s hi hs => by
      simp only [l13_42, m13_43, m13_44, m13_49, m13_50, m13_51, m13_52, m13_53, m13_54, m13_71, toI_i, cond_true, ltb_n hi]
      rw [lr54 N m s us i _ hm hs hi hg hu hN]
      simp only [toI_i, succ_n hi (show us.toL.length ≤ 9223372036854775807 by omega)]
      rfl)
    (fun i s hi hs => g16_gB hm hs (hg _ (getD_mem hi)))
    (fun j s hs => by simp only [l13_42, m13_43, m13_44, toI_i, ltb_self, cond_false])
    us.toL.length 0 N o (by omega) (by omega) ho
  refine h.trans ?_
  rw [foldI_list (g := gB m us) us.toL us.toL.length 0 o (by omega)]
  rfl
end
def Tb13 : CallF := extend Tb12 13 (fn2 pr13 fun l n => .f (sp13 l n))
theorem ok13 : FnOk Try.prog PHI Tb13 := FnOk.add2 hPHI ok12 (by kernel_rfl) fun l n ha hp => by
  obtain ⟨N, hN⟩ : ∃ N, 8388609 ≤ N := ⟨8388609, Nat.le_refl _⟩
  refine ⟨N, (r13 _ l n).trans ?_⟩
  have hp' : prAll l = true := hp
  simp only [prAll, Bool.and_eq_true, List.all_eq_true] at hp'
  have hl := leN_le hp'.1
  simp only [m13_0, m13_1, m13_2, m13_3, m13_4, m13_5, m13_6, m13_7, m13_8, m13_9, m13_10]
  rw [show mmI true 0 [mmI false n.toI [16]] = mx n.toI from rfl, lr10 N (mx n.toI) l _ (mx_b _) hl hp'.2 (by omega)]
  simp only [m13_36, m13_37, m13_38, m13_39, m13_40, m13_41, m13_42, m13_72]
  have h1 := g16_all1 l (mx_b n.toI)
  rw [lr42 N (mx n.toI) _ _ _ (mx_b _) h1 h1.1.1 h1.2 (by omega)]
  rfl

end Go.Vam.C20
namespace Go.Vam.C20
open Go.Proofs
section
variable {R : Type}
def m4_1 (N : Nat) (x0 x1 : D) (K : D → D → Option R) : Option R :=
  K x0 x1
def s4_0 (x0 x1 : D) : St := sts 32 [(0, V.f x0), (1, V.f x1)] []
theorem e4_1 (N : Nat) (k : Kn R) (x0 x1 : D) : runC PHI Tb13 N vc4_1 (s4_0 x0 x1) k = m4_1 N x0 x1 (fun x0 x1 => k .normal (s4_0 x0 x1)) := by
  refine Eq.trans (runC_post _ _ _ k) (Eq.trans (ops_run _ _ _ _) (by kernel_rfl))
def m4_3 (N : Nat) (x0 x1 : D) (K : D → D → Option R) (Kr : D → Option R) : Option R :=
  (bif (!sp7) then (bif true then Kr (D.b sp7) else K x0 x1) else (bif (ltb 8 (x0.toL.length : Int)) then Kr (D.b sp7) else K x0 x1))
def s4_1 (x4 : D) : St := sts 32 [(4, V.f x4)] []
theorem e4_3 (N : Nat) (k : Kn R) (x0 x1 : D) : runC PHI Tb13 N vc4_3 (s4_0 x0 x1) k = m4_3 N x0 x1 (fun x0 x1 => k .normal (s4_0 x0 x1)) (fun x4 => k .ret (s4_1 x4)) := by kernel_rfl
def m4_12 (N : Nat) (x0 x1 : D) (K : D → D → D → D → D → Option R) : Option R :=
  K x0 x1 x0 (D.i (x0.toL.length : Int)) (D.i 0)
def s4_2 (x0 x1 x15 x16 x17 : D) : St := sts 32 [(0, V.f x0), (1, V.f x1), (15, V.f x15), (16, V.f x16), (17, V.f x17)] []
theorem e4_12 (N : Nat) (k : Kn R) (x0 x1 : D) : runC PHI Tb13 N vc4_12 (s4_0 x0 x1) k = m4_12 N x0 x1 (fun x0 x1 x15 x16 x17 => k .normal (s4_2 x0 x1 x15 x16 x17)) := by
  refine Eq.trans (runC_post _ _ _ k) (Eq.trans (ops_run _ _ _ _) (by kernel_rfl))
def m4_15 (N : Nat) (x0 x1 x15 x16 x17 : D) (K : D → D → D → D → D → Option R) (K0 : D → D → Option R) (Kr : D → Option R) : Option R :=
  (bif (ltb x17.toI x16.toI) then (bif (inb x17.toI x15.toL.length) then (bif (!(sp8 (x15.at (x17.toI : Int).toNat))) then Kr (D.b true) else K x0 x1 x15 x16 (D.i (IntKind.wrap IntKind.i64 (x17.toI + 1)))) else none) else K0 x0 x1)
theorem e4_15 (N : Nat) (k : Kn R) (x0 x1 x15 x16 x17 : D) : runC PHI Tb13 N vc4_15 (s4_2 x0 x1 x15 x16 x17) k = m4_15 N x0 x1 x15 x16 x17 (fun x0 x1 x15 x16 x17 => k .normal (s4_2 x0 x1 x15 x16 x17)) (fun x0 x1 => k (.exit 0) (s4_0 x0 x1)) (fun x4 => k .ret (s4_1 x4)) := by kernel_rfl
def l4_14 (N : Nat) (j : Nat) (x0 x1 x15 x16 x17 : D) (K0 : D → D → Option R) (Kr : D → Option R) : Option R :=
  match j with
  | 0 => none
  | j + 1 => (m4_15 N x0 x1 x15 x16 x17 (fun y0 y1 y15 y16 y17 => l4_14 N j y0 y1 y15 y16 y17 K0 Kr) K0 Kr)
def m4_14 (N : Nat) (x0 x1 x15 x16 x17 : D) (K0 : D → D → Option R) (Kr : D → Option R) : Option R :=
  l4_14 N N x0 x1 x15 x16 x17 K0 Kr
theorem el4_14 (N : Nat) (k : Kn R) : ∀ (j : Nat) (x0 x1 x15 x16 x17 : D), loopGo (runC PHI Tb13 N vc4_15) j (s4_2 x0 x1 x15 x16 x17) k = l4_14 N j x0 x1 x15 x16 x17 (fun x0 x1 => k (.exit 0) (s4_0 x0 x1)) (fun x4 => k .ret (s4_1 x4))
  | 0, _, _, _, _, _ => by kernel_rfl
  | j + 1, x0, x1, x15, x16, x17 => by
    have h2 := e4_15 N (kloop PHI Tb13 N vc4_15 j k) x0 x1 x15 x16 x17
    have h3 : (fun (y0 y1 y15 y16 y17 : D) => (kloop PHI Tb13 N vc4_15 j k) .normal (s4_2 y0 y1 y15 y16 y17)) = (fun (y0 y1 y15 y16 y17 : D) => l4_14 N j y0 y1 y15 y16 y17 (fun x0 x1 => k (.exit 0) (s4_0 x0 x1)) (fun x4 => k .ret (s4_1 x4))) := funext fun y0 => funext fun y1 => funext fun y15 => funext fun y16 => funext fun y17 => (el4_14 N k j y0 y1 y15 y16 y17)
    refine Eq.trans (loop_succ _ j _ k) (Eq.trans h2 (Eq.trans (congrArg (fun K => m4_15 N x0 x1 x15 x16 x17 K (fun x0 x1 => (kloop PHI Tb13 N vc4_15 j k) (.exit 0) (s4_0 x0 x1)) (fun x4 => (kloop PHI Tb13 N vc4_15 j k) .ret (s4_1 x4))) h3) (by kernel_rfl)))
theorem e4_14 (N : Nat) (k : Kn R) (x0 x1 x15 x16 x17 : D) : runC PHI Tb13 N vc4_14 (s4_2 x0 x1 x15 x16 x17) k = m4_14 N x0 x1 x15 x16 x17 (fun x0 x1 => k (.exit 0) (s4_0 x0 x1)) (fun x4 => k .ret (s4_1 x4)) := by
  refine Eq.trans (runC_loop _ _ k) (Eq.trans (el4_14 N k N x0 x1 x15 x16 x17) (by kernel_rfl))
def m4_13 (N : Nat) (x0 x1 x15 x16 x17 : D) (K : D → D → Option R) (Kr : D → Option R) : Option R :=
  (m4_14 N x0 x1 x15 x16 x17 (fun y0 y1 => K y0 y1) Kr)
theorem e4_13 (N : Nat) (k : Kn R) (x0 x1 x15 x16 x17 : D) : runC PHI Tb13 N vc4_13 (s4_2 x0 x1 x15 x16 x17) k = m4_13 N x0 x1 x15 x16 x17 (fun x0 x1 => k .normal (s4_0 x0 x1)) (fun x4 => k .ret (s4_1 x4)) := by
  refine Eq.trans (runC_block _ _ _ k) (Eq.trans (e4_14 N (kblk 0 k) x0 x1 x15 x16 x17) (by kernel_rfl))
def m4_11 (N : Nat) (x0 x1 : D) (K : D → D → Option R) (Kr : D → Option R) : Option R :=
  (m4_12 N x0 x1 (fun y0 y1 y15 y16 y17 => (m4_13 N y0 y1 y15 y16 y17 (fun y0 y1 => K y0 y1) Kr)))
theorem e4_11 (N : Nat) (k : Kn R) (x0 x1 : D) : runC PHI Tb13 N vc4_11 (s4_0 x0 x1) k = m4_11 N x0 x1 (fun x0 x1 => k .normal (s4_0 x0 x1)) (fun x4 => k .ret (s4_1 x4)) := by
  have h2 := e4_12 N (kseq PHI Tb13 N vc4_13 k) x0 x1
  have h3 := (funext fun y0 => funext fun y1 => funext fun y15 => funext fun y16 => funext fun y17 => (e4_13 N k y0 y1 y15 y16 y17) : (fun (y0 y1 y15 y16 y17 : D) => (kseq PHI Tb13 N vc4_13 k) .normal (s4_2 y0 y1 y15 y16 y17)) = _)
  refine Eq.trans (runC_seq _ _ _ k) (Eq.trans h2 (Eq.trans (congrArg (fun K => m4_12 N x0 x1 K) h3) (by kernel_rfl)))
def m4_33 (N : Nat) (x0 x1 : D) (Kr : D → Option R) : Option R :=
  (bif (pr12 x0 x1) then (bif (pr13 x0 x1) then (bif (pr9 (sp12 x0 x1) (sp13 x0 x1)) then Kr (D.b (sp9 (sp12 x0 x1) (sp13 x0 x1))) else none) else none) else none)
theorem e4_33 (N : Nat) (k : Kn R) (x0 x1 : D) : runC PHI Tb13 N vc4_33 (s4_0 x0 x1) k = m4_33 N x0 x1 (fun x4 => k .ret (s4_1 x4)) := by kernel_rfl
def m4_10 (N : Nat) (x0 x1 : D) (Kr : D → Option R) : Option R :=
  (m4_11 N x0 x1 (fun y0 y1 => (m4_33 N y0 y1 Kr)) Kr)
theorem e4_10 (N : Nat) (k : Kn R) (x0 x1 : D) : runC PHI Tb13 N vc4_10 (s4_0 x0 x1) k = m4_10 N x0 x1 (fun x4 => k .ret (s4_1 x4)) := by
  have h2 := e4_11 N (kseq PHI Tb13 N vc4_33 k) x0 x1
  have h3 := (funext fun y0 => funext fun y1 => (e4_33 N k y0 y1) : (fun (y0 y1 : D) => (kseq PHI Tb13 N vc4_33 k) .normal (s4_0 y0 y1)) = _)
  refine Eq.trans (runC_seq _ _ _ k) (Eq.trans h2 (Eq.trans (congrArg (fun K => m4_11 N x0 x1 K (fun x4 => (kseq PHI Tb13 N vc4_33 k) .ret (s4_1 x4))) h3) (by kernel_rfl)))
def m4_2 (N : Nat) (x0 x1 : D) (Kr : D → Option R) : Option R :=
  (m4_3 N x0 x1 (fun y0 y1 => (m4_10 N y0 y1 Kr)) Kr)
theorem e4_2 (N : Nat) (k : Kn R) (x0 x1 : D) : runC PHI Tb13 N vc4_2 (s4_0 x0 x1) k = m4_2 N x0 x1 (fun x4 => k .ret (s4_1 x4)) := by
  have h2 := e4_3 N (kseq PHI Tb13 N vc4_10 k) x0 x1
  have h3 := (funext fun y0 => funext fun y1 => (e4_10 N k y0 y1) : (fun (y0 y1 : D) => (kseq PHI Tb13 N vc4_10 k) .normal (s4_0 y0 y1)) = _)
  refine Eq.trans (runC_seq _ _ _ k) (Eq.trans h2 (Eq.trans (congrArg (fun K => m4_3 N x0 x1 K (fun x4 => (kseq PHI Tb13 N vc4_10 k) .ret (s4_1 x4))) h3) (by kernel_rfl)))
def m4_0 (N : Nat) (x0 x1 : D) (Kr : D → Option R) : Option R :=
  (m4_1 N x0 x1 (fun y0 y1 => (m4_2 N y0 y1 Kr)))
theorem e4_0 (N : Nat) (k : Kn R) (x0 x1 : D) : runC PHI Tb13 N vc4_0 (s4_0 x0 x1) k = m4_0 N x0 x1 (fun x4 => k .ret (s4_1 x4)) := by
  have h2 := e4_1 N (kseq PHI Tb13 N vc4_2 k) x0 x1
  have h3 := (funext fun y0 => funext fun y1 => (e4_2 N k y0 y1) : (fun (y0 y1 : D) => (kseq PHI Tb13 N vc4_2 k) .normal (s4_0 y0 y1)) = _)
  refine Eq.trans (runC_seq _ _ _ k) (Eq.trans h2 (Eq.trans (congrArg (fun K => m4_1 N x0 x1 K) h3) (by kernel_rfl)))
theorem r4 (N : Nat) (x0 x1 : D) : runC PHI Tb13 N vf4.body (enterV vf4 [V.f x0, V.f x1] []) (finish vf4) = m4_0 N x0 x1 (fun x4 => finish vf4 .ret (s4_1 x4)) := 
  Eq.trans (runC_pre (s1 := (s4_0 x0 x1)) (by kernel_rfl) _ _) (Eq.trans (e4_0 N (finish vf4) x0 x1) (by kernel_rfl))
end
theorem small_all {l : D} (hl : ltb 8 (l.toL.length : Int) = false) (h : (l.toL.any fun q => !sp8 q) = false) : prAll l = true := by
  unfold prAll
  have h1 : ¬ (8 : Int) < (l.toL.length : Int) := of_decide_eq_false hl
  rw [leN_t (show l.toL.length ≤ 8 by omega), Bool.true_and, List.all_eq_true]
  intro q hq
  have := List.any_eq_false.1 h q hq
  exact small_pr (by simpa using this)
def Tb4 : CallF := extend Tb13 4 (fn2 (fun _ _ => true) fun _ _ => .f (.b true))
theorem ok4 : FnOk Try.prog PHI Tb4 := FnOk.add2 hPHI ok13 (by kernel_rfl) fun l n ha _ => ⟨l.toL.length + 1, (r4 _ l n).trans (by
  have hl := (ha.is 0 rfl rfl).len' (e := 26) (by kernel_rfl)
  simp only [m4_0, m4_1, m4_2, m4_3, m4_10, m4_11, m4_12, m4_13, m4_14]
  show (bif false then _ else _) = _
  cases h8 : ltb 8 (l.toL.length : Int)
  · simp only [cond_false]
    have h := loop_find (fun j i => l4_14 (l.toL.length + 1) j l n l (.i (l.toL.length : Int)) (.i (i : Nat)) (fun y0 y1 => m4_33 (l.toL.length + 1) y0 y1 fun x4 => finish vf4 .ret (s4_1 x4)) (fun x4 => finish vf4 .ret (s4_1 x4))) (fun i => !sp8 (l.toL.getD i .nil)) l.toL.length (m4_33 (l.toL.length + 1) l n fun x4 => finish vf4 .ret (s4_1 x4)) (fun i => finish vf4 .ret (s4_1 (.b true)))
      (fun j i hi => by simp only [l4_14, m4_15, toI_i, cond_true, ltb_n hi, inb_t hi, at_nat, succ_n hi hl])
      (fun j => by simp only [l4_14, m4_15, toI_i, ltb_self, cond_false])
      l.toL.length 0 (l.toL.length + 1) (by omega) (by omega)
    refine h.trans ?_
    rw [fst_any0 (fun q => !sp8 q)]
    cases hs : l.toL.any fun q => !sp8 q
    · have hp := small_all h8 hs
      unfold m4_33
      rw [show pr12 l n = true from hp, show pr13 l n = true from hp, show pr9 (sp12 l n) (sp13 l n) = true from rfl, show sp9 (sp12 l n) (sp13 l n) = true from sp9_self _]
      rfl
    · rfl
  · rfl)⟩

end Go.Vam.C20
