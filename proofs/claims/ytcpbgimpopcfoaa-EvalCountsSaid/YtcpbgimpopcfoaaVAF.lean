/- THE SHADOW MACHINE, 28: lists put in order, stably: what any such sort comes to. -/
import Derived.Test.YtcpbgimpopcfoaaVAD
set_option linter.unusedVariables false
namespace Go.Vam
structure Cmp (c : D → D → Int) : Prop where
  swap : ∀ x y, c y x = - c x y
  trans : ∀ x y z, c x y ≤ 0 → c y z ≤ 0 → c x z ≤ 0
section
variable {c : D → D → Int}
theorem Cmp.self (h : Cmp c) (x : D) : c x x = 0 := by have := h.swap x x; omega
theorem Cmp.eq_trans (h : Cmp c) {x y z : D} (h1 : c x y = 0) (h2 : c y z = 0) : c x z = 0 := by
  have a := h.trans x y z (by omega) (by omega)
  have b := h.trans z y x (by have := h.swap y z; omega) (by have := h.swap x y; omega)
  have := h.swap x z; omega
theorem Cmp.lt_le (h : Cmp c) {x y z : D} (h1 : c x y < 0) (h2 : c y z ≤ 0) : c x z < 0 := by
  have a := h.trans x y z (by omega) h2
  rcases Int.lt_or_eq_of_le a with a | a
  · exact a
  · have := h.trans y z x h2 (by have := h.swap x z; omega)
    have := h.swap x y; omega
theorem Cmp.le_lt (h : Cmp c) {x y z : D} (h1 : c x y ≤ 0) (h2 : c y z < 0) : c x z < 0 := by
  have a := h.trans x y z h1 (by omega)
  rcases Int.lt_or_eq_of_le a with a | a
  · exact a
  · have := h.trans z x y (by have := h.swap x z; omega) h1
    have := h.swap y z; omega
def Srt (c : D → D → Int) (l : List D) : Prop := l.Pairwise fun x y => c x y ≤ 0
def like (c : D → D → Int) (v x : D) : Bool := eqb (c v x) 0
def Stab (c : D → D → Int) (l m : List D) : Prop := ∀ v, l.filter (like c v) = m.filter (like c v)
theorem Stab.refl (l : List D) : Stab c l l := fun _ => rfl
theorem Stab.symm {l m : List D} (h : Stab c l m) : Stab c m l := fun v => (h v).symm
theorem Stab.trans {l m n : List D} (h : Stab c l m) (h' : Stab c m n) : Stab c l n := fun v => (h v).trans (h' v)
theorem Stab.append {l m l' m' : List D} (h : Stab c l m) (h' : Stab c l' m') : Stab c (l ++ l') (m ++ m') := fun v => by rw [List.filter_append, List.filter_append, h v, h' v]
theorem like_self (hc : Cmp c) (x : D) : like c x x = true := eqb_t (hc.self x)
theorem Stab.mem (hc : Cmp c) {l m : List D} (h : Stab c l m) {x : D} : x ∈ l ↔ x ∈ m := by
  have e := h x
  constructor
  · intro hx
    have : x ∈ l.filter (like c x) := List.mem_filter.2 ⟨hx, like_self hc x⟩
    rw [e] at this
    exact (List.mem_filter.1 this).1
  · intro hx
    have : x ∈ m.filter (like c x) := List.mem_filter.2 ⟨hx, like_self hc x⟩
    rw [← e] at this
    exact (List.mem_filter.1 this).1
theorem Stab.uniq (hc : Cmp c) : ∀ {l m : List D}, Stab c l m → Srt c l → Srt c m → l = m
  | [], [], _, _, _ => rfl
  | [], y :: m, h, _, _ => by have := (h.mem hc (x := y)).2 List.mem_cons_self; cases this
  | x :: l, [], h, _, _ => by have := (h.mem hc (x := x)).1 List.mem_cons_self; cases this
  | x :: l, y :: m, h, hl, hm => by
    have hl' := List.pairwise_cons.1 hl
    have hm' := List.pairwise_cons.1 hm
    have xy : c x y ≤ 0 := by
      rcases List.mem_cons.1 ((h.mem hc (x := y)).2 List.mem_cons_self) with e | e
      · subst e; rw [hc.self]; omega
      · exact hl'.1 y e
    have yx : c y x ≤ 0 := by
      rcases List.mem_cons.1 ((h.mem hc (x := x)).1 List.mem_cons_self) with e | e
      · subst e; rw [hc.self]; omega
      · exact hm'.1 x e
    have e0 : c x y = 0 := by have := hc.swap x y; omega
    have e1 := h x
    rw [List.filter_cons, List.filter_cons, if_pos (like_self hc x), if_pos (show like c x y = true from eqb_t e0)] at e1
    injection e1 with e1 _
    subst e1
    have : Stab c l m := fun v => by
      have := h v
      rw [List.filter_cons, List.filter_cons] at this
      split at this
      · injection this
      · exact this
    rw [Stab.uniq hc this hl'.2 hm'.2]
theorem Stab.swap (hc : Cmp c) {A B : List D} (h : ∀ x ∈ A, ∀ y ∈ B, c y x < 0) : Stab c (A ++ B) (B ++ A) := by
  intro v
  rw [List.filter_append, List.filter_append]
  by_cases hA : A.filter (like c v) = []
  · rw [hA]; simp
  · by_cases hB : B.filter (like c v) = []
    · rw [hB]; simp
    · exfalso
      obtain ⟨x, hx⟩ := List.exists_mem_of_ne_nil _ hA
      obtain ⟨y, hy⟩ := List.exists_mem_of_ne_nil _ hB
      obtain ⟨hx1, hx2⟩ := List.mem_filter.1 hx
      obtain ⟨hy1, hy2⟩ := List.mem_filter.1 hy
      have e1 : c v x = 0 := of_decide_eq_true hx2
      have e2 : c v y = 0 := of_decide_eq_true hy2
      have := h x hx1 y hy1
      have e3 : c y v = 0 := by have := hc.swap v y; omega
      have := hc.eq_trans e3 e1
      omega
theorem Stab.len (hc : Cmp c) : ∀ {l m : List D}, Stab c l m → l.length = m.length := by
  have key : ∀ (n : Nat) {l m : List D}, l.length ≤ n → Stab c l m → l.length = m.length := by
    intro n
    induction n with
    | zero =>
      intro l m hl h
      have : l = [] := List.length_eq_zero_iff.1 (by omega)
      subst this
      cases m with
      | nil => rfl
      | cons y m => have := (h.mem hc (x := y)).2 List.mem_cons_self; cases this
    | succ n ih =>
      intro l m hl h
      cases l with
      | nil =>
        cases m with
        | nil => rfl
        | cons y m => have := (h.mem hc (x := y)).2 List.mem_cons_self; cases this
      | cons x l =>
        -- take x's likes away from both
        have e := h x
        have hs : Stab c ((x :: l).filter fun y => !like c x y) (m.filter fun y => !like c x y) := by
          intro v
          rw [List.filter_filter, List.filter_filter]
          have g : ∀ k : List D, k.filter (fun a => like c v a && !like c x a) = (k.filter (like c v)).filter (fun a => !like c x a) := fun k => by
            rw [List.filter_filter]; congr 1; funext a; exact Bool.and_comm _ _
          rw [g, g, h v]
        have hlen : ((x :: l).filter fun y => !like c x y).length ≤ n := by
          rw [List.filter_cons, like_self hc x]
          simp only [Bool.not_true, Bool.false_eq_true, if_false]
          exact Nat.le_trans (List.length_filter_le _ _) (by simpa using hl)
        have h1 := ih hlen hs
        have part : ∀ k : List D, k.length = (k.filter (like c x)).length + (k.filter fun y => !like c x y).length := fun k => by
          induction k with
          | nil => rfl
          | cons a k ih =>
            rw [List.filter_cons, List.filter_cons]
            cases like c x a <;> simp <;> omega
        rw [part (x :: l), part m, e, h1]
  intro l m h
  exact key l.length (Nat.le_refl _) h
def gt (l : List D) (k : Nat) : D := l.getD k .nil
theorem gt_at {l : List D} {k : Nat} (h : k < l.length) : gt l k = l[k] := by unfold gt; rw [List.getD_eq_getElem?_getD, List.getElem?_eq_getElem h]; rfl
theorem gt_ext {l m : List D} (h : l.length = m.length) (hg : ∀ k, k < l.length → gt l k = gt m k) : l = m := by
  apply List.ext_getElem h
  intro k h1 h2
  have := hg k h1
  rwa [gt_at h1, gt_at h2] at this
theorem gt_set {l : List D} {i k : Nat} {x : D} (hi : i < l.length) : gt (l.set i x) k = if k = i then x else gt l k := by
  unfold gt
  simp only [List.getD_eq_getElem?_getD]
  by_cases h : k = i
  · subst h; simp [hi]
  · rw [List.getElem?_set_ne (Ne.symm h)]; simp [h]
def mk (n : Nat) (f : Nat → D) : List D := (List.range n).map f
theorem mk_len (n : Nat) (f : Nat → D) : (mk n f).length = n := by simp [mk]
theorem gt_mk {n k : Nat} {f : Nat → D} (h : k < n) : gt (mk n f) k = f k := by
  rw [gt_at (by rw [mk_len]; exact h)]; simp [mk]
def rotL (l : List D) (a m b : Nat) : List D := mk l.length fun k => if a ≤ k ∧ k < b then (if k < a + (b - m) then gt l (k + (m - a)) else gt l (k - (b - m))) else gt l k
def swL (l : List D) (a b n : Nat) : List D := mk l.length fun k => if a ≤ k ∧ k < a + n then gt l (b + (k - a)) else if b ≤ k ∧ k < b + n then gt l (a + (k - b)) else gt l k
theorem rotL_len (l : List D) (a m b : Nat) : (rotL l a m b).length = l.length := mk_len _ _
theorem swL_len (l : List D) (a b n : Nat) : (swL l a b n).length = l.length := mk_len _ _
theorem gt_rot {l : List D} {a m b k : Nat} (h : k < l.length) : gt (rotL l a m b) k = if a ≤ k ∧ k < b then (if k < a + (b - m) then gt l (k + (m - a)) else gt l (k - (b - m))) else gt l k := gt_mk h
theorem gt_sw {l : List D} {a b n k : Nat} (h : k < l.length) : gt (swL l a b n) k = if a ≤ k ∧ k < a + n then gt l (b + (k - a)) else if b ≤ k ∧ k < b + n then gt l (a + (k - b)) else gt l k := gt_mk h
def seg (l : List D) (a b : Nat) : List D := (l.take b).drop a
theorem seg_len {l : List D} {a b : Nat} (h : b ≤ l.length) : (seg l a b).length = b - a := by simp [seg]; omega
theorem gt_seg {l : List D} {a b k : Nat} (hb : b ≤ l.length) (h : a + k < b) : gt (seg l a b) k = gt l (a + k) := by
  have h1 : k < (seg l a b).length := by rw [seg_len hb]; omega
  rw [gt_at h1, gt_at (by omega)]
  simp [seg]
theorem gt_app {l m : List D} {k : Nat} : gt (l ++ m) k = if k < l.length then gt l k else gt m (k - l.length) := by
  unfold gt
  simp only [List.getD_eq_getElem?_getD]
  split
  · rename_i h; rw [List.getElem?_append_left h]
  · rename_i h; rw [List.getElem?_append_right (by omega)]
theorem seg_split {l : List D} {a m b : Nat} (h1 : a ≤ m) (h2 : m ≤ b) (h3 : b ≤ l.length) : seg l a b = seg l a m ++ seg l m b := by
  apply gt_ext
  · rw [List.length_append, seg_len h3, seg_len (by omega), seg_len h3]; omega
  · intro k hk
    rw [seg_len h3] at hk
    rw [gt_app, seg_len (by omega), gt_seg h3 (by omega)]
    split
    · rw [gt_seg (by omega) (by omega)]
    · rw [gt_seg h3 (by omega)]; congr 1; omega
theorem seg_all (l : List D) : seg l 0 l.length = l := by simp [seg]
theorem split3 {l : List D} {a b : Nat} (h1 : a ≤ b) (h2 : b ≤ l.length) : l = seg l 0 a ++ (seg l a b ++ seg l b l.length) := by
  rw [← seg_split h1 h2 (Nat.le_refl _), ← seg_split (Nat.zero_le _) (by omega) (Nat.le_refl _), seg_all]
theorem seg_rot {l : List D} {a m b : Nat} (h1 : a ≤ m) (h2 : m ≤ b) (h3 : b ≤ l.length) : seg (rotL l a m b) a b = seg l m b ++ seg l a m := by
  have hl := rotL_len l a m b
  apply gt_ext
  · rw [List.length_append, seg_len (by omega), seg_len h3, seg_len (by omega)]; omega
  · intro k hk
    rw [seg_len (by omega)] at hk
    rw [gt_app, seg_len h3, gt_seg (by omega) (by omega), gt_rot (by omega), if_pos (by omega)]
    split
    · rw [if_pos (by omega), gt_seg h3 (by omega)]; congr 1; omega
    · rw [if_neg (by omega), gt_seg (by omega) (by omega)]; congr 1; omega
theorem seg_rot_l {l : List D} {a m b p q : Nat} (h : q ≤ a) (h3 : b ≤ l.length) (hab : a ≤ b) : seg (rotL l a m b) p q = seg l p q := by
  have hl := rotL_len l a m b
  apply gt_ext
  · rw [seg_len (by omega), seg_len (by omega)]
  · intro k hk
    rw [seg_len (by omega)] at hk
    rw [gt_seg (by omega) (by omega), gt_seg (by omega) (by omega), gt_rot (by omega), if_neg (by omega)]
theorem seg_rot_r {l : List D} {a m b p q : Nat} (h : b ≤ p) (hq : q ≤ l.length) : seg (rotL l a m b) p q = seg l p q := by
  have hl := rotL_len l a m b
  apply gt_ext
  · rw [seg_len (by omega), seg_len (by omega)]
  · intro k hk
    rw [seg_len (by omega)] at hk
    rw [gt_seg (by omega) (by omega), gt_seg (by omega) (by omega), gt_rot (by omega), if_neg (by omega)]
def SrtOn (c : D → D → Int) (l : List D) (a b : Nat) : Prop := ∀ i j, a ≤ i → i < j → j < b → c (gt l i) (gt l j) ≤ 0
theorem srt_seg {l : List D} {a b : Nat} (hb : b ≤ l.length) : Srt c (seg l a b) ↔ SrtOn c l a b := by
  unfold Srt SrtOn
  rw [List.pairwise_iff_getElem]
  constructor
  · intro h i j h1 h2 h3
    have := h (i - a) (j - a) (by rw [seg_len hb]; omega) (by rw [seg_len hb]; omega) (by omega)
    rw [← gt_at, ← gt_at, gt_seg hb (by omega), gt_seg hb (by omega), show a + (i - a) = i by omega, show a + (j - a) = j by omega] at this
    exact this
  · intro h i j h1 h2 h3
    rw [seg_len hb] at h1 h2
    rw [← gt_at, ← gt_at, gt_seg hb (by omega), gt_seg hb (by omega)]
    exact h _ _ (by omega) (by omega) (by omega)
structure Sorts (c : D → D → Int) (l m : List D) (a b : Nat) : Prop where
  len : m.length = l.length
  pre : seg m 0 a = seg l 0 a
  suf : seg m b l.length = seg l b l.length
  stab : Stab c (seg m a b) (seg l a b)
  srt : SrtOn c m a b
theorem Sorts.other {l m : List D} {a b : Nat} (h : Sorts c l m a b) (hab : a ≤ b) (hb : b ≤ l.length) {k : Nat} (hk : k < a ∨ b ≤ k) : gt m k = gt l k := by
  by_cases hkl : k < l.length
  · rcases hk with hk | hk
    · have h1 := gt_seg (l := m) (a := 0) (b := a) (k := k) (by rw [h.len]; omega) (by omega)
      have h2 := gt_seg (l := l) (a := 0) (b := a) (k := k) (by omega) (by omega)
      rw [Nat.zero_add] at h1 h2
      rw [← h1, ← h2, h.pre]
    · have h1 := gt_seg (l := m) (a := b) (b := l.length) (k := k - b) (by rw [h.len]; omega) (by omega)
      have h2 := gt_seg (l := l) (a := b) (b := l.length) (k := k - b) (by omega) (by omega)
      rw [show b + (k - b) = k by omega] at h1 h2
      rw [← h1, ← h2, h.suf]
  · unfold gt
    rw [List.getD_eq_getElem?_getD, List.getD_eq_getElem?_getD, List.getElem?_eq_none (by rw [h.len]; omega), List.getElem?_eq_none (by omega)]
end
end Go.Vam
