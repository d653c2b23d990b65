/- THE SHADOW MACHINE, 29: insertion, and merging in place, on lists. -/
import Derived.Test.YtcpbgimpopcfoaaVAF
set_option linter.unusedVariables false
namespace Go.Vam
section
variable {c : D → D → Int}
def insL (c : D → D → Int) (x : D) : List D → List D
  | [] => [x]
  | y :: l => bif leb (c x y) 0 then x :: y :: l else y :: insL c x l
def stb (c : D → D → Int) : List D → List D
  | [] => []
  | x :: l => insL c x (stb c l)
theorem insL_mem {x z : D} : ∀ {l : List D}, z ∈ insL c x l ↔ z = x ∨ z ∈ l
  | [] => by simp [insL]
  | y :: l => by
    rw [insL]
    cases leb (c x y) 0
    · simp only [cond_false, List.mem_cons, insL_mem (l := l)]
      constructor
      · rintro (h | h | h) <;> simp [h]
      · rintro (h | h | h) <;> simp [h]
    · simp only [cond_true, List.mem_cons]
theorem insL_srt (hc : Cmp c) {x : D} : ∀ {l : List D}, Srt c l → Srt c (insL c x l)
  | [], _ => by simp [insL, Srt]
  | y :: l, h => by
    have h' := List.pairwise_cons.1 h
    rw [insL]
    by_cases hxy : c x y ≤ 0
    · rw [leb_t hxy]
      refine List.pairwise_cons.2 ⟨fun z hz => ?_, h⟩
      rcases List.mem_cons.1 hz with rfl | hz
      · exact hxy
      · exact hc.trans _ _ _ hxy (h'.1 z hz)
    · rw [leb_f hxy]
      refine List.pairwise_cons.2 ⟨fun z hz => ?_, insL_srt hc h'.2⟩
      rcases insL_mem.1 hz with rfl | hz
      · have := hc.swap z y; omega
      · exact h'.1 z hz
theorem insL_stab (hc : Cmp c) {x : D} : ∀ {l : List D}, Stab c (insL c x l) (x :: l)
  | [] => Stab.refl _
  | y :: l => by
    rw [insL]
    by_cases hxy : c x y ≤ 0
    · rw [leb_t hxy]; exact Stab.refl _
    · rw [leb_f hxy]
      have h1 : Stab c (y :: insL c x l) ([y] ++ (x :: l)) := (Stab.refl [y]).append (insL_stab hc)
      refine h1.trans ?_
      have h2 : Stab c ([x] ++ [y]) ([y] ++ [x]) := Stab.swap hc fun u hu v hv => by
        simp only [List.mem_singleton] at hu hv
        subst hu; subst hv
        have := hc.swap u v; omega
      exact (h2.symm).append (Stab.refl l)
theorem stb_srt (hc : Cmp c) : ∀ l : List D, Srt c (stb c l)
  | [] => by simp [stb, Srt]
  | x :: l => insL_srt hc (stb_srt hc l)
theorem stb_stab (hc : Cmp c) : ∀ l : List D, Stab c (stb c l) l
  | [] => Stab.refl _
  | x :: l => (insL_stab hc).trans ((Stab.refl [x]).append (stb_stab hc l))
theorem stb_eq (hc : Cmp c) {l m : List D} (h : Stab c m l) (hs : Srt c m) : m = stb c l := Stab.uniq hc (h.trans (stb_stab hc l).symm) hs (stb_srt hc l)
theorem stb_len (hc : Cmp c) (l : List D) : (stb c l).length = l.length := (stb_stab hc l).len hc
theorem stb_mem (hc : Cmp c) {l : List D} {x : D} : x ∈ stb c l ↔ x ∈ l := (stb_stab hc l).mem hc
def srtSeg (c : D → D → Int) (l : List D) (a b : Nat) : List D := seg l 0 a ++ (stb c (seg l a b) ++ seg l b l.length)
theorem Sorts.eq (hc : Cmp c) {l m : List D} {a b : Nat} (hab : a ≤ b) (hb : b ≤ l.length) (h : Sorts c l m a b) : m = srtSeg c l a b := by
  rw [split3 (l := m) (a := a) (b := b) hab (by rw [h.len]; exact hb), h.pre, h.len, h.suf]
  unfold srtSeg
  rw [stb_eq hc h.stab ((srt_seg (by rw [h.len]; exact hb)).2 h.srt)]
theorem srtSeg_sorts (hc : Cmp c) {l : List D} {a b : Nat} (hab : a ≤ b) (hb : b ≤ l.length) : Sorts c l (srtSeg c l a b) a b := by
  have l1 : (seg l 0 a).length = a := by rw [seg_len (by omega)]; omega
  have l2 : (stb c (seg l a b)).length = b - a := by rw [stb_len hc, seg_len hb]
  have l3 : (seg l b l.length).length = l.length - b := seg_len (Nat.le_refl _)
  have hlen : (srtSeg c l a b).length = l.length := by unfold srtSeg; simp only [List.length_append, l1, l2, l3]; omega
  have g : ∀ k, gt (srtSeg c l a b) k = if k < a then gt (seg l 0 a) k else if k < b then gt (stb c (seg l a b)) (k - a) else gt (seg l b l.length) (k - b) := fun k => by
    unfold srtSeg
    rw [gt_app, gt_app, l1, l2]
    by_cases h1 : k < a
    · simp [h1]
    · by_cases h2 : k < b
      · rw [if_neg h1, if_neg h1, if_pos (by omega), if_pos h2]
      · rw [if_neg h1, if_neg h1, if_neg (by omega), if_neg h2]; congr 1; omega
  have hseg : seg (srtSeg c l a b) a b = stb c (seg l a b) := by
    apply gt_ext
    · rw [seg_len (by omega), l2]
    · intro k hk
      rw [seg_len (by omega)] at hk
      rw [gt_seg (by omega) (by omega), g, if_neg (by omega), if_pos (by omega)]
      congr 1; omega
  refine ⟨hlen, ?_, ?_, by rw [hseg]; exact stb_stab hc _, ?_⟩
  · apply gt_ext
    · rw [seg_len (by omega), seg_len (by omega)]
    · intro k hk
      rw [seg_len (by omega)] at hk
      rw [gt_seg (by omega) (by omega), g, if_pos (by omega), Nat.zero_add]
  · apply gt_ext
    · rw [seg_len (by omega), seg_len (by omega)]
    · intro k hk
      rw [seg_len (by omega)] at hk
      rw [gt_seg (by omega) (by omega), g, if_neg (by omega), if_neg (by omega)]
      congr 1; omega
  · rw [← srt_seg (by omega), hseg]; exact stb_srt hc _
theorem srtSeg_len (hc : Cmp c) {l : List D} {a b : Nat} (hab : a ≤ b) (hb : b ≤ l.length) : (srtSeg c l a b).length = l.length := (srtSeg_sorts hc hab hb).len
theorem srtSeg_id (hc : Cmp c) {l : List D} {a b : Nat} (hab : a ≤ b) (hb : b ≤ l.length) (h : SrtOn c l a b) : srtSeg c l a b = l := (Sorts.eq hc hab hb ⟨rfl, rfl, rfl, Stab.refl _, h⟩).symm
theorem SrtOn.sub {l : List D} {a b a' b' : Nat} (h : SrtOn c l a b) (h1 : a ≤ a') (h2 : b' ≤ b) : SrtOn c l a' b' := fun i j p q r => h i j (by omega) q (by omega)
theorem rotL_id {l : List D} {a m b : Nat} (h : a = m ∨ m = b) (h1 : a ≤ m) (h2 : m ≤ b) : rotL l a m b = l := by
  apply gt_ext (rotL_len _ _ _ _)
  intro k hk
  rw [rotL_len] at hk
  rw [gt_rot hk]
  split
  · split
    · congr 1; omega
    · congr 1; omega
  · rfl
theorem mem_seg {l : List D} {a b : Nat} (hb : b ≤ l.length) {x : D} (h : x ∈ seg l a b) : ∃ k, a ≤ k ∧ k < b ∧ x = gt l k := by
  obtain ⟨i, hi, rfl⟩ := List.getElem_of_mem h
  have hi' := hi
  rw [seg_len hb] at hi'
  exact ⟨a + i, by omega, by omega, by rw [← gt_at hi, gt_seg hb (by omega)]⟩
theorem rot_sorts (hc : Cmp c) {l : List D} {a s m e b : Nat} (h1 : a ≤ s) (h2 : s ≤ m) (h3 : m ≤ e) (h4 : e ≤ b) (hb : b ≤ l.length) (hA : SrtOn c l a m) (hB : SrtOn c l m b)
    (hx : ∀ i j, s ≤ i → i < m → m ≤ j → j < e → c (gt l j) (gt l i) < 0) (hy : ∀ i j, a ≤ i → i < s → e ≤ j → j < b → c (gt l i) (gt l j) ≤ 0) :
    ∃ mid, mid = s + (e - m) ∧ SrtOn c (rotL l s m e) a s ∧ SrtOn c (rotL l s m e) s mid ∧ SrtOn c (rotL l s m e) mid e ∧ SrtOn c (rotL l s m e) e b ∧ Stab c (seg (rotL l s m e) a b) (seg l a b) ∧ (∀ i j, a ≤ i → i < mid → mid ≤ j → j < b → c (gt (rotL l s m e) i) (gt (rotL l s m e) j) ≤ 0) := by
  have hl := rotL_len l s m e
  have g : ∀ k, k < b → gt (rotL l s m e) k = if s ≤ k ∧ k < e then (if k < s + (e - m) then gt l (k + (m - s)) else gt l (k - (e - m))) else gt l k := fun k hk => gt_rot (by omega)
  refine ⟨_, rfl, fun i j p q r => ?_, fun i j p q r => ?_, fun i j p q r => ?_, fun i j p q r => ?_, ?_, fun i j p q r t => ?_⟩
  · rw [g i (by omega), g j (by omega), if_neg (by omega), if_neg (by omega)]; exact hA i j p q (by omega)
  · rw [g i (by omega), g j (by omega), if_pos (by omega), if_pos (by omega), if_pos (by omega), if_pos (by omega)]; exact hB _ _ (by omega) (by omega) (by omega)
  · rw [g i (by omega), g j (by omega), if_pos (by omega), if_neg (by omega), if_pos (by omega), if_neg (by omega)]; exact hA _ _ (by omega) (by omega) (by omega)
  · rw [g i (by omega), g j (by omega), if_neg (by omega), if_neg (by omega)]; exact hB i j (by omega) q r
  · rw [seg_split (l := rotL l s m e) (a := a) (m := s) (b := b) h1 (by omega) (by omega), seg_split (l := rotL l s m e) (a := s) (m := e) (b := b) (by omega) h4 (by omega), seg_rot h2 h3 (by omega), seg_rot_l (Nat.le_refl _) (by omega) (by omega), seg_rot_r (Nat.le_refl _) hb]
    rw [seg_split (l := l) (a := a) (m := s) (b := b) h1 (by omega) hb, seg_split (l := l) (a := s) (m := e) (b := b) (by omega) h4 hb, seg_split (l := l) (a := s) (m := m) (b := e) h2 h3 (by omega)]
    refine (Stab.refl _).append (Stab.append (Stab.symm (Stab.swap hc fun x hx' y hy' => ?_)) (Stab.refl _))
    obtain ⟨i, i1, i2, rfl⟩ := mem_seg (by omega) hx'
    obtain ⟨j, j1, j2, rfl⟩ := mem_seg (by omega) hy'
    exact hx i j i1 i2 j1 j2
  · rw [g i (by omega), g j t]
    by_cases hi : s ≤ i
    · rw [if_pos (by omega), if_pos (by omega)]
      by_cases hj : j < e
      · rw [if_pos (by omega), if_neg (by omega)]
        have := hx (j - (e - m)) (i + (m - s)) (by omega) (by omega) (by omega) (by omega)
        omega
      · rw [if_neg (by omega)]
        exact hB _ _ (by omega) (by omega) t
    · rw [if_neg (by omega)]
      by_cases hj : j < e
      · rw [if_pos (by omega), if_neg (by omega)]
        exact hA _ _ (by omega) (by omega) (by omega)
      · rw [if_neg (by omega)]
        exact hy i j p (by omega) (by omega) t
theorem merge_sorts (hc : Cmp c) {l l1 : List D} {a mid b : Nat} (h1 : a ≤ mid) (h2 : mid ≤ b) (hb : b ≤ l.length) (hl : l1.length = l.length) (hpre : seg l1 0 a = seg l 0 a) (hsuf : seg l1 b l.length = seg l b l.length) (hst : Stab c (seg l1 a b) (seg l a b))
    (hx : ∀ i j, a ≤ i → i < mid → mid ≤ j → j < b → c (gt l1 i) (gt l1 j) ≤ 0) : Sorts c l (srtSeg c (srtSeg c l1 a mid) mid b) a b := by
  have s1 := srtSeg_sorts hc (l := l1) (a := a) (b := mid) h1 (by omega)
  have s2 := srtSeg_sorts hc (l := srtSeg c l1 a mid) (a := mid) (b := b) h2 (by rw [s1.len]; omega)
  generalize hl2 : srtSeg c l1 a mid = l2 at *
  generalize hl3 : srtSeg c l2 mid b = l3 at *
  have e2 := s1.len
  have e3 := s2.len
  have o1 : ∀ k, (k < a ∨ mid ≤ k) → gt l2 k = gt l1 k := fun k h => s1.other h1 (by omega) h
  have o2 : ∀ k, (k < mid ∨ b ≤ k) → gt l3 k = gt l2 k := fun k h => s2.other h2 (by omega) h
  have q1 : seg l3 a mid = seg l2 a mid := by
    apply gt_ext
    · rw [seg_len (by omega), seg_len (by omega)]
    · intro k hk
      rw [seg_len (by omega)] at hk
      rw [gt_seg (by omega) (by omega), gt_seg (by omega) (by omega), o2 _ (by omega)]
  have q2 : seg l2 mid b = seg l1 mid b := by
    apply gt_ext
    · rw [seg_len (by omega), seg_len (by omega)]
    · intro k hk
      rw [seg_len (by omega)] at hk
      rw [gt_seg (by omega) (by omega), gt_seg (by omega) (by omega), o1 _ (by omega)]
  have st1 : Stab c (seg l3 a mid) (seg l1 a mid) := by rw [q1]; exact s1.stab
  have st2 : Stab c (seg l3 mid b) (seg l1 mid b) := by rw [← q2]; exact s2.stab
  refine ⟨by omega, ?_, ?_, ?_, fun i j p q r => ?_⟩
  · rw [← hpre]
    apply gt_ext
    · rw [seg_len (by omega), seg_len (by omega)]
    · intro k hk
      rw [seg_len (by omega)] at hk
      rw [gt_seg (by omega) (by omega), gt_seg (by omega) (by omega), o2 _ (by omega), o1 _ (by omega)]
  · rw [← hsuf]
    apply gt_ext
    · rw [seg_len (by omega), seg_len (by omega)]
    · intro k hk
      rw [seg_len (by omega)] at hk
      rw [gt_seg (by omega) (by omega), gt_seg (by omega) (by omega), o2 _ (by omega), o1 _ (by omega)]
  · refine Stab.trans ?_ hst
    rw [seg_split (l := l3) h1 h2 (by omega), seg_split (l := l1) h1 h2 (by omega)]
    exact st1.append st2
  · by_cases hj : j < mid
    · rw [o2 i (by omega), o2 j (by omega)]; exact s1.srt i j p q hj
    · by_cases hi : mid ≤ i
      · exact s2.srt i j hi q r
      · have m1 : gt l3 i ∈ seg l3 a mid := by
          have h0 : i - a < (seg l3 a mid).length := by rw [seg_len (by omega)]; omega
          have := gt_seg (l := l3) (a := a) (b := mid) (k := i - a) (by omega) (by omega)
          rw [show a + (i - a) = i by omega, gt_at h0] at this
          rw [← this]; exact List.getElem_mem h0
        have m2 : gt l3 j ∈ seg l3 mid b := by
          have h0 : j - mid < (seg l3 mid b).length := by rw [seg_len (by omega)]; omega
          have := gt_seg (l := l3) (a := mid) (b := b) (k := j - mid) (by omega) (by omega)
          rw [show mid + (j - mid) = j by omega, gt_at h0] at this
          rw [← this]; exact List.getElem_mem h0
        obtain ⟨i', i1, i2, ei⟩ := mem_seg (by omega) ((st1.mem hc).1 m1)
        obtain ⟨j', j1, j2, ej⟩ := mem_seg (by omega) ((st2.mem hc).1 m2)
        rw [ei, ej]
        exact hx i' j' i1 i2 j1 j2
theorem rot_pre {l : List D} {a s m e : Nat} (h1 : a ≤ s) (h : s ≤ e) (he : e ≤ l.length) : seg (rotL l s m e) 0 a = seg l 0 a := seg_rot_l h1 he h
theorem rot_suf {l : List D} {b s m e : Nat} (h4 : e ≤ b) : seg (rotL l s m e) b l.length = seg l b l.length := seg_rot_r h4 (Nat.le_refl _)
theorem merge_step (hc : Cmp c) {l : List D} {a s m e b : Nat} (h1 : a ≤ s) (h2 : s ≤ m) (h3 : m ≤ e) (h4 : e ≤ b) (hb : b ≤ l.length) (hA : SrtOn c l a m) (hB : SrtOn c l m b)
    (hx : ∀ i j, s ≤ i → i < m → m ≤ j → j < e → c (gt l j) (gt l i) < 0) (hy : ∀ i j, a ≤ i → i < s → e ≤ j → j < b → c (gt l i) (gt l j) ≤ 0) :
    srtSeg c (srtSeg c (rotL l s m e) a (s + (e - m))) (s + (e - m)) b = srtSeg c l a b := by
  obtain ⟨mid, rfl, q1, q2, q3, q4, q5, q6⟩ := rot_sorts hc h1 h2 h3 h4 hb hA hB hx hy
  exact Sorts.eq hc (by omega) hb (merge_sorts hc (by omega) (by omega) hb (rotL_len _ _ _ _) (rot_pre h1 (by omega) (by omega)) (rot_suf h4) q5 q6)
theorem merge_first (hc : Cmp c) {l : List D} {a i b : Nat} (h1 : a + 1 ≤ i) (h2 : i ≤ b) (hb : b ≤ l.length) (hB : SrtOn c l (a + 1) b) (hlt : ∀ k, a + 1 ≤ k → k < i → c (gt l k) (gt l a) < 0) (hge : i < b → ¬ c (gt l i) (gt l a) < 0) : rotL l a (a + 1) i = srtSeg c l a b := by
  have hA : SrtOn c l a (a + 1) := fun i j p q r => by omega
  have hle : ∀ j, i ≤ j → j < b → c (gt l a) (gt l j) ≤ 0 := fun j p q => by
    have h0 := hge (by omega)
    have hs := hc.swap (gt l i) (gt l a)
    have : c (gt l a) (gt l i) ≤ 0 := by omega
    by_cases hij : i = j
    · subst hij; exact this
    · exact hc.trans _ _ _ this (hB i j h1 (by omega) q)
  obtain ⟨mid, rfl, q1, q2, q3, q4, q5, q6⟩ := rot_sorts hc (Nat.le_refl a) (Nat.le_succ a) h1 h2 hb hA hB (fun i' j p q r t => by
    have : i' = a := by omega
    subst this
    exact hlt j r t) (fun i' j p q => by omega)
  refine Sorts.eq hc (by omega) hb ⟨rotL_len _ _ _ _, rot_pre (Nat.le_refl a) (by omega) (by omega), rot_suf h2, q5, fun p q r t u => ?_⟩
  have g : ∀ k, k < b → gt (rotL l a (a + 1) i) k = if a ≤ k ∧ k < i then (if k < a + (i - (a + 1)) then gt l (k + (a + 1 - a)) else gt l (k - (i - (a + 1)))) else gt l k := fun k hk => gt_rot (by omega)
  by_cases hp : p < a + (i - (a + 1))
  · by_cases hq : q < a + (i - (a + 1))
    · exact q2 p q r t hq
    · exact q6 p q r hp (by omega) u
  · by_cases hp' : p < i
    · rw [g p (by omega), g q u, if_pos (by omega), if_neg hp, if_neg (by omega)]
      have : p - (i - (a + 1)) = a := by omega
      rw [this]
      exact hle q (by omega) u
    · exact q4 p q (by omega) t u
theorem merge_last (hc : Cmp c) {l : List D} {a i m : Nat} (h1 : a ≤ i) (h2 : i ≤ m) (hb : m + 1 ≤ l.length) (hA : SrtOn c l a m) (hlt : ∀ k, i ≤ k → k < m → c (gt l m) (gt l k) < 0) (hge : a < i → ¬ c (gt l m) (gt l (i - 1)) < 0) : rotL l i m (m + 1) = srtSeg c l a (m + 1) := by
  have hB : SrtOn c l m (m + 1) := fun i j p q r => by omega
  have hle : ∀ j, a ≤ j → j < i → c (gt l j) (gt l m) ≤ 0 := fun j p q => by
    have h0 := hge (by omega)
    have hs := hc.swap (gt l m) (gt l (i - 1))
    have : c (gt l (i - 1)) (gt l m) ≤ 0 := by omega
    by_cases hij : j = i - 1
    · subst hij; exact this
    · exact hc.trans _ _ _ (hA j (i - 1) p (by omega) (by omega)) this
  obtain ⟨mid, rfl, q1, q2, q3, q4, q5, q6⟩ := rot_sorts hc h1 h2 (Nat.le_succ m) (Nat.le_refl (m + 1)) hb hA hB (fun i' j p q r t => by
    have : j = m := by omega
    subst this
    exact hlt i' p q) (fun i' j p q r t => by omega)
  refine Sorts.eq hc (by omega) hb ⟨rotL_len _ _ _ _, rot_pre h1 (by omega) (by omega), rot_suf (Nat.le_refl _), q5, fun p q r t u => ?_⟩
  have g : ∀ k, k < m + 1 → gt (rotL l i m (m + 1)) k = if i ≤ k ∧ k < m + 1 then (if k < i + (m + 1 - m) then gt l (k + (m - i)) else gt l (k - (m + 1 - m))) else gt l k := fun k hk => gt_rot (by omega)
  by_cases hq : q < i
  · exact q1 p q r t hq
  · by_cases hp : p < i
    · rw [g p (by omega), g q u, if_neg (by omega), if_pos (by omega)]
      by_cases hqi : q = i
      · rw [if_pos (by omega), show q + (m - i) = m by omega]
        exact hle p r hp
      · rw [if_neg (by omega)]
        exact hA _ _ (by omega) (by omega) (by omega)
    · by_cases hpi : p = i
      · exact q6 p q r (by omega) (by omega) u
      · exact q3 p q (by omega) t u
end
end Go.Vam
