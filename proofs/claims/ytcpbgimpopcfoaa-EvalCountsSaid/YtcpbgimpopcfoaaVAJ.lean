/- THE SHADOW MACHINE, 32: sorting by insertion and merging, on lists. -/
import Derived.Test.YtcpbgimpopcfoaaVAI
set_option linter.unusedVariables false
namespace Go.Vam
section
variable {c : D → D → Int}
theorem seg_eq {l m : List D} {a b : Nat} (hl : m.length = l.length) (hb : b ≤ l.length) (h : ∀ k, a ≤ k → k < b → gt m k = gt l k) : seg m a b = seg l a b := by
  have e1 : (seg m a b).length = b - a := seg_len (by omega)
  have e2 : (seg l a b).length = b - a := seg_len hb
  apply gt_ext (by omega)
  intro k hk
  rw [gt_seg (by omega) (by omega), gt_seg hb (by omega)]
  exact h _ (by omega) (by omega)
theorem srtSeg_other (hc : Cmp c) {l : List D} {a b k : Nat} (hab : a ≤ b) (hb : b ≤ l.length) (hk : k < a ∨ b ≤ k) : gt (srtSeg c l a b) k = gt l k := (srtSeg_sorts hc hab hb).other hab hb hk
theorem srtSeg_stab (hc : Cmp c) {l : List D} {a b : Nat} (hab : a ≤ b) (hb : b ≤ l.length) : Stab c (srtSeg c l a b) l := by
  have h : Stab c (srtSeg c l a b) (seg l 0 a ++ (seg l a b ++ seg l b l.length)) := Stab.append (Stab.refl _) (Stab.append (stb_stab hc _) (Stab.refl _))
  exact Eq.mpr (congrArg (Stab c (srtSeg c l a b)) (split3 hab hb)) h
theorem srtSeg_srt (hc : Cmp c) {l : List D} {a b : Nat} (hab : a ≤ b) (hb : b ≤ l.length) : SrtOn c (srtSeg c l a b) a b := (srtSeg_sorts hc hab hb).srt
theorem SrtOn.same {l m : List D} {a b : Nat} (hs : SrtOn c l a b) (h : ∀ k, a ≤ k → k < b → gt m k = gt l k) : SrtOn c m a b := fun i j h1 h2 h3 => by
  rw [h i h1 (by omega), h j (by omega) h3]; exact hs i j h1 h2 h3
theorem srtSeg_in (hc : Cmp c) {l : List D} {a a' b' b : Nat} (h1 : a ≤ a') (h2 : a' ≤ b') (h3 : b' ≤ b) (hb : b ≤ l.length) : srtSeg c (srtSeg c l a' b') a b = srtSeg c l a b := by
  have hl : (srtSeg c l a' b').length = l.length := srtSeg_len hc h2 (by omega)
  have ho : ∀ k, k < a' ∨ b' ≤ k → gt (srtSeg c l a' b') k = gt l k := fun k hk => srtSeg_other hc h2 (by omega) hk
  have hs := srtSeg_sorts hc (l := srtSeg c l a' b') (a := a) (b := b) (by omega) (by omega)
  refine Sorts.eq hc (by omega) hb ⟨by rw [hs.len, hl], ?_, ?_, ?_, hs.srt⟩
  · rw [hs.pre]; exact seg_eq hl (by omega) fun k _ hk => ho k (by omega)
  · have e := hs.suf
    rw [hl] at e
    rw [e]; exact seg_eq hl (by omega) fun k _ hk => ho k (by omega)
  · refine hs.stab.trans ?_
    rw [seg_split (l := srtSeg c l a' b') h1 (show a' ≤ b by omega) (by omega), seg_split (l := srtSeg c l a' b') h2 h3 (by omega), seg_split (l := l) h1 (show a' ≤ b by omega) (by omega), seg_split (l := l) h2 h3 (by omega)]
    rw [seg_eq hl (show a' ≤ l.length by omega) (fun k _ hk => ho k (by omega)), seg_eq hl hb (fun k hk _ => ho k (by omega))]
    exact Stab.append (Stab.refl _) (Stab.append (srtSeg_sorts hc h2 (by omega)).stab (Stab.refl _))
theorem ins_at {l : List D} {j m : Nat} (h : j ≤ m) (hm : m < l.length) : gt (rotL l j m (m + 1)) j = gt l m := by
  rw [gt_rot (by omega)]
  rw [if_pos (by omega), if_pos (by omega)]
  congr 1; omega
theorem ins_below {l : List D} {j m k : Nat} (h : k < j) (hj : j ≤ m) (hm : m < l.length) : gt (rotL l j m (m + 1)) k = gt l k := by
  rw [gt_rot (by omega), if_neg (by omega)]
theorem ins_id {l : List D} {m : Nat} : rotL l m m (m + 1) = l := rotL_id (Or.inl rfl) (Nat.le_refl _) (by omega)
theorem merge_first' (hc : Cmp c) {l : List D} {a i b : Nat} (h1 : a + 1 ≤ i) (h2 : i ≤ b) (hb : b ≤ l.length) (hB : SrtOn c l (a + 1) b) (hlt : a + 1 < i → c (gt l (i - 1)) (gt l a) < 0) (hge : i < b → ¬ c (gt l i) (gt l a) < 0) : rotL l a (a + 1) i = srtSeg c l a b := by
  refine merge_first hc h1 h2 hb hB (fun k p q => ?_) hge
  have h := hlt (by omega)
  rcases Nat.lt_or_ge k (i - 1) with r | r
  · exact hc.le_lt (hB k (i - 1) p r (by omega)) h
  · rw [show k = i - 1 by omega]; exact h
theorem merge_last' (hc : Cmp c) {l : List D} {a i m : Nat} (h1 : a ≤ i) (h2 : i ≤ m) (hb : m + 1 ≤ l.length) (hA : SrtOn c l a m) (hlt : i < m → c (gt l m) (gt l i) < 0) (hge : a < i → ¬ c (gt l m) (gt l (i - 1)) < 0) : rotL l i m (m + 1) = srtSeg c l a (m + 1) := by
  refine merge_last hc h1 h2 hb hA (fun k p q => ?_) hge
  have h := hlt (by omega)
  rcases Nat.lt_or_ge i k with r | r
  · exact hc.lt_le h (hA i k h1 r q)
  · rw [show k = i by omega]; exact h
theorem merge_gen (hc : Cmp c) {l : List D} {a m b s s0 r0 : Nat} (h1 : a < m) (h2 : m < b) (hb : b ≤ l.length) (hA : SrtOn c l a m) (hB : SrtOn c l m b)
    (hs0 : s0 ≤ s) (hr0 : s ≤ r0) (hcase : ((a + b) / 2 < m ∧ s0 + b = (a + b) / 2 + m ∧ r0 = (a + b) / 2) ∨ (m ≤ (a + b) / 2 ∧ s0 = a ∧ r0 = m))
    (hlo : s0 < s → ¬ c (gt l ((a + b) / 2 + m - s)) (gt l (s - 1)) < 0) (hhi : s < r0 → c (gt l ((a + b) / 2 + m - 1 - s)) (gt l s) < 0) :
    a ≤ s ∧ s ≤ m ∧ m ≤ (a + b) / 2 + m - s ∧ (a + b) / 2 + m - s ≤ b ∧ s ≤ (a + b) / 2 ∧ (a + b) / 2 ≤ (a + b) / 2 + m - s ∧
    srtSeg c (srtSeg c (rotL l s m ((a + b) / 2 + m - s)) a ((a + b) / 2)) ((a + b) / 2) b = srtSeg c l a b := by
  generalize hmid : (a + b) / 2 = mid at *
  have hx1 : a < mid ∧ mid < b := by omega
  have g1 : a ≤ s := by omega
  have g2 : s ≤ m := by omega
  have g3 : m ≤ mid + m - s := by omega
  have g4 : mid + m - s ≤ b := by omega
  have g5 : s ≤ mid := by omega
  refine ⟨g1, g2, g3, g4, g5, by omega, ?_⟩
  have h := merge_step hc g1 g2 g3 g4 hb hA hB (fun i j p q r t => ?_) (fun i j p q r t => ?_)
  · rw [show s + (mid + m - s - m) = mid by omega] at h
    exact h
  · have hh := hhi (by omega)
    have e1 : c (gt l j) (gt l (mid + m - 1 - s)) ≤ 0 := by
      rcases Nat.lt_or_ge j (mid + m - 1 - s) with u | u
      · exact hB _ _ r u (by omega)
      · rw [show mid + m - 1 - s = j by omega, hc.self]; omega
    have e2 : c (gt l s) (gt l i) ≤ 0 := by
      rcases Nat.lt_or_ge s i with u | u
      · exact hA _ _ g1 u q
      · rw [show i = s by omega, hc.self]; omega
    exact hc.lt_le (hc.le_lt e1 hh) e2
  · have hh := hlo (by omega)
    have hh2 : c (gt l (s - 1)) (gt l (mid + m - s)) ≤ 0 := by have := hc.swap (gt l (mid + m - s)) (gt l (s - 1)); omega
    have e1 : c (gt l i) (gt l (s - 1)) ≤ 0 := by
      rcases Nat.lt_or_ge i (s - 1) with u | u
      · exact hA _ _ p u (by omega)
      · rw [show s - 1 = i by omega, hc.self]; omega
    have e2 : c (gt l (mid + m - s)) (gt l j) ≤ 0 := by
      rcases Nat.lt_or_ge (mid + m - s) j with u | u
      · exact hB _ _ (by omega) u t
      · rw [show j = mid + m - s by omega, hc.self]; omega
    exact hc.trans _ _ _ (hc.trans _ _ _ e1 hh2) e2
theorem rot_parts {l : List D} {a s m e b : Nat} (h1 : a ≤ s) (h2 : s ≤ m) (h3 : m ≤ e) (h4 : e ≤ b) (hb : b ≤ l.length) (hA : SrtOn c l a m) (hB : SrtOn c l m b) :
    SrtOn c (rotL l s m e) a s ∧ SrtOn c (rotL l s m e) s (s + (e - m)) ∧ SrtOn c (rotL l s m e) (s + (e - m)) e ∧ SrtOn c (rotL l s m e) e b := by
  refine ⟨fun i j p q r => ?_, fun i j p q r => ?_, fun i j p q r => ?_, fun i j p q r => ?_⟩
  · rw [gt_rot (by omega), gt_rot (by omega), if_neg (by omega), if_neg (by omega)]
    exact hA _ _ p q (by omega)
  · rw [gt_rot (by omega), gt_rot (by omega), if_pos (by omega), if_pos (by omega), if_pos (by omega), if_pos (by omega)]
    exact hB _ _ (by omega) (by omega) (by omega)
  · have e1 : gt (rotL l s m e) i = gt l (i - (e - m)) := by rw [gt_rot (by omega), if_pos (by omega), if_neg (by omega)]
    have e2 : gt (rotL l s m e) j = gt l (j - (e - m)) := by rw [gt_rot (by omega), if_pos (by omega), if_neg (by omega)]
    rw [e1, e2]
    exact hA _ _ (by omega) (by omega) (by omega)
  · rw [gt_rot (by omega), gt_rot (by omega), if_neg (by omega), if_neg (by omega)]
    exact hB _ _ (by omega) q r
theorem SrtOn.nil {l : List D} {a b : Nat} (h : b ≤ a + 1) : SrtOn c l a b := fun i j p q r => by omega
inductive Bl (c : D → D → Int) (l : List D) (S n : Nat) : Nat → Prop
  | last (a : Nat) : a ≤ n → n ≤ a + S → SrtOn c l a n → Bl c l S n a
  | step (a : Nat) : a + S ≤ n → SrtOn c l a (a + S) → Bl c l S n (a + S) → Bl c l S n a
inductive Fw (c : D → D → Int) (l : List D) (S : Nat) : Nat → Prop
  | zero : Fw c l S 0
  | snoc (a : Nat) : Fw c l S a → SrtOn c l a (a + S) → Fw c l S (a + S)
theorem Fw.bl {l : List D} {S n a : Nat} (h : Fw c l S a) : Bl c l S n a → a ≤ n → Bl c l S n 0 := by
  induction h with
  | zero => intro h _; exact h
  | snoc a _ h2 ih => intro h hn; exact ih (.step a hn h2 h) (by omega)
theorem Fw.same {l m : List D} {S a : Nat} (h : Fw c l S a) : (∀ k, k < a → gt m k = gt l k) → Fw c m S a := by
  induction h with
  | zero => intro _; exact .zero
  | snoc a _ h2 ih => intro h; exact .snoc a (ih fun k hk => h k (by omega)) (h2.same fun k _ hk => h k hk)
theorem Bl.same {l m : List D} {S n a : Nat} (h : Bl c l S n a) : (∀ k, a ≤ k → gt m k = gt l k) → Bl c m S n a := by
  induction h with
  | last a h1 h2 h3 => intro h; exact .last a h1 h2 (h3.same fun k hk _ => h k hk)
  | step a h1 h2 _ ih => intro h; exact .step a h1 (h2.same fun k hk _ => h k hk) (ih fun k hk => h k (by omega))
theorem Bl.two {l : List D} {S n a : Nat} (h : Bl c l S n a) (hS : 0 < S) (hn : a + S + S ≤ n) : SrtOn c l a (a + S) ∧ SrtOn c l (a + S) (a + S + S) ∧ Bl c l S n (a + S + S) := by
  cases h with
  | last _ h1 h2 _ => omega
  | step _ h1 h2 h3 =>
    refine ⟨h2, ?_⟩
    cases h3 with
    | last _ p1 p2 p3 =>
      have e : n = a + S + S := by omega
      subst e
      exact ⟨p3, .last _ (Nat.le_refl _) (by omega) (.nil (by omega))⟩
    | step _ p1 p2 p3 => exact ⟨p2, p3⟩
theorem Bl.rest {l : List D} {S n a : Nat} (h : Bl c l S n a) (h1 : a + S < n) (h2 : n < a + S + S) : SrtOn c l a (a + S) ∧ SrtOn c l (a + S) n := by
  cases h with
  | last _ p1 p2 _ => omega
  | step _ p1 p2 p3 =>
    refine ⟨p2, ?_⟩
    cases p3 with
    | last _ q1 q2 q3 => exact q3
    | step _ q1 q2 q3 => omega
theorem Bl.one {l : List D} {S n a : Nat} (h : Bl c l S n a) (hS : 0 < S) (h2 : n ≤ a + S) : SrtOn c l a n := by
  cases h with
  | last _ _ _ q => exact q
  | step _ p1 p2 _ =>
    have e : n = a + S := by omega
    subst e
    exact p2
end
end Go.Vam
