/- THE SHADOW MACHINE, 31: steps of sorts in place, on lists. -/
import Derived.Test.YtcpbgimpopcfoaaVAH
set_option linter.unusedVariables false
namespace Go.Vam
theorem gt_set2 {l : List D} {i j k : Nat} {x y : D} (hi : i < l.length) (hj : j < l.length) : gt ((l.set i x).set j y) k = if k = j then y else if k = i then x else gt l k := by
  rw [gt_set (by simpa using hj)]
  split
  · rfl
  · exact gt_set hi
theorem rotL_self (l : List D) (a m : Nat) : rotL l a m m = l := by
  apply gt_ext (rotL_len _ _ _ _)
  intro k hk
  rw [rotL_len] at hk
  rw [gt_rot hk]
  split
  · rw [if_neg (by omega)] <;> (congr 1; omega)
  · rfl
theorem rot_r {l : List D} {a k : Nat} (h : a ≤ k) (hk : k + 1 < l.length) : ((rotL l a (a + 1) (k + 1)).set k (gt (rotL l a (a + 1) (k + 1)) (k + 1))).set (k + 1) (gt (rotL l a (a + 1) (k + 1)) k) = rotL l a (a + 1) (k + 2) := by
  have hl := rotL_len l a (a + 1) (k + 1)
  apply gt_ext
  · simp [rotL_len]
  · intro i hi
    simp only [List.length_set, rotL_len] at hi
    rw [gt_set2 (by omega) (by omega), gt_rot (by omega), gt_rot (l := l) (b := k + 2) (by omega), gt_rot (by omega)]
    by_cases h1 : i = k + 1
    · subst h1
      rw [if_pos rfl, if_pos (by omega), if_neg (by omega), if_pos (by omega), if_neg (by omega)] <;> (congr 1; omega)
    · rw [if_neg h1]
      by_cases h2 : i = k
      · subst h2
        rw [if_pos rfl, if_neg (by omega), if_pos (by omega), if_pos (by omega)] <;> (congr 1; omega)
      · rw [if_neg h2]
        rw [gt_rot (by omega)]
        by_cases h3 : a ≤ i ∧ i < k + 1
        · rw [if_pos h3, if_pos (by omega), if_pos (by omega), if_pos (by omega)]
        · rw [if_neg h3, if_neg (by omega)]
theorem rot_l {l : List D} {k m : Nat} (h : k + 1 ≤ m) (hm : m < l.length) : ((rotL l (k + 1) m (m + 1)).set (k + 1) (gt (rotL l (k + 1) m (m + 1)) k)).set k (gt (rotL l (k + 1) m (m + 1)) (k + 1)) = rotL l k m (m + 1) := by
  have hl := rotL_len l (k + 1) m (m + 1)
  apply gt_ext
  · simp [rotL_len]
  · intro i hi
    simp only [List.length_set, rotL_len] at hi
    rw [gt_set2 (by omega) (by omega), gt_rot (by omega), gt_rot (l := l) (a := k) (by omega), gt_rot (by omega)]
    by_cases h1 : i = k
    · subst h1
      rw [if_pos rfl, if_pos (by omega), if_pos (by omega), if_pos (by omega), if_pos (by omega)] <;> (congr 1; omega)
    · rw [if_neg h1]
      by_cases h2 : i = k + 1
      · subst h2
        rw [if_pos rfl, if_neg (by omega), if_pos (by omega), if_neg (by omega)] <;> (congr 1; omega)
      · rw [if_neg h2]
        rw [gt_rot (by omega)]
        by_cases h3 : k + 1 ≤ i ∧ i < m + 1
        · rw [if_pos h3, if_neg (by omega), if_pos (by omega), if_neg (by omega)] <;> (congr 1; omega)
        · rw [if_neg h3, if_neg (by omega)]
theorem sw_step {l : List D} {a b i : Nat} (h : a + i < b) (hb : b + i < l.length) : ((swL l a b i).set (a + i) (gt (swL l a b i) (b + i))).set (b + i) (gt (swL l a b i) (a + i)) = swL l a b (i + 1) := by
  have hl := swL_len l a b i
  apply gt_ext
  · simp [swL_len]
  · intro k hk
    simp only [List.length_set, swL_len] at hk
    rw [gt_set2 (by omega) (by omega), gt_sw (by omega), gt_sw (l := l) (n := i + 1) (by omega), gt_sw (by omega)]
    by_cases h1 : k = b + i
    · subst h1
      rw [if_pos rfl, if_neg (by omega), if_neg (by omega), if_neg (by omega), if_pos (by omega)] <;> (congr 1; omega)
    · rw [if_neg h1]
      by_cases h2 : k = a + i
      · subst h2
        rw [if_pos rfl, if_neg (by omega), if_neg (by omega), if_pos (by omega)] <;> (congr 1; omega)
      · rw [if_neg h2]
        rw [gt_sw (by omega)]
        by_cases h3 : a ≤ k ∧ k < a + i
        · rw [if_pos h3, if_pos (by omega)]
        · rw [if_neg h3]
          by_cases h4 : b ≤ k ∧ k < b + i
          · rw [if_pos h4, if_neg (by omega), if_pos (by omega)]
          · rw [if_neg h4, if_neg (by omega), if_neg (by omega)]
theorem swL_zero (l : List D) (a b : Nat) : swL l a b 0 = l := by
  apply gt_ext (swL_len _ _ _ _)
  intro k hk
  rw [swL_len] at hk
  rw [gt_sw hk, if_neg (by omega), if_neg (by omega)]
theorem rot_sw1 {l : List D} {m i j : Nat} (h : j < i) (hi : i ≤ m) (hl : m + j ≤ l.length) : rotL (swL l (m - i) m j) (m - (i - j)) m (m + j) = rotL l (m - i) m (m + j) := by
  apply gt_ext (by rw [rotL_len, rotL_len, swL_len])
  intro k hk
  rw [rotL_len, swL_len] at hk
  rw [gt_rot (by rw [swL_len]; exact hk), gt_rot hk]
  split
  · split
    · rw [gt_sw (by omega)]
      repeat' split
      all_goals first | rfl | (congr 1; omega) | (exfalso; omega)
    · rw [gt_sw (by omega)]
      repeat' split
      all_goals first | rfl | (congr 1; omega) | (exfalso; omega)
  · rw [gt_sw hk]
    repeat' split
    all_goals first | rfl | (congr 1; omega) | (exfalso; omega)
theorem rot_sw2 {l : List D} {m i j : Nat} (h : i < j) (hi : i ≤ m) (hl : m + j ≤ l.length) : rotL (swL l (m - i) (m + j - i) i) (m - i) m (m + (j - i)) = rotL l (m - i) m (m + j) := by
  apply gt_ext (by rw [rotL_len, rotL_len, swL_len])
  intro k hk
  rw [rotL_len, swL_len] at hk
  rw [gt_rot (by rw [swL_len]; exact hk), gt_rot hk]
  split
  · split
    · rw [gt_sw (by omega)]
      repeat' split
      all_goals first | rfl | (congr 1; omega) | (exfalso; omega)
    · rw [gt_sw (by omega)]
      repeat' split
      all_goals first | rfl | (congr 1; omega) | (exfalso; omega)
  · rw [gt_sw hk]
    repeat' split
    all_goals first | rfl | (congr 1; omega) | (exfalso; omega)
theorem rot_sw3 {l : List D} {m i : Nat} (hi : i ≤ m) (hl : m + i ≤ l.length) : swL l (m - i) m i = rotL l (m - i) m (m + i) := by
  apply gt_ext (by rw [rotL_len, swL_len])
  intro k hk
  rw [swL_len] at hk
  rw [gt_rot hk, gt_sw hk]
  repeat' split
  all_goals first | rfl | (congr 1; omega) | (exfalso; omega)
theorem setP_sl (xs : List D) (i : Nat) (x : D) : D.setP [i] (.sl xs) x = .sl (xs.set i x) := rfl
theorem at_sl (xs : List D) (i : Nat) : (D.sl xs).at i = gt xs i := rfl
theorem u64id {n : Int} (h : 0 ≤ n) (h' : n < 18446744073709551616) : IntKind.u64.wrap n = n := by
  simp only [IntKind.wrap, IntKind.bits, IntKind.signed]
  simp
  omega
theorem shr_ok (x : D) : F2.ok (.shr .u64) x (D.i 1) = true := rfl
theorem shr_mid {x y : Nat} (h : x + y < 4611686018427387904) : IntKind.i64.wrap (F2.ev (.shr .u64) (D.i (IntKind.u64.wrap (IntKind.i64.wrap ((x : Int) + (y : Int))))) (D.i 1)).toI = (((x + y) / 2 : Nat) : Int) := by
  rw [wrap64_id (n := (x : Int) + (y : Int)) (by omega) (by omega), u64id (by omega) (by omega)]
  have e : (F2.ev (.shr .u64) (D.i ((x : Int) + (y : Int))) (D.i 1)).toI = Int.fdiv ((x : Int) + (y : Int)) 2 := rfl
  rw [e, Int.fdiv_eq_ediv_of_nonneg _ (by omega)]
  rw [wrap64_id (by omega) (by omega)]
  omega
theorem w64n {a : Int} {n : Nat} (h : a = (n : Int)) (hn : n ≤ 9223372036854775807) : IntKind.i64.wrap a = (n : Int) := by
  rw [h]; exact wrap64_id (by omega) (by omega)
end Go.Vam
