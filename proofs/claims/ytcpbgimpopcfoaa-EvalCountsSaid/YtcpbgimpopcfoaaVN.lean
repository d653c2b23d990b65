/- THE SHADOW MACHINE: floats, up to which NaN it is. -/
import Derived.Test.YtcpbgimpopcfoaaVB
namespace Go.Vam
theorem isNan_iff (n : Nat) : isNan n = decide (9218868437227405312 < n % 9223372036854775808) := by
  unfold isNan Ieee.Format.read
  have e1 : Ieee.double.signWeight = 9223372036854775808 := by decide
  have e2 : Ieee.double.binade = 4503599627370496 := by decide
  have e3 : Ieee.double.infRung = 9218868437227405312 := by decide
  simp only [e1, e2, e3]
  split
  · rename_i h; simp [Ieee.Datum.isNaN]; omega
  · split
    · rename_i h h'; simp [Ieee.Datum.isNaN]; omega
    · split
      · rename_i h; simp [Ieee.Datum.isNaN]; omega
      · rename_i h h' h''; simp [Ieee.Datum.isNaN]; omega
theorem FEq.neg {n m : Nat} (h : FEq n m) : FEq (n ^^^ 9223372036854775808) (m ^^^ 9223372036854775808) := by
  have e : ∀ k, (k ^^^ 9223372036854775808) % 9223372036854775808 = k % 9223372036854775808 := fun k => by
    have := Nat.xor_mod_two_pow (a := k) (b := 9223372036854775808) (n := 63)
    simpa using this
  rcases h with rfl | ⟨h1, h2⟩
  · exact .inl rfl
  · refine .inr ?_
    rw [isNan_iff] at h1 h2
    rw [isNan_iff, isNan_iff, e, e]
    exact ⟨h1, h2⟩
theorem FB.neg {n m : Nat} (h : FB n m) : FB (n ^^^ 9223372036854775808) (m ^^^ 9223372036854775808) := ⟨h.1.neg, Nat.xor_lt_two_pow (n := 64) h.2 (by decide)⟩
theorem word_lt (s : Bool) {r : Nat} (h : r ≤ 9218868437227405312) : Ieee.double.word s r < 18446744073709551616 := by
  have e1 : Ieee.double.signWeight = 9223372036854775808 := by decide
  unfold Ieee.Format.word
  rw [e1]
  split <;> omega
theorem write_lt : ∀ (d : Ieee.Datum), d.isNaN = false → Ieee.double.write d < 18446744073709551616
  | .nan s t, h => by cases h
  | .infinity s, _ => word_lt s (by decide)
  | .number s m p, _ => by
    show Ieee.double.nearest s m p < _
    unfold Ieee.Format.nearest
    split
    · exact word_lt s (by omega)
    · exact word_lt s (Nat.le_trans (Nat.min_le_right _ _) (by decide))
theorem sum_nn {a b c : Ieee.Datum} (h : a.sum b = some c) : c.isNaN = false := by
  cases a <;> cases b <;> simp only [Ieee.Datum.sum] at h <;> first | (cases h; done) | (injection h with h; subst h; rfl) | (split at h <;> first | (cases h; done) | (injection h with h; subst h; rfl))
theorem product_nn {a b c : Ieee.Datum} (h : a.product b = some c) : c.isNaN = false := by
  cases a <;> cases b <;> simp only [Ieee.Datum.product] at h <;> first | (cases h; done) | (injection h with h; subst h; rfl) | (split at h <;> first | (cases h; done) | (injection h with h; subst h; rfl))
theorem add_lt {n m r : Nat} (h : Ieee.double.add n m = some r) : r < 18446744073709551616 := by
  obtain ⟨d, h1, rfl⟩ := Option.map_eq_some_iff.1 h
  exact write_lt d (sum_nn h1)
theorem sub_lt {n m r : Nat} (h : Ieee.double.sub n m = some r) : r < 18446744073709551616 := by
  obtain ⟨d, h1, rfl⟩ := Option.map_eq_some_iff.1 h
  exact write_lt d (sum_nn h1)
theorem mul_lt {n m r : Nat} (h : Ieee.double.mul n m = some r) : r < 18446744073709551616 := by
  obtain ⟨d, h1, rfl⟩ := Option.map_eq_some_iff.1 h
  exact write_lt d (product_nn h1)
theorem nan_read {n : Nat} (h : isNan n = true) : ∃ s t, Ieee.double.read n = .nan s t := by
  unfold isNan at h
  cases hr : Ieee.double.read n <;> rw [hr] at h <;> simp [Ieee.Datum.isNaN] at h
  exact ⟨_, _, rfl⟩
theorem nan_order_l {n : Nat} (h : isNan n = true) (m : Nat) : Ieee.double.order n m = none := by
  obtain ⟨s, t, h⟩ := nan_read h
  unfold Ieee.Format.order
  rw [h]; rfl
theorem nan_order_r {n : Nat} (h : isNan n = true) (m : Nat) : Ieee.double.order m n = none := by
  obtain ⟨s, t, h⟩ := nan_read h
  unfold Ieee.Format.order
  rw [h]; cases Ieee.double.read m <;> rfl
theorem FEq.order {n m n' m' : Nat} (h : FEq n m) (h' : FEq n' m') : Ieee.double.order m m' = Ieee.double.order n n' := by
  rcases h with rfl | ⟨h1, h2⟩
  · rcases h' with rfl | ⟨h3, h4⟩
    · rfl
    · rw [nan_order_r h3, nan_order_r h4]
  · rw [nan_order_l h1, nan_order_l h2]
theorem FEq.add {n m n' m' : Nat} (h : FEq n m) (h' : FEq n' m') : Ieee.double.add m m' = Ieee.double.add n n' := by
  unfold Ieee.Format.add
  rcases h with rfl | ⟨h1, h2⟩
  · rcases h' with rfl | ⟨h3, h4⟩
    · rfl
    · obtain ⟨_, _, h3⟩ := nan_read h3; obtain ⟨_, _, h4⟩ := nan_read h4
      rw [h3, h4]; cases Ieee.double.read n <;> rfl
  · obtain ⟨_, _, h1⟩ := nan_read h1; obtain ⟨_, _, h2⟩ := nan_read h2
    rw [h1, h2]; rfl
theorem FEq.sub {n m n' m' : Nat} (h : FEq n m) (h' : FEq n' m') : Ieee.double.sub m m' = Ieee.double.sub n n' := by
  unfold Ieee.Format.sub
  rcases h with rfl | ⟨h1, h2⟩
  · rcases h' with rfl | ⟨h3, h4⟩
    · rfl
    · obtain ⟨_, _, h3⟩ := nan_read h3; obtain ⟨_, _, h4⟩ := nan_read h4
      rw [h3, h4]; cases Ieee.double.read n <;> rfl
  · obtain ⟨_, _, h1⟩ := nan_read h1; obtain ⟨_, _, h2⟩ := nan_read h2
    rw [h1, h2]; rfl
theorem FEq.mul {n m n' m' : Nat} (h : FEq n m) (h' : FEq n' m') : Ieee.double.mul m m' = Ieee.double.mul n n' := by
  unfold Ieee.Format.mul
  rcases h with rfl | ⟨h1, h2⟩
  · rcases h' with rfl | ⟨h3, h4⟩
    · rfl
    · obtain ⟨_, _, h3⟩ := nan_read h3; obtain ⟨_, _, h4⟩ := nan_read h4
      rw [h3, h4]; cases Ieee.double.read n <;> rfl
  · obtain ⟨_, _, h1⟩ := nan_read h1; obtain ⟨_, _, h2⟩ := nan_read h2
    rw [h1, h2]; rfl
theorem nanW_nan : isNan nanW = true := by decide
theorem cut_nan (x y t : Nat) : isNan ((Question.nanBits .f64 x y).cut t) = true := by
  rw [isNan_iff]
  show decide (9218868437227405312 < (t % 2 * 9223372036854775808 + 9218868437227405312 + 1 + t / 2 % 4503599627370495) % 9223372036854775808) = true
  rw [decide_eq_true_eq]
  have h1 : t / 2 % 4503599627370495 < 4503599627370495 := Nat.mod_lt _ (by omega)
  generalize t / 2 % 4503599627370495 = r at *
  rcases Nat.mod_two_eq_zero_or_one t with h | h <;> rw [h] <;> omega
end Go.Vam
