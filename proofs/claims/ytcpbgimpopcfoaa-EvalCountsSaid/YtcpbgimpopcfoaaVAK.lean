/- THE SHADOW MACHINE, 33: whether a slice is nil is seen. -/
import Derived.Test.YtcpbgimpopcfoaaVAD
set_option linter.unusedVariables false
namespace Go.Vam
theorem RF.sharp {P : Program} {S : Cells} {t : Nat} {x : D} {cs : List Value} (h : RF P S t x cs) : ∃ x', RF P S t x' cs ∧ F1.ok .isN x' = true := by
  by_cases hx : F1.ok .isN x = true
  · exact ⟨x, h, hx⟩
  · have e : x = .sq [] := by
      cases x <;> try exact absurd rfl hx
      rename_i xs
      cases xs with
      | nil => rfl
      | cons a l => exact absurd rfl hx
    subst e
    cases h with
    | nils hu _ => exact ⟨.sz [], .nils hu (.inl rfl), rfl⟩
    | slc hu hd h1 h2 c h3 h4 h5 =>
      rename_i xs a cap
      refine ⟨.sl xs, .slc hu (.inl rfl) h1 h2 c h3 h4 h5, rfl⟩
theorem sharp {P : Program} {S : Cells} {t : Nat} {x : D} {v : Value} (h : RT P S (.v t) x v) : ∃ x', RT P S (.v t) x' v ∧ F1.ok .isN x' = true := by
  obtain ⟨h1, h2⟩ := h
  obtain ⟨x', h3, h4⟩ := h1.sharp
  exact ⟨x', ⟨h3, h2⟩, h4⟩
end Go.Vam
