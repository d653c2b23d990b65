/- THE SHADOW MACHINE, 30: the table's entries of functions that are handed an array and a function to compare by. -/
import Derived.Test.YtcpbgimpopcfoaaVAG
set_option linter.unusedVariables false
namespace Go.Vam
def isSl : D → Bool
  | .sl _ => true
  | _ => false
theorem isSl_eq {h : D} (e : isSl h = true) : h = .sl h.toL := by cases h <;> first | rfl | cases e
def fm0 (k : Nat) (ts : List Ty) (p : D → D → Bool) (s : D → D → D) : List V → List V → CRes
  | [.ms 0 _, .fn k' [.f q] tys], [.f h] => (Nat.beq k' k && (Ty.eqAll tys ts && p q h), .t [], [.f (s q h)])
  | _, _ => (false, .u, [])
def fm1 (k : Nat) (ts : List Ty) (p : D → D → D → Bool) (s : D → D → D → D) : List V → List V → CRes
  | [.ms 0 _, .f a, .fn k' [.f q] tys], [.f h] => (Nat.beq k' k && (Ty.eqAll tys ts && p a q h), .t [], [.f (s a q h)])
  | _, _ => (false, .u, [])
def fm2 (k : Nat) (ts : List Ty) (p : D → D → D → D → Bool) (s : D → D → D → D → D) : List V → List V → CRes
  | [.ms 0 _, .f a, .f b, .fn k' [.f q] tys], [.f h] => (Nat.beq k' k && (Ty.eqAll tys ts && p a b q h), .t [], [.f (s a b q h)])
  | _, _ => (false, .u, [])
def fm3 (k : Nat) (ts : List Ty) (p : D → D → D → D → D → Bool) (s : D → D → D → D → D → D) : List V → List V → CRes
  | [.ms 0 _, .f a, .f b, .f m, .fn k' [.f q] tys], [.f h] => (Nat.beq k' k && (Ty.eqAll tys ts && p a b m q h), .t [], [.f (s a b m q h)])
  | _, _ => (false, .u, [])
section
variable {P : Program} {Φ : Tab} {F : CallF} {g : Nat} {vf : VFunc} {k : Nat} {ts : List Ty}
theorem FnOk.addm0 (hΦ : ∀ h vf, Φ h = some vf → FnChk P Φ vf) (hF : FnOk P Φ F) (hvf : Φ g = some vf) {p : D → D → Bool} {s : D → D → D}
    (hg : ∀ nn q h, p q h = true → ∃ N, runC Φ F N vf.body (enterV vf [.ms 0 nn, .fn k [.f q] ts] [.f h]) (finish vf) = some (.t [], [.f (s q h)])) : FnOk P Φ (extendR F g (fm0 k ts p s)) := by
  refine FnOk.addR P Φ hΦ hF hvf _ fun args Hin r H' ha hr => ?_
  unfold fm0 at hr
  split at hr
  · obtain ⟨h1, h2⟩ := toO_some hr
    simp only [Bool.and_eq_true] at h1
    have e1 := Nat.eq_of_beq_eq_true h1.1
    have e2 := Ty.eqAll_eq _ _ h1.2.1
    subst e1; subst e2
    injection h2 with h2 h3; subst h2; subst h3; exact hg _ _ _ h1.2.2
  · cases hr
theorem FnOk.addm1 (hΦ : ∀ h vf, Φ h = some vf → FnChk P Φ vf) (hF : FnOk P Φ F) (hvf : Φ g = some vf) {p : D → D → D → Bool} {s : D → D → D → D}
    (hg : ∀ nn a q h, p a q h = true → ∃ N, runC Φ F N vf.body (enterV vf [.ms 0 nn, .f a, .fn k [.f q] ts] [.f h]) (finish vf) = some (.t [], [.f (s a q h)])) : FnOk P Φ (extendR F g (fm1 k ts p s)) := by
  refine FnOk.addR P Φ hΦ hF hvf _ fun args Hin r H' ha hr => ?_
  unfold fm1 at hr
  split at hr
  · obtain ⟨h1, h2⟩ := toO_some hr
    simp only [Bool.and_eq_true] at h1
    have e1 := Nat.eq_of_beq_eq_true h1.1
    have e2 := Ty.eqAll_eq _ _ h1.2.1
    subst e1; subst e2
    injection h2 with h2 h3; subst h2; subst h3; exact hg _ _ _ _ h1.2.2
  · cases hr
theorem FnOk.addm2 (hΦ : ∀ h vf, Φ h = some vf → FnChk P Φ vf) (hF : FnOk P Φ F) (hvf : Φ g = some vf) {p : D → D → D → D → Bool} {s : D → D → D → D → D}
    (hg : ∀ nn a b q h, p a b q h = true → ∃ N, runC Φ F N vf.body (enterV vf [.ms 0 nn, .f a, .f b, .fn k [.f q] ts] [.f h]) (finish vf) = some (.t [], [.f (s a b q h)])) : FnOk P Φ (extendR F g (fm2 k ts p s)) := by
  refine FnOk.addR P Φ hΦ hF hvf _ fun args Hin r H' ha hr => ?_
  unfold fm2 at hr
  split at hr
  · obtain ⟨h1, h2⟩ := toO_some hr
    simp only [Bool.and_eq_true] at h1
    have e1 := Nat.eq_of_beq_eq_true h1.1
    have e2 := Ty.eqAll_eq _ _ h1.2.1
    subst e1; subst e2
    injection h2 with h2 h3; subst h2; subst h3; exact hg _ _ _ _ _ h1.2.2
  · cases hr
theorem FnOk.addm3 (hΦ : ∀ h vf, Φ h = some vf → FnChk P Φ vf) (hF : FnOk P Φ F) (hvf : Φ g = some vf) {p : D → D → D → D → D → Bool} {s : D → D → D → D → D → D}
    (hg : ∀ nn a b m q h, p a b m q h = true → ∃ N, runC Φ F N vf.body (enterV vf [.ms 0 nn, .f a, .f b, .f m, .fn k [.f q] ts] [.f h]) (finish vf) = some (.t [], [.f (s a b m q h)])) : FnOk P Φ (extendR F g (fm3 k ts p s)) := by
  refine FnOk.addR P Φ hΦ hF hvf _ fun args Hin r H' ha hr => ?_
  unfold fm3 at hr
  split at hr
  · obtain ⟨h1, h2⟩ := toO_some hr
    simp only [Bool.and_eq_true] at h1
    have e1 := Nat.eq_of_beq_eq_true h1.1
    have e2 := Ty.eqAll_eq _ _ h1.2.1
    subst e1; subst e2
    injection h2 with h2 h3; subst h2; subst h3; exact hg _ _ _ _ _ _ h1.2.2
  · cases hr
theorem FnOk.recm3 (hΦ : ∀ h vf, Φ h = some vf → FnChk P Φ vf) (hF : FnOk P Φ F) (hvf : Φ g = some vf) {p : Nat → D → D → D → D → D → Bool} {s : D → D → D → D → D → D} (h0 : ∀ a b m q h, p 0 a b m q h = false)
    (hg : ∀ n nn a b m q h, p (n + 1) a b m q h = true → ∃ N, runC Φ (extendR F g (fm3 k ts (p n) s)) N vf.body (enterV vf [.ms 0 nn, .f a, .f b, .f m, .fn k [.f q] ts] [.f h]) (finish vf) = some (.t [], [.f (s a b m q h)])) : ∀ n, FnOk P Φ (extendR F g (fm3 k ts (p n) s))
  | 0 => FnOk.addm3 hΦ hF hvf fun nn a b m q h hp => by rw [h0] at hp; cases hp
  | n + 1 => by
    have ih := FnOk.recm3 hΦ hF hvf h0 hg n
    intro h vf' args Hin r H' hvf' hr g0 w av hcell hHin hav hlen hargs
    unfold extendR at hr
    rw [cond_eq_ite] at hr
    by_cases hh : h = g
    · subst hh
      rw [hvf] at hvf'
      injection hvf' with hvf'
      subst hvf'
      rw [if_pos (by simp)] at hr
      have key : ∃ N, runC Φ (extendR F h (fm3 k ts (p n) s)) N vf.body (enterV vf args Hin) (finish vf) = some (r, H') := by
        unfold fm3 at hr
        split at hr
        · obtain ⟨h1, h2⟩ := toO_some hr
          simp only [Bool.and_eq_true] at h1
          have e1 := Nat.eq_of_beq_eq_true h1.1
          have e2 := Ty.eqAll_eq _ _ h1.2.1
          subst e1; subst e2
          injection h2 with h2 h3; subst h2; subst h3; exact hg _ _ _ _ _ _ _ h1.2.2
        · cases hr
      obtain ⟨N, hN⟩ := key
      exact fn_step P Φ hΦ ih hvf N hN g0 w av hcell hHin hav hlen hargs
    · rw [if_neg (by simpa using hh)] at hr
      exact hF h vf' args Hin r H' hvf' hr g0 w av hcell hHin hav hlen hargs
theorem FnOk.limR {P : Program} {Φ : Tab} {F : CallF} {g : Nat} {Fn : Nat → List V → List V → CRes} {Fg : List V → List V → CRes} (h : ∀ n, FnOk P Φ (extendR F g (Fn n))) (hl : ∀ args H r, toO (Fg args H) = some r → ∃ n, toO (Fn n args H) = some r) : FnOk P Φ (extendR F g Fg) := by
  intro k vf args Hin r H' hvf hr
  by_cases hk : k = g
  · subst hk
    have e : extendR F k Fg k args Hin = Fg args Hin := by simp [extendR]
    rw [e] at hr
    obtain ⟨n, hn⟩ := hl args Hin (r, H') hr
    exact h n k vf args Hin r H' hvf (by simp [extendR]; exact hn)
  · have e : ∀ G, extendR F g G k args Hin = F k args Hin := by
      intro G; unfold extendR
      have hb : Nat.beq k g = false := Bool.eq_false_iff.2 fun h => hk (Nat.eq_of_beq_eq_true h)
      rw [hb]; rfl
    rw [e] at hr
    exact h 0 k vf args Hin r H' hvf (by rw [e]; exact hr)
end
end Go.Vam
