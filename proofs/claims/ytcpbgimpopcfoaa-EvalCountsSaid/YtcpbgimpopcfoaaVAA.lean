/- THE SHADOW MACHINE, 24: the table of the called functions, one function after the other. -/
import Derived.Test.YtcpbgimpopcfoaaVZ
set_option linter.unusedVariables false
namespace Go.Vam
def extend (F : CallF) (g : Nat) (Fg : List V → CRes) : CallF := fun h args H => bif Nat.beq h g then (match H with | [] => Fg args | _ => (false, .u, [])) else F h args H
def Args (P : Program) (Φ : Tab) (vf : VFunc) (args : List V) : Prop := args.length = vf.ptys.length ∧ ∃ (g0 : G) (Hin : List V) (w : World) (av : Array Value), av.size = args.length ∧ RVs (ctxOf P Φ vf w.heap.size) g0 Hin w .ret 0 vf.ptys args av.toList
def noF : CallF := fun _ _ _ => (false, .u, [])
theorem FnOk.empty (P : Program) (Φ : Tab) : FnOk P Φ noF := fun h vf args Hin r H' _ hr => by cases hr
theorem FnOk.add (P : Program) (Φ : Tab) (hΦ : ∀ h vf, Φ h = some vf → FnChk P Φ vf) {F : CallF} (hF : FnOk P Φ F) {g : Nat} {vf : VFunc} (hvf : Φ g = some vf) (Fg : List V → CRes)
    (hg : ∀ args r H', Args P Φ vf args → toO (Fg args) = some (r, H') → ∃ N, runC Φ F N vf.body (enterV vf args []) (finish vf) = some (r, H')) : FnOk P Φ (extend F g Fg) := by
  intro h vf' args Hin r H' hvf' hr g0 w av hcell hHin hav hlen hargs
  unfold extend at hr
  rw [cond_eq_ite] at hr
  by_cases hh : h = g
  · subst hh
    rw [hvf] at hvf'
    injection hvf' with hvf'
    subst hvf'
    rw [if_pos (by simp)] at hr
    cases Hin with
    | cons x l => cases hr
    | nil =>
    obtain ⟨N, hN⟩ := hg args r H' ⟨hlen, g0, _, w, av, hav, hargs⟩ hr
    exact fn_step P Φ hΦ hF hvf N hN g0 w av hcell hHin hav hlen hargs
  · rw [if_neg (by simpa using hh)] at hr
    exact hF h vf' args Hin r H' hvf' hr g0 w av hcell hHin hav hlen hargs
def extendR (F : CallF) (g : Nat) (Fg : List V → List V → CRes) : CallF := fun h args H => bif Nat.beq h g then Fg args H else F h args H
theorem FnOk.addR (P : Program) (Φ : Tab) (hΦ : ∀ h vf, Φ h = some vf → FnChk P Φ vf) {F : CallF} (hF : FnOk P Φ F) {g : Nat} {vf : VFunc} (hvf : Φ g = some vf) (Fg : List V → List V → CRes)
    (hg : ∀ args Hin r H', Args P Φ vf args → toO (Fg args Hin) = some (r, H') → ∃ N, runC Φ F N vf.body (enterV vf args Hin) (finish vf) = some (r, H')) : FnOk P Φ (extendR F g Fg) := by
  intro h vf' args Hin r H' hvf' hr g0 w av hcell hHin hav hlen hargs
  unfold extendR at hr
  rw [cond_eq_ite] at hr
  by_cases hh : h = g
  · subst hh
    rw [hvf] at hvf'
    injection hvf' with hvf'
    subst hvf'
    rw [if_pos (by simp)] at hr
    obtain ⟨N, hN⟩ := hg args Hin r H' ⟨hlen, g0, _, w, av, hav, hargs⟩ hr
    exact fn_step P Φ hΦ hF hvf N hN g0 w av hcell hHin hav hlen hargs
  · rw [if_neg (by simpa using hh)] at hr
    exact hF h vf' args Hin r H' hvf' hr g0 w av hcell hHin hav hlen hargs
def runF (Φ : Tab) : Nat → CallF
  | 0 => noF
  | n + 1 => fun h args H => match Φ h with
    | some vf => (match runC Φ (runF Φ n) n vf.body (enterV vf args H) (finish vf) with | some r => (true, r.1, r.2) | none => (false, .u, []))
    | none => (false, .u, [])
theorem FnOk.run (P : Program) (Φ : Tab) (hΦ : ∀ h vf, Φ h = some vf → FnChk P Φ vf) : ∀ n, FnOk P Φ (runF Φ n)
  | 0 => FnOk.empty P Φ
  | n + 1 => by
    intro h vf args Hin r H' hvf hr g0 w av hcell hHin hav hlen hargs
    simp only [runF, hvf] at hr
    split at hr
    · rename_i q hq
      obtain ⟨q1, q2⟩ := q
      simp only [toO, cond_true, Option.some.injEq, Prod.mk.injEq] at hr
      obtain ⟨rfl, rfl⟩ := hr
      exact fn_step P Φ hΦ (FnOk.run P Φ hΦ n) hvf n hq g0 w av hcell hHin hav hlen hargs
    · cases hr
theorem FnOk.from {P : Program} {Φ : Tab} {F F' : CallF} (hF : FnOk P Φ F) (hF' : FnOk P Φ F') {g : Nat} (Fg : List V → CRes) (hg : ∀ args r, toO (Fg args) = some r → toO (F' g args []) = some r) : FnOk P Φ (extend F g Fg) := by
  intro h vf args Hin r H' hvf hr g0 w av hcell hHin hav hlen hargs
  unfold extend at hr
  rw [cond_eq_ite] at hr
  by_cases hh : h = g
  · subst hh
    rw [if_pos (by simp)] at hr
    cases Hin with
    | cons x l => cases hr
    | nil => exact hF' h vf args [] r H' hvf (hg _ _ hr) g0 w av hcell hHin hav hlen hargs
  · rw [if_neg (by simpa using hh)] at hr
    exact hF h vf args Hin r H' hvf hr g0 w av hcell hHin hav hlen hargs
def fn0 (p : Bool) (s : V) : List V → CRes
  | [] => (p, s, [])
  | _ => (false, .u, [])
def fn1 (p : D → Bool) (s : D → V) : List V → CRes
  | [.f a] => (p a, s a, [])
  | _ => (false, .u, [])
def fn2 (p : D → D → Bool) (s : D → D → V) : List V → CRes
  | [.f a, .f b] => (p a b, s a b, [])
  | _ => (false, .u, [])
def fn3 (p : D → D → D → Bool) (s : D → D → D → V) : List V → CRes
  | [.f a, .f b, .f c] => (p a b c, s a b c, [])
  | _ => (false, .u, [])
theorem toO_some {b : Bool} {r : V × List V} {q : V × List V} (h : toO (b, r) = some q) : b = true ∧ r = q := by
  cases b <;> simp [toO] at h ⊢; exact h
section
variable {P : Program} {Φ : Tab} {F : CallF} {g : Nat} {vf : VFunc}
theorem FnOk.add0 (hΦ : ∀ h vf, Φ h = some vf → FnChk P Φ vf) (hF : FnOk P Φ F) (hvf : Φ g = some vf) {p : Bool} {s : V}
    (hg : p = true → ∃ N, runC Φ F N vf.body (enterV vf [] []) (finish vf) = some (s, [])) : FnOk P Φ (extend F g (fn0 p s)) := by
  refine FnOk.add P Φ hΦ hF hvf _ fun args r H' ha hr => ?_
  unfold fn0 at hr
  split at hr
  · obtain ⟨h1, h2⟩ := toO_some hr; injection h2 with h2 h3; subst h2; subst h3; exact hg h1
  · cases hr
theorem FnOk.add1 (hΦ : ∀ h vf, Φ h = some vf → FnChk P Φ vf) (hF : FnOk P Φ F) (hvf : Φ g = some vf) {p : D → Bool} {s : D → V}
    (hg : ∀ a, Args P Φ vf [.f a] → p a = true → ∃ N, runC Φ F N vf.body (enterV vf [.f a] []) (finish vf) = some (s a, [])) : FnOk P Φ (extend F g (fn1 p s)) := by
  refine FnOk.add P Φ hΦ hF hvf _ fun args r H' ha hr => ?_
  unfold fn1 at hr
  split at hr
  · obtain ⟨h1, h2⟩ := toO_some hr; injection h2 with h2 h3; subst h2; subst h3; exact hg _ ha h1
  · cases hr
theorem FnOk.add2 (hΦ : ∀ h vf, Φ h = some vf → FnChk P Φ vf) (hF : FnOk P Φ F) (hvf : Φ g = some vf) {p : D → D → Bool} {s : D → D → V}
    (hg : ∀ a b, Args P Φ vf [.f a, .f b] → p a b = true → ∃ N, runC Φ F N vf.body (enterV vf [.f a, .f b] []) (finish vf) = some (s a b, [])) : FnOk P Φ (extend F g (fn2 p s)) := by
  refine FnOk.add P Φ hΦ hF hvf _ fun args r H' ha hr => ?_
  unfold fn2 at hr
  split at hr
  · obtain ⟨h1, h2⟩ := toO_some hr; injection h2 with h2 h3; subst h2; subst h3; exact hg _ _ ha h1
  · cases hr
theorem FnOk.add3 (hΦ : ∀ h vf, Φ h = some vf → FnChk P Φ vf) (hF : FnOk P Φ F) (hvf : Φ g = some vf) {p : D → D → D → Bool} {s : D → D → D → V}
    (hg : ∀ a b c, Args P Φ vf [.f a, .f b, .f c] → p a b c = true → ∃ N, runC Φ F N vf.body (enterV vf [.f a, .f b, .f c] []) (finish vf) = some (s a b c, [])) : FnOk P Φ (extend F g (fn3 p s)) := by
  refine FnOk.add P Φ hΦ hF hvf _ fun args r H' ha hr => ?_
  unfold fn3 at hr
  split at hr
  · obtain ⟨h1, h2⟩ := toO_some hr; injection h2 with h2 h3; subst h2; subst h3; exact hg _ _ _ ha h1
  · cases hr
end
theorem FnOk.rec2 (P : Program) (Φ : Tab) (hΦ : ∀ h vf, Φ h = some vf → FnChk P Φ vf) {F : CallF} (hF : FnOk P Φ F) {g : Nat} {vf : VFunc} (hvf : Φ g = some vf) (Fg : Nat → List V → CRes) (h0 : ∀ args, toO (Fg 0 args) = none)
    (hg : ∀ n, FnOk P Φ (extend F g (Fg n)) → ∃ F', FnOk P Φ F' ∧ ∀ args r H', Args P Φ vf args → toO (Fg (n + 1) args) = some (r, H') → ∃ N, runC Φ F' N vf.body (enterV vf args []) (finish vf) = some (r, H')) : ∀ n, FnOk P Φ (extend F g (Fg n))
  | 0 => by
    intro h vf' args Hin r H' hvf' hr g0 w av hcell hHin hav hlen hargs
    unfold extend at hr
    rw [cond_eq_ite] at hr
    by_cases hh : h = g
    · rw [if_pos (by simpa using hh)] at hr
      cases Hin with
      | cons x l => cases hr
      | nil => simp only [h0] at hr; cases hr
    · rw [if_neg (by simpa using hh)] at hr
      exact hF h vf' args Hin r H' hvf' hr g0 w av hcell hHin hav hlen hargs
  | n + 1 => by
    have ih := FnOk.rec2 P Φ hΦ hF hvf Fg h0 hg n
    obtain ⟨F', hF', hg'⟩ := hg n ih
    intro h vf' args Hin r H' hvf' hr g0 w av hcell hHin hav hlen hargs
    unfold extend at hr
    rw [cond_eq_ite] at hr
    by_cases hh : h = g
    · subst hh
      rw [hvf] at hvf'
      injection hvf' with hvf'
      subst hvf'
      rw [if_pos (by simp)] at hr
      cases Hin with
      | cons x l => cases hr
      | nil =>
      obtain ⟨N, hN⟩ := hg' args r H' ⟨hlen, g0, _, w, av, hav, hargs⟩ hr
      exact fn_step P Φ hΦ hF' hvf N hN g0 w av hcell hHin hav hlen hargs
    · rw [if_neg (by simpa using hh)] at hr
      exact hF h vf' args Hin r H' hvf' hr g0 w av hcell hHin hav hlen hargs
theorem Args.at_ {P : Program} {Φ : Tab} {vf : VFunc} {args : List V} (h : Args P Φ vf args) (k : Nat) {d : D} {t : Nat} (ha : args[k]? = some (.f d)) (ht : vf.ptys[k]? = some (.v t)) : ∃ (S : Cells) (v : Value), RT P S (.v t) d v := by
  obtain ⟨hlen, g0, Hin, w, av, hav, hr⟩ := h
  obtain ⟨hk, ha⟩ := List.getElem?_eq_some_iff.1 ha
  obtain ⟨hk', ht⟩ := List.getElem?_eq_some_iff.1 ht
  obtain ⟨h3, h4⟩ := RVs_at k hk' hk hr (by simpa using hav)
  rw [ha, ht] at h4
  simp only [RV] at h4
  exact ⟨_, _, h4⟩
end Go.Vam
