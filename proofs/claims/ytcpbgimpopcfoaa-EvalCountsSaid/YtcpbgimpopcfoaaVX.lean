/- THE SHADOW MACHINE, 21: code; functions. -/
import Derived.Test.YtcpbgimpopcfoaaVV
set_option linter.unusedSimpArgs false
set_option linter.unusedVariables false
namespace Go.Vam
section
variable {C : Ctx} {Γ : List Ty} {g0 g : G} {w0 w : World} {st : St} {a : Act}
mutual
theorem RV.otherH {H H' : List V} : ∀ (x : V) {X : Own} {τ : Ty} {v : Value}, (∀ s, x.refs s = true → getB H' s = getB H s) → RV C g H w X τ x v → RV C g H' w X τ x v
  | .f d, X, τ, v, _, h => by simp only [RV] at *; exact h
  | .o nn xs, X, τ, v, _, h => by simp only [RV] at *; exact h
  | .w nn xs, X, τ, v, _, h => by simp only [RV] at *; exact h
  | .c xs, X, τ, v, _, h => by simp only [RV] at *; exact h
  | .a, X, τ, v, _, h => by simp only [RV] at *; exact h
  | .m s p, X, τ, v, hs, h => by simp only [RV] at *; rw [hs s (by simp [V.refs])]; exact h
  | .ms s nn, X, τ, v, hs, h => by simp only [RV] at *; rw [hs s (by simp [V.refs])]; exact h
  | .t vs, X, τ, v, hs, h => by
    simp only [RV] at *
    obtain ⟨ts, arr, h1, h2, h3, h4, h5⟩ := h
    exact ⟨ts, arr, h1, h2, h3, h4, RVs.otherH vs (fun s h => hs s (by simp only [V.refs]; exact h)) h5⟩
  | .fn k caps tys, X, τ, v, hs, h => by
    simp only [RV] at *
    obtain ⟨vf, arr, h1, h2, h3, h4, h5⟩ := h
    exact ⟨vf, arr, h1, h2, h3, h4, RVs.otherH caps (fun s h => hs s (by simp only [V.refs]; exact h)) h5⟩
  | .n, X, τ, v, _, h => by simp only [RV] at *; exact h
  | .u, X, τ, v, _, h => by simp only [RV]
theorem RVs.otherH {H H' : List V} : ∀ (xs : List V) {X : Own} {n : Nat} {ts : List Ty} {vs : List Value}, (∀ s, V.refsAll s xs = true → getB H' s = getB H s) → RVs C g H w X n ts xs vs → RVs C g H' w X n ts xs vs
  | [], X, n, ts, vs, _, h => by cases ts <;> cases vs <;> simp_all [RVs]
  | x :: xs, X, n, [], vs, _, h => by simp [RVs] at h
  | x :: xs, X, n, τ :: ts, [], _, h => by simp [RVs] at h
  | x :: xs, X, n, τ :: ts, v :: vs, hs, h => by
    simp only [RVs] at *
    exact ⟨RV.otherH x (fun s h => hs s (by simp [V.refsAll, h])) h.1, RVs.otherH xs (fun s h => hs s (by simp [V.refsAll, h])) h.2⟩
end
theorem keepIf_get (l : List Nat) : ∀ (xs : List V) (k n : Nat), (keepIf l k xs).getD n .u = if l.contains (k + n) then xs.getD n .u else .u
  | [], k, n => by simp [keepIf]
  | x :: xs, k, 0 => by
    simp only [keepIf, Nat.add_zero]
    cases l.contains k <;> simp
  | x :: xs, k, n + 1 => by
    have := keepIf_get l xs (k + 1) n
    simp only [keepIf, List.getD_cons_succ, this, show k + 1 + n = k + (n + 1) by omega]
theorem keepIf_len (l : List Nat) : ∀ (xs : List V) (k : Nat), (keepIf l k xs).length = xs.length
  | [], k => rfl
  | x :: xs, k => by simp [keepIf, keepIf_len l xs]
theorem Inv.keep (hI : Inv C Γ g0 w0 g st a w) (slots sites : List Nat) : Inv C Γ g0 w0 g { sl := (keepIf slots 0 st.sl).map (killNot sites st.H.length), H := keepIf sites 0 st.H } a w := by
  have hgetB : ∀ s, getB (keepIf sites 0 st.H) s = if sites.contains s then getB st.H s else .u := by
    intro s
    unfold getB
    rw [keepIf_get]; simp
  refine ⟨by simp [keepIf_len]; exact hI.len, by simp [keepIf_len]; exact hI.glen, fun n hn hn' => ?_, fun s hs => ?_, hI.cells, hI.defers, hI.frm, hI.kap, hI.sold, hI.ext, hI.base, hI.ent, hI.rho⟩
  · have hn0 : n < st.sl.length := by simpa [keepIf_len] using hn
    have e1 : (keepIf slots 0 st.sl)[n]'(by rw [keepIf_len]; exact hn0) = if slots.contains n then st.sl[n] else .u := by
      have := keepIf_get slots st.sl 0 n
      rw [List.getD_eq_getElem?_getD, List.getD_eq_getElem?_getD, List.getElem?_eq_getElem (by rw [keepIf_len]; exact hn0), List.getElem?_eq_getElem hn0, Nat.zero_add] at this
      simpa using this
    simp only [List.getElem_map]
    rw [e1]
    split
    · unfold killNot
      cases hk : (List.range st.H.length).any (fun s => !sites.contains s && st.sl[n].refs s) with
      | true => simp only [cond_true, RV]
      | false =>
        simp only [cond_false]
        refine RV.otherH _ (fun s hs => ?_) (hI.slots n hn0 hn')
        rw [hgetB]
        split
        · rfl
        · rename_i hns
          by_cases hsl : s < st.H.length
          · have : (List.range st.H.length).any (fun s => !sites.contains s && st.sl[n].refs s) = true := List.any_eq_true.2 ⟨s, by simpa using hsl, by simp at hns ⊢; exact ⟨hns, hs⟩⟩
            rw [hk] at this; cases this
          · unfold getB
            rw [List.getD_eq_getElem?_getD, List.getElem?_eq_none (by omega)]; rfl
    · have : killNot sites st.H.length .u = .u := by unfold killNot; cases (List.range st.H.length).any _ <;> rfl
      rw [this]; simp only [RV]
  · rw [hgetB] at hs ⊢
    split
    · rename_i h
      rw [if_pos h] at hs
      exact hI.blocks s hs
    · rename_i h
      rw [if_neg h] at hs
      exact absurd rfl hs
theorem getV_f (p : List Nat) (d : D) : V.getV p (.f d) = .f (D.getP p d) := by cases p <;> rfl
theorem Inv.frz (hI : Inv C Γ g0 w0 g st a w) {s : Nat} {d : D} (hsn : C.nin ≤ s) (hB : getB st.H s = .f d) : ∃ g', Inv C Γ g0 w0 g' { sl := st.sl.map (V.frz s (.f d)), H := st.H.set s .u } a w := by
  have hne : getB st.H s ≠ .u := by rw [hB]; simp
  have hgB := fun s' v => getB_set (s' := s') (v := v) hne
  have hRB := hI.blocks s hne
  rw [hB] at hRB
  -- the block, if there is one
  have key : ∃ g' : G, (∀ s, g'.loc s = g.loc s) ∧ Sub g.S g'.S ∧ (∀ r, r < C.base → g'.kap r = g.kap r ∧ ∀ o, g'.S r o = g.S r o) ∧ (∀ b o v, g'.S b o = some v → w.cell? ⟨b, o, none⟩ = some v) ∧ Keeps C g (st.H.set s .u) w g' (st.H.set s .u) w (fun X => X = .site s) ∧
      (∀ r c t', g.rho s = some r → g.kap r = some (.site s) → w.heap[r]? = some (.cells c t' (0, 0)) → ∀ j, g'.S r j = c[j]?) := by
    by_cases hr : ∃ r c t', g.rho s = some r ∧ g.kap r = some (.site s) ∧ w.heap[r]? = some (.cells c t' (0, 0)) ∧ ∀ j, g.S r j = none
    · obtain ⟨r, c, t', h1, h2, h3, h4⟩ := hr
      have hbr : C.base ≤ r := by
        rcases Nat.lt_or_ge r C.base with h | h
        · rw [hI.kap r h] at h2; obtain ⟨k, hk, hkn⟩ := hI.ent r _ h h2; injection hk with hk; omega
        · exact h
      have hsub : Sub g.S (fun b o => if b = r then c[o]? else g.S b o) := by
        intro b o v h
        have : b ≠ r := fun e => by subst e; rw [h4] at h; cases h
        simp [this, h]
      refine ⟨⟨fun b o => if b = r then c[o]? else g.S b o, g.rho, fun b => if b = r then none else g.kap b, g.cp⟩, fun _ => rfl, hsub, fun b hb => ⟨by simp [show b ≠ r by omega], fun o => by simp [show b ≠ r by omega]⟩, fun b o v h => ?_, ⟨hsub, fun b X k1 k2 k3 => ?_, fun s' h => ⟨h, fun _ _ => rfl, rfl⟩⟩, fun r2 c2 t2 k1 k2 k3 j => ?_⟩
      · by_cases hb : b = r
        · subst hb; simp only [if_true] at h; rw [cell_of h3]; exact h
        · simp only [hb, if_false] at h; exact hI.cells _ _ _ h
      · have : b ≠ r := fun e => by subst e; rw [h2] at k1; injection k1 with k1; subst k1; exact k2 rfl
        exact ⟨by simp [this, k1], rfl, fun o => by simp [this]⟩
      · rw [h1] at k1; injection k1 with k1; subst k1
        rw [h3] at k3; injection k3 with k3; injection k3 with k3 _ _; subst k3
        simp
    · refine ⟨g, fun _ => rfl, Sub.refl _, fun _ _ => ⟨rfl, fun _ => rfl⟩, hI.cells, Keeps.refl _ _ _ _ _, fun r c t' k1 k2 k3 => ?_⟩
      exfalso
      apply hr
      unfold RB at hRB
      split at hRB
      · obtain ⟨r2, c2, t2, l1, l2, l3, l4, l5, l6⟩ := hRB
        exact ⟨r2, c2, t2, l1, l2, l3, l5⟩
      · obtain ⟨d2, hd2, hh⟩ := hRB
        rcases hh with ⟨hh, _⟩ | ⟨r2, c2, t2, l1, l2, l3, l4, l5, l6⟩
        · rw [hh] at k1; cases k1
        · exact ⟨r2, c2, t2, l1, l2, l3, l5⟩
      · exact hRB.elim
  obtain ⟨g', kr, ksub, kbase, kcell, kk, kS⟩ := key
  refine ⟨g', by simpa using hI.len, by simpa using hI.glen, fun n hn hn' => ?_, fun s' h => ?_, kcell, hI.defers, hI.frm, fun r hr => (kbase r hr).1.trans (hI.kap r hr), fun r o hr => ((kbase r hr).2 o).trans (hI.sold r o hr), hI.ext.trans ksub, hI.base, hI.ent, fun s hs => (kr s).trans (hI.rho s hs)⟩
  · have hn0 : n < st.sl.length := by simpa using hn
    have hx := hI.slots n hn0 hn'
    simp only [List.getElem_map]
    have hother : ∀ x, x.refs s = false → RV C g st.H w (.slot n) Γ[n] x (a.tmps.getD n undef) → RV C g' (st.H.set s .u) w (.slot n) Γ[n] x (a.tmps.getD n undef) := by
      intro x hxs hx
      refine RV.keeps kk x (by simp [Own.root]) (RV.otherH x (fun s' hs' => ?_) hx)
      rw [hgB]
      have : s' ≠ s := fun e => by subst e; rw [hxs] at hs'; cases hs'
      rw [if_neg this]
    have hgen : ∀ x, (∀ s' p, x ≠ .m s' p) → (∀ s' nn, x ≠ .ms s' nn) → V.frz s (.f d) x = (bif x.refs s then .u else x) := by
      intro x h1 h2
      cases x <;> first | rfl | exact absurd rfl (h1 _ _) | exact absurd rfl (h2 _ _)
    cases hst : st.sl[n] with
    | m s' p =>
      rw [hst] at hx
      by_cases hss : s' = s
      · subst hss
        have e1 : V.frz s' (.f d) (.m s' p) = .f (.p (D.getP p d)) := by
          simp only [V.frz, beq_self_eq_true, cond_true, getV_f, V.whole, V.toD]
        rw [e1]
        simp only [RV] at hx
        obtain ⟨e, off, b, r, q1, q2, q3, q4, q5, q6⟩ := hx
        rw [hB] at q4
        obtain ⟨r', c, t', k1, k2, k3, k4, k5, k6⟩ := hRB.path q2 q4
        rw [q3] at k1; injection k1 with k1; subst k1
        simp only [RV]
        have hP : RP C.P g'.S e (.p (D.getP p d)) (a.tmps.getD n undef) := by
          rw [q5]
          refine .inr ⟨_, _, r, off, rfl, rfl, k6.mono ksub, by simp; omega, fun j u hj => ?_⟩
          rw [kS r c t' q3 k2 k3]
          have := (getElem?_part hj).1
          simpa using this
        unfold asP at q1
        split at q1
        · rename_i e' he; injection q1 with q1; subst q1; rw [he]; exact hP
        · rename_i t' he
          split at q1
          · rename_i e' hu; injection q1 with q1; subst q1
            rw [he]
            refine ⟨?_, by unfold AggOk; rw [hu, q5]; simp⟩
            rw [q5] at hP ⊢
            exact hP.rf hu
          · cases q1
        · cases q1
      · have e1 : V.frz s (.f d) (.m s' p) = .m s' p := by
          simp only [V.frz, show (s' == s) = false by simpa using hss, cond_false]
        rw [e1]
        exact hother _ (by simp [V.refs, hss]) hx
    | ms s' nn =>
      rw [hst] at hx
      by_cases hss : s' = s
      · subst hss
        have e1 : V.frz s' (.f d) (.ms s' nn) = .f (frzD nn d.toL) := by
          simp only [V.frz, beq_self_eq_true, cond_true, V.whole, V.toD]
        rw [e1]
        simp only [RV] at hx ⊢
        obtain ⟨t, e, q1, q2, q3, q4, q5⟩ := hx
        rw [hB] at q5
        simp only [blen] at q5
        rw [q1]
        have hemp : ∀ (ao : Option Addr) (cap : Nat), RT C.P g'.S (.v t) (.sq []) (.slice ao 0 (match ao with | none => 0 | some _ => cap)) := fun ao cap => by
          cases ao with
          | none => exact ⟨.nils q2 (.inr rfl), by unfold AggOk; rw [q2]; simp⟩
          | some ad => exact SlAt.rf q2 (xs := []) SlAt.nil' (.inr (.inr rfl)) ⟨by simp, by simp⟩
        rcases q5 with ⟨h2, ao, h3, h1⟩ | ⟨r, h1, h2, h3, h4⟩
        · have : d.toL = [] := List.length_eq_zero_iff.1 h2
          rw [this, h3]
          cases nn with
          | true =>
            have := hemp ao 0
            cases ao <;> exact this
          | false =>
            have := h1 rfl
            subst this
            exact ⟨.nils q2 (.inl rfl), by unfold AggOk; rw [q2]; simp⟩
        · unfold RB at hRB
          rw [q3] at hRB
          simp only at hRB
          obtain ⟨d2, hd2, hh⟩ := hRB
          injection hd2 with hd2; subst hd2
          rcases hh with ⟨hh, _⟩ | ⟨r2, c2, t2, l1, l2, l3, l4, l5, l6⟩
          · rw [hh] at h2; cases h2
          · rw [h2] at l1; injection l1 with l1; subst l1
            rw [h3]
            have l4' : d.toL.length * C.P.cellsOf e ≤ c2.size := by rw [l4.1]; exact Nat.mul_le_mul_right _ l4.2.1
            have hE : Els C.P g'.S e d.toL c2.toList := ⟨by simpa using l4', fun i hi => (l6 i hi).mono ksub⟩
            have hfin : (nn = true ∨ d.toL ≠ []) → RT C.P g'.S (.v t) (mkD nn d.toL) (.slice (some ⟨r, 0, none⟩) d.toL.length (g.cp s')) := fun h => hE.sl q2 (fun j v hj hv => by rw [kS r c2 t2 h2 l2 l3]; simpa using hv) nn h h4
            unfold frzD
            cases hc : nn && d.toL.isEmpty with
            | true =>
              simp only [Bool.and_eq_true, List.isEmpty_iff] at hc
              rw [hc.2]
              exact hemp (some ⟨r, 0, none⟩) (g.cp s')
            | false =>
              simp only [cond_false]
              refine hfin ?_
              rcases h1 with h1 | h1
              · exact .inl h1
              · exact .inr fun e => h1 (by simp [e])
      · have e1 : V.frz s (.f d) (.ms s' nn) = .ms s' nn := by
          simp only [V.frz, show (s' == s) = false by simpa using hss, cond_false]
        rw [e1]
        exact hother _ (by simp [V.refs, hss]) hx
    | _ =>
      rw [hst] at hx
      rw [hgen _ (by simp) (by simp)]
      cases hrf : V.refs s _ with
      | true => simp only [cond_true, RV]
      | false => simp only [cond_false]; exact hother _ hrf hx
  · rw [hgB] at h ⊢
    by_cases hss : s' = s
    · subst hss; rw [if_pos rfl] at h; exact absurd rfl h
    · rw [if_neg hss] at h ⊢
      exact (hI.blocks s' h).keeps kk (fun e => hss (by injection e)) (kr _)
theorem weakIf_get (l : List Nat) : ∀ (xs : List V) (k n : Nat), (weakIf l k xs)[n]? = (xs[n]?).map fun v => bif l.contains (k + n) then v.rd else v
  | [], k, n => by simp [weakIf]
  | x :: xs, k, 0 => by simp [weakIf]
  | x :: xs, k, n + 1 => by
    have := weakIf_get l xs (k + 1) n
    simp only [weakIf, List.getElem?_cons_succ, this, show k + 1 + n = k + (n + 1) by omega]
theorem weakIf_len (l : List Nat) : ∀ (xs : List V) (k : Nat), (weakIf l k xs).length = xs.length
  | [], k => rfl
  | x :: xs, k => by simp [weakIf, weakIf_len l xs]
theorem Inv.weak (hI : Inv C Γ g0 w0 g st a w) (slots : List Nat) : Inv C Γ g0 w0 g { sl := weakIf slots 0 st.sl, H := st.H } a w := by
  refine ⟨by simp [weakIf_len]; exact hI.len, by simp [weakIf_len]; exact hI.glen, fun n hn hn' => ?_, hI.blocks, hI.cells, hI.defers, hI.frm, hI.kap, hI.sold, hI.ext, hI.base, hI.ent, hI.rho⟩
  have hn0 : n < st.sl.length := by simpa [weakIf_len] using hn
  have hx := hI.slots n hn0 hn'
  have e : (weakIf slots 0 st.sl)[n]'hn = bif slots.contains (0 + n) then st.sl[n].rd else st.sl[n] := by
    have := weakIf_get slots st.sl 0 n
    rw [List.getElem?_eq_getElem hn, List.getElem?_eq_getElem hn0] at this
    simpa using this
  simp only
  rw [e]
  cases slots.contains (0 + n)
  · exact hx
  · exact RV.rd _ hx
theorem getB_set0 {H : List V} {s s' : Nat} {v : V} (h : s < H.length) : getB (H.set s v) s' = if s' = s then v else getB H s' := by
  unfold getB
  simp only [List.getD_eq_getElem?_getD]
  by_cases hs : s' = s
  · subst hs; simp [h]
  · rw [List.getElem?_set_ne (Ne.symm hs)]; simp [hs]
def thawG (g : G) (s : Nat) (ro : Option Nat) (cp : Nat) : G := { g with rho := fun s' => if s' = s then ro else g.rho s', cp := fun s' => if s' = s then cp else g.cp s', kap := fun r => if ro = some r then some (.site s) else g.kap r }
theorem Inv.thaw_at (hI : Inv C Γ g0 w0 g st a w) {x s t e cp : Nat} {ro : Option Nat} {nn : Bool} {xs : List D} (hsn : C.nin ≤ s) (hsl : s < st.H.length) (hs : getB st.H s = .u) (hxl : x < st.sl.length) (hbt : C.bt s = some (.arr e)) (hΓ : Γ[x]? = some (.v t)) (hu : C.P.underlying t = some (.slice e))
    (hro : ∀ r, ro = some r → C.base ≤ r ∧ g.kap r = some (.slot x)) (hRB : RB C (thawG g s ro cp) w s (.f (.sl xs)))
    (hRV : ∀ H', getB H' s = .f (.sl xs) → RV C (thawG g s ro cp) H' w (.slot x) (.v t) (.ms s nn) (a.tmps.getD x undef)) :
    Inv C Γ g0 w0 (thawG g s ro cp) { sl := st.sl.set x (.ms s nn), H := st.H.set s (.f (.sl xs)) } a w := by
  have hgB := fun s' => getB_set0 (s' := s') (v := .f (.sl xs)) hsl
  have hloc : ∀ s', s' ≠ s → (thawG g s ro cp).loc s' = g.loc s' := fun s' h => loc_eq (by simp [thawG, h]) (by simp [thawG, h])
  have hk : Keeps C g st.H w (thawG g s ro cp) (st.H.set s (.f (.sl xs))) w (fun X => X = .slot x) := by
    refine ⟨Sub.refl _, fun r X h1 h2 h3 => ⟨?_, rfl, fun _ => rfl⟩, fun s' h => ?_⟩
    · have : ro ≠ some r := fun e => by
        have := (hro r e).2
        rw [h1] at this; injection this with this; subst this; exact h2 rfl
      simp [thawG, this, h1]
    · have : s' ≠ s := fun e => by subst e; exact h hs
      rw [hgB, if_neg this]
      exact ⟨h, fun _ _ => rfl, hloc s' this⟩
  refine ⟨by simpa using hI.len, by simpa using hI.glen, fun n hn hn' => ?_, fun s' h => ?_, hI.cells, hI.defers, hI.frm, fun r hr => ?_, hI.sold, hI.ext, hI.base, hI.ent, fun s' hs' => (hloc s' (by omega)).trans (hI.rho s' hs')⟩
  · have hn0 : n < st.sl.length := by simpa using hn
    by_cases hnx : n = x
    · subst hnx
      rw [List.getElem?_eq_getElem hn'] at hΓ
      injection hΓ with hΓ
      simp only [List.getElem_set_self]
      rw [hΓ]
      exact hRV _ (by rw [hgB, if_pos rfl])
    · simp only [List.getElem_set_ne (Ne.symm hnx)]
      exact RV.keeps hk _ (fun h => hnx (by simpa [Own.root] using h)) (hI.slots n hn0 hn')
  · rw [hgB] at h ⊢
    by_cases hss : s' = s
    · subst hss; rw [if_pos rfl]; exact hRB
    · rw [if_neg hss] at h ⊢
      exact (hI.blocks s' h).keeps hk (fun h => by cases h) (hloc s' hss)
  · rw [← hI.kap r hr]
    have : ro ≠ some r := fun e => by have := (hro r e).1; omega
    simp [thawG, this]
theorem Inv.thaw (hI : Inv C Γ g0 w0 g st a w) {x s t e : Nat} {st' : St} (hsn : C.nin ≤ s) (hbt : C.bt s = some (.arr e)) (hΓ : Γ[x]? = some (.v t)) (hu : C.P.underlying t = some (.slice e)) (h : runPre (.thaw x s) st = some st') : ∃ g', Inv C Γ g0 w0 g' st' a w := by
  have hx := hI.slot hΓ
  have hxl : x < st.sl.length := by
    have := (List.getElem?_eq_some_iff.1 hΓ).1
    rw [← hI.glen]; exact this
  simp only [runPre] at h
  split at h
  · rename_i hs
    rw [cond_eq_ite] at h
    split at h
    · rename_i hsl
      replace hsl : s < st.H.length := of_decide_eq_true hsl
      split at h
      · rename_i nn xs hst
        simp only [Option.some.injEq] at h
        subst h
        rw [hst] at hx
        simp only [RV] at hx
        obtain ⟨t', e', ht, hu', hO⟩ := hx
        cases ht
        rw [hu] at hu'; injection hu' with hu'; injection hu' with hu'; subst hu'
        rcases hO with ⟨h1, h2, h3⟩ | ⟨r, cap, c, e', h1, h2, h3, h4, h5, h6, h7, h8, h9, h10⟩
        · subst h1; subst h2
          refine ⟨thawG g s none 0, hI.thaw_at hsn hsl hs hxl hbt hΓ hu (fun r h => by cases h) ?_ fun H' hH' => ?_⟩
          · unfold RB; rw [hbt]
            exact ⟨_, rfl, .inl ⟨by simp [thawG], rfl⟩⟩
          · simp only [RV]
            exact ⟨t, e, rfl, hu, hbt, by rw [hH']; simp, .inl ⟨by rw [hH']; rfl, none, h3, fun _ => rfl⟩⟩
        · have h10' : ∀ j, g.S r j = none := by simpa using h10
          refine ⟨thawG g s (some r) cap, hI.thaw_at hsn hsl hs hxl hbt hΓ hu (fun r' h => by injection h with h; subst h; exact ⟨h3, h4⟩) ?_ fun H' hH' => ?_⟩
          · unfold RB; rw [hbt]
            refine ⟨_, rfl, .inr ⟨r, c, e', by simp [thawG], by simp [thawG], h5, ⟨by simp [thawG]; exact h6, by simp [thawG, D.toL]; exact h7, by simp [thawG]; exact h8⟩, h10', h9⟩⟩
          · simp only [RV]
            refine ⟨t, e, rfl, hu, hbt, by rw [hH']; simp, .inr ⟨r, ?_, by simp [thawG], ?_, ?_⟩⟩
            · rcases h2 with h2 | h2
              · exact .inl h2
              · exact .inr (by rw [hH']; simp [blen, D.toL]; exact h2)
            · rw [hH', h1]; simp [blen, D.toL, thawG]
            · rw [hH']; simp only [blen, D.toL, thawG, if_true]; exact ⟨h7, by omega⟩
      · rename_i hst
        simp only [Option.some.injEq] at h
        subst h
        rw [hst] at hx
        simp only [RV] at hx
        obtain ⟨t', ad, ht, hv, hr⟩ := hx
        cases ht
        refine ⟨thawG g s none 0, hI.thaw_at hsn hsl hs hxl hbt hΓ hu (fun r h => by cases h) ?_ fun H' hH' => ?_⟩
        · unfold RB; rw [hbt]
          exact ⟨_, rfl, .inl ⟨by simp [thawG], rfl⟩⟩
        · simp only [RV]
          exact ⟨t, e, rfl, hu, hbt, by rw [hH']; simp, .inl ⟨by rw [hH']; rfl, ad, hv, fun h => by cases h⟩⟩
      · cases h
    · cases h
  · cases h
theorem Inv.unthaw (hI : Inv C Γ g0 w0 g st a w) {x s t e : Nat} {st' : St} (hsn : C.nin ≤ s) (hbt : C.bt s = some (.arr e)) (hΓ : Γ[x]? = some (.v t)) (hu : C.P.underlying t = some (.slice e)) (h : runPre (.unthaw x s) st = some st') : ∃ g', Inv C Γ g0 w0 g' st' a w := by
  have hx := hI.slot hΓ
  have hxl : x < st.sl.length := by
    have := (List.getElem?_eq_some_iff.1 hΓ).1
    rw [← hI.glen]; exact this
  simp only [runPre] at h
  split at h
  · rename_i s' nn d hst hB
    rw [cond_eq_ite] at h
    split at h
    · rename_i hq
      simp only [Bool.and_eq_true, Bool.not_eq_true'] at hq
      have hss : s' = s := by simpa using hq.1
      subst hss
      have hne0 : d.toL ≠ [] := fun e => by rw [e] at hq; cases hq.2
      have hlen0 : d.toL.length ≠ 0 := fun e => hne0 (List.length_eq_zero_iff.1 e)
      simp only [Option.some.injEq] at h
      subst h
      have hne : getB st.H s' ≠ .u := by rw [hB]; simp
      have hgB := fun s2 v => getB_set (s' := s2) (v := v) hne
      have hRB := hI.blocks s' hne
      rw [hB] at hRB
      rw [hst] at hx
      simp only [RV] at hx
      obtain ⟨t', e', ht, hu', hbt', _, hh⟩ := hx
      cases ht
      rw [hB] at hh
      simp only [blen] at hh
      rcases hh with ⟨h0, _⟩ | ⟨r, h1, h2, h3, h4⟩
      · exact absurd h0 hlen0
      unfold RB at hRB
      rw [hbt] at hRB
      obtain ⟨d2, hd2, hq2⟩ := hRB
      injection hd2 with hd2; subst hd2
      rcases hq2 with ⟨h0, _⟩ | ⟨r2, c, t2, l1, l2, l3, l4, l5, l6⟩
      · rw [h2] at h0; cases h0
      rw [h2] at l1; injection l1 with l1; subst l1
      have hbr : C.base ≤ r := by
        rcases Nat.lt_or_ge r C.base with h | h
        · rw [hI.kap r h] at l2; obtain ⟨k, hk, hkn⟩ := hI.ent r _ h l2; injection hk with hk; omega
        · exact h
      refine ⟨{ g with kap := fun b => if b = r then some (.slot x) else g.kap b }, ?_⟩
      have hk : Keeps C g (st.H.set s' .u) w { g with kap := fun b => if b = r then some (.slot x) else g.kap b } (st.H.set s' .u) w (fun X => X = .site s') := by
        refine ⟨Sub.refl _, fun b X k1 k2 k3 => ⟨?_, rfl, fun _ => rfl⟩, fun s2 h => ⟨h, fun _ _ => rfl, rfl⟩⟩
        have : b ≠ r := fun e => by subst e; rw [l2] at k1; injection k1 with k1; subst k1; exact k2 rfl
        simp [this, k1]
      refine ⟨by simpa using hI.len, by simpa using hI.glen, fun n hn hn' => ?_, fun s2 h => ?_, hI.cells, hI.defers, hI.frm, fun b hb => ?_, hI.sold, hI.ext, hI.base, hI.ent, hI.rho⟩
      · have hn0 : n < st.sl.length := by simpa using hn
        by_cases hnx : n = x
        · subst hnx
          rw [List.getElem?_eq_getElem hn'] at hΓ
          injection hΓ with hΓ
          simp only [List.getElem_set_self]
          rw [hΓ]
          simp only [RV]
          exact ⟨t, e, rfl, hu, .inr ⟨r, g.cp s', c, t2, h3, .inr hne0, hbr, by simp, l3, l4.1, l4.2.1, l4.2.2, l6, by simpa using l5⟩⟩
        · simp only [List.getElem_set_ne (Ne.symm hnx), List.getElem_map]
          unfold V.kill
          cases hrf : V.refs s' st.sl[n] with
          | true => simp only [cond_true, RV]
          | false =>
            simp only [cond_false]
            refine RV.keeps hk _ (by simp [Own.root]) (RV.otherH _ (fun s2 hs2 => ?_) (hI.slots n hn0 hn'))
            rw [hgB]
            have : s2 ≠ s' := fun e => by subst e; rw [hrf] at hs2; cases hs2
            rw [if_neg this]
      · rw [hgB] at h ⊢
        by_cases hs2 : s2 = s'
        · subst hs2; rw [if_pos rfl] at h; exact absurd rfl h
        · rw [if_neg hs2] at h ⊢
          exact (hI.blocks s2 h).keeps hk (fun e => hs2 (by injection e)) rfl
      · rw [← hI.kap b hb]
        simp [show b ≠ r by omega]
    · cases h
  · cases h
def arrChk (C : Ctx) (Γ : List Ty) (x s : Nat) : Bool := decide (C.nin ≤ s) && (match Γ[x]?, C.bt s with | some (.v t), some (.arr e) => (match C.P.underlying t with | some (.slice e') => e' == e | _ => false) | _, _ => false)
theorem arrChk_spec {C : Ctx} {Γ : List Ty} {x s : Nat} (h : arrChk C Γ x s = true) : ∃ t e, C.nin ≤ s ∧ C.bt s = some (.arr e) ∧ Γ[x]? = some (.v t) ∧ C.P.underlying t = some (.slice e) := by
  unfold arrChk at h
  simp only [Bool.and_eq_true, decide_eq_true_eq] at h
  obtain ⟨h1, h2⟩ := h
  split at h2
  · rename_i t e hΓ hb
    split at h2
    · rename_i e' hu
      have : e' = e := by simpa using h2
      subst this
      exact ⟨t, e', h1, hb, hΓ, hu⟩
    · cases h2
  · cases h2
def preChk (C : Ctx) (Γ : List Ty) : Pre → Bool
  | .keep _ _ => true
  | .weak _ => true
  | .frz s => decide (C.nin ≤ s)
  | .opn s k => opnChk C s k || opvChk C s
  | .cls _ => true
  | .thaw x s => arrChk C Γ x s
  | .unthaw x s => arrChk C Γ x s
def condChk (C : Ctx) (Γ : List Ty) (x : Operand) (c : Opd) : Bool :=
  match x, c with
  | .tmp n, .t m => n == m && (match Γ[n]? with | some (.v t) => isB C.P t | _ => false)
  | .const (.bool b), .c (.b b') => b == b'
  | _, _ => false
def chkC (C : Ctx) (Γ : List Ty) : VC → Code → Bool
  | .bad, _ => true
  | .skip, .skip => true
  | .ops l d, .region _ ops d' => d == d' && regChk C Γ ops l d'
  | .seq a b, .seq x y => chkC C Γ a x && chkC C Γ b y
  | .cond c a b, .cond x p q => condChk C Γ x c && chkC C Γ a p && chkC C Γ b q
  | .block id b, .block id' c => id == id' && chkC C Γ b c
  | .loop b, .loop c => chkC C Γ b c
  | .exit id, .exit id' => id == id'
  | .ret, .ret => true
  | .pre p b, c => preChk C Γ p && chkC C Γ b c
  | .post b p, c => preChk C Γ p && chkC C Γ b c
  | _, _ => false
def Ex.to : Ex → Exit
  | .normal => .normal
  | .exit id => .exit id
  | .ret => .ret
theorem pre_sound (hI : Inv C Γ g0 w0 g st a w) {p : Pre} (hp : preChk C Γ p = true) {st' : St} (h : runPre p st = some st') : ∃ g', Inv C Γ g0 w0 g' st' a w := by
  cases p with
  | keep slots sites => simp only [runPre, Option.some.injEq] at h; subst h; exact ⟨g, hI.keep slots sites⟩
  | weak slots => simp only [runPre, Option.some.injEq] at h; subst h; exact ⟨g, hI.weak slots⟩
  | frz s =>
    simp only [runPre] at h
    cases hB : getB st.H s with
    | f d =>
      rw [hB] at h
      simp only [Option.some.injEq] at h
      subst h
      exact hI.frz (of_decide_eq_true hp) hB
    | _ => rw [hB] at h; cases h
  | opn s k =>
    simp only [preChk, Bool.or_eq_true] at hp
    simp only [runPre] at h
    split at h
    · rename_i ds hB
      split at h
      · rename_i hk
        simp only [Option.some.injEq] at h
        subst h
        rcases hp with hp | hp
        · exact ⟨g, hI.opn hp hB hk⟩
        · exfalso
          have hne : getB st.H s ≠ .u := by rw [hB]; simp
          have hRB := hI.blocks s hne
          unfold opvChk at hp
          split at hp
          · rename_i t hb
            split at hp
            · rename_i e he
              rw [hB] at hRB
              unfold RB at hRB
              rw [hb] at hRB
              obtain ⟨r, c, t', h1, h2, h3, h4, h5, h6⟩ := hRB
              simp only [RC] at h6
              obtain ⟨xs, q1, q2⟩ := h6.slice he
              rcases q1 with q1 | q1 | q1 <;> cases q1
            · cases hp
          · cases hp
      · cases h
    · rename_i hB
      simp only [Option.some.injEq] at h
      subst h
      rcases hp with hp | hp
      · exfalso
        have hne : getB st.H s ≠ .u := by rw [hB]; simp
        have hRB := hI.blocks s hne
        unfold opnChk at hp
        split at hp
        · rename_i t hb
          split at hp
          · rename_i fs hu
            rw [hB] at hRB
            unfold RB at hRB
            rw [hb] at hRB
            obtain ⟨r, c, t', h1, h2, h3, h4, h5, h6⟩ := hRB
            simp only [RC] at h6
            obtain ⟨ds, q1, _⟩ := h6.strct hu
            cases q1
          · cases hp
        · cases hp
      · exact ⟨g, hI.opv hp hB⟩
    · cases h
  | cls s =>
    simp only [runPre] at h
    split at h
    · rename_i vs hB
      rw [cond_eq_ite] at h
      split at h
      · rename_i hf
        simp only [Option.some.injEq] at h
        subst h
        exact ⟨g, hI.cls hB hf⟩
      · cases h
    · rename_i nn xs hB
      simp only [Option.some.injEq] at h
      subst h
      exact ⟨g, hI.clv hB⟩
    · cases h
  | thaw x s => obtain ⟨t, e, h1, h2, h3, h4⟩ := arrChk_spec hp; exact hI.thaw h1 h2 h3 h4 h
  | unthaw x s => obtain ⟨t, e, h1, h2, h3, h4⟩ := arrChk_spec hp; exact hI.unthaw h1 h2 h3 h4 h
theorem code_sound {F : CallF} (hF : FnOk C.P C.Φ F) (hT : ∀ h vf, C.Φ h = some vf → funcOk C.P vf = true) (n : Nat) : ∀ (vc : VC) (c : Code), chkC C Γ vc c = true → ∀ {R : Type} (k : Ex → St → Option R) (r : R) {st : St} {a : Act} {w : World} {g : G} {Q : Exit → Act → World → Prop},
    Inv C Γ g0 w0 g st a w → runC C.Φ F n vc st k = some r → (∀ e st' a' w' g', Inv C Γ g0 w0 g' st' a' w' → k e st' = some r → Q e.to a' w') → c.wp C.P Q a w
  | .bad, c, hc, R, k, r, st, a, w, g, Q, hI, hr, hQ => by cases hr
  | .skip, c, hc, R, k, r, st, a, w, g, Q, hI, hr, hQ => by
    cases c <;> simp only [chkC, Bool.false_eq_true] at hc
    exact wp_skip (hQ .normal _ _ _ _ hI hr)
  | .ops l d, c, hc, R, k, r, st, a, w, g, Q, hI, hr, hQ => by
    cases c <;> simp only [chkC, Bool.false_eq_true, Bool.and_eq_true] at hc
    exact reg_sound hF hT hc.2 (fun st' a' w' g' hI' hk => hQ .normal _ _ _ _ hI' hk) hI hr
  | .seq x y, c, hc, R, k, r, st, a, w, g, Q, hI, hr, hQ => by
    cases c <;> simp only [chkC, Bool.false_eq_true, Bool.and_eq_true] at hc
    refine wp_seq (code_sound hF hT n x _ hc.1 _ r hI hr fun e st' a' w' g' hI' hk => ?_)
    cases e with
    | normal => exact code_sound hF hT n y _ hc.2 k r hI' hk hQ
    | exit id => exact hQ (.exit id) _ _ _ _ hI' hk
    | ret => exact hQ .ret _ _ _ _ hI' hk
  | .cond c x y, cc, hc, R, k, r, st, a, w, g, Q, hI, hr, hQ => by
    cases cc <;> simp only [chkC, Bool.false_eq_true, Bool.and_eq_true] at hc
    obtain ⟨⟨h1, h2⟩, h3⟩ := hc
    unfold condChk at h1
    split at h1
    · rename_i m m'
      simp only [Bool.and_eq_true] at h1
      obtain ⟨h4, h5⟩ := h1
      have : m = m' := by simpa using h4
      subst this
      split at h5
      · rename_i t ht
        have hslot := hI.slot ht
        rw [runC] at hr
        simp only [Opd.ev] at hr
        cases hst : st.get m with
        | f b =>
          rw [hst] at hslot hr
          simp only [RV] at hslot
          obtain ⟨e1, e2⟩ := RT.bool (isB_u h5) hslot
          have hp : ∀ bb, b.toB = bb → st.put m (.f (.b bb)) = st := fun bb hb => put_same (by rw [hst, e1, hb]) (get_lt hst)
          have hev : a.eval (.tmp m) = .bool b.toB := e2
          simp only at hr
          cases hb : b.toB with
          | true =>
            rw [hb] at hr hev
            simp only [cond_true, hp true hb] at hr
            exact wp_cond_true hev (code_sound hF hT n x _ h2 k r hI hr hQ)
          | false =>
            rw [hb] at hr hev
            simp only [cond_false, hp false hb] at hr
            exact wp_cond_false hev (code_sound hF hT n y _ h3 k r hI hr hQ)
        | _ => rw [hst] at hr; cases hr
      · cases h5
    · rename_i b b'
      have : b = b' := by simpa using h1
      subst this
      rw [runC] at hr
      simp only [Opd.ev, D.toB] at hr
      cases b with
      | true => exact wp_cond_true rfl (code_sound hF hT n x _ h2 k r hI hr hQ)
      | false => exact wp_cond_false rfl (code_sound hF hT n y _ h3 k r hI hr hQ)
    · cases h1
  | .block id b, c, hc, R, k, r, st, a, w, g, Q, hI, hr, hQ => by
    cases c <;> simp only [chkC, Bool.false_eq_true, Bool.and_eq_true] at hc
    rename_i id' c'
    have : id = id' := by simpa using hc.1
    subst this
    refine wp_block (code_sound hF hT n b _ hc.2 _ r hI hr fun e st' a' w' g' hI' hk => ?_)
    cases e with
    | normal => exact hQ .normal _ _ _ _ hI' hk
    | exit i =>
      simp only [Ex.to, Exit.inBlock]
      simp only at hk
      rw [cond_eq_ite] at hk
      by_cases hi : i = id
      · rw [if_pos hi]
        rw [if_pos (by simpa using hi)] at hk
        exact hQ .normal _ _ _ _ hI' hk
      · rw [if_neg hi]
        rw [if_neg (by simpa using hi)] at hk
        exact hQ (.exit i) _ _ _ _ hI' hk
    | ret => exact hQ .ret _ _ _ _ hI' hk
  | .loop b, c, hc, R, k, r, st, a, w, g, Q, hI, hr, hQ => by
    cases c <;> simp only [chkC, Bool.false_eq_true] at hc
    rename_i c'
    refine wp_loop_rounds n ?_
    rw [runC] at hr
    have key : ∀ (m : Nat) {st : St} {a : Act} {w : World} {g : G}, Inv C Γ g0 w0 g st a w → loopGo (runC C.Φ F n b) m st k = some r → Code.rounds C.P c' Q m a w := by
      intro m
      induction m with
      | zero => intro st a w g hI hr; cases hr
      | succ m ih =>
        intro st a w g hI hr
        rw [rounds_succ]
        rw [loopGo] at hr
        refine code_sound hF hT n b c' hc _ r hI hr fun e st' a' w' g' hI' hk => ?_
        cases e with
        | normal => exact ih hI' hk
        | exit id => exact hQ (.exit id) _ _ _ _ hI' hk
        | ret => exact hQ .ret _ _ _ _ hI' hk
    exact key n hI hr
  | .exit id, c, hc, R, k, r, st, a, w, g, Q, hI, hr, hQ => by
    cases c <;> simp only [chkC, Bool.false_eq_true] at hc
    rename_i id'
    have : id = id' := by simpa using hc
    subst this
    exact wp_exit (hQ (.exit id) _ _ _ _ hI hr)
  | .ret, c, hc, R, k, r, st, a, w, g, Q, hI, hr, hQ => by
    cases c <;> simp only [chkC, Bool.false_eq_true] at hc
    exact wp_ret (hQ .ret _ _ _ _ hI hr)
  | .pre p b, c, hc, R, k, r, st, a, w, g, Q, hI, hr, hQ => by
    simp only [chkC, Bool.and_eq_true] at hc
    rw [runC, runPreK_eq] at hr
    obtain ⟨st', hst', hr⟩ := Option.bind_eq_some_iff.1 hr
    obtain ⟨g', hI'⟩ := pre_sound hI hc.1 hst'
    exact code_sound hF hT n b c hc.2 k r hI' hr hQ
  | .post b p, c, hc, R, k, r, st, a, w, g, Q, hI, hr, hQ => by
    simp only [chkC, Bool.and_eq_true] at hc
    rw [runC] at hr
    refine code_sound hF hT n b c hc.2 _ r hI hr fun e st' a' w' g' hI' hk => ?_
    cases e with
    | normal =>
      obtain ⟨st2, hst2, hk⟩ := Option.bind_eq_some_iff.1 hk
      obtain ⟨g2, hI2⟩ := pre_sound hI' hc.1 hst2
      exact hQ .normal _ _ _ _ hI2 hk
    | exit id => exact hQ (.exit id) _ _ _ _ hI' hk
    | ret => exact hQ .ret _ _ _ _ hI' hk
end
end Go.Vam
