/- THE SHADOW MACHINE, 19: calls; one operation; regions. -/
import Derived.Test.YtcpbgimpopcfoaaVT
import Derived.Test.YtcpbgimpopcfoaaVR
import Derived.Orders
import Derived.LoopN
set_option linter.unusedSimpArgs false
set_option linter.unusedVariables false
namespace Go.Vam
structure Back (C : Ctx) (g0 g' : G) (w0 w' : World) : Prop where
  frm : Frm C g0 w0 w'
  cells : ∀ b o v, g'.S b o = some v → w'.cell? ⟨b, o, none⟩ = some v
  sold : ∀ r o, r < C.base → g'.S r o = g0.S r o
  ext : Sub g0.S g'.S
def ctxOf (P : Program) (Φ : Tab) (vf : VFunc) (n : Nat) : Ctx := ⟨P, Φ, fun s => vf.blocks[s]?, n, vf.nin⟩
def g0Of (S : Cells) : G := ⟨S, fun _ => none, fun _ => none, fun _ => 0⟩
structure Handed (C : Ctx) (g0 : G) (w : World) (Hin : List V) : Prop where
  len : Hin.length = C.nin
  blk : ∀ k, k < C.nin → ∃ d, getB Hin k = .f d ∧ RB C g0 w k (.f d)
  own : ∀ r X, g0.kap r = some X → ∃ k, X = .site k ∧ k < C.nin ∧ g0.rho k = some r ∧ r < C.base
def Gave (C : Ctx) (g0 g' : G) (w' : World) (H' : List V) : Prop := ∀ k, k < C.nin → ∃ d, getB H' k = .f d ∧ RB C g' w' k (.f d) ∧ g'.loc k = g0.loc k
def FnOk (P : Program) (Φ : Tab) (F : CallF) : Prop := ∀ (h : Nat) (vf : VFunc) (args Hin : List V) (r : V) (H' : List V), Φ h = some vf → toO (F h args Hin) = some (r, H') →
  ∀ (g0 : G) (w : World) (av : Array Value), (∀ b o v, g0.S b o = some v → w.cell? ⟨b, o, none⟩ = some v) → Handed (ctxOf P Φ vf w.heap.size) g0 w Hin → av.size = args.length → args.length = vf.ptys.length →
    RVs (ctxOf P Φ vf w.heap.size) g0 Hin w .ret 0 vf.ptys args av.toList →
    Calls P vf.fid av w fun e w' => ∃ v g', e = .returned v ∧ RV (ctxOf P Φ vf w.heap.size) g' [] w' .ret vf.rty r v ∧ Back (ctxOf P Φ vf w.heap.size) g0 g' w w' ∧ Gave (ctxOf P Φ vf w.heap.size) g0 g' w' H'
section
variable {C : Ctx} {Γ : List Ty} {g0 g : G} {w0 w : World} {st : St} {a : Act}
mutual
theorem RV.ren {C' : Ctx} {g' : G} {H H' : List V} {w' : World} {X Y : Own} {refs : List Nat} (hP : C'.P = C.P) (hΦ : C'.Φ = C.Φ) (hS : Sub g.S g'.S) (hR : ∀ s k, idx s refs 0 = some k → C'.bt k = C.bt s ∧ (g'.rho k = g.rho s ∧ g'.cp k = g.cp s) ∧ getB H' k = getB H s) : ∀ (x : V) {τ : Ty} {v : Value}, RV C g H w X τ x v → RV C' g' H' w' Y τ (x.ren refs) v
  | .f d, τ, v, h => by simp only [V.ren, RV] at *; rw [hP]; exact h.mono hS
  | .c xs, τ, v, h => by
    have := RV.data h rfl
    simp only [V.ren, RV, V.toD] at *; rw [hP]; exact this.mono hS
  | .o _ _, τ, v, h => by simp only [V.ren, RV]
  | .w _ _, τ, v, h => by simp only [V.ren, RV]
  | .a, τ, v, h => by simp only [V.ren, RV]
  | .t _, τ, v, h => by simp only [V.ren, RV]
  | .u, τ, v, h => by simp only [V.ren, RV]
  | .n, τ, v, h => by simp only [V.ren, RV] at *; exact h
  | .m s p, τ, v, h => by
    simp only [V.ren]
    cases hi : idx s refs 0 with
    | none => simp only [RV]
    | some k =>
      obtain ⟨q1, ⟨q2, q4⟩, q3⟩ := hR s k hi
      simp only [RV] at *
      obtain ⟨e, off, b, r, h1, h2, h3, h4, h5, h6⟩ := h
      exact ⟨e, off, b, r, by rw [hP]; exact h1, by rw [q1]; exact h2, by rw [q2]; exact h3, by rw [hP, q3]; exact h4, h5, by rw [q3]; exact h6⟩
  | .ms s nn, τ, v, h => by
    simp only [V.ren]
    cases hi : idx s refs 0 with
    | none => simp only [RV]
    | some k =>
      obtain ⟨q1, ⟨q2, q4⟩, q3⟩ := hR s k hi
      simp only [RV] at *
      obtain ⟨t, e, h1, h2, h3, h4, h5⟩ := h
      refine ⟨t, e, h1, by rw [hP]; exact h2, by rw [q1]; exact h3, by rw [q3]; exact h4, ?_⟩
      rw [q3, q2, q4]; exact h5
  | .fn k caps tys, τ, v, h => by
    simp only [V.ren, RV] at *
    obtain ⟨vf, arr, h1, h2, h3, h4, h5⟩ := h
    obtain ⟨k1, k2⟩ := RVs.ren hP hΦ hS hR caps (w' := w') (Y := Y) 0 h5
    exact ⟨vf, arr, by rw [hΦ]; exact h1, h2, by rw [k2]; exact h3, by rw [k2]; exact h4, k1⟩
theorem RVs.ren {C' : Ctx} {g' : G} {H H' : List V} {w' : World} {X Y : Own} {refs : List Nat} (hP : C'.P = C.P) (hΦ : C'.Φ = C.Φ) (hS : Sub g.S g'.S) (hR : ∀ s k, idx s refs 0 = some k → C'.bt k = C.bt s ∧ (g'.rho k = g.rho s ∧ g'.cp k = g.cp s) ∧ getB H' k = getB H s) : ∀ (xs : List V) {n : Nat} (m : Nat) {ts : List Ty} {vs : List Value}, RVs C g H w X n ts xs vs → RVs C' g' H' w' Y m ts (V.renAll refs xs) vs ∧ (V.renAll refs xs).length = xs.length
  | [], n, m, ts, vs, h => by cases ts <;> cases vs <;> simp_all [RVs, V.renAll]
  | x :: xs, n, m, [], vs, h => by simp [RVs] at h
  | x :: xs, n, m, τ :: ts, [], h => by simp [RVs] at h
  | x :: xs, n, m, τ :: ts, v :: vs, h => by
    simp only [RVs] at h
    obtain ⟨k1, k2⟩ := RVs.ren hP hΦ hS hR xs (w' := w') (Y := Y) (m + 1) h.2
    exact ⟨by simp only [V.renAll, RVs]; exact ⟨RV.ren hP hΦ hS hR x h.1, k1⟩, by simp [V.renAll, k2]⟩
end
def Own.re (d : Option Nat) : Own → Option Own
  | .ret => d.map .slot
  | .sub o k => (o.re d).map (.sub · k)
  | _ => none
def mergeG (g g' : G) (n : Nat) (d : Option Nat) : G := ⟨g'.S, g.rho, fun b => if b < n then g.kap b else (g'.kap b).bind (Own.re d), g.cp⟩
mutual
theorem RV.back {C' : Ctx} {g' : G} {H : List V} {w' : World} {d : Option Nat} {n : Nat} (hP : C'.P = C.P) (hΦ : C'.Φ = C.Φ) (hn : C'.base = n) (hb : C.base ≤ n) : ∀ (x : V) {X Y : Own} (_ : X.re d = some Y) {τ : Ty} {v : Value}, RV C' g' [] w' X τ x v → RV C (mergeG g g' n d) H w' Y τ x v
  | .f d, X, Y, hX, τ, v, h => by simp only [RV] at *; rw [← hP]; exact h
  | .c xs, X, Y, hX, τ, v, h => by simp only [RV] at *; rw [← hP]; exact h
  | .o nn xs, X, Y, hX, τ, v, h => by
    simp only [RV] at *
    obtain ⟨t, e, h1, h2, h3⟩ := h
    refine ⟨t, e, h1, by rw [← hP]; exact h2, ?_⟩
    rcases h3 with h3 | ⟨r, cap, c, e', k1, k2, k3, k4, k5, k6, k7, k8, k9, k10⟩
    · exact .inl h3
    · refine .inr ⟨r, cap, c, e', k1, k2, by omega, ?_, k5, by rw [← hP]; exact k6, k7, k8, by rw [← hP]; exact k9, by rw [← hP]; exact k10⟩
      simp [mergeG, show ¬ r < n by omega, k4, hX]
  | .w nn xs, X, Y, hX, τ, v, h => by
    simp only [RV] at *
    obtain ⟨t, e, h1, h2, h3⟩ := h
    refine ⟨t, e, h1, by rw [← hP]; exact h2, ?_⟩
    rcases h3 with h3 | ⟨r, cap, c, e', k1, k2, k3, k4, k5, k6, k7, k8, k9, k10⟩
    · exact .inl h3
    · refine .inr ⟨r, cap, c, e', k1, k2, by omega, ?_, k5, by rw [← hP]; exact k6, k7, k8, by rw [← hP]; exact k9, by rw [← hP]; exact k10⟩
      simp [mergeG, show ¬ r < n by omega, k4, hX]
  | .a, X, Y, hX, τ, v, h => by
    simp only [RV] at *
    obtain ⟨e, r, c, e', k1, k2, k3, k4, k5, k6, k7⟩ := h
    exact ⟨e, r, c, e', by rw [← hP]; exact k1, k2, by omega, by simp [mergeG, show ¬ r < n by omega, k4, hX], k5, by rw [← hP]; exact k6, k7⟩
  | .m s p, X, Y, hX, τ, v, h => by simp only [RV] at h; obtain ⟨_, _, _, _, _, _, _, _, _, h⟩ := h; simp [getB] at h
  | .ms s nn, X, Y, hX, τ, v, h => by simp only [RV] at h; obtain ⟨_, _, _, _, _, h, _⟩ := h; simp [getB] at h
  | .t vs, X, Y, hX, τ, v, h => by
    simp only [RV] at *
    obtain ⟨ts, arr, h1, h2, h3, h4, h5⟩ := h
    exact ⟨ts, arr, h1, h2, h3, h4, RVs.back hP hΦ hn hb vs hX h5⟩
  | .fn k caps tys, X, Y, hX, τ, v, h => by
    simp only [RV] at *
    obtain ⟨vf, arr, h1, h2, h3, h4, h5⟩ := h
    exact ⟨vf, arr, by rw [← hΦ]; exact h1, h2, h3, h4, RVs.back hP hΦ hn hb caps hX h5⟩
  | .n, X, Y, hX, τ, v, h => by simp only [RV] at *; exact h
  | .u, X, Y, hX, τ, v, h => by simp only [RV]
theorem RVs.back {C' : Ctx} {g' : G} {H : List V} {w' : World} {d : Option Nat} {n : Nat} (hP : C'.P = C.P) (hΦ : C'.Φ = C.Φ) (hn : C'.base = n) (hb : C.base ≤ n) : ∀ (xs : List V) {X Y : Own} (_ : X.re d = some Y) {m : Nat} {ts : List Ty} {vs : List Value}, RVs C' g' [] w' X m ts xs vs → RVs C (mergeG g g' n d) H w' Y m ts xs vs
  | [], X, Y, hX, m, ts, vs, h => by cases ts <;> cases vs <;> simp_all [RVs]
  | x :: xs, X, Y, hX, m, [], vs, h => by simp [RVs] at h
  | x :: xs, X, Y, hX, m, τ :: ts, [], h => by simp [RVs] at h
  | x :: xs, X, Y, hX, m, τ :: ts, v :: vs, h => by
    simp only [RVs] at *
    exact ⟨RV.back hP hΦ hn hb x (by simp [Own.re, hX]) h.1, RVs.back hP hΦ hn hb xs hX h.2⟩
end
theorem idx_spec (s : Nat) : ∀ (l : List Nat) (n k : Nat), idx s l n = some k → n ≤ k ∧ k - n < l.length ∧ l[k - n]? = some s
  | [], n, k, h => by cases h
  | x :: l, n, k, h => by
    rw [idx, cond_eq_ite] at h
    split at h
    · rename_i hx
      injection h with h
      subst h
      have : x = s := by simpa using hx
      subst this
      simp
    · obtain ⟨h1, h2, h3⟩ := idx_spec s l (n + 1) k h
      refine ⟨by omega, by simp; omega, ?_⟩
      rw [show k - n = (k - (n + 1)) + 1 by omega, List.getElem?_cons_succ]; exact h3
theorem idx_of (l : List Nat) (hn : l.Nodup) : ∀ (n k s : Nat), l[k]? = some s → idx s l n = some (n + k) := by
  induction l with
  | nil => intro n k s h; simp at h
  | cons x l ih =>
    intro n k s h
    rw [List.nodup_cons] at hn
    rw [idx, cond_eq_ite]
    cases k with
    | zero => simp at h; subst h; simp
    | succ k =>
      rw [List.getElem?_cons_succ] at h
      have : x ≠ s := fun e => by subst e; exact hn.1 (List.mem_of_getElem? h)
      rw [if_neg (by simpa using this), ih hn.2 (n + 1) k s h]
      congr 1; omega
theorem putBack_get : ∀ (refs : List Nat) (H bs : List V) (s : Nat), refs.Nodup → (∀ r ∈ refs, r < H.length) → refs.length ≤ bs.length → getB (putBack H refs bs) s = (match idx s refs 0 with | some k => getB bs k | none => getB H s)
  | [], H, bs, s, _, _, _ => by cases bs <;> rfl
  | r :: refs, H, [], s, _, _, h => by simp at h
  | r :: refs, H, b :: bs, s, hn, hl, h => by
    rw [List.nodup_cons] at hn
    rw [putBack, putBack_get refs _ bs s hn.2 (fun x hx => by simp; exact hl x (List.mem_cons_of_mem _ hx)) (by simpa using h)]
    rw [idx, cond_eq_ite]
    by_cases hrs : r = s
    · subst hrs
      have hno : idx r refs 0 = none := by
        cases hi : idx r refs 0 with
        | none => rfl
        | some k => exact absurd (List.mem_of_getElem? (idx_spec r refs 0 k hi).2.2) hn.1
      rw [hno, if_pos (by simp)]
      simp only [getB, List.getD_eq_getElem?_getD]
      rw [List.getElem?_set_self (hl r List.mem_cons_self)]
      rfl
    · rw [if_neg (by simpa using hrs)]
      have hsh : ∀ (l : List Nat) (n : Nat), idx s l (n + 1) = (idx s l n).map (· + 1) := by
        intro l
        induction l with
        | nil => intro n; rfl
        | cons y l ih => intro n; rw [idx, idx, cond_eq_ite, cond_eq_ite]; split <;> simp [ih]
      rw [hsh refs 0]
      cases hi : idx s refs 0 with
      | none =>
        simp only [Option.map_none, getB, List.getD_eq_getElem?_getD]
        rw [List.getElem?_set_ne hrs]
      | some k => simp only [Option.map_some, getB, List.getD_eq_getElem?_getD, List.getElem?_cons_succ]
def callG (g : G) (refs : List Nat) : G := ⟨g.S, fun k => (refs[k]?).bind g.rho, fun r => match g.kap r with
  | some (.site s) => if g.rho s = some r then (idx s refs 0).map Own.site else none
  | _ => none, fun k => (match refs[k]? with | some s => g.cp s | none => 0)⟩
theorem callG_kap {refs : List Nat} {r : Nat} {X : Own} (h : (callG g refs).kap r = some X) : ∃ s k, g.kap r = some (.site s) ∧ g.rho s = some r ∧ idx s refs 0 = some k ∧ X = .site k := by
  simp only [callG] at h
  split at h
  · rename_i s hs
    split at h
    · rename_i hr
      obtain ⟨k, hk, rfl⟩ := Option.map_eq_some_iff.1 h
      exact ⟨s, k, hs, hr, hk, rfl⟩
    · cases h
  · cases h
structure RefOk (C : Ctx) (vf : VFunc) (st : St) (refs : List Nat) : Prop where
  len : refs.length = vf.nin
  nd : refs.Nodup
  bt : ∀ (k s : Nat), refs[k]? = some s → ∃ b, vf.blocks[k]? = some b ∧ C.bt s = some b
  isf : ∀ s ∈ refs, ∃ d, getB st.H s = .f d
theorem handed_of (hI : Inv C Γ g0 w0 g st a w) {vf : VFunc} {refs : List Nat} (hr : RefOk C vf st refs) : Handed (ctxOf C.P C.Φ vf w.heap.size) (callG g refs) w (refs.map fun s => getB st.H s) := by
  refine ⟨by simpa [ctxOf] using hr.len, fun k hk => ?_, fun r X h => ?_⟩
  · have hk' : k < refs.length := by rw [hr.len]; exact hk
    have hs : refs[k]? = some refs[k] := List.getElem?_eq_getElem hk'
    obtain ⟨d, hd⟩ := hr.isf refs[k] (List.getElem_mem hk')
    obtain ⟨t, ht1, ht2⟩ := hr.bt k _ hs
    refine ⟨d, by simp [getB, hk'] ; simpa [getB] using hd, ?_⟩
    have hRB := hI.blocks refs[k] (by rw [hd]; simp)
    rw [hd] at hRB
    unfold RB at hRB ⊢
    rw [ht2] at hRB
    have hkap : ∀ r, g.rho refs[k] = some r → g.kap r = some (.site refs[k]) → (callG g refs).kap r = some (.site k) := fun r h1 h2 => by
      simp only [callG, h2, h1, if_true]
      rw [idx_of refs hr.nd 0 k _ hs]; simp
    cases t with
    | var t =>
      simp only [ctxOf, ht1] at hRB ⊢
      obtain ⟨r, c, t', h1, h2, h3, h4, h5, h6⟩ := hRB
      exact ⟨r, c, t', by simp [callG, hk', h1], hkap r h1 h2, h3, h4, h5, by simp only [RC] at h6 ⊢; exact h6⟩
    | arr e =>
      simp only [ctxOf, ht1] at hRB ⊢
      obtain ⟨d', hd', hh⟩ := hRB
      refine ⟨d', hd', ?_⟩
      rcases hh with ⟨h1, h2⟩ | ⟨r, c, t', h1, h2, h3, h4, h5, h6⟩
      · exact .inl ⟨by simp [callG, hk', h1], h2⟩
      · exact .inr ⟨r, c, t', by simp [callG, hk', h1], hkap r h1 h2, h3, by simp only [callG, hs]; exact h4, h5, h6⟩
  · obtain ⟨s, k, h1, h2, h3, rfl⟩ := callG_kap h
    obtain ⟨_, q1, q2⟩ := idx_spec s refs 0 k h3
    rw [Nat.sub_zero] at q1 q2
    refine ⟨k, rfl, (show k < vf.nin by rw [← hr.len]; exact q1), by simp only [callG, q2, Option.bind_some]; exact h2, ?_⟩
    obtain ⟨d, hd⟩ := hr.isf s (List.mem_of_getElem? q2)
    have hRB := hI.blocks s (by rw [hd]; simp)
    rw [hd] at hRB
    obtain ⟨t, ht1, ht2⟩ := hr.bt k s q2
    unfold RB at hRB
    rw [ht2] at hRB
    cases t with
    | var t =>
      obtain ⟨r', c, t', k1, k2, k3, _⟩ := hRB
      rw [h2] at k1; injection k1 with k1; subst k1
      exact (Array.getElem?_eq_some_iff.1 k3).1
    | arr e =>
      obtain ⟨d', hd', hh⟩ := hRB
      rcases hh with ⟨k1, _⟩ | ⟨r', c, t', k1, k2, k3, _⟩
      · rw [h2] at k1; cases k1
      · rw [h2] at k1; injection k1 with k1; subst k1
        exact (Array.getElem?_eq_some_iff.1 k3).1
theorem Inv.called (hI : Inv C Γ g0 w0 g st a w) {vf : VFunc} {vo : VOper} {r : V} {v : Value} {g' : G} {w' : World} {refs : List Nat} {H' : List V} (hrf : RefOk C vf st refs) (hr : resTy C.P Γ vo.dst vf.rty = true)
    (hv : RV (ctxOf C.P C.Φ vf w.heap.size) g' [] w' .ret vf.rty r v) (hb : Back (ctxOf C.P C.Φ vf w.heap.size) (callG g refs) g' w w') (hg : Gave (ctxOf C.P C.Φ vf w.heap.size) (callG g refs) g' w' H') (hln : ∀ k s e, refs[k]? = some s → C.bt s = some (.arr e) → blen (getB H' k) = blen (getB st.H s)) {ok : Bool} :
    Inv C Γ g0 w0 (mergeG g g' w.heap.size vo.dst) (applyE vo { ok, v := r, H := putBack st.H refs H' } st) (a.put vo.dst v) w' := by
  have hbase := hI.base
  have hlen : refs.length ≤ H'.length := by
    rcases Nat.lt_or_ge H'.length refs.length with h | h
    · obtain ⟨d, hd, _⟩ := hg H'.length (show _ < vf.nin by rw [← hrf.len]; exact h)
      simp [getB] at hd
    · exact h
  have hin : ∀ s ∈ refs, s < st.H.length := fun s hs => by
    obtain ⟨d, hd⟩ := hrf.isf s hs
    rcases Nat.lt_or_ge s st.H.length with h | h
    · exact h
    · simp [getB, List.getElem?_eq_none h] at hd
  have hget := fun s => putBack_get refs st.H H' s hrf.nd hin hlen
  have hk1 : ∀ r X, g.kap r = some X → (∀ s ∈ refs, X.root ≠ .site s) → (callG g refs).kap r = none := fun r X h1 h2 => by
    cases hc : (callG g refs).kap r with
    | none => rfl
    | some Y =>
      obtain ⟨s, k, q1, q2, q3, _⟩ := callG_kap hc
      rw [q1] at h1; injection h1 with h1; subst h1
      exact absurd rfl (h2 s (List.mem_of_getElem? (idx_spec s refs 0 k q3).2.2))
  have hk : Keeps C g st.H w (mergeG g g' w.heap.size vo.dst) (putBack st.H refs H') w' (fun X => ∃ s ∈ refs, X = .site s) := by
    refine ⟨hb.ext, fun b X h1 h3 h2 => ⟨by simp [mergeG, h2, h1], hb.frm.old b h2 (hk1 b X h1 fun s hs e => h3 ⟨s, hs, e⟩), fun o => hb.sold b o h2⟩, fun s h => ?_⟩
    rw [hget]
    cases hi : idx s refs 0 with
    | none => exact ⟨h, fun _ _ => rfl, rfl⟩
    | some k =>
      obtain ⟨_, q1, q2⟩ := idx_spec s refs 0 k hi
      rw [Nat.sub_zero] at q1 q2
      obtain ⟨d, hd, _⟩ := hg k (show k < vf.nin by rw [← hrf.len]; exact q1)
      obtain ⟨t, _, ht⟩ := hrf.bt k s q2
      exact ⟨by simp only [hd]; simp, fun e he => hln k s e q2 he, rfl⟩
  refine hI.step (o := vo) hk (fun _ h => by obtain ⟨s, _, h⟩ := h; cases h) (fun _ _ h => by cases h) (resTy_rv hr fun d hd => ?_) (fun s h => ?_) hb.cells ?_ ?_ ?_ ?_ ?_ hI.rho
  · rw [hd]
    exact RV.back (C := C) (g := g) (C' := ctxOf C.P C.Φ vf w.heap.size) (X := .ret) (Y := .slot d) (d := some d) rfl rfl rfl hbase r rfl hv
  · rw [hget] at h ⊢
    cases hi : idx s refs 0 with
    | none =>
      rw [hi] at h
      refine (hI.blocks s h).keeps hk (fun hz => ?_) rfl
      obtain ⟨s', hs', he⟩ := hz
      injection he with he
      subst he
      obtain ⟨k, hk', hkk⟩ := List.getElem_of_mem hs'
      rw [idx_of refs hrf.nd 0 k s (by rw [List.getElem?_eq_getElem hk', hkk])] at hi
      cases hi
    | some k =>
      obtain ⟨_, q1, q2⟩ := idx_spec s refs 0 k hi
      rw [Nat.sub_zero] at q1 q2
      obtain ⟨d, hd, hRB, hrho⟩ := hg k (show k < vf.nin by rw [← hrf.len]; exact q1)
      obtain ⟨t, ht1, ht2⟩ := hrf.bt k s q2
      obtain ⟨d0, hd0⟩ := hrf.isf s (List.mem_of_getElem? q2)
      have hRB0 := hI.blocks s (by rw [hd0]; simp)
      simp only [hd]
      unfold RB at hRB hRB0 ⊢
      rw [ht2] at hRB0 ⊢
      have hrho1 : g'.rho k = g.rho s := by rw [loc_rho hrho]; simp only [callG, q2, Option.bind_some]
      have hcp1 : g'.cp k = g.cp s := by rw [loc_cp hrho]; simp only [callG, q2]
      cases t with
      | var t =>
        simp only [ctxOf, ht1] at hRB
        simp only at hRB0 ⊢
        obtain ⟨r0, c0, t0, z1, z2, z3, _⟩ := hRB0
        obtain ⟨r1, c1, t1, y1, y2, y3, y4, y5, y6⟩ := hRB
        have hre : r1 = r0 := by
          rw [hrho1, z1] at y1
          injection y1 with y1
          exact y1.symm
        subst hre
        have hlt : r1 < w.heap.size := (Array.getElem?_eq_some_iff.1 z3).1
        exact ⟨r1, c1, t1, z1, by simp [mergeG, hlt, z2], y3, y4, y5, by simp only [RC] at y6 ⊢; exact y6⟩
      | arr e =>
        simp only [ctxOf, ht1] at hRB
        simp only at hRB0 ⊢
        obtain ⟨d1, hd1, hh⟩ := hRB
        injection hd1 with hd1; subst hd1
        refine ⟨_, rfl, ?_⟩
        obtain ⟨d00, hd00, hh0⟩ := hRB0
        rcases hh with ⟨y1, y2⟩ | ⟨r1, c1, t1, y1, y2, y3, y4, y5, y6⟩
        · exact .inl ⟨hrho1 ▸ y1, y2⟩
        · have y1' : g.rho s = some r1 := hrho1 ▸ y1
          rcases hh0 with ⟨z1, _⟩ | ⟨r0, c0, t0, z1, z2, z3, _⟩
          · rw [y1'] at z1; cases z1
          · rw [y1'] at z1; injection z1 with z1; subst z1
            have hlt : r1 < w.heap.size := (Array.getElem?_eq_some_iff.1 z3).1
            exact .inr ⟨r1, c1, t1, y1', by simp [mergeG, hlt, z2], y3, by rw [show (mergeG g g' w.heap.size vo.dst).cp s = g.cp s from rfl, ← hcp1]; exact y4, y5, y6⟩
  · obtain ⟨q1, q2, q3, q4, q5⟩ := hI.frm
    obtain ⟨p1, p2, p3, p4, p5⟩ := hb.frm
    refine ⟨p1.trans q1, p2.trans q2, p3.trans q3, by omega, fun b h1 h2 => (p5 b (by simp only [ctxOf]; omega) ?_).trans (q5 b h1 h2)⟩
    cases hc : (callG g refs).kap b with
    | none => rfl
    | some Y =>
      obtain ⟨s, k, z1, _⟩ := callG_kap hc
      rw [hI.kap b h1, h2] at z1; cases z1
  · intro b h; rw [← hI.kap b h]; simp [mergeG, show b < w.heap.size by omega]
  · intro b o h; exact (hb.sold b o (by simp only [ctxOf]; omega)).trans (hI.sold b o h)
  · exact hI.ext.trans hb.ext
  · have := hb.frm.size; omega
def funcOk (P : Program) (vf : VFunc) : Bool :=
  match P.funcs[vf.fid]? with
  | some fn => fn.body.isSome && !(fn.name == "runtime.NumGoroutine")
  | none => false
theorem run_callFunc {P : Program} {w : World} {vf : VFunc} {av : Array Value} (h : funcOk P vf = true) : (callFunc vf.fid av).run P w = .ok (.enter vf.fid av) w := by
  unfold funcOk at h
  split at h
  · rename_i fn hf
    simp only [Bool.and_eq_true, Bool.not_eq_true', beq_eq_false_iff_ne, ne_eq] at h
    obtain ⟨h1, h2⟩ := h
    cases hb : fn.body with
    | none => simp [hb] at h1
    | some c => simp [callFunc, hf, h2, hb]
  · cases h
theorem run_call {P : Program} {ρ : Operand → Value} {o : Oper} {w : World} {vf : VFunc} {f : Operand} {args : List Operand} {ts : List Nat} {arr : Array Value} (ho : o.op = .call { callee := .value f, args := args.toArray, argTypes := ts.toArray }) (hf : ρ f = .func (.func vf.fid) #[] arr) (h : funcOk P vf = true) :
    (execOp ρ o).run P w = .ok (.enter vf.fid ((args.map ρ).toArray ++ arr)) w := by
  simp [execOp, ho, resolve, Deferred.ofValue, hf, invoke, run_callFunc h]
def vcallOf : Op → Option (Operand × List Operand × List Nat)
  | .call c => (match c.callee with | .value f => some (f, c.args.toList, c.argTypes.toList) | _ => none)
  | _ => none
theorem vcallOf_eq {op : Op} {f : Operand} {xs : List Operand} {ts : List Nat} (h : vcallOf op = some (f, xs, ts)) : op = .call { callee := .value f, args := xs.toArray, argTypes := ts.toArray } := by
  unfold vcallOf at h
  split at h
  · rename_i c
    split at h
    · rename_i f' hb
      injection h with h
      simp only [Prod.mk.injEq] at h
      obtain ⟨rfl, h2, h3⟩ := h
      obtain ⟨cal, ar, at_⟩ := c
      simp only at hb h2 h3
      subst hb
      rw [← h2, ← h3]
    · cases h
  · cases h
def nodupB : List Nat → Bool
  | [] => true
  | x :: l => !l.contains x && nodupB l
theorem nodupB_spec : ∀ {l : List Nat}, nodupB l = true → l.Nodup
  | [], _ => List.nodup_nil
  | x :: l, h => by
    simp only [nodupB, Bool.and_eq_true, Bool.not_eq_true'] at h
    rw [List.nodup_cons]
    exact ⟨(fun hm => by rw [List.contains_iff_mem.2 hm] at h; cases h.1), nodupB_spec h.2⟩
def varEq : Option BTy → Option BTy → Bool
  | some (.var t), some (.var t') => t == t'
  | some (.arr t), some (.arr t') => t == t'
  | _, _ => false
theorem varEq_spec {a b : Option BTy} (h : varEq a b = true) : ∃ t, a = some t ∧ b = some t := by
  unfold varEq at h
  split at h
  · rename_i t t'
    have : t = t' := by simpa using h
    subst this
    exact ⟨_, rfl, rfl⟩
  · rename_i t t'
    have : t = t' := by simpa using h
    subst this
    exact ⟨_, rfl, rfl⟩
  · cases h
theorem lenEq_spec : ∀ {bs : List BTy} {xs ys : List V}, lenEq bs xs ys = true → ∀ k e, bs[k]? = some (.arr e) → k < xs.length → k < ys.length → blen (getB ys k) = blen (getB xs k)
  | [], _, _, _, k, e, h, _, _ => by simp at h
  | .arr e' :: bs, [], _, _, k, e, _, h, _ => by simp at h
  | .arr e' :: bs, _ :: _, [], _, k, e, _, _, h => by simp at h
  | .var t :: bs, [], _, _, k, e, _, h, _ => by simp at h
  | .var t :: bs, _ :: _, [], _, k, e, _, _, h => by simp at h
  | .arr e' :: bs, x :: xs, y :: ys, h, k, e, hk, h1, h2 => by
    simp only [lenEq, Bool.and_eq_true] at h
    cases k with
    | zero => exact (Nat.eq_of_beq_eq_true h.1).symm
    | succ k => exact lenEq_spec h.2 k e (by simpa using hk) (by simpa using h1) (by simpa using h2)
  | .var t :: bs, x :: xs, y :: ys, h, k, e, hk, h1, h2 => by
    simp only [lenEq] at h
    cases k with
    | zero => simp at hk
    | succ k => exact lenEq_spec h k e (by simpa using hk) (by simpa using h1) (by simpa using h2)
theorem lenH_some {Φ : Tab} {g : Nat} {Hin : List V} {r : CRes} {q : V × List V} {vf : VFunc} (hvf : Φ g = some vf) (h : toO (lenH Φ g Hin r) = some q) : toO r = some q ∧ lenEq vf.blocks Hin q.2 = true := by
  unfold lenH at h
  cases Hin with
  | nil => exact ⟨h, by cases vf.blocks with | nil => rfl | cons b _ => cases b <;> rfl⟩
  | cons x l =>
    simp only [hvf] at h
    obtain ⟨b, v, H'⟩ := r
    simp only [toO] at h ⊢
    cases b
    · cases h
    · simp only [Bool.true_and] at h
      cases hl : lenEq vf.blocks (x :: l) H'
      · rw [hl] at h; cases h
      · rw [hl] at h
        simp only [cond_true, Option.some.injEq] at h
        subst h
        exact ⟨rfl, hl⟩
def refsChk (C : Ctx) (vf : VFunc) (refs : List Nat) : Bool := refs.length == vf.nin && (nodupB refs && (List.range refs.length).all fun k => match refs[k]? with | some s => varEq vf.blocks[k]? (C.bt s) | none => false)
theorem refsChk_ok {C : Ctx} {vf : VFunc} {refs : List Nat} {st : St} (h : refsChk C vf refs = true) (hf : (refs.all fun s => (getB st.H s).isDat) = true) : RefOk C vf st refs := by
  unfold refsChk at h
  simp only [Bool.and_eq_true, List.all_eq_true, List.mem_range] at h
  obtain ⟨h1, h2, h3⟩ := h
  refine ⟨by simpa using h1, nodupB_spec h2, fun k s hs => ?_, fun s hs => ?_⟩
  · have hk := (List.getElem?_eq_some_iff.1 hs).1
    have := h3 k hk
    rw [hs] at this
    obtain ⟨t, h1, h2⟩ := varEq_spec this
    exact ⟨t, h1, h2⟩
  · have := List.all_eq_true.1 hf s hs
    cases hb : getB st.H s with
    | f d => exact ⟨d, rfl⟩
    | _ => rw [hb] at this; cases this
theorem ref_ren {C : Ctx} {g : G} {st : St} {vf : VFunc} {refs : List Nat} {n : Nat} (h : RefOk C vf st refs) : ∀ s k, idx s refs 0 = some k → (ctxOf C.P C.Φ vf n).bt k = C.bt s ∧ ((callG g refs).rho k = g.rho s ∧ (callG g refs).cp k = g.cp s) ∧ getB (refs.map fun s => getB st.H s) k = getB st.H s := by
  intro s k hi
  obtain ⟨_, q1, q2⟩ := idx_spec s refs 0 k hi
  rw [Nat.sub_zero] at q1 q2
  obtain ⟨t, h1, h2⟩ := h.bt k s q2
  refine ⟨by simp only [ctxOf]; rw [h1, h2], ⟨by simp only [callG, q2, Option.bind_some], by simp only [callG, q2]⟩, ?_⟩
  have : refs[k] = s := by rw [List.getElem?_eq_getElem q1] at q2; injection q2
  simp [getB, q1, this]
def chkCall (C : Ctx) (Γ : List Ty) (dst : Option Nat) (op : Op) (h : Nat) (args : List Opd) (refs : List Nat) : Bool :=
  match vcallOf op, C.Φ h with
  | some (.func f, xs, _), some vf => refsChk C vf refs && vf.fid == f && funcOk C.P vf && cloOk C Γ xs args vf.ptys && resTy C.P Γ dst vf.rty
  | _, _ => false
def StepW (C : Ctx) (Γ : List Ty) (g0 : G) (w0 : World) (o : Oper) (st' : St) (a : Act) (w : World) : Prop :=
  ∀ (K : Act → World → Prop) (Q : Exit → Act → World → Prop), (∀ a' w' g', Inv C Γ g0 w0 g' st' a' w' → K a' w') → o.wp C.P a w K Q
theorem Step.wp {o : Oper} {vo : VOper} (h : Step C Γ g0 w0 o vo st a w) : StepW C Γ g0 w0 o (applyE vo (sem vo.op st.get st.H) st) a w := by
  intro K Q hK
  obtain ⟨v, w', g', h1, h2⟩ := h
  unfold Oper.wp
  rcases h1 with h1 | ⟨h1, rfl⟩
  · rw [h1, Oper.upon_value]; exact hK _ _ _ h2
  · rw [h1, Oper.upon_skip]; exact hK _ _ _ h2
theorem map_rd_ren {args : List Opd} {ρ : Nat → V} {refs : List Nat} : callArgs ρ args refs = V.renAll refs (args.map fun x => x.rd ρ) := by
  unfold callArgs
  induction args with
  | nil => rfl
  | cons x xs ih => simp only [List.map_cons, V.renAll, ih]
theorem snd_call {F : CallF} (hF : FnOk C.P C.Φ F) (hI : Inv C Γ g0 w0 g st a w) {o : Oper} {vo : VOper} {h : Nat} {args : List Opd} {refs : List Nat} (hd : o.dst = vo.dst) (hv : vo.op = .call h args refs) (hc : chkCall C Γ vo.dst o.op h args refs = true) {e : E}
    (he : opEff C.Φ F vo.op st.get st.H = some e) : StepW C Γ g0 w0 o (applyE vo e st) a w := by
  intro K Q hK
  unfold chkCall at hc
  split at hc
  · rename_i f xs ts vf ho hvf
    replace ho := vcallOf_eq ho
    simp only [Bool.and_eq_true] at hc
    obtain ⟨⟨⟨⟨h1, h3⟩, h4⟩, h5⟩, h6⟩ := hc
    have hfid : vf.fid = f := by simpa using h3
    subst hfid
    rw [hv] at he
    simp only [opEff] at he
    rw [cond_eq_ite] at he
    split at he
    · rename_i hall
      have hrf := refsChk_ok h1 hall
      obtain ⟨r, hr, rfl⟩ := Option.map_eq_some_iff.1 he
      obtain ⟨r, H'⟩ := r
      obtain ⟨hr, hlens⟩ := lenH_some hvf hr
      obtain ⟨q1, q2, q3⟩ := clo_vals hI .ret 0 h5
      rw [map_rd_ren] at hr
      obtain ⟨k1, k2⟩ := RVs.ren (C := C) (g := g) (C' := ctxOf C.P C.Φ vf w.heap.size) (g' := callG g refs) (H' := refs.map fun s => getB st.H s) (w' := w) (Y := .ret) rfl rfl (Sub.refl _) (ref_ren hrf) _ 0 q1
      have := hF h vf _ _ r H' hvf hr (callG g refs) w (xs.map a.eval).toArray hI.cells (handed_of hI hrf) (by simp only [List.size_toArray, List.length_map, k2]; exact q3) (by rw [k2]; simp [q2]) k1
      unfold Oper.wp
      rw [run_call (arr := #[]) ho rfl h4, Oper.upon_enter]
      simp only [Array.append_empty]
      refine Calls.mono this fun e w' he => ?_
      obtain ⟨v, g', rfl, hv', hb, hgv⟩ := he
      refine hK _ _ (mergeG g g' w.heap.size vo.dst) ?_
      rw [hd]
      refine hI.called hrf h6 hv' hb hgv (fun k s e hs hbt => ?_)
      have hkl := (List.getElem?_eq_some_iff.1 hs).1
      obtain ⟨t, ht1, ht2⟩ := hrf.bt k s hs
      rw [hbt] at ht2; injection ht2 with ht2; subst ht2
      have hHl : k < H'.length := by
        obtain ⟨d, hd, _⟩ := hgv k (show k < vf.nin by rw [← hrf.len]; exact hkl)
        rcases Nat.lt_or_ge k H'.length with h | h
        · exact h
        · simp [getB, List.getElem?_eq_none h] at hd
      have := lenEq_spec hlens k e ht1 (by simpa using hkl) hHl
      rw [this]
      have e2 : refs[k] = s := by rw [List.getElem?_eq_getElem hkl] at hs; injection hs
      simp [getB, hkl, e2]
    · cases he
  · cases hc
def chkCallv (C : Ctx) (Γ : List Ty) (dst : Option Nat) (op : Op) (x : Opd) (args : List Opd) (tys : List Ty) (refs : List Nat) : Bool :=
  match vcallOf op, x, tys with
  | some (.tmp n, xs, _), .t m, τ :: τs => n == m && decide (n < Γ.length) && refs.isEmpty && cloOk C Γ xs args τs && resTy C.P Γ dst τ
  | _, _, _ => false
theorem RVs_append {H : List V} {X : Own} : ∀ {ts ts' : List Ty} {xs xs' : List V} {vs vs' : List Value} (n : Nat), ts.length = xs.length → vs.length = xs.length → RVs C g H w X n ts xs vs → RVs C g H w X (n + xs.length) ts' xs' vs' → RVs C g H w X n (ts ++ ts') (xs ++ xs') (vs ++ vs')
  | [], ts', [], xs', [], vs', n, _, _, _, h => by simpa using h
  | [], ts', [], xs', _ :: _, vs', n, _, h, _, _ => by simp at h
  | [], ts', _ :: _, xs', vs, vs', n, h, _, _, _ => by simp at h
  | _ :: _, ts', [], xs', vs, vs', n, h, _, _, _ => by simp at h
  | t :: ts, ts', x :: xs, xs', [], vs', n, _, h, _, _ => by simp at h
  | t :: ts, ts', x :: xs, xs', v :: vs, vs', n, h1, h2, h, h' => by
    simp only [RVs, List.cons_append] at *
    exact ⟨h.1, RVs_append (n + 1) (by simpa using h1) (by simpa using h2) h.2 (by rw [show n + 1 + xs.length = n + (x :: xs).length by simp; omega]; exact h')⟩
theorem snd_callv {F : CallF} (hF : FnOk C.P C.Φ F) (hT : ∀ h vf, C.Φ h = some vf → funcOk C.P vf = true) (hI : Inv C Γ g0 w0 g st a w) {o : Oper} {vo : VOper} {x : Opd} {args : List Opd} {tys : List Ty} {refs : List Nat} (hd : o.dst = vo.dst) (hv : vo.op = .callv x args tys refs) (hc : chkCallv C Γ vo.dst o.op x args tys refs = true) {e : E}
    (he : opEff C.Φ F vo.op st.get st.H = some e) : StepW C Γ g0 w0 o (applyE vo e st) a w := by
  intro K Q hK
  unfold chkCallv at hc
  split at hc
  · rename_i n xs ts m τ τs ho
    replace ho := vcallOf_eq ho
    simp only [Bool.and_eq_true, List.isEmpty_iff, decide_eq_true_eq] at hc
    obtain ⟨⟨⟨⟨h1, h2⟩, h3⟩, h4⟩, h5⟩ := hc
    have : n = m := by simpa using h1
    subst this
    subst h3
    have hx := RV.rd (Y := .ret) _ (hI.slot (List.getElem?_eq_getElem h2))
    rw [hv] at he
    simp only [opEff, List.map_nil, Opd.rd, Opd.ev] at he
    cases hs : (st.get n).rd with
    | fn k caps ctys =>
      rw [hs] at hx he
      simp only [RV] at hx
      obtain ⟨vf, arr, hvf, e1, e2, e3, e4⟩ := hx
      simp only [hvf] at he
      rw [cond_eq_ite] at he
      split at he
      · rename_i hq
        simp only [Bool.and_eq_true] at hq
        obtain ⟨hq1, hq2⟩ := hq
        have hnin : vf.nin = 0 := by simpa using hq2
        have hty := Ty.eqAll_eq _ _ hq1
        simp only [List.cons_append, List.cons.injEq] at hty
        obtain ⟨hty1, hty2⟩ := hty
        obtain ⟨r, hr, rfl⟩ := Option.map_eq_some_iff.1 he
        obtain ⟨r, H'⟩ := r
        obtain ⟨q1, q2, q3⟩ := clo_vals hI .ret 0 h4
        rw [map_rd_ren] at hr
        have e5 : (args.map fun x => x.rd st.get).length = args.length := by simp
        have hrf : RefOk C vf st [] := ⟨by simpa using hnin.symm, List.nodup_nil, fun k s h => by simp at h, fun s h => by simp at h⟩
        obtain ⟨k1, k2⟩ := RVs.ren (C := C) (g := g) (C' := ctxOf C.P C.Φ vf w.heap.size) (g' := callG g []) (H' := []) (w' := w) (Y := .ret) (refs := []) rfl rfl (Sub.refl _) (fun s k h => by cases h) _ 0 q1
        obtain ⟨k3, k4⟩ := RVs.ren (C := C) (g := g) (C' := ctxOf C.P C.Φ vf w.heap.size) (g' := callG g []) (H' := []) (w' := w) (Y := .ret) (refs := []) rfl rfl (Sub.refl _) (fun s k h => by cases h) _ (0 + (V.renAll [] (args.map fun x => x.rd st.get)).length) e4
        have k5 := RVs_append (C := ctxOf C.P C.Φ vf w.heap.size) (g := callG g []) 0 (by rw [k2, e5]; exact q2) (by rw [k2, e5, List.length_map]; exact q3) k1 k3
        rw [← hty2] at k5
        have := hF k vf _ [] r H' hvf hr (callG g []) w ((xs.map a.eval).toArray ++ arr) hI.cells (handed_of hI hrf) (by simp only [Array.size_append, List.size_toArray, List.length_map, List.length_append, k2, k4]; omega) (by rw [hty2]; simp only [List.length_append, k2, k4, e5]; omega) (by simpa using k5)
        unfold Oper.wp
        rw [run_call (vf := vf) (arr := arr) ho e1 (hT k vf hvf), Oper.upon_enter]
        refine Calls.mono this fun e w' he => ?_
        obtain ⟨v, g', rfl, hv', hb, hgv⟩ := he
        refine hK _ _ (mergeG g g' w.heap.size vo.dst) ?_
        rw [hd]
        exact hI.called hrf (hty1 ▸ h5) hv' hb hgv (fun k s e h => by simp at h)
      · cases he
    | _ => rw [hs] at he; cases he
  · cases hc
end
end Go.Vam
