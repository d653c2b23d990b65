/- THE SHADOW MACHINE, 11: rows of elements; new blocks. -/
import Derived.Test.YtcpbgimpopcfoaaVJ
import Derived.Great.BuildSlice
import Derived.Deep.Upon
set_option linter.unusedSimpArgs false
set_option linter.unusedVariables false
namespace Go.Vam
def Els (P : Program) (S : Cells) (e : Nat) (xs : List D) (c : List Value) : Prop :=
  xs.length * P.cellsOf e ≤ c.length ∧ ∀ i (h : i < xs.length), RF P S e xs[i] ((c.drop (i * P.cellsOf e)).take (P.cellsOf e))
section
variable {P : Program} {S S' : Cells} {e : Nat} {xs ys : List D} {c c' : List Value}
theorem Els.mono (hs : Sub S S') (h : Els P S e xs c) : Els P S' e xs c := ⟨h.1, fun i hi => (h.2 i hi).mono hs⟩
theorem Els.nil : Els P S e [] c := ⟨by simp, fun i h => by simp at h⟩
theorem part_append {n k : Nat} (c d : List Value) (h : n + k ≤ c.length) : ((c ++ d).drop n).take k = (c.drop n).take k := by
  rw [List.drop_append_of_le_length (by omega), List.take_append_of_le_length (by simp; omega)]
theorem step_le {i n sz : Nat} (h : i < n) : i * sz + sz ≤ n * sz := by
  have := Nat.mul_le_mul_right sz (show i + 1 ≤ n from h)
  rwa [Nat.add_mul, Nat.one_mul] at this
theorem Els.more (d : List Value) (h : Els P S e xs c) : Els P S e xs (c ++ d) :=
  ⟨by have := h.1; simp; omega, fun i hi => by rw [part_append c d (by have := h.1; have := step_le (sz := P.cellsOf e) hi; omega)]; exact h.2 i hi⟩
theorem Els.append (h : Els P S e xs c) (hl : c.length = xs.length * P.cellsOf e) (h' : Els P S e ys c') : Els P S e (xs ++ ys) (c ++ c') := by
  refine ⟨by have := h'.1; simp [Nat.add_mul]; omega, fun i hi => ?_⟩
  by_cases hx : i < xs.length
  · rw [part_append c c' (by have := step_le (sz := P.cellsOf e) hx; omega), List.getElem_append_left hx]
    exact h.2 i hx
  · have hy : i - xs.length < ys.length := by simp at hi; omega
    have e1 : i * P.cellsOf e = c.length + (i - xs.length) * P.cellsOf e := by rw [hl, ← Nat.add_mul]; congr 1; omega
    rw [List.getElem_append_right (by omega), e1, ← List.drop_drop, List.drop_left]
    exact h'.2 _ hy
theorem Els.first (h : Els P S e xs c) : Els P S e xs (c.take (xs.length * P.cellsOf e)) ∧ (c.take (xs.length * P.cellsOf e)).length = xs.length * P.cellsOf e := by
  have hl : (c.take (xs.length * P.cellsOf e)).length = xs.length * P.cellsOf e := by have := h.1; simp; omega
  refine ⟨⟨by omega, fun i hi => ?_⟩, hl⟩
  have := part_append (n := i * P.cellsOf e) (k := P.cellsOf e) (c.take (xs.length * P.cellsOf e)) (c.drop (xs.length * P.cellsOf e)) (by have := step_le (sz := P.cellsOf e) hi; omega)
  rw [List.take_append_drop] at this
  rw [← this]; exact h.2 i hi
theorem Els.one (h : Els P S e xs c) (hl : c.length = xs.length * P.cellsOf e) : ∀ v ∈ c, v.oneCell' = true := by
  intro v hv
  obtain ⟨j, hj, rfl⟩ := List.getElem_of_mem hv
  rcases Nat.eq_zero_or_pos (P.cellsOf e) with h0 | h0
  · rw [h0] at hl; omega
  · have hi : j / P.cellsOf e < xs.length := (Nat.div_lt_iff_lt_mul h0).2 (by omega)
    refine (h.2 _ hi).one _ (List.mem_of_getElem? (i := j % P.cellsOf e) ?_)
    have hm := Nat.mod_lt j h0
    have hdm : j / P.cellsOf e * P.cellsOf e + j % P.cellsOf e = j := by rw [Nat.mul_comm]; exact Nat.div_add_mod _ _
    rw [List.getElem?_take, if_pos hm, List.getElem?_drop, hdm, List.getElem?_eq_getElem hj]
theorem Els.at_ (h : Els P S e xs c) {r : Nat} (hs : ∀ j v, j < xs.length * P.cellsOf e → c[j]? = some v → S r j = some v) : SlAt P S e ⟨r, 0, none⟩ xs := by
  refine ⟨fun _ => rfl, fun i => (c.drop (i * P.cellsOf e)).take (P.cellsOf e), h.2, fun i hi => ?_, fun i hi j v hv => ?_⟩
  · have := h.1; have := step_le (sz := P.cellsOf e) hi; simp; omega
  · obtain ⟨h1, h2⟩ := getElem?_part hv
    rw [show (⟨r, 0, none⟩ : Addr).off = 0 from rfl, Nat.zero_add]
    exact hs _ _ (by have := step_le (sz := P.cellsOf e) hi; omega) h1
theorem SlAt.news {w : World} (hw : ∀ b o v, S b o = some v → w.cell? ⟨b, o, none⟩ = some v) {ad : Addr} (h : SlAt P S e ad xs) (h0 : 0 < xs.length) :
    ∃ news : List Value, news.length = xs.length * P.cellsOf e ∧ (∀ j u, news[j]? = some u → w.cell? (ad.add j) = some u) ∧ Els P S e xs news := by
  obtain ⟨h1, cs, h2, h3, h4⟩ := h
  have hs := h1 h0
  have key : ∀ n, n ≤ xs.length → ∃ news : List Value, news.length = n * P.cellsOf e ∧ (∀ j u, news[j]? = some u → S ad.block (ad.off + j) = some u) ∧ ∀ i (hi : i < n) (hx : i < xs.length), RF P S e xs[i] ((news.drop (i * P.cellsOf e)).take (P.cellsOf e)) := by
    intro n
    induction n with
    | zero => intro _; exact ⟨[], by simp, fun j u hj => by simp at hj, fun i hi => by omega⟩
    | succ n ih =>
      intro hn
      obtain ⟨news, i1, i2, i3⟩ := ih (by omega)
      have hcl := h3 n (by omega)
      refine ⟨news ++ cs n, by rw [List.length_append, i1, hcl, Nat.add_mul, Nat.one_mul], fun j u hj => ?_, fun i hi hx => ?_⟩
      · by_cases hjl : j < news.length
        · rw [List.getElem?_append_left hjl] at hj; exact i2 j u hj
        · rw [List.getElem?_append_right (by omega)] at hj
          have := h4 n (by omega) _ u hj
          rwa [show n * P.cellsOf e + (j - news.length) = j by omega] at this
      · by_cases hin : i < n
        · rw [part_append _ _ (by have := step_le (sz := P.cellsOf e) hin; omega)]; exact i3 i hin hx
        · have : i = n := by omega
          subst this
          rw [← i1, List.drop_left, List.take_of_length_le (by omega)]
          exact h2 i hx
  obtain ⟨news, k1, k2, k3⟩ := key xs.length (Nat.le_refl _)
  refine ⟨news, k1, fun j u hj => ?_, by omega, fun i hi => k3 i hi hi⟩
  have ea : ad.add j = ⟨ad.block, ad.off + j, none⟩ := by
    obtain ⟨b, o, s⟩ := ad
    simp only at hs; subst hs
    exact add_none _ _ _
  rw [ea]
  exact hw _ _ _ (k2 j u hj)
end
def G.add (g : G) (r : Nat) (f : Nat → Option Value) (k : Option Own) : G := ⟨fun b o => if b = r then f o else g.S b o, g.rho, fun b => if b = r then k else g.kap b, g.cp⟩
theorem heap_new (w : World) (n : Nat) (o : Obj) : ((w.drewN n).alloc o).heap[w.heap.size]? = some o := by
  show (w.heap.push o)[w.heap.size]? = some o
  simp
theorem heap_old (w : World) (n : Nat) (o : Obj) {r : Nat} (h : r ≠ w.heap.size) : ((w.drewN n).alloc o).heap[r]? = w.heap[r]? := by
  show (w.heap.push o)[r]? = _
  simp [Array.getElem?_push, h]
section
variable {C : Ctx} {Γ : List Ty} {g0 g : G} {w0 w : World} {st : St} {a : Act}
theorem cell_lt {w : World} {b o : Nat} {v : Value} (h : w.cell? ⟨b, o, none⟩ = some v) : b < w.heap.size := by
  unfold World.cell? at h
  split at h
  · rename_i c t f hc; exact (Array.getElem?_eq_some_iff.1 hc).1
  · cases h
theorem cell_of {w : World} {b o : Nat} {c : Array Value} {t : TypeId} {fz : Nat × Nat} (h : w.heap[b]? = some (.cells c t fz)) : w.cell? ⟨b, o, none⟩ = c[o]? := by
  simp [World.cell?, h]
theorem cell_heap {w w' : World} {b o : Nat} (h : w'.heap[b]? = w.heap[b]?) : w'.cell? ⟨b, o, none⟩ = w.cell? ⟨b, o, none⟩ := by
  simp [World.cell?, h]
theorem Inv.S_new (hI : Inv C Γ g0 w0 g st a w) {r : Nat} (hr : w.heap.size ≤ r) (o : Nat) : g.S r o = none := by
  cases h : g.S r o with
  | none => rfl
  | some v => have := cell_lt (hI.cells _ _ _ h); omega
theorem Inv.fresh {o : VOper} {x : V} {v : Value} {sd : Option (Nat × V)} {f : Nat → Option Value} {k : Option Own} (n : Nat) {c : Array Value} {e : TypeId} (hI : Inv C Γ g0 w0 g st a w)
    (hf : ∀ j u, f j = some u → c[j]? = some u)
    (hs : ∀ m y, sd = some (m, y) → o.dst ≠ some m → ∀ τ, Γ[m]? = some τ → RV C (g.add w.heap.size f k) st.H ((w.drewN n).alloc (.cells c e)) (.slot m) τ y (a.tmps.getD m undef))
    (hv : ∀ d, o.dst = some d → ∃ τ, Γ[d]? = some τ ∧ RV C (g.add w.heap.size f k) st.H ((w.drewN n).alloc (.cells c e)) (.slot d) τ x v) {ok : Bool} :
    Inv C Γ g0 w0 (g.add w.heap.size f k) (applyE o { ok, v := x, sd, H := st.H } st) (a.put o.dst v) ((w.drewN n).alloc (.cells c e)) := by
  have hb := hI.base
  have hsub : Sub g.S (g.add w.heap.size f k).S := by
    intro b o v h
    have : b ≠ w.heap.size := fun e => by rw [e, hI.S_new (Nat.le_refl _)] at h; cases h
    simp [G.add, this, h]
  have hk : Keeps C g st.H w (g.add w.heap.size f k) st.H ((w.drewN n).alloc (.cells c e)) (fun _ => False) := by
    refine ⟨hsub, fun r X h1 _ h2 => ?_, fun s h => ⟨h, fun _ _ => rfl, rfl⟩⟩
    have : r ≠ w.heap.size := by omega
    exact ⟨by simp [G.add, this, h1], heap_old _ _ _ this, fun o => by simp [G.add, this]⟩
  refine hI.step hk (fun _ h => h.elim) hs hv (fun s h => (hI.blocks s h).keeps hk (fun h => h) rfl) ?_ ?_ ?_ ?_ ?_ ?_ hI.rho
  · intro b o v h
    by_cases hbb : b = w.heap.size
    · subst hbb
      simp only [G.add, if_true] at h
      rw [cell_of (heap_new w n _)]
      exact hf _ _ h
    · simp only [G.add, hbb, if_false] at h
      rw [cell_heap (heap_old w n _ hbb)]
      exact hI.cells _ _ _ h
  · obtain ⟨q1, q2, q3, q4, q5⟩ := hI.frm
    exact ⟨q1, q2, q3, by simp [World.size_alloc]; omega, fun r h1 h2 => (heap_old w n _ (by omega)).trans (q5 r h1 h2)⟩
  · intro r hr; rw [← hI.kap r hr]; simp [G.add, show r ≠ w.heap.size by omega]
  · intro r o hr; rw [← hI.sold r o hr]; simp [G.add, show r ≠ w.heap.size by omega]
  · exact hI.ext.trans hsub
  · simp [World.size_alloc]; omega
theorem Inv.turn {o : VOper} {x : V} {v : Value} {sd : Option (Nat × V)} {g' : G} {w' : World} {Z : Own → Prop} {r : Nat} {X : Own} (hI : Inv C Γ g0 w0 g st a w) (hr : C.base ≤ r) (hX : Z X.root) (hX' : ∀ s, X.root ≠ .site s) (hZs : ∀ s, ¬ Z (.site s))
    (hkr : g.kap r = some X) (hrr : ∀ s, g'.loc s = g.loc s) (hsz : w'.heap.size = w.heap.size) (hother : ∀ b, b ≠ r → w'.heap[b]? = w.heap[b]? ∧ g'.kap b = g.kap b ∧ ∀ o, g'.S b o = g.S b o) (hos : w'.os = w.os) (htp : w'.tape = w.tape) (hout : w'.output = w.output)
    (hsub : Sub g.S g'.S) (hcell : ∀ j u, g'.S r j = some u → w'.cell? ⟨r, j, none⟩ = some u)
    (hZ : ∀ n, Z (.slot n) → o.dst = some n ∨ ∃ y, sd = some (n, y))
    (hs : ∀ m y, sd = some (m, y) → o.dst ≠ some m → ∀ τ, Γ[m]? = some τ → RV C g' st.H w' (.slot m) τ y (a.tmps.getD m undef))
    (hv : ∀ d, o.dst = some d → ∃ τ, Γ[d]? = some τ ∧ RV C g' st.H w' (.slot d) τ x v) {ok : Bool} :
    Inv C Γ g0 w0 g' (applyE o { ok, v := x, sd, H := st.H } st) (a.put o.dst v) w' := by
  have hk : Keeps C g st.H w g' st.H w' Z := by
    refine ⟨hsub, fun b Y h1 h2 h3 => ?_, fun s h => ⟨h, fun _ _ => rfl, hrr s⟩⟩
    have : b ≠ r := fun e => by subst e; rw [hkr] at h1; injection h1 with h1; subst h1; exact h2 hX
    obtain ⟨k1, k2, k3⟩ := hother b this
    exact ⟨k2.trans h1, k1, k3⟩
  refine hI.step hk hZ hs hv (fun s h => (hI.blocks s h).keeps hk (hZs s) (hrr s)) ?_ ?_ ?_ ?_ ?_ ?_ (fun s hs => (hrr s).trans (hI.rho s hs))
  · intro b o v h
    by_cases hb : b = r
    · subst hb; exact hcell _ _ h
    · obtain ⟨k1, k2, k3⟩ := hother b hb
      rw [k3] at h
      rw [cell_heap k1]
      exact hI.cells _ _ _ h
  · obtain ⟨q1, q2, q3, q4, q5⟩ := hI.frm
    exact ⟨hos.trans q1, htp.trans q2, hout.trans q3, by omega, fun b h1 h2 => by rw [(hother b (by omega)).1]; exact q5 b h1 h2⟩
  · intro b hb; rw [(hother b (by omega)).2.1]; exact hI.kap b hb
  · intro b o hb; rw [(hother b (by omega)).2.2]; exact hI.sold b o hb
  · exact hI.ext.trans hsub
  · have := hI.base; omega
end
end Go.Vam
