/- THE SHADOW MACHINE, 25: what a row reads is data. -/
import Derived.Test.YtcpbgimpopcfoaaVAA
import GoSem.ClaimChange
import Derived.DataReads
import GoSem.ClaimWide
set_option linter.unusedVariables false
namespace Go.Vam
def cellsOf (w : World) : Cells := fun b o => w.cell? ⟨b, o, none⟩
theorem mapM_range {β : Type} {f : Nat → Option β} {n : Nat} {r : List β} (h : (List.range n).mapM f = some r) (i : Nat) (hi : i < n) : ∃ y, f i = some y := by
  obtain ⟨y, h1, _⟩ := mapM_get h i i (by simp [hi])
  exact ⟨y, h1⟩
def plainT (P : Program) (l : List Nat) (t : Nat) : Bool :=
  match P.underlying t with
    | some .bool | some (.int _) | some (.float .f64) | some .string => true
    | some (.slice e) => decide (0 < P.cellsOf e) && l.contains e
    | some (.struct fs) => (fs.toList.all fun f => l.contains f.type) && (List.range (P.cellsOf t)).all fun j => fs.toList.any fun f => decide (f.offset ≤ j) && decide (j < f.offset + P.cellsOf f.type)
    | some (.array m e) => l.contains e && m * P.cellsOf e == P.cellsOf t
    | _ => false
def plainAll (P : Program) (l : List Nat) : Bool := l.all (plainT P l)
theorem exists_list {α : Type} {p : Nat → α → Prop} : ∀ n, (∀ i, i < n → ∃ x, p i x) → ∃ l : List α, l.length = n ∧ ∀ i (h : i < l.length), p i l[i]
  | 0, _ => ⟨[], rfl, fun i h => by simp at h⟩
  | n + 1, h => by
    obtain ⟨l, h1, h2⟩ := exists_list n fun i hi => h i (by omega)
    obtain ⟨x, hx⟩ := h n (by omega)
    refine ⟨l ++ [x], by simp [h1], fun i hi => ?_⟩
    by_cases hin : i < l.length
    · rw [List.getElem_append_left hin]; exact h2 i hin
    · have : i = n := by simp at hi; omega
      subst this
      rw [List.getElem_append_right (by omega)]
      simp [h1]
      exact hx
theorem cell_spot {w : World} {a : Addr} {v : Value} (h : w.cell? a = some v) : a.spot = none := by
  unfold World.cell? at h
  split at h
  · split at h
    · cases h
    · rename_i hs; simpa using hs
  · cases h
theorem trod_rf {H : Type} {enc : TypeId × Value → H} {P : Program} {w : World} {base : Nat} {spare : Nat → Bool} {held : Bool} {n : List Nat} (hall : plainAll P n = true) : ∀ (fuel : Nat) {t : Nat} {cs : List Value} {d : DataW H} {ps : List MemPlace}, n.contains t = true → DataW.trod enc P w base spare held fuel t cs = some (d, ps) → ∃ x, RF P (cellsOf w) t x cs
  | 0, t, cs, d, ps, hp, h => by simp [DataW.trod] at h
  | fuel + 1, t, cs, d, ps, hp, h => by
    replace hp : plainT P n t = true := List.all_eq_true.1 hall t (List.contains_iff_mem.1 hp)
    rw [plainT] at hp
    rw [DataW.trod.eq_def] at h
    simp only at h
    split at hp
    · rename_i hu; rw [hu] at h
      split at h <;> simp_all
      exact ⟨_, .b hu⟩
    · rename_i k hu; rw [hu] at h
      split at h <;> simp_all
      have h3 := h.1.2
      simp only [Lit.wf, Bool.and_eq_true, decide_eq_true_eq] at h3
      exact ⟨_, .i hu h3⟩
    · rename_i hu; rw [hu] at h
      split at h <;> try (simp_all; done)
      rename_i k0 k' b' hk0
      split at h
      · rename_i hk
        injection hk0 with hk0; injection hk0 with hk0
        have : k' = .f64 := hk.1.trans hk0.symm
        subst this
        have h3 := hk.2
        rw [← hk0] at h3
        simp only [Lit.wf, decide_eq_true_eq] at h3
        exact ⟨_, .f hu ⟨.inl rfl, by omega⟩⟩
      · cases h
    · rename_i hu; rw [hu] at h
      split at h <;> simp_all
      exact ⟨_, .s hu h.1⟩
    · rename_i e hu; rw [hu] at h
      simp only [Bool.and_eq_true, decide_eq_true_eq] at hp
      split at h <;> try (simp_all; done)
      · exact ⟨_, .nils hu (.inl rfl)⟩
      · rename_i e' a len cap he
        injection he with he; injection he with he; subst he
        split at h
        · rename_i hb
          obtain ⟨elems, h1, h2⟩ := Option.bind_eq_some_iff.1 h
          have hspot : 0 < len → a.spot = none := by
            intro hlen0
            obtain ⟨y, hy⟩ := mapM_range h1 0 hlen0
            obtain ⟨cs', hc, hy⟩ := Option.bind_eq_some_iff.1 hy
            obtain ⟨_, hl, hcell⟩ := World.cells?_some hc
            have h0 := hcell 0 hp.1
            have h00 : 0 < cs'.length := by omega
            rw [List.getElem?_eq_getElem h00] at h0
            have e0 : (a.add (0 * P.cellsOf e)).add 0 = a := by simp [Addr.add]
            rw [e0] at h0
            exact cell_spot h0
          have hel : ∀ i, i < len → ∃ q : D × List Value, RF P (cellsOf w) e q.1 q.2 ∧ q.2.length = P.cellsOf e ∧ a.spot = none ∧ ∀ j v, q.2[j]? = some v → cellsOf w a.block (a.off + (i * P.cellsOf e + j)) = some v := by
            intro i hi
            obtain ⟨y, hy⟩ := mapM_range h1 i hi
            obtain ⟨cs', hc, hy⟩ := Option.bind_eq_some_iff.1 hy
            obtain ⟨_, hl, hcell⟩ := World.cells?_some hc
            obtain ⟨x, hx⟩ := trod_rf hall fuel hp.2 (show DataW.trod enc P w base spare held fuel e cs' = some (y.1, y.2) from hy)
            have hsp := hspot (by omega)
            refine ⟨(x, cs'), hx, hl, hsp, fun j v hj => ?_⟩
            have hjl : j < P.cellsOf e := by have := (List.getElem?_eq_some_iff.1 hj).1; simp only at this; omega
            have := hcell j hjl
            rw [hj] at this
            obtain ⟨b, o, sp⟩ := a
            simp only at hsp; subst hsp
            rw [add_none, add_none] at this
            rw [← Nat.add_assoc]
            exact this
          obtain ⟨l, l1, l2⟩ := exists_list len hel
          refine ⟨.sl (l.map (·.1)), ?_⟩
          have hlen : (l.map (·.1)).length = len := by simp [l1]
          rw [← hlen]
          refine .slc hu (.inl rfl) (by rw [hlen]; exact ⟨hb.2.1, Nat.le_trans hb.2.1 hb.2.2⟩) (fun hpos => (l2 0 (by rw [hlen] at hpos; omega)).2.2.1) (fun i => (l.getD i (.nil, [])).2) (fun i hi => ?_) (fun i hi => ?_) (fun i hi j v hv => ?_)
          · have hi' : i < l.length := by simpa using hi
            have := (l2 i hi').1
            simpa [hi'] using this
          · have hi' : i < l.length := by simpa using hi
            have := (l2 i hi').2.1
            simpa [hi'] using this
          · have hi' : i < l.length := by simpa using hi
            exact (l2 i hi').2.2.2 j v (by simpa [hi'] using hv)
        · cases h
    · rename_i fs hu; rw [hu] at h
      simp only [Bool.and_eq_true, List.all_eq_true, List.mem_range, List.any_eq_true, decide_eq_true_eq] at hp
      obtain ⟨hp1, hp2⟩ := hp
      split at h <;> try (simp_all; done)
      rename_i cs x0 c2 fs' hfs
      injection hfs with hfs; injection hfs with hfs; subst hfs
      split at h
      · rename_i hlen
        obtain ⟨xs, h1, h2⟩ := Option.map_eq_some_iff.1 h
        have hel : ∀ i, i < fs.size → ∃ x, ∀ h' : i < fs.size, RF P (cellsOf w) fs[i].type x ((cs.drop fs[i].offset).take (P.cellsOf fs[i].type)) := by
          intro i hi
          obtain ⟨y, hy, _⟩ := mapM_get h1 i fs[i] (by simp [hi])
          obtain ⟨x, hx⟩ := trod_rf hall fuel (hp1 fs[i] (by simp)) (show DataW.trod enc P w base spare held fuel fs[i].type _ = some (y.1, y.2) from hy)
          exact ⟨x, fun _ => hx⟩
        obtain ⟨l, l1, l2⟩ := exists_list fs.size hel
        refine ⟨.ag l, .st hu l1 hlen (fun k hk hk' => l2 k hk hk') fun v hv => ?_⟩
        obtain ⟨j, hj, rfl⟩ := List.getElem_of_mem hv
        obtain ⟨f, hf, hf1, hf2⟩ := hp2 j (by omega)
        obtain ⟨k, hk, rfl⟩ := List.getElem_of_mem hf
        have hk' : k < fs.size := by simpa using hk
        have hr := (l2 k (by omega) hk').one
        refine hr _ (List.mem_of_getElem? (i := j - fs[k].offset) ?_)
        simp only [Array.getElem_toList] at hf1 hf2
        rw [List.getElem?_take, if_pos (by omega), List.getElem?_drop, show fs[k].offset + (j - fs[k].offset) = j by omega, List.getElem?_eq_getElem hj]
      · cases h
    · rename_i m e hu; rw [hu] at h
      simp only [Bool.and_eq_true] at hp
      obtain ⟨hp1, hp2⟩ := hp
      have hp2 : m * P.cellsOf e = P.cellsOf t := by simpa using hp2
      split at h <;> try (simp_all; done)
      rename_i cs x0 c2 m' e' hme
      injection hme with hme; injection hme with hme1 hme2; subst hme1; subst hme2
      split at h
      · rename_i hlen
        obtain ⟨xs, h1, h2⟩ := Option.map_eq_some_iff.1 h
        have hel : ∀ i, i < m → ∃ x, RF P (cellsOf w) e x ((cs.drop (i * P.cellsOf e)).take (P.cellsOf e)) := by
          intro i hi
          obtain ⟨y, hy⟩ := mapM_range h1 i hi
          exact trod_rf hall fuel hp1 (show DataW.trod enc P w base spare held fuel e _ = some (y.1, y.2) from hy)
        obtain ⟨l, l1, l2⟩ := exists_list m hel
        refine ⟨.ag l, .ar hu l1 hlen (fun k hk => l2 k hk) ?_⟩
        exact Els.one (P := P) (S := cellsOf w) (e := e) (xs := l) ⟨by rw [l1]; omega, fun i hi => l2 i hi⟩ (by rw [l1]; omega)
      · cases h
    · cases hp
theorem okWide_agg {P : Program} {w : World} {r : Reach} {base t : Nat} {v : Value} (hp : ∃ n, plainT P n t = true) (h : Value.okWide P w r base t v) : AggOk P t v := by
  obtain ⟨n, hp⟩ := hp
  unfold Value.okWide at h
  unfold AggOk
  cases hu : P.underlying t with
  | none => simp [plainT, hu] at hp
  | some d =>
    rw [hu] at h
    cases d <;> simp only at h ⊢ <;> first
      | (obtain ⟨cs, rfl, _⟩ := h; exact ⟨cs, rfl⟩)
      | (intro cs hv; subst hv; simp [Cell.okWide, Cell.ok, hu] at h; done)
      | (simp [plainT, hu] at hp; done)
theorem trod_rt {H : Type} {enc : TypeId × Value → H} {P : Program} {w : World} {base base' : Nat} {spare : Nat → Bool} {held : Bool} {r : Reach} {t : Nat} {v : Value} {d : DataW H} {ps : List MemPlace} (n : List Nat) (hall : plainAll P n = true) (hp : n.contains t = true) (h : DataW.Trod enc P w base spare held t v d ps) (hv : Value.okWide P w r base' t v) : ∃ x, RT P (cellsOf w) (.v t) x v := by
  obtain ⟨fuel, h⟩ := h
  obtain ⟨x, hx⟩ := trod_rf hall fuel hp h
  exact ⟨x, hx, okWide_agg ⟨n, List.all_eq_true.1 hall t (List.contains_iff_mem.1 hp)⟩ hv⟩
end Go.Vam
