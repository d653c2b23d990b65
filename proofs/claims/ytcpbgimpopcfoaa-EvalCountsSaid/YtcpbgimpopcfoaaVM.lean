/- THE SHADOW MACHINE, 13: literals. -/
import Derived.Test.YtcpbgimpopcfoaaVL
set_option linter.unusedSimpArgs false
set_option linter.unusedVariables false
namespace Go.Vam
theorem part_ext {c c' : List Value} {n m : Nat} (h : ∀ k, n ≤ k → k < n + m → c[k]? = c'[k]?) : (c.drop n).take m = (c'.drop n).take m := by
  apply List.ext_getElem?
  intro j
  rw [List.getElem?_take, List.getElem?_take, List.getElem?_drop, List.getElem?_drop]
  split
  · exact h _ (by omega) (by omega)
  · rfl
abbrev Places := Nat → Option (Nat × Nat × Nat)
def Parts (P : Program) (S : Cells) (pl : Places) (ds : List D) (c : List Value) : Prop := ∀ k (h : k < ds.length) o s t, pl k = some (o, s, t) → RF P S t ds[k] ((c.drop o).take s)
structure Apart (pl : Places) (n : Nat) : Prop where
  fits : ∀ k o s t, pl k = some (o, s, t) → o + s ≤ n
  off : ∀ i j o s t o' s' t', i ≠ j → pl i = some (o, s, t) → pl j = some (o', s', t') → o + s ≤ o' ∨ o' + s' ≤ o
section
variable {C : Ctx} {Γ : List Ty} {g0 g : G} {w0 w : World} {st : St} {a : Act}
def partsChk (C : Ctx) (Γ : List Ty) (pl : Places) : List (Nat × Operand) → List (Nat × Opd) → Bool
  | [], [] => true
  | (k, x) :: xs, (k', y) :: ys => k == k' && (match pl k with | some (_, s, t) => s == C.P.cellsOf t && cellsOk C.P t && opd C Γ x y (.v t) | none => false) && partsChk C Γ pl xs ys
  | _, _ => false
theorem fillD_len : ∀ (l : List (Nat × D)) (z : List D), (fillD z l).length = z.length
  | [], z => rfl
  | (k, d) :: l, z => by simp [fillD, fillD_len l]
theorem fill_spec (hI : Inv C Γ g0 w0 g st a w) {pl : Places} {place : Nat → Option (Nat × Nat)} {n : Nat} (hap : Apart pl n) (hpl : ∀ k o s t, pl k = some (o, s, t) → place k = some (o, s)) :
    ∀ {xs : List (Nat × Operand)} {ys : List (Nat × Opd)}, partsChk C Γ pl xs ys = true → ys.all (fun q => q.2.isD st.get) = true → ∀ (z : List D) (cells : Array Value), cells.size = n → (∀ v ∈ cells.toList, v.oneCell' = true) → Parts C.P g.S pl z cells.toList →
    ∃ r, Instr.fill place cells (xs.map fun q => (q.1, a.eval q.2)) = some r ∧ r.size = n ∧ (∀ v ∈ r.toList, v.oneCell' = true) ∧ Parts C.P g.S pl (fillD z (ys.map fun q => (q.1, q.2.d st.get))) r.toList
  | [], [], _, _, z, cells, hn, h1, hp => ⟨cells, rfl, hn, h1, hp⟩
  | [], _ :: _, h, _, _, _, _, _, _ => by cases h
  | _ :: _, [], h, _, _, _, _, _, _ => by cases h
  | (k, x) :: xs, (k', y) :: ys, h, hd, z, cells, hn, h1, hp => by
    simp only [partsChk, Bool.and_eq_true] at h
    obtain ⟨⟨hk, hx⟩, hr⟩ := h
    have : k = k' := by simpa using hk
    subst this
    simp only [List.all_cons, Bool.and_eq_true] at hd
    split at hx
    · rename_i o s t hpk
      simp only [Bool.and_eq_true] at hx
      obtain ⟨⟨hs, hco⟩, hx⟩ := hx
      have : s = C.P.cellsOf t := by simpa using hs
      subst this
      have hv := hI.d hx hd.1
      have hl : (a.eval x).cells.size = C.P.cellsOf t := by simpa using hv.1.len hco
      have hfit := hap.fits _ _ _ _ hpk
      obtain ⟨f1, f2⟩ := Great.foldl_set o (a.eval x).cells.toList 0 cells
      simp only [Nat.add_zero, Array.length_toList, hl] at f2
      have hfold : (a.eval x).cells.zipIdx.foldl (fun cs (q : Value × Nat) => cs.setIfInBounds (o + q.2) q.1) cells = ((a.eval x).cells.toList.zipIdx 0).foldl (fun cs (q : Value × Nat) => cs.setIfInBounds (o + q.2) q.1) cells := by
        rw [← Array.foldl_toList, Array.toList_zipIdx]
      generalize hcs : ((a.eval x).cells.toList.zipIdx 0).foldl (fun cs (q : Value × Nat) => cs.setIfInBounds (o + q.2) q.1) cells = cs' at f1 f2 hfold
      have hsz : cs'.size = n := f1.trans hn
      have hpart : (cs'.toList.drop o).take (C.P.cellsOf t) = (a.eval x).cells.toList := by
        apply List.ext_getElem?
        intro j
        rw [List.getElem?_take, List.getElem?_drop]
        split
        · rename_i hj
          have := f2 (o + j)
          rw [if_pos ⟨by omega, by omega, by omega⟩, Nat.add_sub_cancel_left] at this
          simpa using this
        · rename_i hj
          rw [List.getElem?_eq_none]; simp; omega
      have hone : ∀ v ∈ cs'.toList, v.oneCell' = true := by
        intro v hv'
        obtain ⟨j, hj, rfl⟩ := List.getElem_of_mem hv'
        have h2 := f2 j
        have h3 : cs'[j]? = some cs'.toList[j] := by simp at hj; simp [hj]
        rw [h3] at h2
        split at h2
        · exact hv.1.one _ (List.mem_of_getElem? h2.symm)
        · exact h1 _ (List.mem_of_getElem? (i := j) (by simpa using h2.symm))
      have hparts : Parts C.P g.S pl (z.set k (y.d st.get)) cs'.toList := by
        intro k2 hk2 o2 s2 t2 hp2
        by_cases hkk : k = k2
        · subst hkk
          rw [hpk] at hp2; injection hp2 with hp2; injection hp2 with q1 q2; injection q2 with q2 q3
          subst q1; subst q2; subst q3
          rw [List.getElem_set_self, hpart]
          exact hv.1
        · rw [List.getElem_set_ne hkk]
          have := hp k2 (by simpa using hk2) _ _ _ hp2
          rw [part_ext (c := cs'.toList) (c' := cells.toList)]
          · exact this
          · intro j hj1 hj2
            have h2 := f2 j
            rw [if_neg] at h2
            · simpa using h2
            · rcases hap.off _ _ _ _ _ _ _ _ hkk hpk hp2 with h | h <;> omega
      obtain ⟨r, r1, r2, r3, r4⟩ := fill_spec hI hap hpl hr hd.2 (z.set k (y.d st.get)) cs' hsz hone hparts
      refine ⟨r, ?_, r2, r3, r4⟩
      rw [List.map_cons, Instr.fill, hpl _ _ _ _ hpk]
      simp only
      rw [if_neg (by simp; omega)]
      rw [← r1]
      congr 1
    · cases hx
def placesS (P : Program) (fs : Array Field) : Places := fun k => (fs[k]?).map fun f => (f.offset, P.cellsOf f.type, f.type)
def placesA (P : Program) (n e : Nat) : Places := fun k => if k < n then some (k * P.cellsOf e, P.cellsOf e, e) else none
theorem placesA_apart {P : Program} {n e : Nat} : Apart (placesA P n e) (n * P.cellsOf e) := by
  refine ⟨fun k o s t h => ?_, fun i j o s t o' s' t' hij h h' => ?_⟩
  · unfold placesA at h
    split at h
    · rename_i hk
      simp only [Option.some.injEq, Prod.mk.injEq] at h
      obtain ⟨rfl, rfl, rfl⟩ := h
      exact step_le hk
    · cases h
  · have key : ∀ {k o s t}, placesA P n e k = some (o, s, t) → o = k * P.cellsOf e ∧ s = P.cellsOf e := by
      intro k o s t h
      unfold placesA at h
      split at h
      · simp only [Option.some.injEq, Prod.mk.injEq] at h
        exact ⟨h.1.symm, h.2.1.symm⟩
      · cases h
    obtain ⟨rfl, rfl⟩ := key h
    obtain ⟨rfl, rfl⟩ := key h'
    rcases Nat.lt_or_gt_of_ne hij with h | h
    · exact .inl (step_le h)
    · exact .inr (step_le h)
theorem placesS_apart {P : Program} {t : Nat} {fs : Array Field} (h : ∀ k f, fs[k]? = some f → fldGood P t fs k f = true) : Apart (placesS P fs) (P.cellsOf t) := by
  refine ⟨fun k o s t' hk => ?_, fun i j o s t o' s' t' hij hi hj => ?_⟩
  · unfold placesS at hk
    obtain ⟨f, hf, he⟩ := Option.map_eq_some_iff.1 hk
    simp only [Prod.mk.injEq] at he
    obtain ⟨rfl, rfl, rfl⟩ := he
    have := h k f hf
    unfold fldGood at this
    simp only [Bool.and_eq_true, decide_eq_true_eq] at this
    exact this.1
  · unfold placesS at hi hj
    obtain ⟨f, hf, he⟩ := Option.map_eq_some_iff.1 hi
    obtain ⟨f', hf', he'⟩ := Option.map_eq_some_iff.1 hj
    simp only [Prod.mk.injEq] at he he'
    obtain ⟨rfl, rfl, rfl⟩ := he
    obtain ⟨rfl, rfl, rfl⟩ := he'
    have := h i f hf
    unfold fldGood at this
    simp only [Bool.and_eq_true, List.all_eq_true, List.mem_range] at this
    have := this.2 j (Array.getElem?_eq_some_iff.1 hf').1
    rw [hf'] at this
    simp only [Bool.or_eq_true, decide_eq_true_eq] at this
    rcases this with h | h | h
    · exact absurd (show j = i by simpa using h) (Ne.symm hij)
    · exact .inr h
    · exact .inl h
theorem mapM_get {α β : Type} {f : α → Option β} : ∀ {l : List α} {r : List β}, l.mapM f = some r → ∀ (k : Nat) (x : α), l[k]? = some x → ∃ y, f x = some y ∧ r[k]? = some y
  | [], r, h, k, x, hk => by simp at hk
  | y :: l, r, h, k, x, hk => by
    simp only [List.mapM_cons, Option.bind_eq_bind, Option.pure_def] at h
    cases hy : f y with
    | none => simp [hy] at h
    | some b =>
      cases hl : l.mapM f with
      | none => simp [hy, hl] at h
      | some r' =>
        simp [hy, hl] at h
        subst h
        cases k with
        | zero => simp at hk; subst hk; exact ⟨b, hy, rfl⟩
        | succ k => simpa using mapM_get hl k x (by simpa using hk)
def chkBuild (C : Ctx) (Γ : List Ty) (dst : Option Nat) (op : Op) (z : D) (parts : List (Nat × Opd)) : Bool :=
  match op with
  | .build t ps => zeroOk C.P t z && resTy C.P Γ dst (.v t) && (match C.P.underlying t with
    | some (.struct fs) => (fs.toList.mapM (fun f => (C.P.info? f.type).map fun i => (f.offset, i.size))).isSome && (List.range fs.size).all (fun k => match fs[k]? with | some f => fldGood C.P t fs k f | none => true) && partsChk C Γ (placesS C.P fs) ps.toList parts
    | some (.array n e) => (C.P.info? e).isSome && n * C.P.cellsOf e == C.P.cellsOf t && partsChk C Γ (placesA C.P n e) ps.toList parts
    | _ => false)
  | _ => false
theorem run_bld {P : Program} {ρ : Operand → Value} {o : Oper} {t : Nat} {ps : Array (Nat × Operand)} {cells : Array Value} (ho : o.op = .build t ps) (h : P.built t (ps.toList.map fun q => (q.1, ρ q.2)) = some cells) : (execOp ρ o).run P w = .ok (.value (.agg cells)) w := by
  simp only [execOp, ho]
  refine run_v (run_build w t _ cells ?_)
  rw [Array.toList_map]
  exact h
theorem snd_build (hI : Inv C Γ g0 w0 g st a w) {o : Oper} {vo : VOper} {z : D} {parts : List (Nat × Opd)} (hd : o.dst = vo.dst) (hv : vo.op = .build z parts) (hc : chkBuild C Γ vo.dst o.op z parts = true)
    (hok : (sem vo.op st.get st.H).ok = true) : Step C Γ g0 w0 o vo st a w := by
  unfold chkBuild at hc
  split at hc
  · rename_i t ps ho
    simp only [Bool.and_eq_true] at hc
    obtain ⟨⟨hz, h2⟩, h3⟩ := hc
    obtain ⟨it, zv, hi, hzv, hzr, hzs⟩ := zeroOk_spec (S := g.S) hz
    rw [hv] at hok
    have hD : parts.all (fun q => q.2.isD st.get) = true := hok
    split at h3
    · rename_i fs hu
      simp only [Bool.and_eq_true, List.all_eq_true, List.mem_range] at h3
      obtain ⟨⟨k1, k2⟩, k3⟩ := h3
      obtain ⟨places, hpl⟩ := Option.isSome_iff_exists.1 k1
      obtain ⟨ds, rfl, e2, e3, e4⟩ := hzr.strct hu
      have hap : Apart (placesS C.P fs) (C.P.cellsOf t) := placesS_apart fun k f hf => by
        have := k2 k (Array.getElem?_eq_some_iff.1 hf).1
        rw [hf] at this; exact this
      have hplace : ∀ k o s t', placesS C.P fs k = some (o, s, t') → places.toArray[k]? = some (o, s) := by
        intro k o s t' hk
        unfold placesS at hk
        obtain ⟨f, hf, he⟩ := Option.map_eq_some_iff.1 hk
        simp only [Prod.mk.injEq] at he
        obtain ⟨rfl, rfl, rfl⟩ := he
        obtain ⟨y, hy1, hy2⟩ := mapM_get hpl k f (by simpa using hf)
        obtain ⟨i, hi', rfl⟩ := Option.map_eq_some_iff.1 hy1
        simpa [Program.cellsOf, hi'] using hy2
      have hparts : Parts C.P g.S (placesS C.P fs) ds zv.cells.toList := by
        intro k hk o s t' hp
        unfold placesS at hp
        obtain ⟨f, hf, he⟩ := Option.map_eq_some_iff.1 hp
        simp only [Prod.mk.injEq] at he
        obtain ⟨rfl, rfl, rfl⟩ := he
        obtain ⟨hk', rfl⟩ := Array.getElem?_eq_some_iff.1 hf
        exact e4 k hk hk'
      obtain ⟨r, r1, r2, r3, r4⟩ := fill_spec hI hap hplace k3 hD ds zv.cells hzs hzr.one hparts
      refine Step.pure hI hd (by rw [hv]; rfl) (run_bld ho (cells := r) ?_) h2 fun X => ?_
      · simp only [Program.built, hi, hu, hzv, hpl]; exact r1
      · simp only [RV, RT, D.toL]
        refine ⟨.st hu (by rw [fillD_len]; exact e2) (by simpa [Value.cells] using r2) (fun k hk hk' => ?_) (by simpa [Value.cells] using r3), by unfold AggOk; rw [hu]; exact ⟨_, rfl⟩⟩
        exact r4 k hk _ _ _ (by simp [placesS, hk'])
    · rename_i n e hu
      simp only [Bool.and_eq_true] at h3
      obtain ⟨⟨k1, k2⟩, k3⟩ := h3
      obtain ⟨ie, hie⟩ := Option.isSome_iff_exists.1 k1
      have k2 : n * C.P.cellsOf e = C.P.cellsOf t := by simpa using k2
      obtain ⟨ds, rfl, e2, e3, e4⟩ := hzr.arr hu
      have hce : C.P.cellsOf e = ie.size := by simp [Program.cellsOf, hie]
      have hplace : ∀ k o s t', placesA C.P n e k = some (o, s, t') → some (k * ie.size, ie.size) = some (o, s) := by
        intro k o s t' hk
        unfold placesA at hk
        split at hk
        · simp only [Option.some.injEq, Prod.mk.injEq] at hk
          obtain ⟨rfl, rfl, rfl⟩ := hk
          rw [hce]
        · cases hk
      have hparts : Parts C.P g.S (placesA C.P n e) ds zv.cells.toList := by
        intro k hk o s t' hp
        unfold placesA at hp
        split at hp
        · simp only [Option.some.injEq, Prod.mk.injEq] at hp
          obtain ⟨rfl, rfl, rfl⟩ := hp
          exact e4 k hk
        · cases hp
      obtain ⟨r, r1, r2, r3, r4⟩ := fill_spec hI placesA_apart (place := fun k => some (k * ie.size, ie.size)) hplace k3 hD ds zv.cells (hzs.trans k2.symm) hzr.one hparts
      refine Step.pure hI hd (by rw [hv]; rfl) (run_bld ho (cells := r) ?_) h2 fun X => ?_
      · simp only [Program.built, hi, hu, hzv, hie]; exact r1
      · simp only [RV, RT, D.toL]
        refine ⟨.ar hu (by rw [fillD_len]; exact e2) (by simpa [Value.cells, k2] using r2) (fun k hk => ?_) (by simpa [Value.cells] using r3), by unfold AggOk; rw [hu]; exact ⟨_, rfl⟩⟩
        exact r4 k hk _ _ _ (by simp [placesA, show k < n by rw [fillD_len] at hk; omega])
    · cases h3
  · cases hc
def chkBsl (C : Ctx) (Γ : List Ty) (dst : Option Nat) (op : Op) (z : List D) (parts : List (Nat × Opd)) : Bool :=
  match op with
  | .buildSlice t len ps => (match C.P.underlying t with
    | some (.slice e) => decide (0 < C.P.cellsOf e) && decide (0 < len) && decide (len * C.P.cellsOf e ≤ 2 ^ 24) && z.length == len && z.all (zeroOk C.P e) && partsChk C Γ (placesA C.P len e) ps.toList parts && (match dst with | some d => (match Γ[d]? with | some (.v t') => uEq C.P t t' | _ => false) | none => false)
    | _ => false)
  | _ => false
theorem zero_row {P : Program} {S : Cells} {e len : Nat} {zv : Value} (hz : zv.cells.size = P.cellsOf e) {z : List D} (hl : z.length = len) (hr : ∀ d ∈ z, RF P S e d zv.cells.toList) :
    Parts P S (placesA P len e) z ((Array.range (len * P.cellsOf e)).map (zv.cells[· % zv.cells.size]!)).toList ∧ ∀ v ∈ ((Array.range (len * P.cellsOf e)).map (zv.cells[· % zv.cells.size]!)).toList, v.oneCell' = true := by
  have hget : ∀ j, j < len * P.cellsOf e → ((Array.range (len * P.cellsOf e)).map (zv.cells[· % zv.cells.size]!)).toList[j]? = some (zv.cells[j % zv.cells.size]!) := by
    intro j hj
    simp [hj]
  have hmod : ∀ j, j < len * P.cellsOf e → j % zv.cells.size < zv.cells.size := by
    intro j hj
    apply Nat.mod_lt
    rw [hz]
    rcases Nat.eq_zero_or_pos (P.cellsOf e) with h | h
    · rw [h] at hj; omega
    · exact h
  refine ⟨fun k hk o s t hp => ?_, fun v hv => ?_⟩
  · unfold placesA at hp
    split at hp
    · rename_i hkl
      simp only [Option.some.injEq, Prod.mk.injEq] at hp
      obtain ⟨rfl, rfl, rfl⟩ := hp
      have : ((((Array.range (len * P.cellsOf e)).map (zv.cells[· % zv.cells.size]!)).toList.drop (k * P.cellsOf e)).take (P.cellsOf e)) = zv.cells.toList := by
        apply List.ext_getElem?
        intro j
        rw [List.getElem?_take, List.getElem?_drop]
        split
        · rename_i hj
          have hle := step_le (sz := P.cellsOf e) hkl
          rw [hget _ (by omega)]
          have : (k * P.cellsOf e + j) % zv.cells.size = j := by rw [hz, Nat.mul_comm, Nat.mul_add_mod, Nat.mod_eq_of_lt hj]
          rw [this]
          have hj' : j < zv.cells.size := by omega
          simp [hj']
        · rw [List.getElem?_eq_none]; simp; omega
      rw [this]
      exact hr _ (List.getElem_mem _)
    · cases hp
  · obtain ⟨j, hj, rfl⟩ := List.getElem_of_mem hv
    have hj' : j < len * P.cellsOf e := by simpa using hj
    have h2 := hget j hj'
    rw [List.getElem?_eq_getElem hj] at h2
    injection h2 with h2
    rw [h2]
    have hm := hmod j hj'
    have hlen : 0 < z.length := by
      rcases Nat.eq_zero_or_pos z.length with h | h
      · rw [hl] at h; subst h; simp at hj'
      · exact h
    refine (hr z[0] (List.getElem_mem _)).one _ ?_
    rw [getElem!_pos zv.cells _ hm]
    exact Array.getElem_mem_toList hm
theorem Els.sl {S : Cells} {P : Program} {t e r cap : Nat} {xs : List D} {c : List Value} (hu : P.underlying t = some (.slice e)) (h : Els P S e xs c) (hs : ∀ j v, j < xs.length * P.cellsOf e → c[j]? = some v → S r j = some v) (nn : Bool) (hn : nn = true ∨ xs ≠ []) (hc : xs.length ≤ cap ∧ xs.length ≤ maxLen) :
    RT P S (.v t) (mkD nn xs) (.slice (some ⟨r, 0, none⟩) xs.length cap) := by
  refine SlAt.rf hu (h.at_ hs) ?_ hc
  cases nn
  · simp at hn; exact .inr (.inl ⟨rfl, hn⟩)
  · exact .inl rfl
def FrzS (md : Md) (n : Nat) (c : Array Value) (S : Nat → Option Value) : Prop := match md with
  | .w => ∀ j, S j = none
  | .f => (∀ j, j < n → S j = c[j]?) ∧ ∀ j, n ≤ j → S j = none
  | .o => (∀ j, j < n → S j = c[j]?) ∧ ∀ j, n ≤ j → S j = none
theorem mkV_rv {H : List V} {w' : World} {r cap d : Nat} {t e : Nat} {c : Array Value} {e' : TypeId} (hu : C.P.underlying t = some (.slice e)) (md : Md) (nn : Bool) {xs : List D} {f : Nat → Option Value} (hrb : C.base ≤ r) (hh : w'.heap[r]? = some (.cells c e' (0, 0))) (hcs : c.size = cap * C.P.cellsOf e) (hcap : cap ≤ maxLen) (hl : xs.length ≤ cap) (hn : nn = true ∨ xs ≠ [])
    {g' : G} (hE : Els C.P g'.S e xs c.toList) (hk : g'.kap r = some (.slot d)) (hS : FrzS md (xs.length * C.P.cellsOf e) c (g'.S r)) :
    RV C g' H w' (.slot d) (.v t) (mkV md nn xs) (.slice (some ⟨r, 0, none⟩) xs.length cap) := by
  cases md
  · simp only [mkV, RV]
    exact hE.sl hu (fun j v hj hv => by rw [hS.1 j hj]; simpa using hv) nn hn ⟨hl, Nat.le_trans hl hcap⟩
  · simp only [mkV, RV]
    exact ⟨t, e, rfl, hu, .inr ⟨r, cap, c, e', rfl, hn, hrb, hk, hh, hcs, hl, hcap, hE.2, by simpa [FrzS] using hS⟩⟩
  · simp only [mkV, RV]
    exact ⟨t, e, rfl, hu, .inr ⟨r, cap, c, e', rfl, hn, hrb, hk, hh, hcs, hl, hcap, hE.2, by simpa [FrzS] using hS⟩⟩
def frzF (md : Md) (n : Nat) (c : Array Value) : Nat → Option Value := fun j => match md with | .w => none | _ => if j < n then c[j]? else none
theorem frzF_spec (md : Md) (n : Nat) (c : Array Value) {S : Nat → Option Value} (h : S = frzF md n c) : FrzS md n c S := by
  subst h
  cases md
  · exact ⟨fun j hj => by simp [frzF, hj], fun j hj => by simp [frzF]; omega⟩
  · exact ⟨fun j hj => by simp [frzF, hj], fun j hj => by simp [frzF]; omega⟩
  · exact fun j => rfl
theorem frzF_sub (md : Md) (n : Nat) (c : Array Value) : ∀ j u, frzF md n c j = some u → c[j]? = some u := by
  intro j u h
  unfold frzF at h
  cases md
  · simp only at h; split at h
    · exact h
    · cases h
  · simp only at h; split at h
    · exact h
    · cases h
  · cases h
theorem run_bsl {P : Program} {ρ : Operand → Value} {o : Oper} {t e len : Nat} {ps : Array (Nat × Operand)} {cells : Array Value} {ie : TypeInfo} {z : Value} (ho : o.op = .buildSlice t len ps) (hu : P.underlying t = some (.slice e)) (hie : P.info? e = some ie) (hz : ie.zero = some z) (hsmall : len * ie.size ≤ 2 ^ 24) (hpos : 0 < len * ie.size)
    (h : Instr.fill (fun i => some (i * ie.size, ie.size)) ((Array.range (len * ie.size)).map (z.cells[· % z.cells.size]!)) (ps.toList.map fun q => (q.1, ρ q.2)) = some cells) : (execOp ρ o).run P w = .ok (.value (.slice (some ⟨w.heap.size, 0, none⟩) len len)) (w.alloc (.cells cells e)) := by
  simp only [execOp, ho]
  refine run_v (run_buildSlice w t e len _ cells ie z hu hie hz (by omega) (by omega) ?_)
  rw [Array.toList_map]
  exact h
theorem snd_bsl (hI : Inv C Γ g0 w0 g st a w) {o : Oper} {vo : VOper} {md : Md} {z : List D} {parts : List (Nat × Opd)} (hd : o.dst = vo.dst) (hv : vo.op = .bsl md z parts) (hc : chkBsl C Γ vo.dst o.op z parts = true)
    (hok : (sem vo.op st.get st.H).ok = true) : Step C Γ g0 w0 o vo st a w := by
  unfold chkBsl at hc
  split at hc
  · rename_i t len ps ho
    split at hc
    · rename_i e hu
      simp only [Bool.and_eq_true, decide_eq_true_eq, List.all_eq_true] at hc
      obtain ⟨⟨⟨⟨⟨⟨h0, hlen⟩, hsm⟩, hzl⟩, hz⟩, hp⟩, hdst⟩ := hc
      have hzl : z.length = len := by simpa using hzl
      rw [hv] at hok
      have hD : parts.all (fun q => q.2.isD st.get) = true := hok
      have hz0 : 0 < z.length := by omega
      obtain ⟨ie, zv, hie, hzv, _, hzs⟩ := zeroOk_spec (S := g.S) (hz z[0] (List.getElem_mem _))
      have hce : C.P.cellsOf e = ie.size := by simp [Program.cellsOf, hie]
      obtain ⟨p1, p2⟩ := zero_row (S := g.S) hzs hzl fun d hd => by
        obtain ⟨ie', zv', q1, q2, q3, _⟩ := zeroOk_spec (S := g.S) (hz d hd)
        rw [hie] at q1; injection q1 with q1; subst q1
        rw [hzv] at q2; injection q2 with q2; subst q2
        exact q3
      have hplace : ∀ k o s t', placesA C.P len e k = some (o, s, t') → some (k * ie.size, ie.size) = some (o, s) := by
        intro k o s t' hk
        unfold placesA at hk
        split at hk
        · simp only [Option.some.injEq, Prod.mk.injEq] at hk
          obtain ⟨rfl, rfl, rfl⟩ := hk
          rw [hce]
        · cases hk
      obtain ⟨r, r1, r2, r3, r4⟩ := fill_spec hI placesA_apart (place := fun k => some (k * ie.size, ie.size)) hplace hp hD z ((Array.range (len * C.P.cellsOf e)).map (zv.cells[· % zv.cells.size]!)) (by simp) p2 p1
      split at hdst
      · rename_i d hdd
        split at hdst
        · rename_i t' ht'
          rw [hce] at r1 hsm
          have hpos : 0 < len * ie.size := Nat.mul_pos hlen (by omega)
          refine ⟨_, _, g.add w.heap.size (frzF md (len * C.P.cellsOf e) r) (some (.slot d)), .inl (run_bsl ho hu hie hzv hsm hpos r1), ?_⟩
          rw [hv, hd]
          have hxl : (fillD z (parts.map fun q => (q.1, q.2.d st.get))).length = len := by rw [fillD_len]; exact hzl
          have hsub : Sub g.S (g.add w.heap.size (frzF md (len * C.P.cellsOf e) r) (some (.slot d))).S := by
            intro b o v h
            have : b ≠ w.heap.size := fun e => by rw [e, hI.S_new (Nat.le_refl _)] at h; cases h
            simp [G.add, this, h]
          have hE : Els C.P (g.add w.heap.size (frzF md (len * C.P.cellsOf e) r) (some (.slot d))).S e (fillD z (parts.map fun q => (q.1, q.2.d st.get))) r.toList := by
            refine Els.mono hsub ⟨by rw [hxl]; simp [r2], fun i hi => ?_⟩
            exact r4 i hi _ _ _ (by simp [placesA, show i < len by omega])
          refine hI.fresh (o := vo) (sd := none) 0 (frzF_sub _ _ _) (fun _ _ h => by cases h) (fun d' hd' => ⟨.v t', ?_, ?_⟩)
          · rw [hdd] at hd'; injection hd' with hd'; subst hd'; exact ht'
          · rw [hdd] at hd'; injection hd' with hd'; subst hd'
            refine RV.conv _ (show fits C.P (.v t) (.v t') = true from hdst) ?_
            have := mkV_rv (C := C) (H := st.H) (g' := g.add w.heap.size (frzF md (len * C.P.cellsOf e) r) (some (.slot d))) (w' := (w.drewN 0).alloc (.cells r e)) (r := w.heap.size) (cap := len) (d := d) hu md true (f := fun _ => none) hI.base (heap_new w 0 _) (by rw [r2]) (by unfold maxLen; have := Nat.le_mul_of_pos_right len (show 0 < ie.size by omega); omega) (by omega) (.inl rfl) hE (by simp [G.add]) (by rw [hxl]; exact frzF_spec md _ r (S := (g.add w.heap.size (frzF md (len * C.P.cellsOf e) r) (some (.slot d))).S w.heap.size) (by funext j; simp [G.add]))
            rw [hxl] at this
            exact this
        · cases hdst
      · cases hdst
    · cases hc
  · cases hc
end
end Go.Vam
