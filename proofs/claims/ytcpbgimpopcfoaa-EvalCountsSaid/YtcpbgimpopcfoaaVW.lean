/- THE SHADOW MACHINE, 23: variables of the call's own that change. -/
import Derived.Test.YtcpbgimpopcfoaaVQ
set_option linter.unusedSimpArgs false
set_option linter.unusedVariables false
namespace Go.Vam
theorem part_part {c : List Value} {o n o' n' : Nat} (h : o' + n' ≤ n) : (((c.drop o).take n).drop o').take n' = (c.drop (o + o')).take n' := by
  apply List.ext_getElem?
  intro j
  simp only [List.getElem?_take, List.getElem?_drop]
  split
  · rw [if_pos (by omega), Nat.add_assoc]
  · rfl
theorem fldGood_fits {P : Program} {t : Nat} {fs : Array Field} {k : Nat} {f : Field} (h : fldGood P t fs k f = true) : f.offset + P.cellsOf f.type ≤ P.cellsOf t := by
  unfold fldGood at h
  simp only [Bool.and_eq_true, decide_eq_true_eq] at h
  exact h.1
theorem pathT_fits {P : Program} : ∀ (p : List Nat) {t e off : Nat}, pathT P p t = some (e, off) → off + P.cellsOf e ≤ P.cellsOf t
  | [], t, e, off, h => by
    simp only [pathT, Option.some.injEq, Prod.mk.injEq] at h
    obtain ⟨rfl, rfl⟩ := h
    omega
  | k :: r, t, e, off, h => by
    rw [pathT] at h
    split at h
    · split at h
      · split at h
        · rename_i hg
          obtain ⟨q, h3, h4⟩ := Option.map_eq_some_iff.1 h
          obtain ⟨qt, qo⟩ := q
          simp only [Prod.mk.injEq] at h4
          obtain ⟨rfl, rfl⟩ := h4
          have := pathT_fits r h3
          have := fldGood_fits hg
          omega
        · cases h
      · cases h
    · rename_i n e' hu
      split at h
      · rename_i hj
        obtain ⟨q, h3, h4⟩ := Option.map_eq_some_iff.1 h
        obtain ⟨qt, qo⟩ := q
        simp only [Prod.mk.injEq] at h4
        obtain ⟨rfl, rfl⟩ := h4
        have := pathT_fits r h3
        have := step_le (sz := P.cellsOf e') hj.1
        omega
      · cases h
    · cases h
theorem RF.path {P : Program} {S : Cells} : ∀ (p : List Nat) {t e off : Nat} {d : D} {cs : List Value}, pathT P p t = some (e, off) → RF P S t d cs → cs.length = P.cellsOf t → RF P S e (D.getP p d) ((cs.drop off).take (P.cellsOf e))
  | [], t, e, off, d, cs, h, hr, hl => by
    simp only [pathT, Option.some.injEq, Prod.mk.injEq] at h
    obtain ⟨rfl, rfl⟩ := h
    rw [List.drop_zero, ← hl, List.take_length]
    exact hr
  | k :: r, t, e, off, d, cs, h, hr, hl => by
    rw [pathT] at h
    split at h
    · rename_i fs hu
      split at h
      · rename_i f hf
        split at h
        · rename_i hg
          obtain ⟨q, h3, h4⟩ := Option.map_eq_some_iff.1 h
          obtain ⟨qt, qo⟩ := q
          simp only [Prod.mk.injEq] at h4
          obtain ⟨rfl, rfl⟩ := h4
          obtain ⟨ds, rfl, e2, e3, e4⟩ := hr.strct hu
          obtain ⟨hk', rfl⟩ := Array.getElem?_eq_some_iff.1 hf
          have hfit := fldGood_fits hg
          have := RF.path r h3 (e4 k (by omega) hk') (by simp; omega)
          rw [part_part (pathT_fits r h3)] at this
          have e : (D.ag ds).at k = ds[k]'(by omega) := by simp [D.at, D.toL, show k < ds.length by omega]
          rw [D.getP, e]; exact this
        · cases h
      · cases h
    · rename_i n e' hu
      split at h
      · rename_i hj
        obtain ⟨q, h3, h4⟩ := Option.map_eq_some_iff.1 h
        obtain ⟨qt, qo⟩ := q
        simp only [Prod.mk.injEq] at h4
        obtain ⟨rfl, rfl⟩ := h4
        obtain ⟨ds, rfl, e2, e3, e4⟩ := hr.arr hu
        have hst := step_le (sz := P.cellsOf e') hj.1
        have := RF.path r h3 (e4 k (by omega)) (by simp; omega)
        rw [part_part (pathT_fits r h3)] at this
        have e : (D.ag ds).at k = ds[k]'(by omega) := by simp [D.at, D.toL, show k < ds.length by omega]
        rw [D.getP, e]; exact this
      · cases h
    · cases h
def splice (c : List Value) (o : Nat) (v : List Value) : List Value := c.take o ++ v ++ c.drop (o + v.length)
theorem splice_get {c : List Value} {o : Nat} {v : List Value} (h : o + v.length ≤ c.length) (j : Nat) : (splice c o v)[j]? = if o ≤ j ∧ j < o + v.length then v[j - o]? else c[j]? := by
  unfold splice
  by_cases h1 : j < o
  · rw [if_neg (by omega), List.append_assoc, List.getElem?_append_left (by simp; omega), List.getElem?_take, if_pos h1]
  · by_cases h2 : j < o + v.length
    · rw [if_pos ⟨by omega, h2⟩, List.append_assoc, List.getElem?_append_right (by simp; omega), List.getElem?_append_left (by simp; omega)]
      congr 1; simp; omega
    · rw [if_neg (by omega), List.getElem?_append_right (by simp; omega), List.getElem?_drop]
      congr 1; simp; omega
theorem splice_len {c : List Value} {o : Nat} {v : List Value} (h : o + v.length ≤ c.length) : (splice c o v).length = c.length := by
  unfold splice; simp; omega
theorem splice_part {c : List Value} {o n o' : Nat} {v : List Value} (h : o' + v.length ≤ n) (hc : o + n ≤ c.length) : ((splice c (o + o') v).drop o).take n = splice ((c.drop o).take n) o' v := by
  apply List.ext_getElem?
  intro j
  rw [List.getElem?_take, List.getElem?_drop, splice_get (by omega), splice_get (by simp; omega)]
  split
  · rename_i hj
    by_cases h1 : o' ≤ j ∧ j < o' + v.length
    · rw [if_pos (by omega), if_pos h1]; congr 1; omega
    · rw [if_neg (by omega), if_neg h1, List.getElem?_take, if_pos hj, List.getElem?_drop]
  · rename_i hj
    rw [if_neg (by omega), List.getElem?_take, if_neg hj]
theorem splice_other {c : List Value} {o n o' : Nat} {v : List Value} (h : o + n ≤ o' ∨ o' + v.length ≤ o) (hc : o' + v.length ≤ c.length) : ((splice c o' v).drop o).take n = (c.drop o).take n := by
  refine part_ext fun k h1 h2 => ?_
  rw [splice_get hc, if_neg (by omega)]
theorem splice_one {c : List Value} {o : Nat} {v : List Value} (h1 : ∀ u ∈ c, u.oneCell' = true) (h2 : ∀ u ∈ v, u.oneCell' = true) : ∀ u ∈ splice c o v, u.oneCell' = true := by
  intro u hu
  unfold splice at hu
  simp only [List.mem_append] at hu
  rcases hu with (hu | hu) | hu
  · exact h1 _ (List.mem_of_mem_take hu)
  · exact h2 _ hu
  · exact h1 _ (List.mem_of_mem_drop hu)
theorem RF.setPath {P : Program} {S : Cells} : ∀ (p : List Nat) {t e off : Nat} {d x : D} {cs v : List Value}, pathT P p t = some (e, off) → RF P S t d cs → cs.length = P.cellsOf t → RF P S e x v → v.length = P.cellsOf e → RF P S t (D.setP p d x) (splice cs off v)
  | [], t, e, off, d, x, cs, v, h, hr, hl, hx, hv => by
    simp only [pathT, Option.some.injEq, Prod.mk.injEq] at h
    obtain ⟨rfl, rfl⟩ := h
    have : splice cs 0 v = v := by unfold splice; simp; omega
    rw [this]; exact hx
  | k :: r, t, e, off, d, x, cs, v, h, hr, hl, hx, hv => by
    rw [pathT] at h
    split at h
    · rename_i fs hu
      split at h
      · rename_i f hf
        split at h
        · rename_i hg
          obtain ⟨q, h3, h4⟩ := Option.map_eq_some_iff.1 h
          obtain ⟨qt, qo⟩ := q
          simp only [Prod.mk.injEq] at h4
          obtain ⟨rfl, rfl⟩ := h4
          obtain ⟨ds, rfl, e2, e3, e4⟩ := hr.strct hu
          obtain ⟨hk', rfl⟩ := Array.getElem?_eq_some_iff.1 hf
          have hfit := fldGood_fits hg
          have hpf := pathT_fits r h3
          have ih := RF.setPath r h3 (e4 k (by omega) hk') (by simp; omega) hx hv
          have hsp : fs[k].offset + qo + v.length ≤ cs.length := by omega
          refine .st hu (by simpa using e2) (by rw [splice_len hsp]; exact e3) (fun j hj hj' => ?_) (splice_one hr.one hx.one)
          by_cases hjk : j = k
          · subst hjk
            rw [List.getElem_set_self, splice_part (by omega) (by omega)]
            have e : ds.getD j .nil = ds[j]'(by omega) := by simp [show j < ds.length by omega]
            rw [e]; exact ih
          · rw [List.getElem_set_ne (Ne.symm hjk)]
            rw [splice_other _ hsp]
            · exact e4 j (by simpa using hj) hj'
            · unfold fldGood at hg
              simp only [Bool.and_eq_true, List.all_eq_true, List.mem_range] at hg
              have := hg.2 j hj'
              rw [Array.getElem?_eq_getElem hj'] at this
              simp only [Bool.or_eq_true, decide_eq_true_eq] at this
              rcases this with h | h | h
              · exact absurd (show j = k by simpa using h) hjk
              · left; omega
              · right; omega
        · cases h
      · cases h
    · rename_i n e' hu
      split at h
      · rename_i hj
        obtain ⟨q, h3, h4⟩ := Option.map_eq_some_iff.1 h
        obtain ⟨qt, qo⟩ := q
        simp only [Prod.mk.injEq] at h4
        obtain ⟨rfl, rfl⟩ := h4
        obtain ⟨ds, rfl, e2, e3, e4⟩ := hr.arr hu
        have hst := step_le (sz := P.cellsOf e') hj.1
        have hpf := pathT_fits r h3
        have ih := RF.setPath r h3 (e4 k (by omega)) (by simp; omega) hx hv
        have hsp : k * P.cellsOf e' + qo + v.length ≤ cs.length := by omega
        refine .ar hu (by simpa using e2) (by rw [splice_len hsp]; exact e3) (fun j hj' => ?_) (splice_one hr.one hx.one)
        by_cases hjk : j = k
        · subst hjk
          rw [List.getElem_set_self, splice_part (by omega) (by omega)]
          have e : ds.getD j .nil = ds[j]'(by omega) := by simp [show j < ds.length by omega]
          rw [e]; exact ih
        · rw [List.getElem_set_ne (Ne.symm hjk)]
          rw [splice_other _ hsp]
          · exact e4 j (by simpa using hj')
          · rcases Nat.lt_or_gt_of_ne hjk with h | h
            · left; have := step_le (sz := P.cellsOf e') h; omega
            · right; have := step_le (sz := P.cellsOf e') h; omega
      · cases h
    · cases h
section
variable {C : Ctx} {Γ : List Ty} {g0 g : G} {w0 w : World} {st : St} {a : Act}
theorem pathB_arr {P : Program} {e0 n k e off : Nat} {r : List Nat} (h : pathB P (.arr e0) n (k :: r) = some (e, off)) : k < n ∧ ∃ o, pathT P r e0 = some (e, o) ∧ off = k * P.cellsOf e0 + o := by
  simp only [pathB] at h
  split at h
  · rename_i hk
    obtain ⟨q, h3, h4⟩ := Option.map_eq_some_iff.1 h
    obtain ⟨qt, qo⟩ := q
    simp only [Prod.mk.injEq] at h4
    obtain ⟨rfl, rfl⟩ := h4
    exact ⟨hk, qo, h3, rfl⟩
  · cases h
theorem RB.path {s : Nat} {d : D} {b : BTy} {p : List Nat} {e off : Nat} (h : RB C g w s (.f d)) (hb : C.bt s = some b) (hp : pathB C.P b (blen (.f d)) p = some (e, off)) :
    ∃ r c t', g.rho s = some r ∧ g.kap r = some (.site s) ∧ w.heap[r]? = some (.cells c t' (0, 0)) ∧ (∀ j, g.S r j = none) ∧ off + C.P.cellsOf e ≤ c.size ∧ RF C.P g.S e (D.getP p d) ((c.toList.drop off).take (C.P.cellsOf e)) := by
  unfold RB at h
  rw [hb] at h
  cases b with
  | var t =>
    simp only at h
    obtain ⟨r, c, t', h1, h2, h3, h4, h5, h6⟩ := h
    simp only [RC] at h6
    have := pathT_fits p hp
    exact ⟨r, c, t', h1, h2, h3, h5, by omega, RF.path p hp h6 (by simpa using h4)⟩
  | arr e0 =>
    simp only at h
    obtain ⟨d', hd', h⟩ := h
    injection hd' with hd'; subst hd'
    cases p with
    | nil => simp [pathB] at hp
    | cons k r0 =>
      obtain ⟨hk, qo, h3, rfl⟩ := pathB_arr hp
      replace hk : k < d.toL.length := hk
      · rcases h with ⟨_, h⟩ | ⟨r, c, t', h1, h2, h5, h6, h7, h8⟩
        · rw [h] at hk; simp at hk
        · have h6' : d.toL.length * C.P.cellsOf e0 ≤ c.size := by rw [h6.1]; exact Nat.mul_le_mul_right _ h6.2.1
          have hst := step_le (sz := C.P.cellsOf e0) hk
          have hpf := pathT_fits r0 h3
          have := RF.path r0 h3 (h8 k hk) (by simp; omega)
          rw [part_part hpf] at this
          have e : d.at k = d.toL[k] := by simp [D.at, hk]
          rw [D.getP, e]
          exact ⟨r, c, t', h1, h2, h5, h7, by omega, this⟩
theorem snd_ld (hI : Inv C Γ g0 w0 g st a w) {o : Oper} {vo : VOper} {vx : Opd} (hd : o.dst = vo.dst) (hv : vo.op = .ld vx) (hc : chkLdF C Γ vo.dst o.op vx = true)
    (hok : (sem vo.op st.get st.H).ok = true) : Step C Γ g0 w0 o vo st a w := by
  unfold chkLdF at hc
  split at hc
  · rename_i t x ho
    simp only [Bool.and_eq_true, decide_eq_true_eq] at hc
    obtain ⟨⟨h0, h1⟩, h2⟩ := hc
    have hx := hI.rd h1 .ret
    cases hev : vx.rd st.get with
    | f d =>
      rw [hev] at hx
      simp only [RV, RT] at hx
      have hp : isPtrD d = true := by rw [hv] at hok; simpa [sem, hev] using hok
      obtain ⟨cs, b, off, e1, e2, e3, e4⟩ := hx.at_ hp
      exact Step.pure hI hd (by rw [hv]; simp only [sem, hev]; rfl) (run_ld ho e1 (run_loadVar e2 h0 e3 fun j u hj => hI.cells _ _ _ (e4 j u hj))) h2 fun X => by simp only [RV]; exact e2.val
    | m s p =>
      rw [hev] at hx
      simp only [RV, asP] at hx
      obtain ⟨e, off, b, r, he, h4, h5, h6, h7, h8⟩ := hx
      injection he with he; subst he
      cases hB : getB st.H s with
      | f d =>
        have hRB := hI.blocks s h8
        rw [hB] at hRB h6
        obtain ⟨r', c, t', k1, k2, k3, k4, k5, k6⟩ := hRB.path h4 h6
        rw [h5] at k1; injection k1 with k1; subst k1
        have hlen : ((c.toList.drop off).take (C.P.cellsOf t)).length = C.P.cellsOf t := by simp; omega
        exact Step.pure hI hd (by rw [hv]; simp only [sem, hev, hB]; rfl) (run_ld ho h7 (run_loadVar k6 h0 hlen fun j u hj => by rw [cell_of k3]; have := (getElem?_part hj).1; simpa using this)) h2 fun X => by simp only [RV]; exact k6.val
      | _ => rw [hv] at hok; simp [sem, hev, hB] at hok
    | _ => rw [hv] at hok; simp [sem, hev] at hok
  · cases hc
theorem run_st {P : Program} {ρ : Operand → Value} {o : Oper} {w : World} {e r off : Nat} {x y : Operand} {c : Array Value} {e' : TypeId} (ho : o.op = .store e x y) (hx : ρ x = .pointer (some ⟨r, off, none⟩)) (hh : w.heap[r]? = some (.cells c e' (0, 0))) (hl : (ρ y).cells.size = P.cellsOf e) (h0 : 0 < P.cellsOf e) (hf : off + P.cellsOf e ≤ c.size) (h1 : ∀ u ∈ (ρ y).cells.toList, u.oneCell' = true) :
    (execOp ρ o).run P w = .ok .skip (w.setRow r (splice c.toList off (ρ y).cells.toList).toArray) := by
  obtain ⟨inf, hinf⟩ := info_of_cells h0
  have h2 := run_storeCells_at P r off e' (ρ y).cells.toList 0 c w hh (by simp; omega) h1
  have h3 : (storeVar e ⟨r, off, none⟩ (ρ y)).run P w = .ok () (w.setRow r (splice c.toList off (ρ y).cells.toList).toArray) := by
    simp only [Nat.add_zero] at h2
    simp only [storeVar, Sem.run_bind, run_sizeOf hinf, Result.andThen, hl, ne_eq, not_true_eq_false, if_false]
    exact h2
  simp only [execOp, ho, hx, Instr.storeAt, Instr.sureAddr]
  simp [h3]
theorem getB_set {H : List V} {s s' : Nat} {v : V} (h : getB H s ≠ .u) : getB (H.set s v) s' = if s' = s then v else getB H s' := by
  have hlt : s < H.length := by
    rcases Nat.lt_or_ge s H.length with h' | h'
    · exact h'
    · unfold getB at h; rw [List.getD_eq_getElem?_getD, List.getElem?_eq_none h'] at h; exact absurd rfl h
  unfold getB
  simp only [List.getD_eq_getElem?_getD]
  by_cases hs : s' = s
  · subst hs; simp [hlt]
  · rw [List.getElem?_set_ne (Ne.symm hs)]; simp [hs]
theorem setP_len (k : Nat) (r : List Nat) (d x : D) : (D.setP (k :: r) d x).toL.length = d.toL.length := by
  cases d <;> simp [D.setP, D.setL, D.toL]
def chkSt (C : Ctx) (Γ : List Ty) (dst : Option Nat) (op : Op) (vx vy : Opd) : Bool :=
  match op with
  | .store e x y => (match dst with | none => true | _ => false) && decide (0 < C.P.cellsOf e) && cellsOk C.P e && opd C Γ x vx (.p e) && opd C Γ y vy (.v e)
  | _ => false
theorem snd_st (hI : Inv C Γ g0 w0 g st a w) {o : Oper} {vo : VOper} {vx vy : Opd} (hd : o.dst = vo.dst) (hv : vo.op = .st vx vy) (hc : chkSt C Γ vo.dst o.op vx vy = true)
    (hok : (sem vo.op st.get st.H).ok = true) : Step C Γ g0 w0 o vo st a w := by
  unfold chkSt at hc
  split at hc
  · rename_i e x y ho
    simp only [Bool.and_eq_true, decide_eq_true_eq] at hc
    obtain ⟨⟨⟨⟨h1, h0⟩, hco⟩, h3⟩, h6⟩ := hc
    split at h1
    · rename_i hdn
      have hx := hI.rd h3 .ret
      cases hev : vx.rd st.get with
      | m s p =>
        rw [hev] at hx
        simp only [RV, asP] at hx
        obtain ⟨e', off, b, r, he, q4, q5, q6, q7, q8⟩ := hx
        injection he with he; subst he
        cases hB : getB st.H s with
        | f d =>
          have hRB := hI.blocks s q8
          have hRB' := hRB
          rw [hB] at hRB q6
          obtain ⟨r', c, t', k1, k2, k3, k4, k5, k6⟩ := hRB.path q4 q6
          rw [q5] at k1; injection k1 with k1; subst k1
          have hD : vy.isD st.get = true := by rw [hv] at hok; simpa [sem, hev, hB] using hok
          have hy := hI.d h6 hD
          have hlen : (a.eval y).cells.size = C.P.cellsOf e := by simpa using hy.1.len hco
          have hrun := run_st (P := C.P) ho q7 k3 hlen h0 k5 hy.1.one
          refine ⟨undef, _, g, .inr ⟨hrun, rfl⟩, ?_⟩
          have hs : sem vo.op st.get st.H = { ok := vy.isD st.get, v := .n, H := st.H.set s (.f (D.setP p d (vy.d st.get))) } := by rw [hv]; simp only [sem, hev, hB]
          rw [hs, hd]
          generalize hrow : (splice c.toList off (a.eval y).cells.toList).toArray = row at hrun
          have hsp : off + (a.eval y).cells.toList.length ≤ c.toList.length := by simp; omega
          have hrs : row.size = c.size := by rw [← hrow]; simp [splice_len hsp]
          have hH := setRow_heap w r c row _ _ k3
          have hgB := fun s' v => getB_set (s' := s') (v := v) q8
          have hk : Keeps C g st.H w g (st.H.set s (.f (D.setP p d (vy.d st.get)))) (w.setRow r row) (fun X => X = .site s) := by
            refine ⟨Sub.refl _, fun b X h1 h2 h3 => ⟨h1, setRow_other w r b _ (fun e => ?_), fun _ => rfl⟩, fun s' h => ?_⟩
            · subst e; rw [k2] at h1; injection h1 with h1; subst h1; exact h2 rfl
            · rw [hgB]
              by_cases hss : s' = s
              · subst hss
                rw [if_pos rfl]
                refine ⟨by simp, fun e hbt => ?_, rfl⟩
                rw [q4] at hbt; injection hbt with hbt; subst hbt
                cases p with
                | nil => simp [pathB] at q6
                | cons k r0 => rw [hB]; simp only [blen]; exact setP_len _ _ _ _
              · rw [if_neg hss]; exact ⟨h, fun _ _ => rfl, rfl⟩
          have hS0 : ∀ j, g.S r j = none := k4
          refine hI.step (o := vo) hk (fun n h => by cases h) (fun _ _ h => by cases h) (fun d' hd' => by rw [hdn] at hd'; cases hd') (fun s' h => ?_) (fun b o v h => ?_) ?_ hI.kap hI.sold hI.ext (by have := hI.base; simpa using this) hI.rho
          · rw [hgB] at h ⊢
            by_cases hss : s' = s
            · subst hss
              rw [if_pos rfl]
              rw [hB] at hRB'
              unfold RB at hRB' ⊢
              rw [q4] at hRB' ⊢
              cases b with
              | var t =>
                simp only at hRB' ⊢
                obtain ⟨r2, c2, t2, l1, l2, l3, l4, l5, l6⟩ := hRB'
                rw [q5] at l1; injection l1 with l1; subst l1
                rw [k3] at l3; injection l3 with l3; injection l3 with l3 l3' _; subst l3; subst l3'
                simp only [RC] at l6 ⊢
                refine ⟨r, row, t', q5, k2, hH, by omega, k4, ?_⟩
                rw [← hrow]
                exact RF.setPath p q6 l6 (by simpa using l4) hy.1 (by simpa using hlen)
              | arr e0 =>
                simp only at hRB' ⊢
                obtain ⟨d2, hd2, hh⟩ := hRB'
                injection hd2 with hd2; subst hd2
                cases p with
                | nil => simp [pathB] at q6
                | cons k r0 =>
                  refine ⟨_, rfl, .inr ?_⟩
                  obtain ⟨hkl, qo, p3, rfl⟩ := pathB_arr q6
                  replace hkl : k < d.toL.length := hkl
                  · rcases hh with ⟨hh, _⟩ | ⟨r2, c2, t2, l1, l2, l3, l4, l5, l6⟩
                    · rw [q5] at hh; cases hh
                    · rw [q5] at l1; injection l1 with l1; subst l1
                      rw [k3] at l3; injection l3 with l3; injection l3 with l3 l3' _; subst l3; subst l3'
                      have l4' : d.toL.length * C.P.cellsOf e0 ≤ c.size := by rw [l4.1]; exact Nat.mul_le_mul_right _ l4.2.1
                      have hst := step_le (sz := C.P.cellsOf e0) hkl
                      have hpf := pathT_fits r0 p3
                      refine ⟨r, row, t', q5, k2, hH, ⟨by rw [hrs]; exact l4.1, by rw [setP_len]; exact l4.2.1, l4.2.2⟩, k4, fun i hi => ?_⟩
                      have hi' : i < d.toL.length := by rw [setP_len] at hi; exact hi
                      have htl : (D.setP (k :: r0) d (vy.d st.get)).toL = d.toL.set k (D.setP r0 (d.toL.getD k .nil) (vy.d st.get)) := by
                        cases d <;> first | (simp [D.toL] at hkl; done) | rfl
                      have hget : (D.setP (k :: r0) d (vy.d st.get)).toL[i] = (d.toL.set k (D.setP r0 (d.toL.getD k .nil) (vy.d st.get)))[i]'(by simpa using hi') := by
                        congr 1
                      rw [hget, ← hrow]
                      by_cases hik : i = k
                      · subst hik
                        rw [List.getElem_set_self, List.toList_toArray, splice_part (by simp; omega) (by simp; omega)]
                        have e9 : d.toL.getD i .nil = d.toL[i] := by simp [hi']
                        rw [e9]
                        exact RF.setPath r0 p3 (l6 i hi') (by simp; omega) hy.1 (by simpa using hlen)
                      · rw [List.getElem_set_ne (Ne.symm hik), List.toList_toArray, splice_other _ hsp]
                        · exact l6 i hi'
                        · rcases Nat.lt_or_gt_of_ne hik with h | h
                          · left; have := step_le (sz := C.P.cellsOf e0) h; omega
                          · right; have := step_le (sz := C.P.cellsOf e0) h; simp; omega
            · rw [if_neg hss] at h ⊢
              exact (hI.blocks s' h).keeps hk (fun e => hss (by injection e)) rfl
          · by_cases hb : b = r
            · subst hb; rw [hS0] at h; cases h
            · rw [cell_heap (setRow_other w r b _ hb)]; exact hI.cells _ _ _ h
          · obtain ⟨p1, p2, p3, p4, p5⟩ := hI.frm
            refine ⟨p1, p2, p3, by simpa using p4, fun b h1 h2 => ?_⟩
            have : b ≠ r := fun e => by subst e; rw [hI.kap b h1] at k2; rw [k2] at h2; cases h2
            rw [setRow_other w r b _ this]; exact p5 b h1 h2
        | _ => rw [hv] at hok; simp [sem, hev, hB] at hok
      | _ => rw [hv] at hok; simp [sem, hev] at hok
    · cases h1
  · cases hc
def chkBoxM (C : Ctx) (Γ : List Ty) (dst : Option Nat) (op : Op) (s : Nat) (vx : Opd) : Bool :=
  match op with
  | .box e x => cellsOk C.P e && opd C Γ x vx (.v e) && (match C.bt s with | some (.var t) => t == e && decide (C.nin ≤ s) | _ => false) && (match dst with | some d => (match Γ[d]? with | some (.p e') => e' == e | _ => false) | none => false)
  | _ => false
theorem Inv.site (hI : Inv C Γ g0 w0 g st a w) {vo : VOper} {s d e : Nat} {z : D} {cs : Array Value} {e' : TypeId} (hsn : C.nin ≤ s) (hs : getB st.H s = .u) (hsl : s < st.H.length) (hb : C.bt s = some (.var e)) (hdd : vo.dst = some d) (hΓ : Γ[d]? = some (.p e)) (hz : RF C.P g.S e z cs.toList) (hsz : cs.size = C.P.cellsOf e) {ok : Bool} :
    Inv C Γ g0 w0 { g with rho := fun s' => if s' = s then some w.heap.size else g.rho s', kap := fun r => if r = w.heap.size then some (.site s) else g.kap r } (applyE vo { ok, v := .m s [], H := st.H.set s (.f z) } st) (a.put vo.dst (.pointer (some ⟨w.heap.size, 0, none⟩))) (w.alloc (.cells cs e')) := by
  have hbase := hI.base
  have hgB : ∀ s', getB (st.H.set s (.f z)) s' = if s' = s then .f z else getB st.H s' := by
    intro s'
    unfold getB
    simp only [List.getD_eq_getElem?_getD]
    by_cases h : s' = s
    · subst h; simp [hsl]
    · rw [List.getElem?_set_ne (Ne.symm h)]; simp [h]
  have hk : Keeps C g st.H w { g with rho := fun s' => if s' = s then some w.heap.size else g.rho s', kap := fun r => if r = w.heap.size then some (.site s) else g.kap r } (st.H.set s (.f z)) (w.alloc (.cells cs e')) (fun _ => False) := by
    refine ⟨Sub.refl _, fun r X h1 _ h2 => ?_, fun s' h => ?_⟩
    · have : r ≠ w.heap.size := by omega
      exact ⟨by simp [this, h1], heap_old w 0 _ this, fun _ => rfl⟩
    · have : s' ≠ s := fun e => by subst e; exact h hs
      rw [hgB, if_neg this]
      exact ⟨h, fun _ _ => rfl, loc_eq (by simp [this]) rfl⟩
  refine hI.step (o := vo) hk (fun _ h => h.elim) (fun _ _ h => by cases h) (fun d' hd' => ⟨.p e, ?_, ?_⟩) (fun s' h => ?_) (fun b o v h => ?_) ?_ (fun r hr => ?_) hI.sold hI.ext (by simp; omega) (fun s' hs' => by rw [← hI.rho s' hs']; exact loc_eq (by simp [show s' ≠ s by omega]) rfl)
  · rw [hdd] at hd'; injection hd' with hd'; subst hd'; exact hΓ
  · simp only [RV, asP]
    refine ⟨e, 0, .var e, w.heap.size, rfl, hb, by simp, by simp [pathB, pathT], rfl, by rw [hgB, if_pos rfl]; simp⟩
  · rw [hgB] at h ⊢
    by_cases hss : s' = s
    · subst hss
      rw [if_pos rfl]
      unfold RB
      rw [hb]
      simp only [RC]
      exact ⟨w.heap.size, cs, e', by simp, by simp, heap_new w 0 _, hsz, fun j => hI.S_new (Nat.le_refl _) j, hz⟩
    · rw [if_neg hss] at h ⊢
      exact (hI.blocks s' h).keeps hk (fun h => h) (loc_eq (by simp [hss]) rfl)
  · have := cell_lt (hI.cells _ _ _ h)
    exact (cell_heap (heap_old w 0 (.cells cs e') (show b ≠ w.heap.size by omega))).trans (hI.cells _ _ _ h)
  · obtain ⟨q1, q2, q3, q4, q5⟩ := hI.frm
    exact ⟨q1, q2, q3, by simp; omega, fun r h1 h2 => (heap_old w 0 _ (by omega)).trans (q5 r h1 h2)⟩
  · rw [← hI.kap r hr]; simp [show r ≠ w.heap.size by omega]
theorem snd_boxM (hI : Inv C Γ g0 w0 g st a w) {o : Oper} {vo : VOper} {s : Nat} {vx : Opd} (hd : o.dst = vo.dst) (hv : vo.op = .boxM s vx) (hc : chkBoxM C Γ vo.dst o.op s vx = true)
    (hok : (sem vo.op st.get st.H).ok = true) : Step C Γ g0 w0 o vo st a w := by
  unfold chkBoxM at hc
  split at hc
  · rename_i e x ho
    simp only [Bool.and_eq_true] at hc
    obtain ⟨⟨⟨h0, h1⟩, h2⟩, h3⟩ := hc
    split at h2
    · rename_i t hb
      simp only [Bool.and_eq_true, decide_eq_true_eq] at h2
      obtain ⟨h2, hsn⟩ := h2
      have : t = e := by simpa using h2
      subst this
      split at h3
      · rename_i d hdd
        split at h3
        · rename_i e' he
          have : e' = t := by simpa using h3
          subst this
          rw [hv] at hok
          cases hB : getB st.H s with
          | u =>
            simp only [sem, hB, Bool.and_eq_true, decide_eq_true_eq] at hok
            have hx := hI.d h1 hok.1
            refine ⟨_, _, { g with rho := fun s' => if s' = s then some w.heap.size else g.rho s', kap := fun r => if r = w.heap.size then some (.site s) else g.kap r }, .inl (run_box ho), ?_⟩
            have hs : sem vo.op st.get st.H = { ok := vx.isD st.get && decide (s < st.H.length), v := .m s [], H := st.H.set s (.f (vx.d st.get)) } := by rw [hv]; simp only [sem, hB]
            rw [hs, hd]
            exact hI.site hsn hB hok.2 hb hdd he hx.1 (by simpa using hx.1.len h0)
          | _ => simp [sem, hB] at hok
        · cases h3
      · cases h3
    · cases h2
  · cases hc
def chkAlM (C : Ctx) (Γ : List Ty) (dst : Option Nat) (op : Op) (s : Nat) (z : V) : Bool :=
  match op, z with
  | .alloc e, .f z => zeroOk C.P e z && (match C.bt s with | some (.var t) => t == e && decide (C.nin ≤ s) | _ => false) && (match dst with | some d => (match Γ[d]? with | some (.p e') => e' == e | _ => false) | none => false)
  | _, _ => false
theorem snd_alM (hI : Inv C Γ g0 w0 g st a w) {o : Oper} {vo : VOper} {s : Nat} {z : V} (hd : o.dst = vo.dst) (hv : vo.op = .alM s z) (hc : chkAlM C Γ vo.dst o.op s z = true)
    (hok : (sem vo.op st.get st.H).ok = true) : Step C Γ g0 w0 o vo st a w := by
  unfold chkAlM at hc
  split at hc
  · rename_i e z' ho
    simp only [Bool.and_eq_true] at hc
    obtain ⟨⟨h1, h2⟩, h3⟩ := hc
    obtain ⟨i, zv, hi, hz, hzr, hzs⟩ := zeroOk_spec (S := g.S) h1
    split at h2
    · rename_i t hb
      simp only [Bool.and_eq_true, decide_eq_true_eq] at h2
      obtain ⟨h2, hsn⟩ := h2
      have : t = e := by simpa using h2
      subst this
      split at h3
      · rename_i d hdd
        split at h3
        · rename_i e' he
          have : e' = t := by simpa using h3
          subst this
          rw [hv] at hok
          cases hB : getB st.H s with
          | u =>
            simp only [sem, hB, decide_eq_true_eq] at hok
            refine ⟨_, _, { g with rho := fun s' => if s' = s then some w.heap.size else g.rho s', kap := fun r => if r = w.heap.size then some (.site s) else g.kap r }, .inl (run_al hi hz ho), ?_⟩
            have hs : sem vo.op st.get st.H = { ok := decide (s < st.H.length), v := .m s [], H := st.H.set s (.f z') } := by rw [hv]; simp only [sem, hB]
            rw [hs, hd]
            exact hI.site hsn hB hok hb hdd he hzr hzs
          | _ => simp [sem, hB] at hok
        · cases h3
      · cases h3
    · cases h2
  · cases hc
def chkBsl0 (C : Ctx) (Γ : List Ty) (dst : Option Nat) (op : Op) (z : List D) (parts : List (Nat × Opd)) : Bool :=
  match op with
  | .buildSlice t 0 ps => ps.isEmpty && z.isEmpty && parts.isEmpty && (match C.P.underlying t with | some (.slice e) => decide (0 < C.P.cellsOf e) | _ => false) && dstOk C Γ dst t
  | _ => false
theorem run_bsl0 {P : Program} {ρ : Operand → Value} {o : Oper} {w : World} {t e : Nat} (ho : o.op = .buildSlice t 0 #[]) (hu : P.underlying t = some (.slice e)) (h0 : 0 < P.cellsOf e) : (execOp ρ o).run P w = .ok (.value (.slice (some ⟨w.heap.size, 0, none⟩) 0 0)) (w.alloc (.cells #[] e)) := by
  obtain ⟨ie, hie⟩ := info_of_cells h0
  simp only [execOp, ho]
  refine run_v ?_
  simp [Instr.buildSlice, run_underlying hu, run_sizeOf hie, Instr.fill, newRow]
  congr 2
  apply Array.ext'
  simp
theorem snd_bsl0 (hI : Inv C Γ g0 w0 g st a w) {o : Oper} {vo : VOper} {md : Md} {z : List D} {parts : List (Nat × Opd)} (hd : o.dst = vo.dst) (hv : vo.op = .bsl md z parts) (hc : chkBsl0 C Γ vo.dst o.op z parts = true) : Step C Γ g0 w0 o vo st a w := by
  unfold chkBsl0 at hc
  split at hc
  · rename_i t ps ho
    simp only [Bool.and_eq_true, List.isEmpty_iff] at hc
    obtain ⟨⟨⟨⟨h1, h2⟩, h3⟩, h4⟩, h5⟩ := hc
    have hps : ps = #[] := by simpa using h1
    subst hps; subst h2; subst h3
    obtain ⟨d, t', hdd, hΓ, hq⟩ := dstOk_spec h5
    split at h4
    · rename_i e hu
      have h0 : 0 < C.P.cellsOf e := of_decide_eq_true h4
      refine ⟨_, _, g.add w.heap.size (frzF md 0 #[]) (some (.slot d)), .inl (run_bsl0 ho hu h0), ?_⟩
      rw [hv, hd]
      refine hI.fresh (o := vo) (sd := none) 0 (frzF_sub _ _ _) (fun _ _ h => by cases h) (fun d' hd' => ⟨.v t', ?_, ?_⟩)
      · rw [hdd] at hd'; injection hd' with hd'; subst hd'; exact hΓ
      · rw [hdd] at hd'; injection hd' with hd'; subst hd'
        refine RV.conv _ (show fits C.P (.v t) (.v t') = true from hq) ?_
        exact mkV_rv (C := C) (H := st.H) (g' := g.add w.heap.size (frzF md 0 #[]) (some (.slot d))) (w' := (w.drewN 0).alloc (.cells #[] e)) (r := w.heap.size) (cap := 0) (xs := []) (d := d) hu md true (f := fun _ => none) hI.base (heap_new w 0 _) (by simp) (by simp [maxLen]) (Nat.le_refl _) (.inl rfl) Els.nil (by simp [G.add]) (frzF_spec md _ #[] (S := (g.add w.heap.size (frzF md 0 #[]) (some (.slot d))).S w.heap.size) (by funext j; simp [G.add, frzF]))
    · cases h4
  · cases hc
def chkSlS (C : Ctx) (Γ : List Ty) (dst : Option Nat) (op : Op) (vx : Opd) (vlo vhi : Option Opd) : Bool :=
  match op with
  | .slice t x lo hi none => isS C.P t && opd C Γ x vx (.v t) && (cutOpds C Γ lo vlo && cutOpds C Γ hi vhi) && resTy C.P Γ dst (.v t)
  | _ => false
theorem run_cut_str {P : Program} {w : World} {t : Nat} (hu : P.underlying t = some .string) {s : ByteArray} {lo hi : Option Value} {l n m : Nat} (hb : (Instr.sliceBounds false s.size s.size lo hi none).run P w = .ok (l, n, m) w) :
    (Instr.slice t (.string s) lo hi none).run P w = .ok (.string (s.extract l n)) w := by
  simp [Instr.slice, run_underlying hu, hb]
theorem bytesL_extract (s : ByteArray) (l n : Nat) : bytesL (s.extract l n) = ((bytesL s).take n).drop l := by
  simp [bytesL, List.extract_eq_take_drop, List.map_drop, List.map_take, List.drop_take]
theorem snd_slS (hI : Inv C Γ g0 w0 g st a w) {o : Oper} {vo : VOper} {vx : Opd} {vlo vhi : Option Opd} (hd : o.dst = vo.dst) (hv : vo.op = .slS vx vlo vhi) (hc : chkSlS C Γ vo.dst o.op vx vlo vhi = true)
    (hok : (sem vo.op st.get st.H).ok = true) : Step C Γ g0 w0 o vo st a w := by
  unfold chkSlS at hc
  split at hc
  · rename_i t x lo hi ho
    simp only [Bool.and_eq_true] at hc
    obtain ⟨⟨⟨h1, h2⟩, h3, h4⟩, h5⟩ := hc
    rw [hv] at hok
    simp only [sem, Bool.and_eq_true, decide_eq_true_eq] at hok
    obtain ⟨⟨o1, o2, o3⟩, ⟨o4, o5⟩, o6⟩ := hok
    obtain ⟨bs, e1, e2, hbm⟩ := RT.str_b (isS_u h1) (hI.d h2 o1)
    have hlen : (vx.d st.get).toS.length = bs.size := by rw [e1]; simp [D.toS, bytesL]
    replace o4 : 0 ≤ loI st.get vlo := o4
    replace o5 : loI st.get vlo ≤ hiI st.get (vx.d st.get).toS.length vhi := o5
    replace o6 : hiI st.get (vx.d st.get).toS.length vhi ≤ (vx.d st.get).toS.length := o6
    rw [hlen] at o5 o6
    have hb := cut_bounds (isS := false) (cap := bs.size) hI h3 h4 o2 o3 o4 o5 o6 (Nat.le_refl _)
    refine Step.pure (x := .f (.s (((vx.d st.get).toS.take (hiI st.get (vx.d st.get).toS.length vhi).toNat).drop (loI st.get vlo).toNat))) hI hd (by rw [hv]; rfl) (run_cut ho (.inr (isS_u h1)) (by rw [e2]; exact run_cut_str (isS_u h1) hb)) h5 fun X => ?_
    simp only [RV]
    rw [hlen, e1]
    simp only [D.toS]
    rw [← bytesL_extract]
    exact RT.mkS (isS_u h1) _ (by rw [ByteArray.size_extract]; omega)
  · cases hc
end
end Go.Vam
