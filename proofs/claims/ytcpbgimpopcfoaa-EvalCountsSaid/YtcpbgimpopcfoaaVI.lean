/- THE SHADOW MACHINE, 9: parts of values; loads; the rest of what only computes. -/
import Derived.Test.YtcpbgimpopcfoaaVH
import Derived.Laws.BytesArg
import Derived.Laws.Pointers
import Derived.WalkSpells
set_option linter.unusedSimpArgs false
set_option linter.unusedVariables false
namespace Go.Vam
def valOf (P : Program) (e : Nat) (l : List Value) : Value :=
  match P.underlying e with
  | some (.struct _) | some (.array _ _) => .agg l.toArray
  | _ => l.getD 0 undef
theorem RF.val {P : Program} {S : Cells} {e : Nat} {d : D} {l : List Value} (h : RF P S e d l) : RT P S (.v e) d (valOf P e l) := by
  have key : ∀ x, l = [x] → (∀ cs, x ≠ .agg cs) → (match P.underlying e with | some (.struct _) | some (.array _ _) => False | _ => True) → RT P S (.v e) d (valOf P e l) := by
    intro x hx hna hk
    subst hx
    have e1 : valOf P e [x] = x := by
      unfold valOf
      split <;> simp_all
    have e2 : x.cells.toList = [x] := by cases x <;> first | rfl | exact absurd rfl (hna _)
    rw [e1]
    refine ⟨by rw [e2]; exact h, ?_⟩
    unfold AggOk
    split <;> simp_all
  cases h with
  | st h1 h2 h3 h4 h5 =>
    unfold valOf
    rw [h1]
    refine ⟨by simpa [Value.cells] using RF.st h1 h2 h3 h4 h5, ?_⟩
    unfold AggOk; rw [h1]; exact ⟨_, rfl⟩
  | ar h1 h2 h3 h4 h5 =>
    unfold valOf
    rw [h1]
    refine ⟨by simpa [Value.cells] using RF.ar h1 h2 h3 h4 h5, ?_⟩
    unfold AggOk; rw [h1]; exact ⟨_, rfl⟩
  | b h1 => exact key _ rfl (by simp) (by rw [h1]; trivial)
  | i h1 => exact key _ rfl (by simp) (by rw [h1]; trivial)
  | f h1 h2 => exact key _ rfl (by simp) (by rw [h1]; trivial)
  | s h1 => exact key _ rfl (by simp) (by rw [h1]; trivial)
  | nils h1 h2 => exact key _ rfl (by simp) (by rw [h1]; trivial)
  | slc h1 _ _ _ _ _ _ _ => exact key _ rfl (by simp) (by rw [h1]; trivial)
  | pn h1 => exact key _ rfl (by simp) (by rw [h1]; trivial)
  | p h1 _ _ _ => exact key _ rfl (by simp) (by rw [h1]; trivial)
  | ifn h1 => exact key _ rfl (by simp) (by rw [h1]; trivial)
  | ifc h1 _ _ => exact key _ rfl (by simp) (by rw [h1]; trivial)
  | fnn h1 => exact key _ rfl (by simp) (by rw [h1]; trivial)
section
variable {P : Program} {ρ : Operand → Value} {o : Oper} {w : World}
theorem run_isAgg {e : Nat} {ds : TypeDesc} (hu : P.underlying e = some ds) : (isAgg e).run P w = .ok (match ds with | .struct _ | .array _ _ => true | _ => false) w := by
  cases ds <;> simp [isAgg, run_underlying hu, go_sem]
theorem RF.under {S : Cells} {e : Nat} {d : D} {l : List Value} (h : RF P S e d l) : ∃ ds, P.underlying e = some ds := by cases h <;> exact ⟨_, ‹_›⟩
theorem run_part {S : Cells} {e : Nat} {d : D} {cs : Array Value} {off : Nat} (h : RF P S e d ((cs.toList.drop off).take (P.cellsOf e))) (h0 : 0 < P.cellsOf e) : (part e cs off).run P w = .ok (valOf P e ((cs.toList.drop off).take (P.cellsOf e))) w := by
  obtain ⟨ds, hu⟩ := h.under
  obtain ⟨inf, hinf⟩ := info_of_cells h0
  have hx : cs.extract off (off + P.cellsOf e) = ((cs.toList.drop off).take (P.cellsOf e)).toArray := by
    apply Array.ext'
    simp [Array.toList_extract, List.extract_eq_take_drop]
  unfold valOf
  rw [hu]
  simp only [part, Sem.run_bind, run_isAgg hu, Result.andThen]
  have key : (∀ x, ((cs.toList.drop off).take (P.cellsOf e)) = [x] → cs[off]? = some x) := by
    intro x hx
    have := (getElem?_part (cs := cs.toList) (off := off) (n := P.cellsOf e) (j := 0) (u := x) (by rw [hx]; rfl)).1
    simpa using this
  generalize hl : (cs.toList.drop off).take (P.cellsOf e) = l at *
  cases ds
  case struct => simp [run_sizeOf hinf, hx]
  case array => simp [run_sizeOf hinf, hx]
  all_goals (
    have hx1 : ∃ x, l = [x] := by cases h <;> first | exact ⟨_, rfl⟩ | simp_all
    obtain ⟨x, rfl⟩ := hx1
    have hc := key x rfl
    simp [hc])
theorem run_loadVar {S : Cells} {e : Nat} {d : D} {l : List Value} {b off : Nat} (h : RF P S e d l) (h0 : 0 < P.cellsOf e) (hl : l.length = P.cellsOf e) (hc : ∀ j u, l[j]? = some u → w.cell? ⟨b, off + j, none⟩ = some u) :
    (loadVar e ⟨b, off, none⟩).run P w = .ok (valOf P e l) w := by
  obtain ⟨ds, hu⟩ := h.under
  obtain ⟨inf, hinf⟩ := info_of_cells h0
  have hcs : (loadCells ⟨b, off, none⟩ (P.cellsOf e)).run P w = .ok l.toArray w := by
    rw [← hl]
    exact run_loadCells_list w _ l fun j v hj => by rw [add_none]; exact hc j v hj
  unfold valOf
  rw [hu]
  simp only [loadVar, Sem.run_bind, run_isAgg hu, Result.andThen]
  cases ds
  case struct => simp [run_sizeOf hinf, hcs]
  case array => simp [run_sizeOf hinf, hcs]
  all_goals (
    have hx1 : ∃ x, l = [x] := by cases h <;> first | exact ⟨_, rfl⟩ | simp_all
    obtain ⟨x, rfl⟩ := hx1
    have hc0 := hc 0 x rfl
    simp at hc0
    simp [run_load, hc0])
theorem run_v {s : Sem Value} {v : Value} {w' : World} (h : s.run P w = .ok v w') : (do pure (Next.value (← s)) : Sem Next).run P w = .ok (.value v) w' := by
  simp [h]
theorem run_ld {t : Nat} {x : Operand} {b off : Nat} {v : Value} {w' : World} (ho : o.op = .load t x) (hx : ρ x = .pointer (some ⟨b, off, none⟩)) (hr : (loadVar t ⟨b, off, none⟩).run P w = .ok v w') : (execOp ρ o).run P w = .ok (.value v) w' := by
  have h : (Instr.loadAt t (ρ x)).run P w = .ok v w' := by rw [hx]; exact hr
  simp only [execOp, ho]
  exact run_v h
theorem run_getf {t k : Nat} {x : Operand} {cs : Array Value} {fs : Array Field} {f : Field} {v : Value} (ho : o.op = .field t x k) (hu : P.underlying t = some (.struct fs)) (hf : fs[k]? = some f) (hx : ρ x = .agg cs) (hr : (part f.type cs f.offset).run P w = .ok v w) : (execOp ρ o).run P w = .ok (.value v) w := by
  have h : (Instr.field t (ρ x) k).run P w = .ok v w := by rw [hx]; simp [Instr.field, run_underlying hu, hf, asAgg, hr]
  simp only [execOp, ho]
  exact run_v h
theorem run_ixV {t n e k : Nat} {x i : Operand} {kd : IntKind} {cs : Array Value} {v : Value} (ho : o.op = .index t x i) (hu : P.underlying t = some (.array n e)) (h0 : 0 < P.cellsOf e) (hx : ρ x = .agg cs) (hi : ρ i = .int kd k) (hk : k < n) (hr : (part e cs (k * P.cellsOf e)).run P w = .ok v w) : (execOp ρ o).run P w = .ok (.value v) w := by
  obtain ⟨inf, hinf⟩ := info_of_cells h0
  have h1 : (k : Int) < (n : Int) := by omega
  have h : (Instr.index t (ρ x) (ρ i)).run P w = .ok v w := by rw [hx, hi]; simp [Instr.index, asIntOf, run_underlying hu, run_sizeOf hinf, h1, hk, hr]
  simp only [execOp, ho]
  exact run_v h
theorem run_ixS {t k : Nat} {x i : Operand} {kd : IntKind} {s : ByteArray} {b : UInt8} (ho : o.op = .index t x i) (hu : P.underlying t = some .string) (hx : ρ x = .string s) (hi : ρ i = .int kd k) (hk : s.data.toList[k]? = some b) : (execOp ρ o).run P w = .ok (.value (.int .u8 b.toNat)) w := by
  have hk' : s[k]? = some b := by
    obtain ⟨h1, h2⟩ := List.getElem?_eq_some_iff.1 hk
    have hs : k < s.size := by simpa using h1
    rw [getElem?_pos s k hs]
    congr 1
  simp [execOp, ho, Instr.index, asIntOf, run_underlying hu, hx, hi, hk', go_sem]
theorem run_ext {x : Operand} {k : Nat} {vs : Array Value} {v : Value} (ho : o.op = .extract x k) (hx : ρ x = .tuple vs) (hk : vs[k]? = some v) : (execOp ρ o).run P w = .ok (.value v) w := by
  simp [execOp, ho, Instr.extract, hx, hk, go_sem]
end
section
variable {C : Ctx} {Γ : List Ty} {g0 g : G} {w0 w : World} {st : St} {a : Act}
def resK (P : Program) (Γ : List Ty) (dst : Option Nat) (k : IntKind) : Bool :=
  match dst with
  | some d => (match Γ[d]? with | some (.v t) => isK P t k | _ => false)
  | none => true
theorem Step.intK {o : Oper} {vo : VOper} {k : IntKind} {n : Int} {ok : Bool} (hI : Inv C Γ g0 w0 g st a w) (hd : o.dst = vo.dst) (hs : sem vo.op st.get st.H = { ok, v := .f (.i n), H := st.H })
    (hr : (execOp a.eval o).run C.P w = .ok (.value (.int k n)) w) (ht : resK C.P Γ vo.dst k = true) (hn : k.min ≤ n ∧ n ≤ k.max) : Step C Γ g0 w0 o vo st a w := by
  refine ⟨.int k n, w, g, .inl hr, ?_⟩
  rw [hs, hd]
  refine hI.pure fun d hdd => ?_
  unfold resK at ht
  rw [hdd] at ht
  simp only at ht
  split at ht
  · rename_i t hτ; exact ⟨_, hτ, RT.mkI (isK_u ht) n hn⟩
  · cases ht
def chkIxS (C : Ctx) (Γ : List Ty) (dst : Option Nat) (op : Op) (vx vi : Opd) : Bool :=
  match op with
  | .index t x i => isS C.P t && opd C Γ x vx (.v t) && opI C Γ i vi && resK C.P Γ dst .u8
  | _ => false
theorem snd_ixS (hI : Inv C Γ g0 w0 g st a w) {o : Oper} {vo : VOper} {vx vi : Opd} (hd : o.dst = vo.dst) (hv : vo.op = .ixS vx vi) (hc : chkIxS C Γ vo.dst o.op vx vi = true)
    (hok : (sem vo.op st.get st.H).ok = true) : Step C Γ g0 w0 o vo st a w := by
  unfold chkIxS at hc
  split at hc
  · rename_i t x i ho
    simp only [Bool.and_eq_true] at hc
    obtain ⟨⟨⟨h1, h2⟩, h3⟩, h4⟩ := hc
    rw [hv] at hok
    simp only [sem, Bool.and_eq_true] at hok
    obtain ⟨bs, e1, e2⟩ := RT.str (isS_u h1) (hI.d h2 hok.1)
    obtain ⟨kd, i1, i2⟩ := hI.int h3 hok.2.1
    obtain ⟨k, ek, ek', hk⟩ := inb_spec hok.2.2
    rw [e1] at hk
    simp only [D.toS, bytesL, List.length_map] at hk
    refine Step.intK (ok := vx.isD st.get && (vi.isD st.get && inb (vi.d st.get).toI (vx.d st.get).toS.length)) (n := (bs.data.toList[k].toNat : Int)) hI hd ?_ (run_ixS ho (isS_u h1) e2 (by rw [i2, ek]) (List.getElem?_eq_getElem hk)) h4 (by
      have := bs.data.toList[k].toNat_lt
      refine ⟨?_, ?_⟩
      · have : IntKind.u8.min = 0 := rfl
        omega
      · have : IntKind.u8.max = 255 := rfl
        omega)
    rw [hv]
    have hget : bs.data[k]? = some bs.data[k] := Array.getElem?_eq_getElem (by simpa using hk)
    simp only [sem, e1, ek', D.toS, bytesL]
    simp [hget]
  · cases hc
def chkIxV (C : Ctx) (Γ : List Ty) (dst : Option Nat) (op : Op) (n : Nat) (vx vi : Opd) : Bool :=
  match op with
  | .index t x i => (match C.P.underlying t with | some (.array n' e) => n' == n && decide (0 < C.P.cellsOf e) && decide (n' * C.P.cellsOf e ≤ C.P.cellsOf t) && opd C Γ x vx (.v t) && opI C Γ i vi && resTy C.P Γ dst (.v e) | _ => false)
  | _ => false
theorem RT.agg {P : Program} {S : Cells} {t : Nat} {d : D} {v : Value} (h : RT P S (.v t) d v) (hu : (∃ fs, P.underlying t = some (.struct fs)) ∨ ∃ n e, P.underlying t = some (.array n e)) : ∃ cs : Array Value, v = .agg cs ∧ RF P S t d cs.toList := by
  obtain ⟨h1, h2⟩ := h
  unfold AggOk at h2
  rcases hu with ⟨fs, hu⟩ | ⟨n, e, hu⟩ <;> rw [hu] at h2 <;> simp only at h2
  · obtain ⟨cs, rfl⟩ := h2; exact ⟨cs, rfl, h1⟩
  · obtain ⟨cs, rfl⟩ := h2; exact ⟨cs, rfl, h1⟩
theorem snd_ixV (hI : Inv C Γ g0 w0 g st a w) {o : Oper} {vo : VOper} {n : Nat} {vx vi : Opd} (hd : o.dst = vo.dst) (hv : vo.op = .ixV n vx vi) (hc : chkIxV C Γ vo.dst o.op n vx vi = true)
    (hok : (sem vo.op st.get st.H).ok = true) : Step C Γ g0 w0 o vo st a w := by
  unfold chkIxV at hc
  split at hc
  · rename_i t x i ho
    split at hc
    · rename_i n' e hu
      simp only [Bool.and_eq_true, decide_eq_true_eq] at hc
      obtain ⟨⟨⟨⟨⟨hn, h0⟩, hl⟩, h2⟩, hi⟩, h3⟩ := hc
      have : n' = n := by simpa using hn
      subst this
      rw [hv] at hok
      simp only [sem, Bool.and_eq_true] at hok
      obtain ⟨kd, i1, i2⟩ := hI.int hi hok.2.1
      obtain ⟨k, ek, ek', hk⟩ := inb_spec hok.2.2
      obtain ⟨cs, ev, hr⟩ := (hI.d h2 hok.1).agg (.inr ⟨_, _, hu⟩)
      obtain ⟨r1, r2⟩ := hr.elem hu hk hl
      exact Step.pure hI hd (by rw [hv]; rfl) (run_ixV ho hu h0 ev (by rw [i2, ek]) hk (run_part r1 h0)) h3 fun X => by simp only [RV, ek']; exact r1.val
    · cases hc
  · cases hc
def chkGetf (C : Ctx) (Γ : List Ty) (dst : Option Nat) (op : Op) (vx : Opd) (k : Nat) : Bool :=
  match op with
  | .field s x k' => (match fldOk C.P s k with | some (ft, _) => k' == k && opd C Γ x vx (.v s) && resTy C.P Γ dst (.v ft) | none => false)
  | _ => false
theorem snd_getf (hI : Inv C Γ g0 w0 g st a w) {o : Oper} {vo : VOper} {vx : Opd} {k : Nat} (hd : o.dst = vo.dst) (hv : vo.op = .getf vx k) (hc : chkGetf C Γ vo.dst o.op vx k = true)
    (hok : (sem vo.op st.get st.H).ok = true) : Step C Γ g0 w0 o vo st a w := by
  unfold chkGetf at hc
  split at hc
  · rename_i s x k' ho
    split at hc
    · rename_i ft off hf
      simp only [Bool.and_eq_true] at hc
      obtain ⟨⟨h1, h2⟩, h3⟩ := hc
      have : k' = k := by simpa using h1
      subst this
      rw [hv] at hok
      simp only [sem] at hok
      obtain ⟨fs, f, hu, hk, e1, e2, h0, h1', hg⟩ := fldOk_spec hf
      obtain ⟨cs, ev, hr⟩ := (hI.d h2 hok).agg (.inl ⟨_, hu⟩)
      obtain ⟨r1, r2⟩ := hr.field hf
      subst e1; subst e2
      exact Step.pure hI hd (by rw [hv]; rfl) (run_getf ho hu hk ev (run_part r1 h0)) h3 fun X => by simp only [RV]; exact r1.val
    · cases hc
  · cases hc
theorem RVs_get {H : List V} {X : Own} : ∀ {ts : List Ty} {xs : List V} {vs : List Value} {n : Nat} (k : Nat) {τ : Ty}, RVs C g H w X n ts xs vs → ts[k]? = some τ → ts.length = xs.length → vs.length = xs.length → ∃ v, vs[k]? = some v ∧ RV C g H w (.sub X (n + k)) τ (xs.getD k .u) v
  | [], xs, vs, n, k, τ, h, hk, _, _ => by simp at hk
  | t :: ts, [], vs, n, k, τ, h, hk, hl, _ => by simp at hl
  | t :: ts, x :: xs, [], n, k, τ, h, hk, _, hl => by simp at hl
  | t :: ts, x :: xs, v :: vs, n, 0, τ, h, hk, _, _ => by
    simp at hk; subst hk
    exact ⟨v, rfl, h.1⟩
  | t :: ts, x :: xs, v :: vs, n, k + 1, τ, h, hk, h1, h2 => by
    obtain ⟨u, h3, h4⟩ := RVs_get k h.2 (by simpa using hk) (by simpa using h1) (by simpa using h2)
    refine ⟨u, by simpa using h3, ?_⟩
    rw [show n + (k + 1) = n + 1 + k by omega]
    simpa using h4
def chkExt (C : Ctx) (Γ : List Ty) (dst : Option Nat) (op : Op) (vx : Opd) (k : Nat) : Bool :=
  match op, vx with
  | .extract (.tmp n) k', .t m => n == m && k' == k && (match Γ[n]? with | some (.tup ts) => (match ts[k]? with | some τ => resTy C.P Γ dst τ | none => false) | _ => false)
  | _, _ => false
theorem RV.rd_idem {H : List V} {X Y : Own} {τ : Ty} {x : V} {v : Value} (h : RV C g H w X τ x v) (hx : x.rd = x) : RV C g H w Y τ x v := by
  have := RV.rd (Y := Y) x h
  rwa [hx] at this
mutual
theorem rd_rd : ∀ (x : V), x.rd.rd = x.rd
  | .f _ => by simp only [V.rd]
  | .o _ _ => by simp only [V.rd]
  | .w _ _ => by simp only [V.rd]
  | .c _ => by simp only [V.rd]
  | .a => by simp only [V.rd]
  | .m _ _ => by simp only [V.rd]
  | .ms _ _ => by simp only [V.rd]
  | .t vs => by simp only [V.rd, rdAll_rdAll vs]
  | .fn _ caps _ => by simp only [V.rd, rdAll_rdAll caps]
  | .n => by simp only [V.rd]
  | .u => by simp only [V.rd]
theorem rdAll_rdAll : ∀ (xs : List V), V.rdAll (V.rdAll xs) = V.rdAll xs
  | [] => by simp only [V.rdAll]
  | x :: xs => by simp only [V.rdAll, rd_rd x, rdAll_rdAll xs]
end
theorem rdAll_get : ∀ (xs : List V) (k : Nat), ((V.rdAll xs).getD k .u).rd = (V.rdAll xs).getD k .u
  | [], k => by simp [V.rdAll, V.rd]
  | x :: xs, 0 => by simp only [V.rdAll]; exact rd_rd x
  | x :: xs, k + 1 => by simp only [V.rdAll]; exact rdAll_get xs k
theorem snd_ext (hI : Inv C Γ g0 w0 g st a w) {o : Oper} {vo : VOper} {vx : Opd} {k : Nat} (hd : o.dst = vo.dst) (hv : vo.op = .ext vx k) (hc : chkExt C Γ vo.dst o.op vx k = true)
    (hok : (sem vo.op st.get st.H).ok = true) : Step C Γ g0 w0 o vo st a w := by
  unfold chkExt at hc
  split at hc
  · rename_i n k' m ho
    simp only [Bool.and_eq_true] at hc
    obtain ⟨⟨h1, h2⟩, h3⟩ := hc
    have : n = m := by simpa using h1
    subst this
    have : k' = k := by simpa using h2
    subst this
    split at h3
    · rename_i ts hts
      split at h3
      · rename_i τ hτ
        have hx := RV.rd (Y := .ret) _ (hI.slot hts)
        cases hev : st.get n with
        | t vs =>
          rw [hev] at hx
          simp only [V.rd, RV] at hx
          obtain ⟨ts', arr, e1, e2, e3, e4, e5⟩ := hx
          injection e1 with e1; subst e1
          obtain ⟨v, hk, hr⟩ := RVs_get k' e5 hτ e3 (by simpa using e4)
          refine Step.pure hI hd (x := (V.rdAll vs).getD k' .u) (by rw [hv]; simp only [sem, Opd.rd, Opd.ev, hev, V.rd]; rfl) (run_ext ho e2 (by simpa using hk)) h3 fun X => hr.rd_idem (rdAll_get vs k')
        | f _ => rw [hv] at hok; simp [sem, Opd.rd, Opd.ev, hev, V.rd] at hok
        | o _ _ => rw [hv] at hok; simp [sem, Opd.rd, Opd.ev, hev, V.rd] at hok
        | w _ _ => rw [hv] at hok; simp [sem, Opd.rd, Opd.ev, hev, V.rd] at hok
        | c _ => rw [hv] at hok; simp [sem, Opd.rd, Opd.ev, hev, V.rd] at hok
        | a => rw [hv] at hok; simp [sem, Opd.rd, Opd.ev, hev, V.rd] at hok
        | m _ _ => rw [hv] at hok; simp [sem, Opd.rd, Opd.ev, hev, V.rd] at hok
        | ms _ _ => rw [hv] at hok; simp [sem, Opd.rd, Opd.ev, hev, V.rd] at hok
        | fn _ _ _ => rw [hv] at hok; simp [sem, Opd.rd, Opd.ev, hev, V.rd] at hok
        | n => rw [hv] at hok; simp [sem, Opd.rd, Opd.ev, hev, V.rd] at hok
        | u => rw [hv] at hok; simp [sem, Opd.rd, Opd.ev, hev, V.rd] at hok
      · cases h3
    · cases h3
  · cases hc
end
end Go.Vam
