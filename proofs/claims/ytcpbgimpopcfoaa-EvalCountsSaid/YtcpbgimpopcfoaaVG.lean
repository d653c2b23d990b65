/- THE SHADOW MACHINE, 7: lengths, fields, elements. -/
import Derived.Test.YtcpbgimpopcfoaaVF
set_option linter.unusedSimpArgs false
set_option linter.unusedVariables false
namespace Go.Vam
theorem pathT_snoc {P : Program} {s e k dof : Nat} (h1 : pathT P [k] s = some (e, dof)) : ∀ (p : List Nat) (t off : Nat), pathT P p t = some (s, off) → pathT P (p ++ [k]) t = some (e, off + dof)
  | [], t, off, h => by
    simp only [pathT, Option.some.injEq, Prod.mk.injEq] at h
    obtain ⟨rfl, rfl⟩ := h
    rw [List.nil_append, Nat.zero_add]; exact h1
  | j :: r, t, off, h => by
    rw [List.cons_append]
    rw [pathT] at h ⊢
    split at h
    · rename_i fs' hu'
      split at h
      · rename_i f' hf'
        split at h
        · rename_i hg
          obtain ⟨q, h3, h4⟩ := Option.map_eq_some_iff.1 h
          obtain ⟨qt, qo⟩ := q
          simp only [Prod.mk.injEq] at h4
          obtain ⟨rfl, rfl⟩ := h4
          simp only [hf', hg, if_true, pathT_snoc h1 r _ _ h3, Option.map_some, Nat.add_assoc]
        · cases h
      · cases h
    · rename_i n e hu'
      split at h
      · rename_i hj
        obtain ⟨q, h3, h4⟩ := Option.map_eq_some_iff.1 h
        obtain ⟨qt, qo⟩ := q
        simp only [Prod.mk.injEq] at h4
        obtain ⟨rfl, rfl⟩ := h4
        simp only [hj, and_self, if_true, pathT_snoc h1 r _ _ h3, Option.map_some, Nat.add_assoc]
      · cases h
    · cases h
theorem pathT_field {P : Program} {s : Nat} {fs : Array Field} {k : Nat} {f : Field} (hu : P.underlying s = some (.struct fs)) (hf : fs[k]? = some f) (hg : fldGood P s fs k f = true) : pathT P [k] s = some (f.type, f.offset) := by
  simp [pathT, hu, hf, hg]
theorem pathT_elem {P : Program} {s n e : Nat} {k : Nat} (hu : P.underlying s = some (.array n e)) (hk : k < n) (hl : n * P.cellsOf e ≤ P.cellsOf s) : pathT P [k] s = some (e, k * P.cellsOf e) := by
  simp [pathT, hu, hk, hl]
theorem pathB_snoc {P : Program} {b : BTy} {n s e k dof : Nat} (h1 : pathT P [k] s = some (e, dof)) {p : List Nat} {off : Nat} (h : pathB P b n p = some (s, off)) : pathB P b n (p ++ [k]) = some (e, off + dof) := by
  cases b with
  | var t => exact pathT_snoc h1 p t off h
  | arr e =>
    cases p with
    | nil => simp [pathB] at h
    | cons j r =>
      simp only [List.cons_append, pathB] at h ⊢
      split at h
      · rename_i hj
        obtain ⟨q, h3, h4⟩ := Option.map_eq_some_iff.1 h
        obtain ⟨qt, qo⟩ := q
        simp only [Prod.mk.injEq] at h4
        obtain ⟨rfl, rfl⟩ := h4
        simp [hj, pathT_snoc h1 r _ _ h3, Nat.add_assoc]
      · cases h
def bcall : Op → Option (Builtin × List Operand × List Nat)
  | .call c => (match c.callee with | .builtin b => some (b, c.args.toList, c.argTypes.toList) | _ => none)
  | _ => none
theorem bcall_eq {op : Op} {b : Builtin} {xs : List Operand} {ts : List Nat} (h : bcall op = some (b, xs, ts)) : op = .call { callee := .builtin b, args := xs.toArray, argTypes := ts.toArray } := by
  unfold bcall at h
  split at h
  · rename_i c
    split at h
    · rename_i b' hb
      injection h with h
      simp only [Prod.mk.injEq] at h
      obtain ⟨rfl, h2, h3⟩ := h
      obtain ⟨cal, ar, at_⟩ := c
      simp only at hb h2 h3
      subst hb
      rw [← h2, ← h3]
    · cases h
  · cases h
section
variable {P : Program} {ρ : Operand → Value} {o : Oper} {w : World}
theorem add_none (b o n : Nat) : (⟨b, o, none⟩ : Addr).add n = ⟨b, o + n, none⟩ := by
  unfold Addr.add
  split
  · subst_vars; rfl
  · rfl
theorem run_len {x : Operand} {t : Nat} {v : Value} (ho : o.op = .call { callee := .builtin .len, args := #[x], argTypes := #[t] }) (hr : (Builtin.len_ #[t] o.type #[ρ x]).run P w = .ok v w) : (execOp ρ o).run P w = .ok (.value v) w := by
  simp [execOp, ho, resolve, invoke, builtin, hr, go_sem]
theorem len_slice {t e n c ty : Nat} {a : Option Addr} (hu : P.underlying t = some (.slice e)) : (Builtin.len_ #[t] ty #[.slice a n c]).run P w = .ok (.int .i64 n) w := by
  simp [Builtin.len_, run_underlying hu, goInt, go_sem]
theorem len_str {t ty : Nat} {s : ByteArray} (hu : P.underlying t = some .string) : (Builtin.len_ #[t] ty #[.string s]).run P w = .ok (.int .i64 s.size) w := by
  simp [Builtin.len_, run_underlying hu, goInt, go_sem]
theorem len_array {t n e ty : Nat} {v : Value} (hu : P.underlying t = some (.array n e)) : (Builtin.len_ #[t] ty #[v]).run P w = .ok (.int .i64 n) w := by
  cases v <;> simp [Builtin.len_, run_underlying hu, goInt, go_sem]
theorem len_parray {t t' n e ty : Nat} {v : Value} (hu : P.underlying t = some (.pointer t')) (hu' : P.underlying t' = some (.array n e)) : (Builtin.len_ #[t] ty #[v]).run P w = .ok (.int .i64 n) w := by
  cases v <;> simp [Builtin.len_, run_underlying hu, run_underlying hu', goInt, go_sem]
theorem run_sizeOf {t : Nat} {i : TypeInfo} (h : P.info? t = some i) : (sizeOf t).run P w = .ok (P.cellsOf t) w := by
  simp [sizeOf, typeInfo, h, Program.cellsOf, go_sem]
theorem info_of_cells {t : Nat} (h : 0 < P.cellsOf t) : ∃ i, P.info? t = some i := by
  unfold Program.cellsOf at h
  cases hi : P.info? t with
  | none => rw [hi] at h; simp at h
  | some i => exact ⟨i, rfl⟩
theorem run_fld {s : Nat} {x : Operand} {k b off : Nat} {fs : Array Field} {f : Field} (ho : o.op = .fieldAddr s x k) (hu : P.underlying s = some (.struct fs)) (hf : fs[k]? = some f) (h0 : 0 < P.cellsOf f.type) (hx : ρ x = .pointer (some ⟨b, off, none⟩)) :
    (execOp ρ o).run P w = .ok (.value (.pointer (some ⟨b, off + f.offset, none⟩))) w := by
  obtain ⟨i, hi⟩ := info_of_cells h0
  have h0' : P.cellsOf f.type ≠ 0 := by omega
  simp [execOp, ho, Instr.fieldAt, run_underlying hu, hf, hx, Instr.sureAddr, fieldPlace, run_sizeOf hi, h0', add_none, go_sem]
theorem run_ixa {t e : Nat} {x i : Operand} {ad : Addr} {n c k : Nat} {kd : IntKind} (ho : o.op = .indexAddr t x i) (hu : P.underlying t = some (.slice e)) (h0 : 0 < P.cellsOf e) (hx : ρ x = .slice (some ad) n c) (hi : ρ i = .int kd k) (hk : k < n) :
    (execOp ρ o).run P w = .ok (.value (.pointer (some (ad.add (k * P.cellsOf e))))) w := by
  obtain ⟨inf, hinf⟩ := info_of_cells h0
  have h1 : (k : Int) < (n : Int) := by omega
  simp [execOp, ho, Instr.indexAt, asIntOf, run_underlying hu, hx, hi, run_sizeOf hinf, h1, hk, go_sem]
theorem run_ixA {t n e : Nat} {x i : Operand} {b off k : Nat} {kd : IntKind} (ho : o.op = .indexAddr t x i) (hu : P.underlying t = some (.array n e)) (h0 : 0 < P.cellsOf e) (hx : ρ x = .pointer (some ⟨b, off, none⟩)) (hi : ρ i = .int kd k) (hk : k < n) :
    (execOp ρ o).run P w = .ok (.value (.pointer (some ⟨b, off + k * P.cellsOf e, none⟩))) w := by
  obtain ⟨inf, hinf⟩ := info_of_cells h0
  have h1 : (k : Int) < (n : Int) := by omega
  simp [execOp, ho, Instr.indexAt, asIntOf, run_underlying hu, hx, hi, Instr.sureAddr, run_sizeOf hinf, h1, hk, add_none, go_sem]
end
theorem inb_spec {i : Int} {n : Nat} (h : inb i n = true) : ∃ k : Nat, i = k ∧ i.toNat = k ∧ k < n := by
  simp only [inb, Bool.and_eq_true, decide_eq_true_eq] at h
  exact ⟨i.toNat, by omega, rfl, by omega⟩
section
variable {C : Ctx} {Γ : List Ty} {g0 g : G} {w0 w : World} {st : St} {a : Act}
def chkLen (C : Ctx) (Γ : List Ty) (dst : Option Nat) (op : Op) (vx : Opd) : Bool :=
  match bcall op with
  | some (.len, [x], [t]) => (match C.P.underlying t with | some (.slice _) => true | _ => false) && opd C Γ x vx (.v t) && resI C.P Γ dst
  | _ => false
def chkLenS (C : Ctx) (Γ : List Ty) (dst : Option Nat) (op : Op) (vx : Opd) : Bool :=
  match bcall op with
  | some (.len, [x], [t]) => isS C.P t && opd C Γ x vx (.v t) && resI C.P Γ dst
  | _ => false
theorem snd_lenS (hI : Inv C Γ g0 w0 g st a w) {o : Oper} {vo : VOper} {vx : Opd} (hd : o.dst = vo.dst) (hv : vo.op = .lenS vx) (hc : chkLenS C Γ vo.dst o.op vx = true)
    (hok : (sem vo.op st.get st.H).ok = true) : Step C Γ g0 w0 o vo st a w := by
  unfold chkLenS at hc
  split at hc
  · rename_i x t ho
    replace ho := bcall_eq ho
    simp only [Bool.and_eq_true] at hc
    obtain ⟨⟨h1, h2⟩, h3⟩ := hc
    rw [hv] at hok
    have hr := RT.str_r (isS_u h1) (hI.d h2 hok)
    obtain ⟨bs, e1, e⟩ := RT.str (isS_u h1) (hI.d h2 hok)
    exact Step.i64 (ok := vx.isD st.get) (n := (vx.d st.get).toS.length) hI hd (by rw [hv]; rfl) (run_len ho (by rw [e, len_str (isS_u h1), e1]; congr 2; simp [D.toS, bytesL])) h3 (lenR hr)
  · cases hc
theorem RT.slice {P : Program} {S : Cells} {t e : Nat} {d : D} {v : Value} (hu : P.underlying t = some (.slice e)) (h : RT P S (.v t) d v) :
    ∃ xs, IsSl d xs ∧ ((xs = [] ∧ (d = .sz [] ∨ d = .sq []) ∧ v = .slice none 0 0) ∨ ∃ ad cap, (d = .sl xs ∨ (d = .sz xs ∧ xs ≠ []) ∨ d = .sq xs) ∧ v = .slice (some ad) xs.length cap ∧ (xs.length ≤ cap ∧ xs.length ≤ maxLen) ∧ SlAt P S e ad xs) := by
  obtain ⟨h1, h2⟩ := h
  unfold AggOk at h2; rw [hu] at h2
  have hc : v.cells.toList = [v] := by cases v <;> first | rfl | exact absurd rfl (h2 _)
  rw [hc] at h1
  obtain ⟨xs, h3, h4⟩ := h1.slice hu
  refine ⟨xs, h3, ?_⟩
  rcases h4 with ⟨e1, e2, e3⟩ | ⟨ad, cap, e1, e2, e3, e4⟩
  · exact .inl ⟨e1, e2, by simpa using e3⟩
  · exact .inr ⟨ad, cap, e1, by simpa using e2, e3, e4⟩
theorem RT.slice_len {P : Program} {S : Cells} {t e : Nat} {d : D} {v : Value} (hu : P.underlying t = some (.slice e)) (h : RT P S (.v t) d v) : ∃ ad c, v = .slice ad d.toL.length c ∧ d.toL.length ≤ maxLen := by
  obtain ⟨xs, h1, h2⟩ := RT.slice hu h
  rw [h1.toL]
  rcases h2 with ⟨rfl, _, rfl⟩ | ⟨ad, cap, _, rfl, h2, _⟩
  · exact ⟨none, 0, rfl, by simp⟩
  · exact ⟨_, _, rfl, h2.2⟩
theorem OwnS.slice_len {X : Own} {e : Nat} {nn : Bool} {xs : List D} {v : Value} {fz : Bool} (h : OwnS C g w X e nn xs v fz) : ∃ ad c, v = .slice ad xs.length c ∧ xs.length ≤ maxLen := by
  rcases h with ⟨_, rfl, rfl⟩ | ⟨r, cap, c, e', rfl, _, _, _, _, _, h1, h2, _⟩
  · exact ⟨none, 0, rfl, by simp⟩
  · exact ⟨_, _, rfl, Nat.le_trans h1 h2⟩
theorem RF.sq_len {P : Program} {S : Cells} {t : Nat} {xs : List D} {cs : List Value} (h : RF P S t (.sq xs) cs) : xs.length ≤ maxLen := by
  cases h with
  | nils _ h => rcases h with h | h <;> simp at h; subst h; simp
  | slc _ h1 h2 => rcases h1 with h1 | h1 | h1 <;> simp at h1; subst h1; exact h2.2
theorem snd_len (hI : Inv C Γ g0 w0 g st a w) {o : Oper} {vo : VOper} {vx : Opd} (hd : o.dst = vo.dst) (hv : vo.op = .len vx) (hc : chkLen C Γ vo.dst o.op vx = true)
    (hok : (sem vo.op st.get st.H).ok = true) : Step C Γ g0 w0 o vo st a w := by
  unfold chkLen at hc
  split at hc
  · rename_i x t ho
    replace ho := bcall_eq ho
    simp only [Bool.and_eq_true] at hc
    obtain ⟨⟨h1, h2⟩, h3⟩ := hc
    have hx := hI.ev h2
    split at h1
    · rename_i e hu
      cases hev : vx.ev st.get with
      | f d =>
        rw [hev] at hx
        simp only [RV] at hx
        obtain ⟨ad, c, ev, hml⟩ := RT.slice_len hu hx
        obtain ⟨xs, hsl, _⟩ := RT.slice hu hx
        exact Step.i64 (ok := true) (n := d.toL.length) hI hd (by rw [hv]; simp only [sem, hev]) (run_len ho (by rw [ev]; exact len_slice hu)) h3 (lenR hml)
      | o nn xs =>
        rw [hev] at hx; simp only [RV] at hx; obtain ⟨t', e', ht, hu', h⟩ := hx
        obtain ⟨ad, c, ev, hml⟩ := h.slice_len
        exact Step.i64 (ok := true) (n := xs.length) hI hd (by rw [hv]; simp only [sem, hev]) (run_len ho (by rw [ev]; exact len_slice hu)) h3 (lenR hml)
      | w nn xs =>
        rw [hev] at hx; simp only [RV] at hx; obtain ⟨t', e', ht, hu', h⟩ := hx
        obtain ⟨ad, c, ev, hml⟩ := h.slice_len
        exact Step.i64 (ok := true) (n := xs.length) hI hd (by rw [hv]; simp only [sem, hev]) (run_len ho (by rw [ev]; exact len_slice hu)) h3 (lenR hml)
      | c xs =>
        rw [hev] at hx; simp only [RV] at hx; obtain ⟨t', ad, ht, hv', h⟩ := hx
        exact Step.i64 (ok := true) (n := xs.length) hI hd (by rw [hv]; simp only [sem, hev]) (run_len ho (by rw [hv']; exact len_slice hu)) h3 (lenR (RF.sq_len h))
      | ms s nn => rw [hv] at hok; simp [sem, hev] at hok
      | a => rw [hv] at hok; simp [sem, hev] at hok
      | m s p => rw [hv] at hok; simp [sem, hev] at hok
      | t vs => rw [hv] at hok; simp [sem, hev] at hok
      | fn g c ts => rw [hv] at hok; simp [sem, hev] at hok
      | n => rw [hv] at hok; simp [sem, hev] at hok
      | u => rw [hv] at hok; simp [sem, hev] at hok
    · cases h1
  · cases hc
def chkLenM (C : Ctx) (Γ : List Ty) (dst : Option Nat) (op : Op) (vx : Opd) : Bool :=
  match bcall op with
  | some (.len, [x], [t]) => (match C.P.underlying t with | some (.slice _) => true | _ => false) && opd C Γ x vx (.v t) && resI C.P Γ dst
  | _ => false
theorem snd_lenM (hI : Inv C Γ g0 w0 g st a w) {o : Oper} {vo : VOper} {vx : Opd} (hd : o.dst = vo.dst) (hv : vo.op = .lenM vx) (hc : chkLenM C Γ vo.dst o.op vx = true)
    (hok : (sem vo.op st.get st.H).ok = true) : Step C Γ g0 w0 o vo st a w := by
  unfold chkLenM at hc
  split at hc
  · rename_i x t ho
    replace ho := bcall_eq ho
    simp only [Bool.and_eq_true] at hc
    obtain ⟨⟨h1, h2⟩, h3⟩ := hc
    have hx := hI.rd h2 .ret
    split at h1
    · rename_i e hu
      cases hev : vx.rd st.get with
      | ms s nn =>
        rw [hev] at hx; simp only [RV] at hx
        obtain ⟨t', e', ht, hu', hb, hne, h⟩ := hx
        have hRB := hI.blocks s hne
        unfold RB at hRB
        rw [hb] at hRB
        simp only at hRB
        obtain ⟨d, hd', _⟩ := hRB
        have hl : ∃ ad c, a.eval x = .slice ad (blen (getB st.H s)) c ∧ blen (getB st.H s) ≤ maxLen := by
          rcases h with ⟨e1, a', e2, _⟩ | ⟨r, _, _, e2, e3⟩
          · exact ⟨a', 0, by rw [e1]; exact e2, by rw [e1]; simp⟩
          · exact ⟨_, _, e2, e3.2⟩
        obtain ⟨ad, c, ev, hml⟩ := hl
        rw [hd'] at ev hml
        exact Step.i64 (ok := true) (n := d.toL.length) hI hd (by rw [hv]; simp only [sem, hev, hd']) (run_len ho (by rw [ev]; exact len_slice hu)) h3 (lenR hml)
      | _ => rw [hv] at hok; simp [sem, hev] at hok
    · cases h1
  · cases hc
def chkLenC (C : Ctx) (Γ : List Ty) (dst : Option Nat) (op : Op) (n : Nat) : Bool :=
  match bcall op with
  | some (.len, [x], [t]) =>
    (match C.P.underlying t with | some (.array n' _) => n' == n | some (.pointer t') => (match C.P.underlying t' with | some (.array n' _) => n' == n | _ => false) | _ => false) && (decide (n ≤ maxLen) && resI C.P Γ dst)
  | _ => false
theorem snd_lenC (hI : Inv C Γ g0 w0 g st a w) {o : Oper} {vo : VOper} {n : Nat} (hd : o.dst = vo.dst) (hv : vo.op = .lenC n) (hc : chkLenC C Γ vo.dst o.op n = true) : Step C Γ g0 w0 o vo st a w := by
  unfold chkLenC at hc
  split at hc
  · rename_i x t ho
    replace ho := bcall_eq ho
    simp only [Bool.and_eq_true] at hc
    obtain ⟨h1, hml, h3⟩ := hc
    replace hml : n ≤ maxLen := by simpa using hml
    split at h1
    · rename_i n' e hu
      have : n' = n := by simpa using h1
      subst this
      exact Step.i64 (ok := true) hI hd (by rw [hv]; rfl) (run_len ho (len_array hu)) h3 (lenR hml)
    · rename_i t' hu
      split at h1
      · rename_i n' e hu'
        have : n' = n := by simpa using h1
        subst this
        exact Step.i64 (ok := true) hI hd (by rw [hv]; rfl) (run_len ho (len_parray hu hu')) h3 (lenR hml)
      · cases h1
    · cases h1
  · cases hc
end
end Go.Vam
