/- THE SHADOW MACHINE, 10: nil, min and max, loads of what nobody writes, cuts. -/
import Derived.Test.YtcpbgimpopcfoaaVI
import Derived.Laws.Slices
set_option linter.unusedSimpArgs false
set_option linter.unusedVariables false
namespace Go.Vam
section
variable {P : Program} {ρ : Operand → Value} {o : Oper} {w : World}
theorem eqlP_nil {t e : Nat} (hu : P.underlying t = some (.pointer e)) (p : Option Addr) : (Op.equal t (.pointer p) (.pointer none)).run P w = .ok p.isNone w :=
  run_equal_pointer_nil w t p (by rw [hu]; simp [Program.pointee, hu])
theorem eqlI_nil' (d : Nat) {t u : Nat} {ms : Array (String × TypeId)} (hu : P.underlying t = some (.interface ms)) (x : Value) : (Op.equalIn (d + 1) t (.iface u x) .nilIface).run P w = .ok false w := by
  simp [Op.equalIn, run_underlying hu]
theorem eqlI_nil {t u : Nat} {ms : Array (String × TypeId)} (hu : P.underlying t = some (.interface ms)) (x : Value) : (Op.equal t (.iface u x) .nilIface).run P w = .ok false w := eqlI_nil' 9999 hu x
theorem eqlI_nn' (d : Nat) {t : Nat} {ms : Array (String × TypeId)} (hu : P.underlying t = some (.interface ms)) : (Op.equalIn (d + 1) t .nilIface .nilIface).run P w = .ok true w := by
  simp [Op.equalIn, run_underlying hu]
theorem eqlI_nn {t : Nat} {ms : Array (String × TypeId)} (hu : P.underlying t = some (.interface ms)) : (Op.equal t .nilIface .nilIface).run P w = .ok true w := eqlI_nn' 9999 hu
theorem eqlS_nil' (d : Nat) {t e : Nat} (hu : P.underlying t = some (.slice e)) (ad : Option Addr) (n c : Nat) : (Op.equalIn (d + 1) t (.slice ad n c) (.slice none 0 0)).run P w = .ok ad.isNone w := by
  cases ad <;> simp [Op.equalIn, run_underlying hu]
theorem eqlS_nil {t e : Nat} (hu : P.underlying t = some (.slice e)) (ad : Option Addr) (n c : Nat) : (Op.equal t (.slice ad n c) (.slice none 0 0)).run P w = .ok ad.isNone w := eqlS_nil' 9999 hu ad n c
theorem notN_ok (d : D) : F1.notN.ok d = F1.isN.ok d := by cases d <;> rfl
theorem run_nil {t u : Nat} {x : Operand} {z : Value} {b : Bool} {op : BinOp} (hop : op = .eql ∨ op = .neq) (hz : z = .slice none 0 0 ∨ z = .pointer none ∨ z = .nilIface) (ho : o.op = .binOp op t x (.const z) u) (hx : ∀ cs, ρ x ≠ .agg cs) (hr : (Op.equal t (ρ x) z).run P w = .ok b w) (hc : ρ (.const z) = z) :
    (execOp ρ o).run P w = .ok (.value (.bool (if op = .eql then b else !b))) w := by
  have hg : ∀ op', (eqGuard op' t x (.const z) (ρ x) z).run P w = .ok () w := by
    intro op'
    unfold eqGuard
    rcases hz with rfl | rfl | rfl <;> cases op' <;> simp [go_sem] <;> cases hxx : ρ x <;> simp [go_sem]
  refine run_bin ho (by rw [hc]; exact hg _) ?_
  rw [hc]
  rcases hop with rfl | rfl
  · rcases hz with rfl | rfl | rfl <;> cases hxx : ρ x <;> rw [hxx] at hr <;> simp [binOp, hr, go_sem]
  · rcases hz with rfl | rfl | rfl <;> cases hxx : ρ x <;> rw [hxx] at hr <;> simp [binOp, hr, go_sem]
end
section
variable {C : Ctx} {Γ : List Ty} {g0 g : G} {w0 w : World} {st : St} {a : Act}
def nilOf (P : Program) (t : Nat) (z : Value) : Option Ty :=
  match P.underlying t, z with
  | some (.slice _), .slice none 0 0 => some (.v t)
  | some (.pointer e), .pointer none => some (.p e)
  | some (.interface _), .nilIface => some (.v t)
  | _, _ => none
def chkNil (C : Ctx) (Γ : List Ty) (dst : Option Nat) (op : Op) (f : F1) (vx : Opd) : Bool :=
  match op with
  | .binOp b t x (.const z) _ => (match nilOf C.P t z with | some τ => opd C Γ x vx τ && resB C.P Γ dst && (match b, f with | .eql, .isN => true | .neq, .notN => true | _, _ => false) | none => false)
  | _ => false
theorem nil_run {t : Nat} {z : Value} {τ : Ty} {d : D} {v : Value} {S : Cells} (hz : nilOf C.P t z = some τ) (h : RT C.P S τ d v) (hok : F1.isN.ok d = true) : (z = .slice none 0 0 ∨ z = .pointer none ∨ z = .nilIface) ∧ (∀ cs, v ≠ .agg cs) ∧ (Op.equal t v z).run C.P w = .ok d.isN w := by
  unfold nilOf at hz
  split at hz
  · rename_i e hu
    injection hz with hz; subst hz
    obtain ⟨xs, hsl, hh⟩ := RT.slice hu h
    rcases hh with ⟨rfl, hd, rfl⟩ | ⟨ad, cap, hd, rfl, hl, hs⟩
    · refine ⟨.inl rfl, by simp, ?_⟩
      rw [eqlS_nil hu]
      rcases hd with rfl | rfl
      · rfl
      · simp [F1.ok] at hok
    · refine ⟨.inl rfl, by simp, ?_⟩
      rw [eqlS_nil hu]
      rcases hd with rfl | ⟨rfl, hne⟩ | rfl
      · rfl
      · cases xs with
        | nil => exact absurd rfl hne
        | cons => rfl
      · rfl
  · rename_i e hu
    injection hz with hz; subst hz
    rcases h with ⟨rfl, rfl⟩ | ⟨d', cs, b, o, rfl, rfl, _⟩
    · exact ⟨.inr (.inl rfl), by simp, by rw [eqlP_nil hu]; rfl⟩
    · exact ⟨.inr (.inl rfl), by simp, by rw [eqlP_nil hu]; rfl⟩
  · rename_i ms hu
    injection hz with hz; subst hz
    obtain ⟨h1, h2⟩ := h
    unfold AggOk at h2; rw [hu] at h2
    have hc : v.cells.toList = [v] := by cases v <;> first | rfl | exact absurd rfl (h2 _)
    rw [hc] at h1
    rcases h1.iface hu with ⟨rfl, e⟩ | ⟨u, d', v', rfl, e, _⟩
    · have e : v = .nilIface := by simpa using e
      subst e
      exact ⟨.inr (.inr rfl), by simp, by rw [eqlI_nn hu]; rfl⟩
    · have e : v = .iface u v' := by simpa using e
      subst e
      exact ⟨.inr (.inr rfl), by simp, by rw [eqlI_nil hu]; rfl⟩
  · cases hz
theorem snd_nil (hI : Inv C Γ g0 w0 g st a w) {o : Oper} {vo : VOper} {f : F1} {vx : Opd} (hd : o.dst = vo.dst) (hv : vo.op = .un f vx) (hc : chkNil C Γ vo.dst o.op f vx = true)
    (hok : (sem vo.op st.get st.H).ok = true) : Step C Γ g0 w0 o vo st a w := by
  unfold chkNil at hc
  split at hc
  · rename_i b t x z u ho
    split at hc
    · rename_i τ hτ
      simp only [Bool.and_eq_true] at hc
      obtain ⟨⟨h1, h2⟩, h3⟩ := hc
      rw [hv] at hok
      simp only [sem, Bool.and_eq_true] at hok
      have hok' : F1.isN.ok (vx.d st.get) = true := by
        have := hok.2
        split at h3 <;> first | exact this | (rw [notN_ok] at this; exact this) | cases h3
      obtain ⟨k1, k2, k3⟩ := nil_run (C := C) (w := w) hτ (hI.d h1 hok.1) hok'
      split at h3
      · exact Step.bool hI hd (by rw [hv]; rfl) (run_nil (.inl rfl) k1 ho k2 k3 rfl) h2
      · exact Step.bool hI hd (by rw [hv]; rfl) (run_nil (.inr rfl) k1 ho k2 k3 rfl) h2
      · cases h3
    · cases hc
  · cases hc
def mmOk (C : Ctx) (Γ : List Ty) (t : Nat) : List Operand → List Opd → Bool
  | [], [] => true
  | x :: xs, y :: ys => opd C Γ x y (.v t) && mmOk C Γ t xs ys
  | _, _ => false
def chkMm (C : Ctx) (Γ : List Ty) (dst : Option Nat) (op : Op) (mx : Bool) (vx : Opd) (l : List Opd) : Bool :=
  match bcall op with
  | some (b, x :: xs, t :: _) => (match C.P.underlying t with | some (.int _) => true | _ => false) && (match b, mx with | .max, true => true | .min, false => true | _, _ => false) && opd C Γ x vx (.v t) && mmOk C Γ t xs l && resTy C.P Γ dst (.v t)
  | _ => false
theorem mm_vals (hI : Inv C Γ g0 w0 g st a w) {t : Nat} {k : IntKind} (hk : C.P.underlying t = some (.int k)) : ∀ {xs : List Operand} {l : List Opd}, mmOk C Γ t xs l = true → l.all (fun y => y.isD st.get) = true → xs.map a.eval = l.map fun y => .int k (y.d st.get).toI
  | [], [], _, _ => rfl
  | [], _ :: _, h, _ => by cases h
  | _ :: _, [], h, _ => by cases h
  | x :: xs, y :: l, h, h' => by
    simp only [mmOk, Bool.and_eq_true] at h
    simp only [List.all_cons, Bool.and_eq_true] at h'
    rw [List.map_cons, List.map_cons, mm_vals hI hk h.2 h'.2, (RT.int hk (hI.d h.1 h'.1)).2]
theorem mm_range (hI : Inv C Γ g0 w0 g st a w) {t : Nat} {k : IntKind} (hk : C.P.underlying t = some (.int k)) : ∀ {xs : List Operand} {l : List Opd}, mmOk C Γ t xs l = true → l.all (fun y => y.isD st.get) = true → ∀ m ∈ (l.map fun y => (y.d st.get).toI), k.min ≤ m ∧ m ≤ k.max
  | [], [], _, _ => fun m hm => by simp at hm
  | [], _ :: _, h, _ => by cases h
  | _ :: _, [], h, _ => by cases h
  | x :: xs, y :: l, h, h' => by
    simp only [mmOk, Bool.and_eq_true] at h
    simp only [List.all_cons, Bool.and_eq_true] at h'
    intro m hm
    rcases List.mem_cons.1 hm with rfl | hm
    · exact RT.int_r hk (hI.d h.1 h'.1)
    · exact mm_range hI hk h.2 h'.2 m hm
theorem mmR {k : IntKind} {mx : Bool} : ∀ {l : List Int} {n : Int}, (k.min ≤ n ∧ n ≤ k.max) → (∀ m ∈ l, k.min ≤ m ∧ m ≤ k.max) → k.min ≤ mmI mx n l ∧ mmI mx n l ≤ k.max
  | [], n, h, _ => h
  | m :: l, n, h, h' => by
    rw [mmI]
    refine mmR ?_ fun x hx => h' x (List.mem_cons_of_mem _ hx)
    have h2 := h' m List.mem_cons_self
    cases mx
    · simp only [cond_false]; split <;> assumption
    · simp only [cond_true]; split <;> assumption
theorem fold_max {P : Program} {k : IntKind} : ∀ (l : List Int) (n : Int), (List.foldlM Builtin.max2 (Value.int k n) (l.map fun m => .int k m)).run P w = .ok (.int k (mmI true n l)) w
  | [], n => by simp [mmI, go_sem]
  | m :: l, n => by
    simp only [List.map_cons, List.foldlM_cons, Sem.run_bind, Builtin.max2, Sem.run_pure, Result.andThen]
    exact fold_max l _
theorem fold_min {P : Program} {k : IntKind} : ∀ (l : List Int) (n : Int), (List.foldlM Builtin.min2 (Value.int k n) (l.map fun m => .int k m)).run P w = .ok (.int k (mmI false n l)) w
  | [], n => by simp [mmI, go_sem]
  | m :: l, n => by
    simp only [List.map_cons, List.foldlM_cons, Sem.run_bind, Builtin.min2, Sem.run_pure, Result.andThen]
    exact fold_min l _
theorem run_mm {P : Program} {ρ : Operand → Value} {o : Oper} {b : Builtin} {xs : List Operand} {ts : List Nat} {v : Value} (ho : o.op = .call { callee := .builtin b, args := xs.toArray, argTypes := ts.toArray })
    (hr : (b = .max ∧ (Builtin.max_ ts.toArray o.type (xs.map ρ).toArray).run P w = .ok v w) ∨ (b = .min ∧ (Builtin.min_ ts.toArray o.type (xs.map ρ).toArray).run P w = .ok v w)) : (execOp ρ o).run P w = .ok (.value v) w := by
  rcases hr with ⟨rfl, hr⟩ | ⟨rfl, hr⟩
  · simp [execOp, ho, resolve, invoke, builtin, hr, go_sem]
  · simp [execOp, ho, resolve, invoke, builtin, hr, go_sem]
theorem snd_mm (hI : Inv C Γ g0 w0 g st a w) {o : Oper} {vo : VOper} {mx : Bool} {vx : Opd} {l : List Opd} (hd : o.dst = vo.dst) (hv : vo.op = .mm mx vx l) (hc : chkMm C Γ vo.dst o.op mx vx l = true)
    (hok : (sem vo.op st.get st.H).ok = true) : Step C Γ g0 w0 o vo st a w := by
  unfold chkMm at hc
  split at hc
  · rename_i b x xs t ts ho
    replace ho := bcall_eq ho
    simp only [Bool.and_eq_true] at hc
    obtain ⟨⟨⟨⟨h1, h2⟩, h3⟩, h4⟩, h5⟩ := hc
    rw [hv] at hok
    simp only [sem, Bool.and_eq_true] at hok
    split at h1
    · rename_i k hk
      have e1 := (RT.int hk (hI.d h3 hok.1)).2
      have hr1 := RT.int_r hk (hI.d h3 hok.1)
      have e2 := mm_vals hI hk h4 hok.2
      have hr2 := mm_range hI hk h4 hok.2
      have e3 : ((x :: xs).map a.eval).toArray = (Value.int k (vx.d st.get).toI :: ((l.map fun y => (y.d st.get).toI).map fun m => Value.int k m)).toArray := by
        rw [List.map_cons, e1, e2, List.map_map]; rfl
      split at h2
      · refine Step.pure (τ := .v t) (x := .f (.i (mmI true (vx.d st.get).toI (l.map fun y => (y.d st.get).toI)))) (v := .int k (mmI true (vx.d st.get).toI (l.map fun y => (y.d st.get).toI))) hI hd (by rw [hv]; rfl) (run_mm ho (.inl ⟨rfl, ?_⟩)) h5 fun X => by simp only [RV]; exact RT.mkI hk _ (mmR hr1 hr2)
        rw [e3]; exact fold_max _ _
      · refine Step.pure (τ := .v t) (x := .f (.i (mmI false (vx.d st.get).toI (l.map fun y => (y.d st.get).toI)))) (v := .int k (mmI false (vx.d st.get).toI (l.map fun y => (y.d st.get).toI))) hI hd (by rw [hv]; rfl) (run_mm ho (.inr ⟨rfl, ?_⟩)) h5 fun X => by simp only [RV]; exact RT.mkI hk _ (mmR hr1 hr2)
        rw [e3]; exact fold_min _ _
      · cases h2
    · cases h1
  · cases hc
def chkLdF (C : Ctx) (Γ : List Ty) (dst : Option Nat) (op : Op) (vx : Opd) : Bool :=
  match op with
  | .load t x => decide (0 < C.P.cellsOf t) && opd C Γ x vx (.p t) && resTy C.P Γ dst (.v t)
  | _ => false
theorem snd_ldF (hI : Inv C Γ g0 w0 g st a w) {o : Oper} {vo : VOper} {vx : Opd} (hd : o.dst = vo.dst) (hv : vo.op = .ldF vx) (hc : chkLdF C Γ vo.dst o.op vx = true)
    (hok : (sem vo.op st.get st.H).ok = true) : Step C Γ g0 w0 o vo st a w := by
  unfold chkLdF at hc
  split at hc
  · rename_i t x ho
    simp only [Bool.and_eq_true, decide_eq_true_eq] at hc
    obtain ⟨⟨h0, h1⟩, h2⟩ := hc
    rw [hv] at hok
    simp only [sem, Bool.and_eq_true] at hok
    obtain ⟨cs, b, off, e1, e2, e3, e4⟩ := RP.at_ (hI.d h1 hok.1) hok.2
    exact Step.pure hI hd (by rw [hv]; rfl) (run_ld ho e1 (run_loadVar e2 h0 e3 fun j u hj => hI.cells _ _ _ (e4 j u hj))) h2 fun X => by simp only [RV]; exact e2.val
  · cases hc
theorem run_cut {P : Program} {ρ : Operand → Value} {o : Oper} {t : Nat} {x : Operand} {lo hi mx : Option Operand} {v : Value} (ho : o.op = .slice t x lo hi mx) (hu : (∃ e, P.underlying t = some (.slice e)) ∨ P.underlying t = some .string) (hr : (Instr.slice t (ρ x) (lo.map ρ) (hi.map ρ) (mx.map ρ)).run P w = .ok v w) : (execOp ρ o).run P w = .ok (.value v) w := by
  simp only [execOp, ho]
  refine run_v ?_
  rcases hu with ⟨e, hu⟩ | hu
  · rw [run_sliceAt_slice w t _ _ _ _ (by rw [hu]; simp [Program.elem, hu])]; exact hr
  · rw [run_sliceAt_string w t _ _ _ _ hu]; exact hr
theorem SlAt.drop {P : Program} {S : Cells} {e : Nat} {ad : Addr} {xs : List D} (h : SlAt P S e ad xs) (l : Nat) (hl : l < xs.length) : SlAt P S e (ad.add (l * P.cellsOf e)) (xs.drop l) := by
  obtain ⟨h1, cs, h2, h3, h4⟩ := h
  have hs := h1 (by omega)
  have ea : ad.add (l * P.cellsOf e) = ⟨ad.block, ad.off + l * P.cellsOf e, none⟩ := by
    obtain ⟨b, o, s⟩ := ad
    simp only at hs; subst hs
    exact add_none _ _ _
  rw [ea]
  refine ⟨fun _ => rfl, fun i => cs (l + i), fun i hi => ?_, fun i hi => ?_, fun i hi j v hv => ?_⟩
  · rw [List.getElem_drop]; exact h2 _ (by simp at hi; omega)
  · exact h3 _ (by simp at hi; omega)
  · have := h4 (l + i) (by simp at hi; omega) j v hv
    rw [Nat.add_mul] at this
    rw [show ad.off + l * P.cellsOf e + (i * P.cellsOf e + j) = ad.off + (l * P.cellsOf e + i * P.cellsOf e + j) by omega]
    exact this
theorem SlAt.take {P : Program} {S : Cells} {e : Nat} {ad : Addr} {xs : List D} (h : SlAt P S e ad xs) (n : Nat) : SlAt P S e ad (xs.take n) := by
  obtain ⟨h1, cs, h2, h3, h4⟩ := h
  refine ⟨fun hp => h1 (by simp at hp; omega), cs, fun i hi => ?_, fun i hi => h3 i (by simp at hi; omega), fun i hi => h4 i (by simp at hi; omega)⟩
  rw [List.getElem_take]; exact h2 _ (by simp at hi; omega)
theorem SlAt.nil' {P : Program} {S : Cells} {e : Nat} {ad : Addr} : SlAt P S e ad [] := ⟨fun h => by simp at h, fun _ => [], fun i h => by simp at h, fun i h => by simp at h, fun i h => by simp at h⟩
theorem SlAt.rf {P : Program} {S : Cells} {t e : Nat} (hu : P.underlying t = some (.slice e)) {ad : Addr} {xs : List D} {d : D} {cap : Nat} (h : SlAt P S e ad xs) (hd : d = .sl xs ∨ (d = .sz xs ∧ xs ≠ []) ∨ d = .sq xs) (hc : xs.length ≤ cap ∧ xs.length ≤ maxLen) : RT P S (.v t) d (.slice (some ad) xs.length cap) := by
  obtain ⟨h1, cs, h2, h3, h4⟩ := h
  exact ⟨.slc hu hd hc h1 cs h2 h3 h4, by unfold AggOk; rw [hu]; simp⟩
def loI (ρ : Nat → V) (x : Option Opd) : Int := match x with | some y => (y.d ρ).toI | none => 0
def hiI (ρ : Nat → V) (n : Nat) (x : Option Opd) : Int := match x with | some y => (y.d ρ).toI | none => (n : Int)
def cutOpds (C : Ctx) (Γ : List Ty) : Option Operand → Option Opd → Bool
  | some x, some y => opI C Γ x y
  | none, none => true
  | _, _ => false
theorem cut_bounds (hI : Inv C Γ g0 w0 g st a w) {lo hi : Option Operand} {vlo vhi : Option Opd} {len cap : Nat} {isS : Bool} (hl : cutOpds C Γ lo vlo = true) (hh : cutOpds C Γ hi vhi = true) (dl : vlo.all (fun y => y.isD st.get) = true) (dh : vhi.all (fun y => y.isD st.get) = true)
    (h0 : 0 ≤ loI st.get vlo) (h1 : loI st.get vlo ≤ hiI st.get len vhi) (h2 : hiI st.get len vhi ≤ len) (hc : len ≤ cap) :
    (Instr.sliceBounds isS len cap (lo.map a.eval) (hi.map a.eval) none).run C.P w = .ok ((loI st.get vlo).toNat, (hiI st.get len vhi).toNat, cap) w := by
  cases lo with
  | none =>
    cases vlo with
    | some _ => cases hl
    | none =>
      cases hi with
      | none =>
        cases vhi with
        | some _ => cases hh
        | none => simp [Instr.sliceBounds, loI, hiI]
      | some z =>
        cases vhi with
        | none => cases hh
        | some y =>
          obtain ⟨k, e1, e2⟩ := hI.int hh dh
          simp only [loI, hiI] at h0 h1 h2
          have := run_sliceBound (P := C.P) w k (y.d st.get).toI cap (if isS then .sliceAcap else .sliceAlen) (by omega) (by omega)
          simp [Instr.sliceBounds, e2, this, loI, hiI]
  | some z' =>
    cases vlo with
    | none => cases hl
    | some y' =>
      obtain ⟨k', e1', e2'⟩ := hI.int hl dl
      cases hi with
      | none =>
        cases vhi with
        | some _ => cases hh
        | none =>
          simp only [loI, hiI] at h0 h1 h2
          have := run_sliceBound (P := C.P) w k' (y'.d st.get).toI len .sliceB (by omega) (by omega)
          simp [Instr.sliceBounds, e2', this, loI, hiI]
      | some z =>
        cases vhi with
        | none => cases hh
        | some y =>
          obtain ⟨k, e1, e2⟩ := hI.int hh dh
          simp only [loI, hiI] at h0 h1 h2
          have t1 := run_sliceBound (P := C.P) w k (y.d st.get).toI cap (if isS then .sliceAcap else .sliceAlen) (by omega) (by omega)
          have t2 := run_sliceBound (P := C.P) w k' (y'.d st.get).toI (y.d st.get).toI.toNat .sliceB (by omega) (by omega)
          simp [Instr.sliceBounds, e2, e2', t1, t2, loI, hiI]
def chkSlF (C : Ctx) (Γ : List Ty) (dst : Option Nat) (op : Op) (vx : Opd) (vlo vhi : Option Opd) : Bool :=
  match op with
  | .slice t x lo hi none => (match C.P.underlying t with | some (.slice e) => decide (0 < C.P.cellsOf e) | _ => false) && opd C Γ x vx (.v t) && (cutOpds C Γ lo vlo && cutOpds C Γ hi vhi) && resTy C.P Γ dst (.v t)
  | _ => false
theorem slice_part {P : Program} {S : Cells} {t e : Nat} (hu : P.underlying t = some (.slice e)) {d : D} {v : Value} (h : RT P S (.v t) d v) {l n : Nat} (hl : l ≤ n) (hn : n ≤ d.toL.length) :
    ∃ ad cap, v = .slice ad d.toL.length cap ∧ d.toL.length ≤ cap ∧ RT P S (.v t) (cutD d n l) (.slice (if cap = l then ad else ad.map (·.add (l * P.cellsOf e))) (n - l) (cap - l)) := by
  obtain ⟨xs, hsl, hh⟩ := RT.slice hu h
  have hxl := hsl.toL
  rw [hxl] at hn ⊢
  have hlen : ((xs.take n).drop l).length = n - l := by simp; omega
  rcases hh with ⟨rfl, hd, rfl⟩ | ⟨ad, cap, hd, rfl, hcap, hs⟩
  · refine ⟨none, 0, rfl, Nat.le_refl _, ?_⟩
    have : n = 0 := by simpa using hn
    subst this
    have : l = 0 := by omega
    subst this
    have e : cutD d 0 0 = .sz [] ∨ cutD d 0 0 = .sq [] := by rcases hd with rfl | rfl <;> simp [cutD, D.toL]
    simp
    exact ⟨.nils hu e, by unfold AggOk; rw [hu]; simp⟩
  · refine ⟨some ad, cap, rfl, hcap.1, ?_⟩
    have hcd : cutD d n l = .sl ((xs.take n).drop l) ∨ cutD d n l = .sq ((xs.take n).drop l) := by
      rcases hd with rfl | ⟨rfl, h0⟩ | rfl
      · exact .inl rfl
      · cases xs with
        | nil => exact absurd rfl h0
        | cons x xs => exact .inl rfl
      · exact .inr rfl
    have hcd' : ∀ ys, ys = (xs.take n).drop l → cutD d n l = .sl ys ∨ (cutD d n l = .sz ys ∧ ys ≠ []) ∨ cutD d n l = .sq ys := by
      intro ys h; subst h; rcases hcd with h | h
      · exact .inl h
      · exact .inr (.inr h)
    by_cases hln : l = n
    · subst hln
      have e0 : (xs.take l).drop l = [] := by apply List.drop_eq_nil_of_le; simp; omega
      rw [Nat.sub_self]
      split
      · exact SlAt.rf hu (xs := []) SlAt.nil' (hcd' _ e0.symm) (by simp)
      · exact SlAt.rf hu (xs := []) SlAt.nil' (hcd' _ e0.symm) (by simp)
    · have hc : cap ≠ l := by omega
      rw [if_neg hc, ← hlen]
      refine SlAt.rf hu ?_ (hcd' _ rfl) ⟨by rw [hlen]; omega, by rw [hlen]; omega⟩
      exact (hs.take n).drop l (by simp; omega)
theorem run_cut_slice {P : Program} {t e : Nat} (hu : P.underlying t = some (.slice e)) (h0 : 0 < P.cellsOf e) {ad : Option Addr} {len cap : Nat} {lo hi mx : Option Value} {l n m : Nat} (hb : (Instr.sliceBounds true len cap lo hi mx).run P w = .ok (l, n, m) w) :
    (Instr.slice t (.slice ad len cap) lo hi mx).run P w = .ok (.slice (if m = l then ad else ad.map (·.add (l * P.cellsOf e))) (n - l) (m - l)) w := by
  obtain ⟨inf, hinf⟩ := info_of_cells h0
  simp [Instr.slice, run_underlying hu, hb, run_sizeOf hinf]
theorem snd_slF (hI : Inv C Γ g0 w0 g st a w) {o : Oper} {vo : VOper} {vx : Opd} {vlo vhi : Option Opd} (hd : o.dst = vo.dst) (hv : vo.op = .slF vx vlo vhi) (hc : chkSlF C Γ vo.dst o.op vx vlo vhi = true)
    (hok : (sem vo.op st.get st.H).ok = true) : Step C Γ g0 w0 o vo st a w := by
  unfold chkSlF at hc
  split at hc
  · rename_i t x lo hi ho
    simp only [Bool.and_eq_true] at hc
    obtain ⟨⟨⟨h1, h2⟩, h3, h4⟩, h5⟩ := hc
    split at h1
    · rename_i e hu
      have h0 : 0 < C.P.cellsOf e := by simpa using h1
      rw [hv] at hok
      simp only [sem, Bool.and_eq_true, decide_eq_true_eq] at hok
      obtain ⟨⟨o1, o2, o3⟩, ⟨o4, o5⟩, o6⟩ := hok
      replace o4 : 0 ≤ loI st.get vlo := o4
      replace o5 : loI st.get vlo ≤ hiI st.get (vx.d st.get).toL.length vhi := o5
      replace o6 : hiI st.get (vx.d st.get).toL.length vhi ≤ (vx.d st.get).toL.length := o6
      have hx := hI.d h2 o1
      obtain ⟨ad, cap, e1, e2, e3⟩ := slice_part hu hx (l := (loI st.get vlo).toNat) (n := (hiI st.get (vx.d st.get).toL.length vhi).toNat) (by omega) (by omega)
      have hb := cut_bounds (isS := true) (cap := cap) hI h3 h4 o2 o3 o4 o5 o6 e2
      refine Step.pure hI hd (by rw [hv]; rfl) (run_cut ho (.inl ⟨e, hu⟩) ?_) h5 fun X => by simp only [RV]; exact e3
      rw [e1]
      exact run_cut_slice hu h0 hb
    · cases h1
  · cases hc
def chkSlC (C : Ctx) (Γ : List Ty) (dst : Option Nat) (op : Op) (vx vh vm : Opd) : Bool :=
  match op with
  | .slice t x none (some hi) (some mx) => (match C.P.underlying t with | some (.slice e) => decide (0 < C.P.cellsOf e) | _ => false) && opd C Γ x vx (.v t) && (opI C Γ hi vh && opI C Γ mx vm) && resTy C.P Γ dst (.v t)
  | _ => false
theorem snd_slC (hI : Inv C Γ g0 w0 g st a w) {o : Oper} {vo : VOper} {vx vh vm : Opd} (hd : o.dst = vo.dst) (hv : vo.op = .slC vx vh vm) (hc : chkSlC C Γ vo.dst o.op vx vh vm = true)
    (hok : (sem vo.op st.get st.H).ok = true) : Step C Γ g0 w0 o vo st a w := by
  unfold chkSlC at hc
  split at hc
  · rename_i t x hi mx ho
    simp only [Bool.and_eq_true] at hc
    obtain ⟨⟨⟨h1, h2⟩, h3, h4⟩, h5⟩ := hc
    split at h1
    · rename_i e hu
      have h0 : 0 < C.P.cellsOf e := by simpa using h1
      rw [hv] at hok
      simp only [sem, Bool.and_eq_true, decide_eq_true_eq] at hok
      obtain ⟨⟨o1, o2, o3⟩, o4, o5, o6⟩ := hok
      obtain ⟨m, hm⟩ := Int.eq_ofNat_of_zero_le o4
      rw [hm] at o5 o6
      have hml : m ≤ (vx.d st.get).toL.length := by omega
      have hx := hI.d h2 o1
      obtain ⟨ad, cap, e1, e2, e3⟩ := slice_part hu hx (l := 0) (n := m) (by omega) (by omega)
      obtain ⟨k, i1, i2⟩ := hI.int h3 o2
      obtain ⟨k', j1, j2⟩ := hI.int h4 o3
      have t1 := run_sliceBound (P := C.P) w k' (vm.d st.get).toI cap .slice3Acap (by omega) (by omega)
      have t2 := run_sliceBound (P := C.P) w k (vh.d st.get).toI (vm.d st.get).toI.toNat .slice3B (by omega) (by omega)
      have hb : (Instr.sliceBounds true (vx.d st.get).toL.length cap none (some (.int k (vh.d st.get).toI)) (some (.int k' (vm.d st.get).toI))).run C.P w = .ok (0, m, m) w := by
        rw [o6] at t1 t2
        rw [hm] at t2 ⊢
        rw [o6]
        simp only [Int.toNat_natCast] at t1 t2
        simp [Instr.sliceBounds, t1, t2]
      have hr : (Instr.slice t (a.eval x) none (some (a.eval hi)) (some (a.eval mx))).run C.P w = .ok (.slice (if m = 0 then ad else ad.map (·.add (0 * C.P.cellsOf e))) (m - 0) (m - 0)) w := by
        rw [e1, i2, j2]; exact run_cut_slice hu h0 hb
      have hR : RT C.P g.S (.v t) (.sq ((vx.d st.get).toL.take m)) (.slice (if m = 0 then ad else ad.map (·.add (0 * C.P.cellsOf e))) (m - 0) (m - 0)) := by
        obtain ⟨xs, hsl, hh⟩ := RT.slice hu hx
        rw [hsl.toL] at *
        rcases hh with ⟨rfl, _, hv'⟩ | ⟨ad', cap', hd', hv', hcap, hs⟩
        · rw [e1] at hv'; injection hv' with q1 q2 q3; subst q1
          have hm0 : m = 0 := by simpa using hml
          subst hm0
          exact ⟨.nils hu (.inr rfl), by unfold AggOk; rw [hu]; simp⟩
        · rw [e1] at hv'; injection hv' with q1 q2 q3; subst q1
          have ea : (if m = 0 then some ad' else Option.map (fun x => x.add (0 * C.P.cellsOf e)) (some ad')) = some (if m = 0 then ad' else ad'.add (0 * C.P.cellsOf e)) := by split <;> rfl
          have el : (xs.take m).length = m := by simp; omega
          rw [ea, Nat.sub_zero]
          have key : SlAt C.P g.S e (if m = 0 then ad' else ad'.add (0 * C.P.cellsOf e)) (xs.take m) := by
            split
            · rename_i hz
              subst hz
              rw [List.take_zero]
              exact SlAt.nil'
            · have := (hs.take m).drop 0 (by simp; omega)
              simpa using this
          have := SlAt.rf hu key (.inr (.inr rfl)) (cap := m) ⟨by omega, by have := hcap.2; simp; omega⟩
          rw [el] at this
          exact this
      have el : ((vx.d st.get).toL.take m).length = m := by simp; omega
      refine Step.pure (x := .c ((vx.d st.get).toL.take m)) (τ := .v t) hI hd (by rw [hv]; simp only [sem, hm]; rfl) (run_cut ho (.inl ⟨e, hu⟩) hr) h5 fun X => ?_
      simp only [RV]
      exact ⟨t, _, rfl, by rw [el]; rfl, hR.1⟩
    · cases h1
  · cases hc
end
end Go.Vam
