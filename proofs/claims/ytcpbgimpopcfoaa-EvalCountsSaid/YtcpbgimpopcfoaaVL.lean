/- THE SHADOW MACHINE, 12: the operations that make and move what is the call's own. -/
import Derived.Test.YtcpbgimpopcfoaaVK
set_option linter.unusedSimpArgs false
set_option linter.unusedVariables false
namespace Go.Vam
def cellsOk (P : Program) (t : Nat) : Bool :=
  match P.underlying t with
  | some (.struct _) | some (.array _ _) => true
  | _ => P.cellsOf t == 1
theorem RF.len {P : Program} {S : Cells} {t : Nat} {d : D} {cs : List Value} (h : RF P S t d cs) (hk : cellsOk P t = true) : cs.length = P.cellsOf t := by
  unfold cellsOk at hk
  cases h <;> simp_all
def rfc (P : Program) : Nat → Nat → D → List Value → Bool
  | 0, _, _, _ => false
  | n + 1, t, d, cs =>
    match P.underlying t, d, cs with
    | some (.struct fs), .ag ds, cs => ds.length == fs.size && cs.length == P.cellsOf t && cs.all (·.oneCell') && (List.range ds.length).all fun k => match ds[k]?, fs[k]? with
        | some d', some f => rfc P n f.type d' ((cs.drop f.offset).take (P.cellsOf f.type))
        | _, _ => false
    | some (.array m e), .ag ds, cs => ds.length == m && cs.length == P.cellsOf t && cs.all (·.oneCell') && (List.range ds.length).all fun k => match ds[k]? with
        | some d' => rfc P n e d' ((cs.drop (k * P.cellsOf e)).take (P.cellsOf e))
        | _ => false
    | _, d, [v] => constOk P (.v t) v d
    | _, _, _ => false
theorem rfc_rf {P : Program} {S : Cells} : ∀ (n : Nat) {t : Nat} {d : D} {cs : List Value}, rfc P n t d cs = true → RF P S t d cs
  | 0, t, d, cs, h => by simp [rfc] at h
  | n + 1, t, d, cs, h => by
    unfold rfc at h
    split at h
    · rename_i fs ds cs' hu
      simp only [Bool.and_eq_true, List.all_eq_true, List.mem_range] at h
      obtain ⟨⟨⟨h1, h2⟩, h3⟩, h4⟩ := h
      refine .st hu (by simpa using h1) (by simpa using h2) (fun k hk hk' => ?_) (fun v hv => h3 v hv)
      have := h4 k hk
      simp only [List.getElem?_eq_getElem hk, Array.getElem?_eq_getElem hk'] at this
      exact rfc_rf n this
    · rename_i m e ds cs' hu
      simp only [Bool.and_eq_true, List.all_eq_true, List.mem_range] at h
      obtain ⟨⟨⟨h1, h2⟩, h3⟩, h4⟩ := h
      refine .ar hu (by simpa using h1) (by simpa using h2) (fun k hk => ?_) (fun v hv => h3 v hv)
      have := h4 k hk
      simp only [List.getElem?_eq_getElem hk] at this
      exact rfc_rf n this
    · rename_i v _ _
      have := (constOk_rt (S := S) h).1
      have e : v.cells.toList = [v] ∨ ∃ cs, v = .agg cs := by cases v <;> first | exact .inl rfl | exact .inr ⟨_, rfl⟩
      rcases e with e | ⟨cs, rfl⟩
      · rwa [e] at this
      · simp [constOk] at h
    · cases h
def zeroOk (P : Program) (t : Nat) (z : D) : Bool :=
  match P.info? t with
  | some i => (match i.zero with | some v => rfc P 20 t z v.cells.toList && decide (v.cells.size = P.cellsOf t) | none => false)
  | none => false
theorem zeroOk_spec {P : Program} {S : Cells} {t : Nat} {z : D} (h : zeroOk P t z = true) : ∃ i v, P.info? t = some i ∧ i.zero = some v ∧ RF P S t z v.cells.toList ∧ v.cells.size = P.cellsOf t := by
  unfold zeroOk at h
  split at h
  · rename_i i hi
    split at h
    · rename_i v hv
      simp only [Bool.and_eq_true, decide_eq_true_eq] at h
      exact ⟨i, v, hi, hv, rfc_rf _ h.1, h.2⟩
    · cases h
  · cases h
def zeroHas (P : Program) (t : Nat) : Bool :=
  match P.info? t with
  | some i => (match i.zero with | some v => decide (v.cells.size = P.cellsOf t) | none => false)
  | none => false
theorem zeroHas_spec {P : Program} {t : Nat} (h : zeroHas P t = true) : ∃ i v, P.info? t = some i ∧ i.zero = some v ∧ v.cells.size = P.cellsOf t ∧ i.size = P.cellsOf t := by
  unfold zeroHas at h
  split at h
  · rename_i i hi
    split at h
    · rename_i v hv
      exact ⟨i, v, hi, hv, of_decide_eq_true h, by simp [Program.cellsOf, hi]⟩
    · cases h
  · cases h
section
variable {P : Program} {ρ : Operand → Value} {o : Oper} {w : World}
theorem run_box {e : Nat} {x : Operand} (ho : o.op = .box e x) : (execOp ρ o).run P w = .ok (.value (.pointer (some ⟨w.heap.size, 0, none⟩))) (w.alloc (.cells (ρ x).cells e)) := by
  simp [execOp, ho, Instr.box, newVar, newRow]
theorem run_al {e : Nat} {i : TypeInfo} {z : Value} (hi : P.info? e = some i) (hz : i.zero = some z) (ho : o.op = .alloc e) : (execOp ρ o).run P w = .ok (.value (.pointer (some ⟨w.heap.size, 0, none⟩))) (w.alloc (.cells z.cells e)) := by
  simp [execOp, ho, Instr.alloc, newVar, newRow, zeroValue, typeInfo, hi, hz]
theorem run_ini {e r : Nat} {x y : Operand} {v : Value} {c : Array Value} {e' : TypeId} (ho : o.op = .store e x y) (hx : ρ x = .pointer (some ⟨r, 0, none⟩)) (hy : ρ y = v) (hh : w.heap[r]? = some (.cells c e' (0, 0))) (hc : c.size = P.cellsOf e) (hl : v.cells.size = P.cellsOf e) (h0 : 0 < P.cellsOf e) (h1 : ∀ u ∈ v.cells.toList, u.oneCell' = true) :
    (execOp ρ o).run P w = .ok .skip (w.setRow r v.cells) := by
  obtain ⟨inf, hinf⟩ := info_of_cells h0
  have h2 := run_storeCells_from (P := P) r e' v.cells.toList 0 c w hh (by simp; omega) h1
  have h3 : (storeVar e ⟨r, 0, none⟩ v).run P w = .ok () (w.setRow r v.cells) := by
    simp [storeVar, run_sizeOf hinf, hl]
    simpa using h2
  simp only [execOp, ho, hx, hy, Instr.storeAt, Instr.sureAddr]
  simp [h3]
end
section
variable {C : Ctx} {Γ : List Ty} {g0 g : G} {w0 w : World} {st : St} {a : Act}
def G.move (g : G) (x d : Nat) : G := { g with kap := fun r => if g.kap r = some (.slot x) then some (.slot d) else g.kap r }
theorem OwnS.rt {X : Own} {t e : Nat} {nn : Bool} {xs : List D} {v : Value} (hu : C.P.underlying t = some (.slice e)) (h : OwnS C g w X e nn xs v true) : RT C.P g.S (.v t) (mkD nn xs) v := by
  have : RV C g [] w X (.v t) (.o nn xs) v := by simp only [RV]; exact ⟨t, e, rfl, hu, h⟩
  have := RV.rd (Y := X) _ this
  simpa only [V.rd, RV] using this
theorem OwnS.moved {x d : Nat} {e : Nat} {nn : Bool} {xs : List D} {v : Value} {fz : Bool} (h : OwnS C g w (.slot x) e nn xs v fz) : OwnS C (g.move x d) w (.slot d) e nn xs v fz := by
  rcases h with h | ⟨r, cap, c, e', h1, h2, h3, h4, h5⟩
  · exact .inl h
  · exact .inr ⟨r, cap, c, e', h1, h2, h3, by simp [G.move, h4], h5⟩
theorem snd_tak (hI : Inv C Γ g0 w0 g st a w) {o : Oper} {vo : VOper} {n y : Nat} (hd : o.dst = vo.dst) (ho : o.op = .move (.tmp n) ∨ o.op = .assign (.tmp n)) (hv : vo.op = .tak y) (hc : chkMov C Γ vo.dst (.tmp n) (.t y) = true) :
    ∃ g', Inv C Γ g0 w0 g' (applyE vo (sem vo.op st.get st.H) st) (a.put o.dst (a.eval (.tmp n))) w := by
  unfold chkMov at hc
  split at hc
  · rename_i d hdd
    split at hc
    · rename_i τ hτ
      have hx := hI.ev hc
      have hny : n = y := by
        unfold opd at hc
        simp only [Bool.and_eq_true] at hc
        exact of_decide_eq_true hc.1
      subst hny
      cases hown : (st.get n).isOwn with
      | false =>
        refine ⟨g, ?_⟩
        have hs : sem vo.op st.get st.H = { v := (st.get n).rd, H := st.H } := by rw [hv]; simp [sem, hown]
        rw [hs, hd]
        exact hI.pure (o := vo) fun d' hd' => ⟨τ, by rw [hdd] at hd'; injection hd' with hd'; subst hd'; exact hτ, hI.rd hc _⟩
      | true =>
        refine ⟨g.move n d, ?_⟩
        have hs : sem vo.op st.get st.H = { v := st.get n, sd := some (n, (st.get n).left), H := st.H } := by rw [hv]; simp [sem, hown]
        rw [hs, hd]
        have hk : Keeps C g st.H w (g.move n d) st.H w (fun X => X = .slot n) := by
          refine ⟨Sub.refl _, fun r X h1 h2 h3 => ⟨?_, rfl, fun _ => rfl⟩, fun s h => ⟨h, fun _ _ => rfl, rfl⟩⟩
          have : X ≠ .slot n := fun e => by subst e; exact h2 rfl
          simp [G.move, h1, this]
        have hev : (Opd.t n).ev st.get = st.get n := rfl
        rw [hev] at hx
        refine hI.step (o := vo) hk (fun m hm => by injection hm with hm; subst hm; exact .inr ⟨_, rfl⟩) (fun m y hy hne τ' hτ' => ?_) (fun d' hd' => ⟨τ, by rw [hdd] at hd'; injection hd' with hd'; subst hd'; exact hτ, ?_⟩) (fun s h => (hI.blocks s h).keeps hk (by simp) rfl) hI.cells hI.frm (fun r hr => ?_) hI.sold hI.ext hI.base hI.rho
        · injection hy with hy; injection hy with hy1 hy2; subst hy1; subst hy2
          have hσ := hI.slot hτ'
          cases hst : st.get n with
          | o nn xs =>
            rw [hst] at hσ
            simp only [RV] at hσ
            obtain ⟨t, e, rfl, hu, h⟩ := hσ
            simp only [V.left, RV]
            have := h.rt hu
            exact this
          | w nn xs => simp only [V.left, RV]
          | _ => rw [hst] at hown; simp [V.isOwn] at hown
        · rw [hdd] at hd'; injection hd' with hd'; subst hd'
          cases hst : st.get n with
          | o nn xs => rw [hst] at hx; simp only [RV] at *; obtain ⟨t, e, h1, h2, h⟩ := hx; exact ⟨t, e, h1, h2, OwnS.moved h⟩
          | w nn xs => rw [hst] at hx; simp only [RV] at *; obtain ⟨t, e, h1, h2, h⟩ := hx; exact ⟨t, e, h1, h2, OwnS.moved h⟩
          | _ => rw [hst] at hown; simp [V.isOwn] at hown
        · have : g.kap r ≠ some (.slot n) := fun e => by rw [hI.kap r hr] at e; obtain ⟨k, hk, _⟩ := hI.ent r _ hr e; cases hk
          simp only [G.move, this, if_false]
          exact hI.kap r hr
    · cases hc
  · cases hc
theorem snd_tak' (hI : Inv C Γ g0 w0 g st a w) {o : Oper} {vo : VOper} {n y : Nat} (hd : o.dst = vo.dst) (ho : o.op = .move (.tmp n) ∨ o.op = .assign (.tmp n)) (hv : vo.op = .tak y) (hc : chkMov C Γ vo.dst (.tmp n) (.t y) = true) : Step C Γ g0 w0 o vo st a w := by
  obtain ⟨g', h⟩ := snd_tak hI hd ho hv hc
  exact ⟨_, w, g', .inl (run_mov ho), h⟩
def chkNilw (C : Ctx) (Γ : List Ty) (dst : Option Nat) (op : Op) : Bool :=
  match op with
  | .move (.const (.slice none 0 0)) | .assign (.const (.slice none 0 0)) => (match dst with | some d => (match Γ[d]? with | some (.v t) => (match C.P.underlying t with | some (.slice _) => true | _ => false) | _ => false) | none => false)
  | _ => false
theorem mkV_nil {H : List V} {X : Own} {t e : Nat} (hu : C.P.underlying t = some (.slice e)) (md : Md) : RV C g H w X (.v t) (mkV md false []) (.slice none 0 0) := by
  cases md
  · simp only [mkV, RV, mkD, cond_false]; exact ⟨.nils hu (.inl rfl), by unfold AggOk; rw [hu]; simp⟩
  · simp only [mkV, RV]; exact ⟨t, e, rfl, hu, .inl ⟨rfl, rfl, rfl⟩⟩
  · simp only [mkV, RV]; exact ⟨t, e, rfl, hu, .inl ⟨rfl, rfl, rfl⟩⟩
theorem snd_nilw (hI : Inv C Γ g0 w0 g st a w) {o : Oper} {vo : VOper} {md : Md} (hd : o.dst = vo.dst) (hv : vo.op = .nilw md) (hc : chkNilw C Γ vo.dst o.op = true) : Step C Γ g0 w0 o vo st a w := by
  have key : (o.op = .move (.const (.slice none 0 0)) ∨ o.op = .assign (.const (.slice none 0 0))) ∧ ∃ d t e, vo.dst = some d ∧ Γ[d]? = some (.v t) ∧ C.P.underlying t = some (.slice e) := by
    unfold chkNilw at hc
    split at hc <;> first | cases hc | skip
    all_goals (
      rename_i ho
      split at hc <;> first | cases hc | skip
      rename_i d hdd
      split at hc <;> first | cases hc | skip
      rename_i t ht
      split at hc <;> first | cases hc | skip
      rename_i e he)
    · exact ⟨.inl ho, d, t, e, hdd, ht, he⟩
    · exact ⟨.inr ho, d, t, e, hdd, ht, he⟩
  obtain ⟨ho, d, t, e, hdd, ht, he⟩ := key
  refine ⟨.slice none 0 0, w, g, .inl (run_mov ho), ?_⟩
  rw [hv, hd]
  exact hI.pure (o := vo) fun d' hd' => ⟨.v t, by rw [hdd] at hd'; injection hd' with hd'; subst hd'; exact ht, mkV_nil he md⟩
def chkBox (C : Ctx) (Γ : List Ty) (dst : Option Nat) (op : Op) (vx : Opd) : Bool :=
  match op with
  | .box e x => cellsOk C.P e && opd C Γ x vx (.v e) && resTy C.P Γ dst (.p e)
  | _ => false
theorem snd_box (hI : Inv C Γ g0 w0 g st a w) {o : Oper} {vo : VOper} {vx : Opd} (hd : o.dst = vo.dst) (hv : vo.op = .box vx) (hc : chkBox C Γ vo.dst o.op vx = true)
    (hok : (sem vo.op st.get st.H).ok = true) : Step C Γ g0 w0 o vo st a w := by
  unfold chkBox at hc
  split at hc
  · rename_i e x ho
    simp only [Bool.and_eq_true] at hc
    obtain ⟨⟨h0, h1⟩, h2⟩ := hc
    rw [hv] at hok
    have hx := hI.d h1 hok
    refine ⟨_, _, g.add w.heap.size (fun j => (a.eval x).cells[j]?) none, .inl (run_box ho), ?_⟩
    rw [hv, hd]
    refine hI.fresh (o := vo) (sd := none) (f := fun j => (a.eval x).cells[j]?) (k := none) 0 (fun j u h => h) (fun _ _ h => by cases h) (resTy_rv h2 fun d _ => ?_)
    simp only [RV, RT]
    have hsub : Sub g.S (g.add w.heap.size (fun j => (a.eval x).cells[j]?) none).S := by
      intro b o v h
      have : b ≠ w.heap.size := fun e => by rw [e, hI.S_new (Nat.le_refl _)] at h; cases h
      simp [G.add, this, h]
    exact .inr ⟨_, _, _, _, rfl, rfl, hx.1.mono hsub, hx.1.len h0, fun j u hj => by simp [G.add]; simpa using hj⟩
  · cases hc
def chkAlA (C : Ctx) (Γ : List Ty) (dst : Option Nat) (op : Op) : Bool :=
  match op with
  | .alloc e => zeroHas C.P e && (match dst with | some d => (match Γ[d]? with | some (.p e') => e' == e | _ => false) | none => false)
  | _ => false
theorem snd_alA (hI : Inv C Γ g0 w0 g st a w) {o : Oper} {vo : VOper} (hd : o.dst = vo.dst) (hv : vo.op = .alA) (hc : chkAlA C Γ vo.dst o.op = true) : Step C Γ g0 w0 o vo st a w := by
  unfold chkAlA at hc
  split at hc
  · rename_i e ho
    simp only [Bool.and_eq_true] at hc
    obtain ⟨h0, h1⟩ := hc
    obtain ⟨i, z, hi, hz, hs, _⟩ := zeroHas_spec h0
    split at h1
    · rename_i d hdd
      split at h1
      · rename_i e' he
        have : e' = e := by simpa using h1
        subst this
        refine ⟨_, _, g.add w.heap.size (fun _ => none) (some (.slot d)), .inl (run_al hi hz ho), ?_⟩
        rw [hv, hd]
        refine hI.fresh (o := vo) (sd := none) (f := fun _ => none) (k := some (.slot d)) 0 (fun j u h => by cases h) (fun _ _ h => by cases h) (fun d' hd' => ⟨.p e', ?_, ?_⟩)
        · rw [hdd] at hd'; injection hd' with hd'; subst hd'; exact he
        · rw [hdd] at hd'; injection hd' with hd'; subst hd'
          simp only [RV]
          exact ⟨e', w.heap.size, z.cells, e', rfl, rfl, hI.base, by simp [G.add], heap_new w 0 _, hs, fun j => by simp [G.add]⟩
      · cases h1
    · cases h1
  · cases hc
def chkIni (C : Ctx) (Γ : List Ty) (dst : Option Nat) (op : Op) (n : Nat) (vy : Opd) : Bool :=
  match op with
  | .store e (.tmp m) y => (match dst with | none => true | _ => false) && m == n && decide (0 < C.P.cellsOf e) && cellsOk C.P e && (match Γ[m]? with | some (.p e') => e' == e | _ => false) && opd C Γ y vy (.v e)
  | _ => false
theorem snd_ini (hI : Inv C Γ g0 w0 g st a w) {o : Oper} {vo : VOper} {n : Nat} {vy : Opd} (hd : o.dst = vo.dst) (hv : vo.op = .ini n vy) (hc : chkIni C Γ vo.dst o.op n vy = true)
    (hok : (sem vo.op st.get st.H).ok = true) : Step C Γ g0 w0 o vo st a w := by
  unfold chkIni at hc
  split at hc
  · rename_i e m y ho
    simp only [Bool.and_eq_true, decide_eq_true_eq] at hc
    obtain ⟨⟨⟨⟨⟨h1, h2⟩, h3⟩, h4⟩, h5⟩, h6⟩ := hc
    have : m = n := by simpa using h2
    subst this
    split at h1
    · rename_i hdn
      split at h5
      · rename_i e' he
        have : e' = e := by simpa using h5
        subst this
        cases hst : st.get m with
        | a =>
          have hx := hI.slot he
          rw [hst] at hx
          simp only [RV] at hx
          obtain ⟨e2, r, c, e3, k1, k2, k3, k4, k5, k6, k7⟩ := hx
          simp only [asP, Option.some.injEq] at k1
          subst k1
          have hF : (vy.rd st.get).isF = true := by rw [hv] at hok; simpa [sem, hst] using hok
          have hy := hI.d h6 hF
          have hlen : (a.eval y).cells.size = C.P.cellsOf e' := by simpa using hy.1.len h4
          have hrun := run_ini (P := C.P) ho (show a.eval (.tmp m) = _ from k2) rfl k5 k6 hlen h3 hy.1.one
          refine ⟨undef, _, ⟨fun b o => if b = r then (a.eval y).cells[o]? else g.S b o, g.rho, fun b => if b = r then none else g.kap b, g.cp⟩, .inr ⟨hrun, rfl⟩, ?_⟩
          have hs : sem vo.op st.get st.H = { ok := (vy.rd st.get).isF, v := .n, sd := some (m, .f (.p (vy.rd st.get).toD)), H := st.H } := by rw [hv]; simp [sem, hst]
          rw [hs, hd]
          have hsub : Sub g.S (fun b o => if b = r then (a.eval y).cells[o]? else g.S b o) := by
            intro b o v h
            have : b ≠ r := fun e => by subst e; rw [k7] at h; cases h
            simp [this, h]
          have hH := setRow_heap w r c (a.eval y).cells _ _ k5
          refine hI.turn (o := vo) (g' := ⟨fun b o => if b = r then (a.eval y).cells[o]? else g.S b o, g.rho, fun b => if b = r then none else g.kap b, g.cp⟩) (w' := w.setRow r (a.eval y).cells) (Z := fun X => X = .slot m) (r := r) (X := .slot m) k3 rfl (by simp [Own.root]) (by simp) k4 (fun _ => rfl) (by simp) (fun b hb => ⟨setRow_other w r b _ hb, by simp [hb], fun o => by simp [hb]⟩) rfl rfl rfl hsub ?_ ?_ ?_ ?_
          · intro j u hj
            simp only [if_true] at hj
            rw [cell_of hH]; exact hj
          · intro n' hn'; injection hn' with hn'; subst hn'; exact .inr ⟨_, rfl⟩
          · intro m' y' hy' _ τ hτ
            injection hy' with hy'; injection hy' with q1 q2; subst q1; subst q2
            rw [he] at hτ; injection hτ with hτ; subst hτ
            simp only [RV, RT]
            refine .inr ⟨_, _, r, 0, rfl, k2, hy.1.mono hsub, by simpa using hlen, fun j u hj => ?_⟩
            simp only [if_true, Nat.zero_add]
            simpa using hj
          · intro d hdd; rw [hdn] at hdd; cases hdd
        | _ => rw [hv] at hok; simp [sem, hst] at hok
      · cases h5
    · cases h1
  · cases hc
def cloOk (C : Ctx) (Γ : List Ty) : List Operand → List Opd → List Ty → Bool
  | [], [], [] => true
  | x :: xs, y :: ys, τ :: τs => opd C Γ x y τ && cloOk C Γ xs ys τs
  | _, _, _ => false
def chkClo (C : Ctx) (Γ : List Ty) (dst : Option Nat) (op : Op) (h : Nat) (caps : List Opd) (tys : List Ty) : Bool :=
  match op with
  | .makeFunc (.func f) first cs => first.isEmpty && cloOk C Γ cs.toList caps tys && (match C.Φ h with | some vf => vf.fid == f | none => false) && (match dst with | some d => d < Γ.length | none => false)
  | _ => false
theorem clo_vals (hI : Inv C Γ g0 w0 g st a w) (X : Own) : ∀ {xs : List Operand} {ys : List Opd} {τs : List Ty} (n : Nat), cloOk C Γ xs ys τs = true → RVs C g st.H w X n τs (ys.map fun x => x.rd st.get) (xs.map a.eval) ∧ τs.length = ys.length ∧ xs.length = ys.length
  | [], [], [], n, _ => ⟨trivial, rfl, rfl⟩
  | [], [], _ :: _, n, h => by cases h
  | [], _ :: _, _, n, h => by simp [cloOk] at h
  | _ :: _, [], _, n, h => by simp [cloOk] at h
  | _ :: _, _ :: _, [], n, h => by simp [cloOk] at h
  | x :: xs, y :: ys, τ :: τs, n, h => by
    simp only [cloOk, Bool.and_eq_true] at h
    obtain ⟨h1, h2, h3⟩ := clo_vals hI X (n + 1) h.2
    exact ⟨⟨hI.rd h.1 _, h1⟩, by simp [h2], by simp [h3]⟩
theorem snd_clo (hI : Inv C Γ g0 w0 g st a w) {o : Oper} {vo : VOper} {h : Nat} {caps : List Opd} {tys : List Ty} (hd : o.dst = vo.dst) (hv : vo.op = .clo h caps tys) (hc : chkClo C Γ vo.dst o.op h caps tys = true) : Step C Γ g0 w0 o vo st a w := by
  unfold chkClo at hc
  split at hc
  · rename_i f first cs ho
    simp only [Bool.and_eq_true] at hc
    obtain ⟨⟨⟨h1, h2⟩, h3⟩, h4⟩ := hc
    split at h3
    · rename_i vf hvf
      have : vf.fid = f := by simpa using h3
      subst this
      have hfst : first = #[] := by simpa using h1
      subst hfst
      split at h4
      · rename_i d hdd
        have hlt : d < Γ.length := of_decide_eq_true h4
        refine ⟨.func (.func vf.fid) #[] (cs.map a.eval), w, g, .inl (by simp [execOp, ho, Instr.makeFunc]), ?_⟩
        rw [hv, hd]
        refine hI.pure (o := vo) fun d' hd' => ⟨Γ[d], by rw [hdd] at hd'; injection hd' with hd'; subst hd'; exact List.getElem?_eq_getElem hlt, ?_⟩
        obtain ⟨q1, q2, q3⟩ := clo_vals hI (.slot d') 0 h2
        simp only [RV]
        refine ⟨vf, _, hvf, rfl, by simp [q2], by simp; omega, ?_⟩
        simpa using q1
      · cases h4
    · cases h3
  · cases hc
end
end Go.Vam
