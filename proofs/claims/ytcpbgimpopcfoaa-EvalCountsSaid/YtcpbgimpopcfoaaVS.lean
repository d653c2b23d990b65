/- THE SHADOW MACHINE, 17: in which order the operations of a region are done. -/
import Derived.Test.YtcpbgimpopcfoaaVA
set_option linter.unusedSimpArgs false
set_option linter.unusedVariables false
namespace Go.Vam
def Opd.rds : Opd → List Nat
  | .t n => [n]
  | _ => []
def Opd.rdsAll (l : List Opd) : List Nat := l.flatMap Opd.rds
def Opd.rdsO : Option Opd → List Nat
  | some x => x.rds
  | none => []
def VOp.rds : VOp → List Nat
  | .mov x => x.rds
  | .tak x => [x]
  | .nilw _ => []
  | .pick c a b => c.rds ++ (a.rds ++ b.rds)
  | .un _ x => x.rds
  | .bin _ x y => x.rds ++ y.rds
  | .mm _ x l => x.rds ++ Opd.rdsAll l
  | .len x => x.rds
  | .lenS x => x.rds
  | .lenM x => x.rds
  | .lenC _ => []
  | .fld x _ => x.rds
  | .ixa x i => x.rds ++ i.rds
  | .ixaM x i => x.rds ++ i.rds
  | .ixA _ x i => x.rds ++ i.rds
  | .ixS x i => x.rds ++ i.rds
  | .ixV _ x i => x.rds ++ i.rds
  | .getf x _ => x.rds
  | .ldF x => x.rds
  | .ld x => x.rds
  | .ldT x => x.rds
  | .st x y => x.rds ++ y.rds
  | .stT x y => x.rds ++ [y]
  | .ini x y => x :: y.rds
  | .box x => x.rds
  | .alA => []
  | .boxM _ x => x.rds
  | .alM _ _ => []
  | .build _ parts => Opd.rdsAll (parts.map (·.2))
  | .bsl _ _ parts => Opd.rdsAll (parts.map (·.2))
  | .slS x lo hi => x.rds ++ (Opd.rdsO lo ++ Opd.rdsO hi)
  | .slF x lo hi => x.rds ++ (Opd.rdsO lo ++ Opd.rdsO hi)
  | .slC x hi mx => x.rds ++ (hi.rds ++ mx.rds)
  | .slA x => x.rds
  | .slW x hi => x :: hi.rds
  | .app _ _ x _ y => x.rds ++ y.rds
  | .appS _ _ x _ y => x.rds ++ y.rds
  | .mk _ _ _ n => n.rds
  | .ext x _ => x.rds
  | .clo _ caps _ => Opd.rdsAll caps
  | .ifc _ x => x.rds
  | .nch x => x.rds
  | .str x => x.rds
  | .byt _ x => x.rds
  | .cpy x y => x.rds ++ y.rds
  | .add64 x y c => x.rds ++ (y.rds ++ c.rds)
  | .call _ args _ => Opd.rdsAll args
  | .callv x args _ _ => x.rds ++ Opd.rdsAll args
  | .bad => []
def VOp.loud : VOp → Bool
  | .lenM _ | .ixaM _ _ | .ld _ | .ldT _ | .st _ _ | .stT _ _ | .boxM _ _ | .alM _ _ | .cpy _ _ => true
  | .call _ _ refs => !refs.isEmpty
  | .callv _ _ _ refs => !refs.isEmpty
  | _ => false
def VOp.sds : VOp → List Nat
  | .tak x => [x]
  | .stT _ y => [y]
  | .ini x _ => [x]
  | .slW x _ => [x]
  | .app _ _ x _ _ => x.rds
  | .appS _ _ x _ _ => x.rds
  | _ => []
section
variable {ρ ρ' : Nat → V}
theorem ev_congr {x : Opd} (h : ∀ n ∈ x.rds, ρ n = ρ' n) : x.ev ρ = x.ev ρ' := by
  cases x with
  | t n => exact h n (by simp [Opd.rds])
  | _ => rfl
theorem rd_congr {x : Opd} (h : ∀ n ∈ x.rds, ρ n = ρ' n) : x.rd ρ = x.rd ρ' := by unfold Opd.rd; rw [ev_congr h]
theorem d_congr {x : Opd} (h : ∀ n ∈ x.rds, ρ n = ρ' n) : x.d ρ = x.d ρ' := by unfold Opd.d; rw [rd_congr h]
theorem isD_congr {x : Opd} (h : ∀ n ∈ x.rds, ρ n = ρ' n) : x.isD ρ = x.isD ρ' := by unfold Opd.isD; rw [rd_congr h]
theorem mem_all {l : List Opd} {x : Opd} (hx : x ∈ l) {n : Nat} (hn : n ∈ x.rds) : n ∈ Opd.rdsAll l := List.mem_flatMap.2 ⟨x, hx, hn⟩
theorem allD_congr {l : List Opd} (h : ∀ n ∈ Opd.rdsAll l, ρ n = ρ' n) : l.all (fun y => y.isD ρ) = l.all (fun y => y.isD ρ') := by
  rw [Bool.eq_iff_iff]
  simp only [List.all_eq_true]
  exact ⟨fun k x hx => by rw [← isD_congr fun n hn => h n (mem_all hx hn)]; exact k x hx, fun k x hx => by rw [isD_congr fun n hn => h n (mem_all hx hn)]; exact k x hx⟩
theorem map_congr' {β : Type} {l : List Opd} {f f' : Opd → β} (h : ∀ x ∈ l, f x = f' x) : l.map f = l.map f' := List.map_congr_left h
end
def opEff (Φ : Tab) (F : CallF) (op : VOp) (ρ : Nat → V) (H : List V) : Option E :=
  match op with
  | .call g args refs => bif refs.all fun s => (getB H s).isDat then (toO (lenH Φ g (refs.map fun s => getB H s) (F g (callArgs ρ args refs) (refs.map fun s => getB H s)))).map fun r => { v := r.1, H := putBack H refs r.2 } else none
  | .callv x args tys refs => match x.rd ρ with
    | .fn g caps ctys => match Φ g with
      | some vf => bif Ty.eqAll (vf.rty :: vf.ptys) (tys ++ ctys) && vf.nin == 0 then (toO (F g (callArgs ρ args refs ++ V.renAll refs caps) (refs.map fun s => getB H s))).map fun r => { v := r.1, H := putBack H refs r.2 } else none
      | none => none
    | _ => none
  | op => bif (sem op ρ H).ok then some (sem op ρ H) else none
theorem runOp_eq {R : Type} (Φ : Tab) (F : CallF) (o : VOper) (st : St) (k : St → Option R) : runOp Φ F o st k = (opEff Φ F o.op st.get st.H).bind fun e => k (applyE o e st) := by
  obtain ⟨dst, op, gd⟩ := o
  cases op
  case call g args refs =>
    simp only [runOp, opEff, callK, toO]
    cases refs.all fun s => (getB st.H s).isDat
    · rfl
    · cases (lenH Φ g (refs.map fun s => getB st.H s) (F g (callArgs st.get args refs) (refs.map fun s => getB st.H s))).1 <;> rfl
  case callv x args tys refs =>
    simp only [runOp, opEff]
    cases hx : x.rd st.get with
    | fn g caps ctys =>
      cases hf : Φ g with
      | none => simp only [hf]; rfl
      | some vf =>
        simp only [hf]
        cases (Ty.eqAll (vf.rty :: vf.ptys) (tys ++ ctys) && vf.nin == 0)
        · rfl
        · simp only [cond_true]
          simp only [callK, toO]
          cases (F g (callArgs st.get args refs ++ V.renAll refs caps) (refs.map fun s => getB st.H s)).1 <;> rfl
    | _ => rfl
  all_goals (
    simp only [runOp, opEff]
    cases (sem _ st.get st.H).ok <;> rfl)
theorem callArgs_congr {ρ ρ' : Nat → V} {args : List Opd} {refs : List Nat} (h : ∀ n ∈ Opd.rdsAll args, ρ n = ρ' n) : callArgs ρ args refs = callArgs ρ' args refs :=
  map_congr' fun x hx => by rw [rd_congr fun n hn => h n (mem_all hx hn)]
theorem sem_congr {op : VOp} {ρ ρ' : Nat → V} (h : ∀ n ∈ op.rds, ρ n = ρ' n) (H : List V) : sem op ρ H = sem op ρ' H := by
  cases op <;> simp only [VOp.rds, List.mem_append, List.mem_cons] at h
  case bad => rfl
  case mov x => simp only [sem, rd_congr h]
  case tak x => simp only [sem, h x (by simp)]
  case nilw => rfl
  case pick c a b =>
    have h1 := isD_congr (x := c) fun n hn => h n (.inl hn)
    have h2 := d_congr (x := c) fun n hn => h n (.inl hn)
    have h3 := rd_congr (x := a) fun n hn => h n (.inr (.inl hn))
    have h4 := rd_congr (x := b) fun n hn => h n (.inr (.inr hn))
    simp only [sem, h1, h2, h3, h4]
  case un f x => simp only [sem, isD_congr h, d_congr h]
  case bin f x y =>
    simp only [sem, isD_congr (x := x) fun n hn => h n (.inl hn), d_congr (x := x) fun n hn => h n (.inl hn), isD_congr (x := y) fun n hn => h n (.inr hn), d_congr (x := y) fun n hn => h n (.inr hn)]
  case mm mx x l =>
    have e1 := isD_congr (x := x) fun n hn => h n (.inl hn)
    have e2 := d_congr (x := x) fun n hn => h n (.inl hn)
    have e3 := allD_congr (l := l) fun n hn => h n (.inr hn)
    have e4 : (l.map fun y => (y.d ρ).toI) = l.map fun y => (y.d ρ').toI := map_congr' fun y hy => by rw [d_congr fun n hn => h n (.inr (mem_all hy hn))]
    simp only [sem, e1, e2, e3, e4]
  case len x => simp only [sem, ev_congr h]
  case lenS x => simp only [sem, isD_congr h, d_congr h]
  case lenM x => simp only [sem, rd_congr h]
  case lenC => rfl
  case fld x k => simp only [sem, rd_congr h]
  case ixa x i => simp only [sem, rd_congr (x := x) fun n hn => h n (.inl hn), isD_congr (x := i) fun n hn => h n (.inr hn), d_congr (x := i) fun n hn => h n (.inr hn)]
  case ixaM x i => simp only [sem, rd_congr (x := x) fun n hn => h n (.inl hn), isD_congr (x := i) fun n hn => h n (.inr hn), d_congr (x := i) fun n hn => h n (.inr hn)]
  case ixA m x i => simp only [sem, rd_congr (x := x) fun n hn => h n (.inl hn), isD_congr (x := i) fun n hn => h n (.inr hn), d_congr (x := i) fun n hn => h n (.inr hn)]
  case ixS x i => simp only [sem, isD_congr (x := x) fun n hn => h n (.inl hn), d_congr (x := x) fun n hn => h n (.inl hn), isD_congr (x := i) fun n hn => h n (.inr hn), d_congr (x := i) fun n hn => h n (.inr hn)]
  case ixV m x i => simp only [sem, isD_congr (x := x) fun n hn => h n (.inl hn), d_congr (x := x) fun n hn => h n (.inl hn), isD_congr (x := i) fun n hn => h n (.inr hn), d_congr (x := i) fun n hn => h n (.inr hn)]
  case getf x k => simp only [sem, isD_congr h, d_congr h]
  case ldF x => simp only [sem, isD_congr h, d_congr h]
  case ld x => simp only [sem, rd_congr h]
  case ldT x => simp only [sem, rd_congr h]
  case st x y => simp only [sem, rd_congr (x := x) fun n hn => h n (.inl hn), isD_congr (x := y) fun n hn => h n (.inr hn), d_congr (x := y) fun n hn => h n (.inr hn)]
  case stT x y => simp only [sem, rd_congr (x := x) fun n hn => h n (.inl hn), h y (.inr (by simp))]
  case ini x y => simp only [sem, h x (.inl rfl), rd_congr (x := y) fun n hn => h n (.inr hn)]
  case box x => simp only [sem, isD_congr h, d_congr h]
  case alA => rfl
  case boxM s x => simp only [sem, isD_congr h, d_congr h]
  case alM => rfl
  case build z parts =>
    have e1 : (parts.all fun q => q.2.isD ρ) = parts.all fun q => q.2.isD ρ' := by
      have := allD_congr (l := parts.map (·.2)) h
      simpa [List.all_map, Function.comp_def] using this
    have e2 : (parts.map fun q => (q.1, q.2.d ρ)) = parts.map fun q => (q.1, q.2.d ρ') := List.map_congr_left fun q hq => by rw [d_congr fun n hn => h n (mem_all (List.mem_map_of_mem hq) hn)]
    simp only [sem, e1, e2]
  case bsl md z parts =>
    have e1 : (parts.all fun q => q.2.isD ρ) = parts.all fun q => q.2.isD ρ' := by
      have := allD_congr (l := parts.map (·.2)) h
      simpa [List.all_map, Function.comp_def] using this
    have e2 : (parts.map fun q => (q.1, q.2.d ρ)) = parts.map fun q => (q.1, q.2.d ρ') := List.map_congr_left fun q hq => by rw [d_congr fun n hn => h n (mem_all (List.mem_map_of_mem hq) hn)]
    simp only [sem, e1, e2]
  case slS x lo hi =>
    have e1 := isD_congr (x := x) fun n hn => h n (.inl hn)
    have e2 := d_congr (x := x) fun n hn => h n (.inl hn)
    cases lo with
    | none =>
      cases hi with
      | none => simp only [sem, e1, e2, Option.all_none]
      | some b => simp only [sem, e1, e2, Option.all_none, Option.all_some, isD_congr (x := b) fun n hn => h n (.inr (.inr hn)), d_congr (x := b) fun n hn => h n (.inr (.inr hn))]
    | some a =>
      have e3 := isD_congr (x := a) fun n hn => h n (.inr (.inl hn))
      have e4 := d_congr (x := a) fun n hn => h n (.inr (.inl hn))
      cases hi with
      | none => simp only [sem, e1, e2, e3, e4, Option.all_none, Option.all_some]
      | some b => simp only [sem, e1, e2, e3, e4, Option.all_none, Option.all_some, isD_congr (x := b) fun n hn => h n (.inr (.inr hn)), d_congr (x := b) fun n hn => h n (.inr (.inr hn))]
  case slF x lo hi =>
    have e1 := isD_congr (x := x) fun n hn => h n (.inl hn)
    have e2 := d_congr (x := x) fun n hn => h n (.inl hn)
    cases lo with
    | none =>
      cases hi with
      | none => simp only [sem, e1, e2, Option.all_none]
      | some b => simp only [sem, e1, e2, Option.all_none, Option.all_some, isD_congr (x := b) fun n hn => h n (.inr (.inr hn)), d_congr (x := b) fun n hn => h n (.inr (.inr hn))]
    | some a =>
      have e3 := isD_congr (x := a) fun n hn => h n (.inr (.inl hn))
      have e4 := d_congr (x := a) fun n hn => h n (.inr (.inl hn))
      cases hi with
      | none => simp only [sem, e1, e2, e3, e4, Option.all_none, Option.all_some]
      | some b => simp only [sem, e1, e2, e3, e4, Option.all_none, Option.all_some, isD_congr (x := b) fun n hn => h n (.inr (.inr hn)), d_congr (x := b) fun n hn => h n (.inr (.inr hn))]
  case slC x hi mx =>
    simp only [sem, isD_congr (x := x) fun n hn => h n (.inl hn), d_congr (x := x) fun n hn => h n (.inl hn), isD_congr (x := hi) fun n hn => h n (.inr (.inl hn)), d_congr (x := hi) fun n hn => h n (.inr (.inl hn)), isD_congr (x := mx) fun n hn => h n (.inr (.inr hn)), d_congr (x := mx) fun n hn => h n (.inr (.inr hn))]
  case slA x => simp only [sem, isD_congr h, d_congr h]
  case slW x hi => simp only [sem, h x (.inl rfl), isD_congr (x := hi) fun n hn => h n (.inr hn), d_congr (x := hi) fun n hn => h n (.inr hn)]
  case app md lim x tk y =>
    have e1 := ev_congr (x := x) fun n hn => h n (.inl hn)
    have e2 := isD_congr (x := y) fun n hn => h n (.inr hn)
    have e3 := d_congr (x := y) fun n hn => h n (.inr hn)
    cases x with
    | t m => simp only [sem, e1, e2, e3, h m (.inl (by simp [Opd.rds]))]
    | c d => simp only [sem, e1, e2, e3]
    | fn g => simp only [sem, e1, e2, e3]
  case appS md lim x tk y =>
    have e1 := ev_congr (x := x) fun n hn => h n (.inl hn)
    have e2 := isD_congr (x := y) fun n hn => h n (.inr hn)
    have e3 := d_congr (x := y) fun n hn => h n (.inr hn)
    cases x with
    | t m => simp only [sem, e1, e2, e3, h m (.inl (by simp [Opd.rds]))]
    | c d => simp only [sem, e1, e2, e3]
    | fn g => simp only [sem, e1, e2, e3]
  case mk md lim z n => simp only [sem, isD_congr h, d_congr h]
  case ext x k => simp only [sem, rd_congr h]
  case clo g caps tys =>
    have e : (caps.map fun x => x.rd ρ) = caps.map fun x => x.rd ρ' := map_congr' fun x hx => rd_congr fun n hn => h n (mem_all hx hn)
    simp only [sem, e]
  case ifc t x => simp only [sem, isD_congr h, d_congr h]
  case nch x => simp only [sem, rd_congr h]
  case str x => simp only [sem, isD_congr h, d_congr h]
  case byt md x => simp only [sem, isD_congr h, d_congr h]
  case cpy x y => simp only [sem, rd_congr (x := x) fun n hn => h n (.inl hn), isD_congr (x := y) fun n hn => h n (.inr hn), d_congr (x := y) fun n hn => h n (.inr hn)]
  case add64 x y c =>
    simp only [sem, isD_congr (x := x) fun n hn => h n (.inl hn), d_congr (x := x) fun n hn => h n (.inl hn), isD_congr (x := y) fun n hn => h n (.inr (.inl hn)), d_congr (x := y) fun n hn => h n (.inr (.inl hn)), isD_congr (x := c) fun n hn => h n (.inr (.inr hn)), d_congr (x := c) fun n hn => h n (.inr (.inr hn))]
  case call => rfl
  case callv => rfl
theorem opEff_congr (Φ : Tab) (F : CallF) {op : VOp} {ρ ρ' : Nat → V} (h : ∀ n ∈ op.rds, ρ n = ρ' n) (H : List V) : opEff Φ F op ρ H = opEff Φ F op ρ' H := by
  cases op
  case call g args refs =>
    simp only [opEff, callArgs_congr (refs := refs) (show ∀ n ∈ Opd.rdsAll args, ρ n = ρ' n from h)]
  case callv x args tys refs =>
    simp only [VOp.rds, List.mem_append] at h
    simp only [opEff, rd_congr (x := x) fun n hn => h n (.inl hn), callArgs_congr (refs := refs) (args := args) fun n hn => h n (.inr hn)]
  all_goals simp only [opEff, sem_congr h H]
theorem putBack_nil (H bs : List V) : putBack H [] bs = H := by cases bs <;> simp [putBack]
def E.setH (e : E) (H : List V) : E := { e with H }
theorem sem_quiet {op : VOp} {ρ : Nat → V} (h : op.loud = false) (H : List V) : sem op ρ H = (sem op ρ []).setH H := by
  cases op <;> first | (simp [VOp.loud] at h; done) | rfl | skip
  all_goals (simp only [sem]; repeat' split)
  all_goals first | rfl | (rename_i x _; cases hx : (ρ x).isOwn <;> simp [sem, hx, E.setH]; done) | (simp only [cond_eq_ite]; split <;> rfl) | simp_all [E.setH]
theorem opEff_quiet (Φ : Tab) (F : CallF) {op : VOp} {ρ : Nat → V} (h : op.loud = false) (H : List V) : opEff Φ F op ρ H = (opEff Φ F op ρ []).map (·.setH H) := by
  cases op
  case call g args refs =>
    simp only [VOp.loud, Bool.not_eq_false', List.isEmpty_iff] at h
    subst h
    simp only [opEff, List.map_nil, List.all_nil, cond_true, lenH]
    cases toO (F g (callArgs ρ args []) []) with
    | none => rfl
    | some r => simp only [Option.map_some, putBack_nil, E.setH]
  case callv x args tys refs =>
    simp only [VOp.loud, Bool.not_eq_false', List.isEmpty_iff] at h
    subst h
    simp only [opEff, List.map_nil]
    split
    · split
      · cases (Ty.eqAll _ _ && _)
        · rfl
        · simp only [cond_true]
          cases toO (F _ _ _) with
          | none => rfl
          | some r => simp only [Option.map_some, putBack_nil, E.setH]
      · rfl
    · rfl
  all_goals (
    simp only [opEff]
    rw [sem_quiet h H]
    generalize sem _ ρ [] = e
    obtain ⟨ok, v, sd, H'⟩ := e
    cases ok <;> rfl)
theorem sem_sd {op : VOp} {ρ : Nat → V} {H : List V} {n : Nat} {v : V} (h : (sem op ρ H).sd = some (n, v)) : n ∈ op.sds := by
  cases op <;> simp only [sem] at h <;> (try (cases h; done))
  all_goals (repeat' split at h)
  all_goals first
    | (cases h; done)
    | (simp only [cond_eq_ite] at h; split at h <;> first | (cases h; done) | (simp only [Option.some.injEq, Prod.mk.injEq] at h; obtain ⟨rfl, _⟩ := h; simp [VOp.sds, Opd.rds]; done))
    | (simp only [Option.some.injEq, Prod.mk.injEq] at h; obtain ⟨rfl, _⟩ := h; simp [VOp.sds, Opd.rds])
end Go.Vam
