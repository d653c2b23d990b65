/- THE SHADOW MACHINE, 18: operations that may change places. -/
import Derived.Test.YtcpbgimpopcfoaaVS
set_option linter.unusedSimpArgs false
set_option linter.unusedVariables false
namespace Go.Vam
def bodyEff (Φ : Tab) (F : CallF) (x : VOper) (ρ : Nat → V) (H : List V) : Option E :=
  match x.g with
  | none => opEff Φ F x.op ρ H
  | some (d, want) => match ρ d with
    | .f b => bif b.toB == want then opEff Φ F x.op ρ H else some { v := .n, H }
    | .n => some { v := .n, H }
    | _ => none
def body (Φ : Tab) (F : CallF) (x : VOper) (st : St) : Option St := (bodyEff Φ F x st.get st.H).map fun e => applyE x e st
def normG (g : Option (Nat × Bool)) (st : St) : St :=
  match g with
  | none => st
  | some (d, _) => match st.get d with
    | .f b => st.put d (.f (.b b.toB))
    | _ => st
def step1 (Φ : Tab) (F : CallF) (x : VOper) (st : St) : Option St := body Φ F x (normG x.g st)
theorem get_put (st : St) (d n : Nat) (v : V) : (st.put d v).get n = if n = d ∧ d < st.sl.length then v else st.get n := by
  unfold St.put St.get
  simp only [List.getD_eq_getElem?_getD]
  by_cases h : n = d
  · subst h
    by_cases hn : n < st.sl.length
    · simp [hn]
    · simp [hn, List.getElem?_eq_none (Nat.le_of_not_lt hn), List.set_eq_of_length_le (Nat.le_of_not_lt hn)]
  · rw [List.getElem?_set_ne (Ne.symm h)]
    simp [h]
theorem get_lt {st : St} {d : Nat} {b : D} (h : st.get d = .f b) : d < st.sl.length := by
  rcases Nat.lt_or_ge d st.sl.length with h' | h'
  · exact h'
  · unfold St.get at h
    rw [List.getD_eq_getElem?_getD, List.getElem?_eq_none h'] at h
    cases h
theorem skip_eq (o : VOper) (st : St) : skipOp o st = applyE o { v := .n, H := st.H } st := by
  obtain ⟨dst, op, g⟩ := o
  obtain ⟨sl, H⟩ := st
  cases dst <;> rfl
theorem runOps_step {R : Type} (Φ : Tab) (F : CallF) (o : VOper) (r : List VOper) (st : St) (k : St → Option R) : runOps Φ F (o :: r) st k = (step1 Φ F o st).bind fun st' => runOps Φ F r st' k := by
  rw [runOps]
  unfold step1 body normG bodyEff
  obtain ⟨dst, op, g⟩ := o
  cases g with
  | none =>
    simp only
    rw [runOp_eq]
    cases opEff Φ F op st.get st.H <;> rfl
  | some q =>
    obtain ⟨d, want⟩ := q
    simp only
    cases hd : st.get d with
    | f b =>
      have hlt := get_lt hd
      have hg : ∀ v, (st.put d v).get d = v := fun v => by rw [get_put]; simp [hlt]
      simp only
      cases hb : b.toB with
      | true =>
        simp only [cond_true, hg, D.toB]
        cases want with
        | true =>
          simp only [cond_true, beq_self_eq_true]
          rw [runOp_eq]
          cases opEff Φ F op (st.put d (.f (.b true))).get (st.put d (.f (.b true))).H <;> rfl
        | false =>
          simp only [cond_false, show (true == false) = false from rfl, skip_eq]
          rfl
      | false =>
        simp only [cond_false, hg, D.toB]
        cases want with
        | true =>
          simp only [cond_true, cond_false, show (false == true) = false from rfl, skip_eq]
          rfl
        | false =>
          simp only [cond_false, cond_true, beq_self_eq_true]
          rw [runOp_eq]
          cases opEff Φ F op (st.put d (.f (.b false))).get (st.put d (.f (.b false))).H <;> rfl
    | n => simp only [skip_eq, hd]; rfl
    | _ => simp only [hd]; rfl
def VOper.gs (x : VOper) : List Nat := match x.g with | some (d, _) => [d] | none => []
def VOper.rd (x : VOper) : List Nat := x.gs ++ x.op.rds
def VOper.wr (x : VOper) : List Nat := x.dst.toList ++ x.op.sds
def disj (a b : List Nat) : Bool := a.all fun n => !b.contains n
theorem disj_spec {a b : List Nat} (h : disj a b = true) {n : Nat} (ha : n ∈ a) : n ∉ b := by
  simp only [disj, List.all_eq_true] at h
  have := h n ha
  simpa using this
def VOp.seer : VOp → Bool
  | .lenM _ | .ixaM _ _ | .ld _ => true
  | _ => false
def apart (x y : VOper) : Bool :=
  disj x.wr y.rd && disj x.wr y.wr && disj y.wr x.rd && (!(x.op.loud && y.op.loud) || (x.op.seer && y.op.seer)) &&
  (match x.g, y.g with
   | some (d, _), some (d', _) => d == d' || (!x.rd.contains d' && !y.rd.contains d)
   | some (d, _), none => !y.rd.contains d
   | none, some (d', _) => !x.rd.contains d'
   | none, none => true)
theorem opEff_sd {Φ : Tab} {F : CallF} {op : VOp} {ρ : Nat → V} {H : List V} {e : E} (h : opEff Φ F op ρ H = some e) {n : Nat} {v : V} (hs : e.sd = some (n, v)) : n ∈ op.sds := by
  cases op
  case call g args refs =>
    simp only [opEff] at h
    rw [cond_eq_ite] at h
    split at h
    · obtain ⟨r, _, rfl⟩ := Option.map_eq_some_iff.1 h
      cases hs
    · cases h
  case callv x args tys refs =>
    simp only [opEff] at h
    split at h
    · split at h
      · rw [cond_eq_ite] at h
        split at h
        · obtain ⟨r, _, rfl⟩ := Option.map_eq_some_iff.1 h
          cases hs
        · cases h
      · cases h
    · cases h
  all_goals (
    simp only [opEff] at h
    rw [cond_eq_ite] at h
    split at h
    · injection h with h; subst h; exact sem_sd hs
    · cases h)
theorem bodyEff_sd {Φ : Tab} {F : CallF} {x : VOper} {ρ : Nat → V} {H : List V} {e : E} (h : bodyEff Φ F x ρ H = some e) {n : Nat} {v : V} (hs : e.sd = some (n, v)) : n ∈ x.op.sds := by
  unfold bodyEff at h
  split at h
  · exact opEff_sd h hs
  · split at h
    · rw [cond_eq_ite] at h
      split at h
      · exact opEff_sd h hs
      · injection h with h; subst h; cases hs
    · injection h with h; subst h; cases hs
    · cases h
theorem bodyEff_congr (Φ : Tab) (F : CallF) {x : VOper} {ρ ρ' : Nat → V} (h : ∀ n ∈ x.rd, ρ n = ρ' n) (H : List V) : bodyEff Φ F x ρ H = bodyEff Φ F x ρ' H := by
  have h' : ∀ n ∈ x.op.rds, ρ n = ρ' n := fun n hn => h n (List.mem_append.2 (.inr hn))
  unfold bodyEff
  cases hg : x.g with
  | none => exact opEff_congr Φ F h' H
  | some q =>
    obtain ⟨d, w⟩ := q
    have : ρ d = ρ' d := h d (List.mem_append.2 (.inl (by simp [VOper.gs, hg])))
    simp only [this, opEff_congr Φ F h' H]
theorem bodyEff_quiet (Φ : Tab) (F : CallF) {x : VOper} {ρ : Nat → V} (h : x.op.loud = false) (H : List V) : bodyEff Φ F x ρ H = (bodyEff Φ F x ρ []).map (·.setH H) := by
  unfold bodyEff
  cases x.g with
  | none => exact opEff_quiet Φ F h H
  | some q =>
    obtain ⟨d, w⟩ := q
    simp only
    cases ρ d with
    | f b =>
      simp only
      cases b.toB == w
      · rfl
      · exact opEff_quiet Φ F h H
    | n => rfl
    | _ => rfl
theorem bodyEff_quietH {Φ : Tab} {F : CallF} {x : VOper} {ρ : Nat → V} (h : x.op.loud = false) {H : List V} {e : E} (he : bodyEff Φ F x ρ H = some e) : e.H = H := by
  rw [bodyEff_quiet Φ F h H] at he
  obtain ⟨r, _, rfl⟩ := Option.map_eq_some_iff.1 he
  rfl
theorem sem_seer {op : VOp} {ρ : Nat → V} {H : List V} (h : op.seer = true) : (sem op ρ H).H = H := by
  cases op <;> first | (cases h; done) | skip
  all_goals (simp only [sem]; repeat' split) <;> rfl
theorem bodyEff_seer {Φ : Tab} {F : CallF} {x : VOper} {ρ : Nat → V} (h : x.op.seer = true) {H : List V} {e : E} (he : bodyEff Φ F x ρ H = some e) : e.H = H := by
  have ho : ∀ {e : E}, opEff Φ F x.op ρ H = some e → e.H = H := by
    intro e he
    have : opEff Φ F x.op ρ H = bif (sem x.op ρ H).ok then some (sem x.op ρ H) else none := by
      cases hx : x.op <;> rw [hx] at h <;> first | (cases h; done) | rfl
    rw [this, cond_eq_ite] at he
    split at he
    · injection he with he; subst he; exact sem_seer h
    · cases he
  unfold bodyEff at he
  split at he
  · exact ho he
  · split at he
    · rw [cond_eq_ite] at he
      split at he
      · exact ho he
      · injection he with he; subst he; rfl
    · injection he with he; subst he; rfl
    · cases he
theorem applyE_get {x : VOper} {e : E} {st : St} {n : Nat} (h1 : x.dst ≠ some n) (h2 : ∀ v, e.sd ≠ some (n, v)) : (applyE x e st).get n = st.get n := by
  obtain ⟨dst, op, g⟩ := x
  obtain ⟨ok, v, sd, H⟩ := e
  simp only at h1 h2
  have h1' : ∀ d, dst = some d → d ≠ n := fun d hd e => h1 (by rw [hd, e])
  have h2' : ∀ q, sd = some q → q.1 ≠ n := fun q hq e => h2 q.2 (by rw [hq, ← e])
  unfold applyE St.get
  simp only [List.getD_eq_getElem?_getD]
  cases dst with
  | none =>
    cases sd with
    | none => rfl
    | some q => simp only [List.getElem?_set_ne (h2' q rfl)]
  | some d =>
    cases sd with
    | none => simp only [List.getElem?_set_ne (h1' d rfl)]
    | some q => simp only [List.getElem?_set_ne (h1' d rfl), List.getElem?_set_ne (h2' q rfl)]
theorem body_get {Φ : Tab} {F : CallF} {x : VOper} {st st' : St} (h : body Φ F x st = some st') {n : Nat} (hn : n ∉ x.wr) : st'.get n = st.get n := by
  unfold body at h
  obtain ⟨e, he, rfl⟩ := Option.map_eq_some_iff.1 h
  refine applyE_get (fun hd => hn (List.mem_append.2 (.inl (by simp [hd])))) fun v hs => hn (List.mem_append.2 (.inr (bodyEff_sd he hs)))
def wrE (x : VOper) (e : E) : List (Nat × V) := (match e.sd with | some q => [q] | none => []) ++ (match x.dst with | some d => [(d, e.v)] | none => [])
def setAll : List (Nat × V) → List V → List V
  | [], l => l
  | q :: r, l => setAll r (l.set q.1 q.2)
theorem applyE_setAll (x : VOper) (e : E) (st : St) : applyE x e st = { sl := setAll (wrE x e) st.sl, H := e.H } := by
  obtain ⟨dst, op, g⟩ := x
  obtain ⟨ok, v, sd, H⟩ := e
  cases dst <;> cases sd <;> rfl
theorem setAll_set {a : List (Nat × V)} {n : Nat} {v : V} (h : ∀ q ∈ a, q.1 ≠ n) : ∀ l, setAll a (l.set n v) = (setAll a l).set n v := by
  induction a with
  | nil => intro l; rfl
  | cons q r ih =>
    intro l
    have hq := h q (by simp)
    simp only [setAll]
    rw [List.set_comm _ _ (Ne.symm hq), ih (fun p hp => h p (by simp [hp]))]
theorem setAll_comm {a b : List (Nat × V)} (h : ∀ q ∈ a, ∀ p ∈ b, q.1 ≠ p.1) : ∀ l, setAll b (setAll a l) = setAll a (setAll b l) := by
  induction b with
  | nil => intro l; rfl
  | cons p r ih =>
    intro l
    simp only [setAll]
    rw [← setAll_set (fun q hq => h q hq p (by simp)), ih (fun q hq p' hp' => h q hq p' (by simp [hp']))]
theorem wrE_mem {Φ : Tab} {F : CallF} {x : VOper} {ρ : Nat → V} {H : List V} {e : E} (h : bodyEff Φ F x ρ H = some e) : ∀ q ∈ wrE x e, q.1 ∈ x.wr := by
  intro q hq
  unfold wrE at hq
  rcases List.mem_append.1 hq with hq | hq
  · split at hq
    · rename_i p hp
      simp at hq; subst hq
      exact List.mem_append.2 (.inr (bodyEff_sd h (v := q.2) hp))
    · cases hq
  · split at hq
    · rename_i d hd
      simp at hq; subst hq
      exact List.mem_append.2 (.inl (by simp [hd]))
    · cases hq
theorem wrE_setH (x : VOper) (e : E) (H : List V) : wrE x (e.setH H) = wrE x e := rfl
theorem body_comm (Φ : Tab) (F : CallF) {x y : VOper} (h1 : disj x.wr y.rd = true) (h2 : disj x.wr y.wr = true) (h3 : disj y.wr x.rd = true) (h4 : (x.op.loud = false ∨ y.op.loud = false) ∨ (x.op.seer = true ∧ y.op.seer = true)) (st : St) :
    (body Φ F x st).bind (body Φ F y) = (body Φ F y st).bind (body Φ F x) := by
  -- what the second does behind the first
  have key : ∀ {u z : VOper}, disj u.wr z.rd = true → ∀ {e : E}, bodyEff Φ F u st.get st.H = some e → bodyEff Φ F z (applyE u e st).get (applyE u e st).H = bodyEff Φ F z st.get e.H := by
    intro u z hd e he
    have hH : (applyE u e st).H = e.H := by rw [applyE_setAll]
    rw [hH]
    refine bodyEff_congr Φ F (fun n hn => ?_) _
    have hb : body Φ F u st = some (applyE u e st) := by unfold body; rw [he]; rfl
    exact body_get hb (fun hw => disj_spec hd hw hn)
  cases ex : bodyEff Φ F x st.get st.H with
  | none =>
    have e0 : body Φ F x st = none := by unfold body; rw [ex]; rfl
    rw [e0]
    cases ey : bodyEff Φ F y st.get st.H with
    | none => rw [show body Φ F y st = none by unfold body; rw [ey]; rfl]; rfl
    | some e =>
      rw [show body Φ F y st = some (applyE y e st) by unfold body; rw [ey]; rfl]
      simp only [Option.bind_none, Option.bind_some]
      unfold body
      rw [key h3 ey]
      rcases h4 with (hq | hq) | ⟨_, hq⟩
      · rw [bodyEff_quiet Φ F hq] at ex ⊢
        rw [Option.map_eq_none_iff] at ex
        rw [ex]; rfl
      · rw [bodyEff_quietH hq ey, ex]; rfl
      · rw [bodyEff_seer hq ey, ex]; rfl
  | some e =>
    rw [show body Φ F x st = some (applyE x e st) by unfold body; rw [ex]; rfl]
    simp only [Option.bind_some]
    cases ey : bodyEff Φ F y st.get st.H with
    | none =>
      rw [show body Φ F y st = none by unfold body; rw [ey]; rfl]
      simp only [Option.bind_none]
      unfold body
      rw [key h1 ex]
      rcases h4 with (hq | hq) | ⟨hq, _⟩
      · rw [bodyEff_quietH hq ex, ey]; rfl
      · rw [bodyEff_quiet Φ F hq] at ey ⊢
        rw [Option.map_eq_none_iff] at ey
        rw [ey]; rfl
      · rw [bodyEff_seer hq ex, ey]; rfl
    | some e' =>
      rw [show body Φ F y st = some (applyE y e' st) by unfold body; rw [ey]; rfl]
      simp only [Option.bind_some]
      have hw : ∀ q ∈ wrE x e, ∀ p ∈ wrE y e', q.1 ≠ p.1 := fun q hq p hp he => disj_spec h2 (wrE_mem ex q hq) (he ▸ wrE_mem ey p hp)
      unfold body
      rw [key h1 ex, key h3 ey]
      rcases h4 with (hq | hq) | ⟨hq1, hq2⟩
      · -- x is quiet
        have hxe : e.H = st.H := bodyEff_quietH hq ex
        rw [hxe, ey]
        have hx2 : bodyEff Φ F x st.get e'.H = some (e.setH e'.H) := by
          rw [bodyEff_quiet Φ F hq] at ex ⊢
          obtain ⟨r, hr, rfl⟩ := Option.map_eq_some_iff.1 ex
          rw [hr]; rfl
        rw [hx2]
        simp only [Option.map_some, applyE_setAll, wrE_setH, setAll_comm hw]
        rfl
      · have hye : e'.H = st.H := bodyEff_quietH hq ey
        rw [hye, ex]
        have hy2 : bodyEff Φ F y st.get e.H = some (e'.setH e.H) := by
          rw [bodyEff_quiet Φ F hq] at ey ⊢
          obtain ⟨r, hr, rfl⟩ := Option.map_eq_some_iff.1 ey
          rw [hr]; rfl
        rw [hy2]
        simp only [Option.map_some, applyE_setAll, wrE_setH, setAll_comm hw]
        rfl
      · have hxe : e.H = st.H := bodyEff_seer hq1 ex
        have hye : e'.H = st.H := bodyEff_seer hq2 ey
        rw [hxe, hye, ex, ey]
        simp only [Option.map_some, applyE_setAll, setAll_comm hw, hxe, hye]
theorem St.ext' {a b : St} (h1 : a.sl = b.sl) (h2 : a.H = b.H) : a = b := by cases a; cases b; simp_all
theorem put_same {st : St} {d : Nat} {v : V} (h : st.get d = v) (hlt : d < st.sl.length) : st.put d v = st := by
  refine St.ext' ?_ rfl
  unfold St.put
  unfold St.get at h
  rw [List.getD_eq_getElem?_getD, List.getElem?_eq_getElem hlt, Option.getD_some] at h
  subst h
  simp
theorem norm_H (g : Option (Nat × Bool)) (st : St) : (normG g st).H = st.H := by
  unfold normG
  split
  · rfl
  · split <;> rfl
theorem norm_get {g : Option (Nat × Bool)} {st : St} {n : Nat} (h : ∀ d w, g = some (d, w) → d ≠ n) : (normG g st).get n = st.get n := by
  unfold normG
  split
  · rfl
  · rename_i d w
    split
    · rw [get_put]; simp [Ne.symm (h d w rfl)]
    · rfl
theorem norm_body (Φ : Tab) (F : CallF) {x : VOper} {d : Nat} {w : Bool} (h1 : d ∉ x.rd) (h2 : d ∉ x.wr) (st : St) : (body Φ F x st).map (normG (some (d, w))) = body Φ F x (normG (some (d, w)) st) := by
  have hget : ∀ n ∈ x.rd, (normG (some (d, w)) st).get n = st.get n := fun n hn => norm_get fun d' w' he => by injection he with he; injection he with he _; subst he; exact fun e => h1 (e ▸ hn)
  have hE : bodyEff Φ F x (normG (some (d, w)) st).get (normG (some (d, w)) st).H = bodyEff Φ F x st.get st.H := by rw [norm_H]; exact bodyEff_congr Φ F hget _
  have hb : body Φ F x st = (bodyEff Φ F x st.get st.H).map fun e => applyE x e st := rfl
  have hb' : body Φ F x (normG (some (d, w)) st) = (bodyEff Φ F x (normG (some (d, w)) st).get (normG (some (d, w)) st).H).map fun e => applyE x e (normG (some (d, w)) st) := rfl
  rw [hb', hE]
  cases he : bodyEff Φ F x st.get st.H with
  | none => rw [hb, he]; rfl
  | some e =>
    have hbs : body Φ F x st = some (applyE x e st) := by rw [hb, he]; rfl
    rw [hbs]
    simp only [Option.map_some, Option.some.injEq]
    have hg := body_get hbs h2
    unfold normG
    simp only [hg]
    cases hd : st.get d with
    | f b =>
      simp only [applyE_setAll, St.put]
      refine St.ext' ?_ rfl
      simp only
      exact (setAll_set (fun q hq e => h2 (by have := wrE_mem he q hq; rw [e] at this; exact this)) _).symm
    | _ => rfl
theorem norm_f {d : Nat} {w : Bool} {st : St} {b : D} (h : st.get d = .f b) : normG (some (d, w)) st = st.put d (.f (.b b.toB)) := by
  unfold normG; simp only [h]
theorem norm_n {d : Nat} {w : Bool} {st : St} (h : ∀ b, st.get d ≠ .f b) : normG (some (d, w)) st = st := by
  unfold normG
  cases hd : st.get d <;> first | exact absurd hd (h _) | simp only [hd]
theorem norm_idem {d : Nat} {w w' : Bool} (st : St) : normG (some (d, w')) (normG (some (d, w)) st) = normG (some (d, w)) st := by
  by_cases h : ∃ b, st.get d = .f b
  · obtain ⟨b, hb⟩ := h
    have hlt := get_lt hb
    have hg : (st.put d (.f (.b b.toB))).get d = .f (.b b.toB) := by rw [get_put]; simp [hlt]
    rw [norm_f hb, norm_f hg]
    exact put_same hg (by simpa [St.put] using hlt)
  · have h' : ∀ b, st.get d ≠ .f b := fun b hb => h ⟨b, hb⟩
    rw [norm_n h', norm_n h']
theorem norm_stays (Φ : Tab) (F : CallF) {x : VOper} {d : Nat} {w w' : Bool} (h2 : d ∉ x.wr) {st st' : St} (h : body Φ F x (normG (some (d, w)) st) = some st') : normG (some (d, w')) st' = st' := by
  have hg := body_get h h2
  have hi := norm_idem (d := d) (w := w) (w' := w') st
  generalize normG (some (d, w)) st = s0 at *
  by_cases hb : ∃ b, s0.get d = .f b
  · obtain ⟨b, hb⟩ := hb
    have hg' : (s0.put d (.f (.b b.toB))).get d = .f (.b b.toB) := by rw [get_put]; simp [get_lt hb]
    rw [norm_f hb] at hi
    rw [hi, hb] at hg'
    rw [norm_f (hg.trans hb)]
    exact put_same ((hg.trans hb).trans hg') (get_lt (hg.trans hb))
  · exact norm_n fun b hb' => hb ⟨b, hg ▸ hb'⟩
theorem norm_comm {d d' : Nat} {w w' : Bool} (h : d ≠ d') (st : St) : normG (some (d', w')) (normG (some (d, w)) st) = normG (some (d, w)) (normG (some (d', w')) st) := by
  have e1 : (normG (some (d, w)) st).get d' = st.get d' := norm_get fun a b he => by injection he with he; injection he with he _; subst he; exact h
  have e2 : (normG (some (d', w')) st).get d = st.get d := norm_get fun a b he => by injection he with he; injection he with he _; subst he; exact Ne.symm h
  have u1 : normG (some (d', w')) (normG (some (d, w)) st) = (match (normG (some (d, w)) st).get d' with | .f b => (normG (some (d, w)) st).put d' (.f (.b b.toB)) | _ => normG (some (d, w)) st) := rfl
  have u2 : normG (some (d, w)) (normG (some (d', w')) st) = (match (normG (some (d', w')) st).get d with | .f b => (normG (some (d', w')) st).put d (.f (.b b.toB)) | _ => normG (some (d', w')) st) := rfl
  rw [u1, u2, e1, e2]
  unfold normG
  simp only
  cases hd : st.get d with
  | f b =>
    cases hd' : st.get d' with
    | f b' =>
      simp only [St.put]
      refine St.ext' ?_ rfl
      exact List.set_comm _ _ h
    | _ => rfl
  | _ =>
    cases hd' : st.get d' with
    | f b' => rfl
    | _ => rfl
theorem step_comm (Φ : Tab) (F : CallF) {x y : VOper} (h : apart x y = true) (st : St) : (step1 Φ F x st).bind (step1 Φ F y) = (step1 Φ F y st).bind (step1 Φ F x) := by
  unfold apart at h
  simp only [Bool.and_eq_true] at h
  obtain ⟨⟨⟨⟨h1, h2⟩, h3⟩, h4⟩, h5⟩ := h
  have h4' : (x.op.loud = false ∨ y.op.loud = false) ∨ (x.op.seer = true ∧ y.op.seer = true) := by
    rw [Bool.or_eq_true, Bool.and_eq_true] at h4
    rcases h4 with h4 | h4
    · left
      cases hx : x.op.loud <;> cases hy : y.op.loud <;> simp_all
    · exact .inr h4
  have hmem : ∀ {z : VOper} {d : Nat} {w : Bool}, z.g = some (d, w) → d ∈ z.rd := fun {z d w} hz => List.mem_append.2 (.inl (by simp [VOper.gs, hz]))
  -- an operation's guard and the other's body
  have hdo : ∀ {u z : VOper}, (∀ d w, z.g = some (d, w) → d ∉ u.rd ∧ d ∉ u.wr) → ∀ s, (body Φ F u s).map (normG z.g) = body Φ F u (normG z.g s) := by
    intro u z hz s
    cases hg : z.g with
    | none =>
      have : normG (none : Option (Nat × Bool)) = id := rfl
      rw [this, Option.map_id]; rfl
    | some q => obtain ⟨d, w⟩ := q; exact norm_body Φ F (hz d w hg).1 (hz d w hg).2 s
  have hcc : (∀ d w d' w', x.g = some (d, w) → y.g = some (d', w') → d ≠ d') → ∀ s, normG y.g (normG x.g s) = normG x.g (normG y.g s) := by
    intro hh s
    cases hx : x.g with
    | none => rfl
    | some q =>
      cases hy : y.g with
      | none => rfl
      | some q' =>
        obtain ⟨d, w⟩ := q; obtain ⟨d', w'⟩ := q'
        exact norm_comm (hh d w d' w' hx hy) s
  have gen : (∀ d w, y.g = some (d, w) → d ∉ x.rd) → (∀ d w, x.g = some (d, w) → d ∉ y.rd) → (∀ d w d' w', x.g = some (d, w) → y.g = some (d', w') → d ≠ d') → (step1 Φ F x st).bind (step1 Φ F y) = (step1 Φ F y st).bind (step1 Φ F x) := by
    intro k1 k2 k3
    have e1 : (step1 Φ F x st).bind (step1 Φ F y) = (body Φ F x (normG y.g (normG x.g st))).bind (body Φ F y) := by
      rw [← hdo (z := y) (fun d w hd => ⟨k1 d w hd, fun hw => disj_spec h1 hw (hmem hd)⟩)]
      unfold step1
      cases body Φ F x (normG x.g st) <;> rfl
    have e2 : (step1 Φ F y st).bind (step1 Φ F x) = (body Φ F y (normG x.g (normG y.g st))).bind (body Φ F x) := by
      rw [← hdo (z := x) (fun d w hd => ⟨k2 d w hd, fun hw => disj_spec h3 hw (hmem hd)⟩)]
      unfold step1
      cases body Φ F y (normG y.g st) <;> rfl
    rw [e1, e2, hcc k3, body_comm Φ F h1 h2 h3 h4']
  cases hx : x.g with
  | none =>
    cases hy : y.g with
    | none => exact gen (fun d w h => by rw [hy] at h; cases h) (fun d w h => by rw [hx] at h; cases h) (fun d w d' w' h => by rw [hx] at h; cases h)
    | some q =>
      obtain ⟨d', w'⟩ := q
      rw [hx, hy] at h5
      simp only [Bool.not_eq_true', List.contains_eq_mem, decide_eq_false_iff_not] at h5
      exact gen (fun d w h => by rw [hy] at h; injection h with h; injection h with h _; subst h; exact h5) (fun d w h => by rw [hx] at h; cases h) (fun d w d' w' h => by rw [hx] at h; cases h)
  | some q =>
    obtain ⟨d, w⟩ := q
    cases hy : y.g with
    | none =>
      rw [hx, hy] at h5
      simp only [Bool.not_eq_true', List.contains_eq_mem, decide_eq_false_iff_not] at h5
      exact gen (fun d w h => by rw [hy] at h; cases h) (fun d w h => by rw [hx] at h; injection h with h; injection h with h _; subst h; exact h5) (fun d w d' w' _ h => by rw [hy] at h; cases h)
    | some q' =>
      obtain ⟨d', w'⟩ := q'
      rw [hx, hy] at h5
      simp only [Bool.or_eq_true, Bool.and_eq_true, Bool.not_eq_true', List.contains_eq_mem, decide_eq_false_iff_not] at h5
      rcases h5 with h5 | h5
      · -- the same guard
        have : d = d' := by simpa using h5
        subst this
        have hwx : d ∉ x.wr := fun hw => disj_spec h1 hw (hmem hy)
        have hwy : d ∉ y.wr := fun hw => disj_spec h3 hw (hmem hx)
        have hnn : normG x.g st = normG y.g st := by rw [hx, hy]; rfl
        have e1 : (step1 Φ F x st).bind (step1 Φ F y) = (body Φ F x (normG x.g st)).bind (body Φ F y) := by
          unfold step1
          cases hb : body Φ F x (normG x.g st) with
          | none => rfl
          | some s1 => simp only [Option.bind_some]; rw [hx] at hb; rw [hy, norm_stays Φ F hwx hb]
        have e2 : (step1 Φ F y st).bind (step1 Φ F x) = (body Φ F y (normG y.g st)).bind (body Φ F x) := by
          unfold step1
          cases hb : body Φ F y (normG y.g st) with
          | none => rfl
          | some s1 => simp only [Option.bind_some]; rw [hy] at hb; rw [hx, norm_stays Φ F hwy hb]
        rw [e1, e2, ← hnn, body_comm Φ F h1 h2 h3 h4']
      · refine gen (fun d2 w2 h => ?_) (fun d2 w2 h => ?_) (fun a b a' b' ha hb => ?_)
        · rw [hy] at h; injection h with h; injection h with h _; subst h; exact h5.1
        · rw [hx] at h; injection h with h; injection h with h _; subst h; exact h5.2
        · rw [hx] at ha; rw [hy] at hb
          injection ha with ha; injection ha with ha _; subst ha
          injection hb with hb; injection hb with hb _; subst hb
          exact fun e => h5.2 (e ▸ hmem hy)
theorem runOps_front {R : Type} (Φ : Tab) (F : CallF) {x : VOper} (B : List VOper) (k : St → Option R) : ∀ (A : List VOper) (st : St), (∀ y ∈ A, apart y x = true) → runOps Φ F (A ++ x :: B) st k = runOps Φ F (x :: (A ++ B)) st k
  | [], st, _ => rfl
  | y :: A, st, h => by
    have ih := fun st' => runOps_front Φ F B k A st' fun z hz => h z (by simp [hz])
    have hc := step_comm Φ F (h y (by simp)) st
    rw [List.cons_append, runOps_step]
    have : (step1 Φ F y st).bind (fun st' => runOps Φ F (A ++ x :: B) st' k) = ((step1 Φ F y st).bind (step1 Φ F x)).bind fun st' => runOps Φ F (A ++ B) st' k := by
      cases step1 Φ F y st with
      | none => rfl
      | some s1 => simp only [Option.bind_some]; rw [ih, runOps_step]
    rw [this, hc, runOps_step]
    cases step1 Φ F x st with
    | none => rfl
    | some s1 => simp only [Option.bind_some, List.cons_append]; rw [runOps_step]
end Go.Vam
