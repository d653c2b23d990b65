/- THE SHADOW MACHINE, 20: regions. -/
import Derived.Test.YtcpbgimpopcfoaaVP
set_option linter.unusedSimpArgs false
set_option linter.unusedVariables false
namespace Go.Vam
instance : Inhabited VOper := ⟨{ dst := none, op := .alA }⟩
section
variable {C : Ctx} {Γ : List Ty} {g0 g : G} {w0 w : World} {st : St} {a : Act}
def chkAny (C : Ctx) (Γ : List Ty) (dst : Option Nat) (op : Op) (vop : VOp) : Bool :=
  match vop with
  | .call h args refs => chkCall C Γ dst op h args refs
  | .callv x args tys refs => chkCallv C Γ dst op x args tys refs
  | .un f vx => chkOp C Γ dst op (.un f vx) || chkX C Γ dst op f vx
  | .bin f vx vy => chkOp C Γ dst op (.bin f vx vy) || chkX2 C Γ dst op f vx vy
  | .add64 vx vy vc => chkA64 C Γ dst op vx vy vc
  | .nch vx => chkNch C Γ dst op vx
  | vop => chkOp C Γ dst op vop
theorem snd_any {F : CallF} (hF : FnOk C.P C.Φ F) (hT : ∀ h vf, C.Φ h = some vf → funcOk C.P vf = true) (hI : Inv C Γ g0 w0 g st a w) {o : Oper} {vo : VOper} (hd : o.dst = vo.dst) (hc : chkAny C Γ vo.dst o.op vo.op = true) {e : E} (he : opEff C.Φ F vo.op st.get st.H = some e) :
    StepW C Γ g0 w0 o (applyE vo e st) a w := by
  cases hv : vo.op
  case call h args refs => rw [hv] at hc; exact snd_call hF hI hd hv hc he
  case callv x args tys refs => rw [hv] at hc; exact snd_callv hF hT hI hd hv hc he
  case un f vx =>
    rw [hv] at hc
    simp only [chkAny, Bool.or_eq_true] at hc
    have hq : (bif (sem vo.op st.get st.H).ok then some (sem vo.op st.get st.H) else none) = some e := by rw [hv] at he ⊢; exact he
    rw [cond_eq_ite] at hq
    split at hq
    · rename_i hok
      injection hq with hq
      subst hq
      rcases hc with hc | hc
      · exact (snd_op hI hd (by rw [hv]; exact hc) hok).wp
      · exact (snd_x hI hd hv hc hok).wp
    · cases hq
  case bin f vx vy =>
    rw [hv] at hc
    simp only [chkAny, Bool.or_eq_true] at hc
    have hq : (bif (sem vo.op st.get st.H).ok then some (sem vo.op st.get st.H) else none) = some e := by rw [hv] at he ⊢; exact he
    rw [cond_eq_ite] at hq
    split at hq
    · rename_i hok
      injection hq with hq
      subst hq
      rcases hc with hc | hc
      · exact (snd_op hI hd (by rw [hv]; exact hc) hok).wp
      · exact (snd_x2 hI hd hv hc hok).wp
    · cases hq
  case add64 vx vy vc =>
    rw [hv] at hc
    simp only [chkAny] at hc
    have hq : (bif (sem vo.op st.get st.H).ok then some (sem vo.op st.get st.H) else none) = some e := by rw [hv] at he ⊢; exact he
    rw [cond_eq_ite] at hq
    split at hq
    · rename_i hok
      injection hq with hq
      subst hq
      exact (snd_a64 hI hd hv hc hok).wp
    · cases hq
  case nch vx =>
    rw [hv] at hc
    simp only [chkAny] at hc
    have hq : (bif (sem vo.op st.get st.H).ok then some (sem vo.op st.get st.H) else none) = some e := by rw [hv] at he ⊢; exact he
    rw [cond_eq_ite] at hq
    split at hq
    · rename_i hok
      injection hq with hq
      subst hq
      exact (snd_nch hI hd hv hc hok).wp
    · cases hq
  all_goals (
    have hc' : chkOp C Γ vo.dst o.op vo.op = true := by rw [hv] at hc ⊢; exact hc
    have hq : (bif (sem vo.op st.get st.H).ok then some (sem vo.op st.get st.H) else none) = some e := by rw [hv] at he ⊢; exact he
    rw [cond_eq_ite] at hq
    split at hq
    · rename_i hok
      injection hq with hq
      subst hq
      exact (snd_op hI hd hc' hok).wp
    · cases hq)
def guardOk (C : Ctx) (Γ : List Ty) (ops : Array Oper) (o : Oper) (vo : VOper) : Bool :=
  match o.guard, vo.g with
  | none, none => true
  | some (j, w), some (d, w') => w == w' && (match ops[j]? with | some oj => (match oj.dst with | some d' => d' == d | none => false) | none => false) && (match Γ[d]? with | some (.v t) => isB C.P t | _ => false)
  | _, _ => false
def dstIn (Γ : List Ty) : Option Nat → Bool
  | some d => decide (d < Γ.length)
  | none => true
def dstEq : Option Nat → Option Nat → Bool
  | some a, some b => a == b
  | none, none => true
  | _, _ => false
theorem dstEq_eq {a b : Option Nat} (h : dstEq a b = true) : a = b := by
  cases a <;> cases b <;> simp [dstEq] at h ⊢
  exact h
def chkVO (C : Ctx) (Γ : List Ty) (ops : Array Oper) (o : Oper) (vo : VOper) : Bool := dstEq o.dst vo.dst && dstIn Γ vo.dst && guardOk C Γ ops o vo && chkAny C Γ vo.dst o.op vo.op
theorem Inv.skip (hI : Inv C Γ g0 w0 g st a w) {vo : VOper} (hd : dstIn Γ vo.dst = true) {ok : Bool} : Inv C Γ g0 w0 g (applyE vo { ok, v := .n, H := st.H } st) (a.put vo.dst undef) w :=
  hI.pure fun d hdd => by
    rw [hdd] at hd
    have hlt : d < Γ.length := of_decide_eq_true hd
    exact ⟨Γ[d], List.getElem?_eq_getElem hlt, by simp only [RV]⟩
theorem op_sound {F : CallF} (hF : FnOk C.P C.Φ F) (hT : ∀ h vf, C.Φ h = some vf → funcOk C.P vf = true) (hI : Inv C Γ g0 w0 g st a w) {ops : Array Oper} {i : Nat} {o : Oper} {vo : VOper} (ho : ops[i]? = some o) (hc : chkVO C Γ ops o vo = true) {st' : St} (hs : step1 C.Φ F vo st = some st')
    {Q : Exit → Act → World → Prop} {K : Act → World → Prop} (hK : ∀ a' w' g', Inv C Γ g0 w0 g' st' a' w' → K a' w') : wpOp C.P ops Q i K a w := by
  unfold chkVO at hc
  simp only [Bool.and_eq_true] at hc
  obtain ⟨⟨⟨h1, h2⟩, h3⟩, h4⟩ := hc
  have hd := dstEq_eq h1
  unfold wpOp
  rw [ho]
  simp only
  unfold step1 body at hs
  obtain ⟨e, he, rfl⟩ := Option.map_eq_some_iff.1 hs
  unfold guardOk at h3
  split at h3
  · rename_i hg hvg
    have hw : Region.wanted o (yielded ops a.tmps) = true := by unfold Region.wanted; rw [hg]
    rw [if_pos hw]
    rw [hvg] at he hK
    simp only [normG, bodyEff, hvg] at he hK
    exact .inl (snd_any hF hT hI hd h4 he K Q hK)
  · rename_i j want d want' hg hvg
    simp only [Bool.and_eq_true] at h3
    obtain ⟨⟨h5, h6⟩, h7⟩ := h3
    have : want = want' := by simpa using h5
    subst this
    split at h6
    · rename_i oj hoj
      split at h6
      · rename_i d' hd'
        have : d' = d := by simpa using h6
        subst this
        split at h7
        · rename_i t ht
          have hlt : d' < Γ.length := (List.getElem?_eq_some_iff.1 ht).1
          have hlt2 : d' < a.tmps.size := by rw [hI.len, ← hI.glen]; exact hlt
          have hslot := hI.slot ht
          have hget : a.tmps[d']? = some (a.tmps.getD d' undef) := by simp [hlt2]
          have hy : yielded ops a.tmps j = (match a.tmps.getD d' undef with | .bool b => some b | _ => none) := by
            unfold yielded
            rw [hoj]
            simp only [Option.bind_some, hd', hget]
            cases a.tmps.getD d' undef <;> rfl
          rw [hvg] at he hK
          cases hst : st.get d' with
          | f b =>
            rw [hst] at hslot
            simp only [RV] at hslot
            obtain ⟨e1, e2⟩ := RT.bool (isB_u h7) hslot
            have hnorm : normG (some (d', want)) st = st := by
              rw [norm_f hst, ← e1]
              exact put_same hst (get_lt hst)
            rw [hnorm] at he hK
            simp only [bodyEff, hvg, hst] at he
            rw [e2] at hy
            simp only at hy
            cases hb : b.toB == want with
            | true =>
              rw [hb] at he
              simp only [cond_true] at he
              have hw : Region.wanted o (yielded ops a.tmps) = true := by
                unfold Region.wanted; rw [hg]; simp only [hy]
                have : b.toB = want := by simpa using hb
                rw [this]; simp
              rw [if_pos hw]
              exact .inl (snd_any hF hT hI hd h4 he K Q hK)
            | false =>
              rw [hb] at he
              simp only [cond_false, Option.some.injEq] at he
              subst he
              have hw : Region.wanted o (yielded ops a.tmps) = false := by
                unfold Region.wanted; rw [hg]; simp only [hy]
                have : b.toB ≠ want := by simpa using hb
                simpa using this
              rw [if_neg (by rw [hw]; simp), hd]
              exact hK _ _ _ (hI.skip h2)
          | n =>
            have hnorm : normG (some (d', want)) st = st := norm_n fun b h => by rw [hst] at h; cases h
            rw [hnorm] at he hK
            simp only [bodyEff, hvg, hst, Option.some.injEq] at he
            subst he
            rw [hst] at hslot
            simp only [RV] at hslot
            rw [hslot] at hy
            have hw : Region.wanted o (yielded ops a.tmps) = false := by
              unfold Region.wanted; rw [hg]; simp only [hy]; rfl
            rw [if_neg (by rw [hw]; simp), hd]
            exact hK _ _ _ (hI.skip h2)
          | _ =>
            have hnorm : normG (some (d', want)) st = st := norm_n fun b h => by rw [hst] at h; cases h
            rw [hnorm] at he
            simp only [bodyEff, hvg, hst] at he
            cases he
        · cases h7
      · cases h6
    · cases h6
  · cases h3
def at_ (vops : List VOper) (i : Nat) : VOper := vops.getD i default
def OpsOk (C : Ctx) (Γ : List Ty) (ops : Array Oper) (vops : List VOper) : Prop := ∀ i, i < ops.size → ∃ o, ops[i]? = some o ∧ chkVO C Γ ops o (at_ vops i) = true
theorem ops_seq {F : CallF} (hF : FnOk C.P C.Φ F) (hT : ∀ h vf, C.Φ h = some vf → funcOk C.P vf = true) {ops : Array Oper} {vops : List VOper} (hO : OpsOk C Γ ops vops) {R : Type} {k : St → Option R} {r : R} {Q : Exit → Act → World → Prop} (hQ : ∀ st' a' w' g', Inv C Γ g0 w0 g' st' a' w' → k st' = some r → Q .normal a' w') :
    ∀ (L : List Nat) {st : St} {a : Act} {w : World} {g : G}, (∀ i ∈ L, i < ops.size) → Inv C Γ g0 w0 g st a w → runOps C.Φ F (L.map (at_ vops)) st k = some r → wpOps C.P ops Q L a w
  | [], st, a, w, g, _, hI, hr => hQ _ _ _ _ hI (by simpa [runOps] using hr)
  | i :: L, st, a, w, g, hL, hI, hr => by
    rw [wpOps_cons]
    obtain ⟨o, ho, hc⟩ := hO i (hL i (by simp))
    rw [List.map_cons, runOps_step] at hr
    obtain ⟨st', hs, hr⟩ := Option.bind_eq_some_iff.1 hr
    exact op_sound hF hT hI ho hc hs fun a' w' g' hI' => ops_seq hF hT hO hQ L (fun j hj => hL j (by simp [hj])) hI' hr
def preds (ops : Array Oper) (i : Nat) : List Nat := match ops[i]? with | some o => (o.after.toList.filter (Region.binds .any)).map (·.on) | none => []
def tpOf (ops : Array Oper) : Nat → List (List Nat)
  | 0 => []
  | n + 1 => tpOf ops n ++ [(List.range n).filter fun j => (preds ops n).any fun p => p == j || ((tpOf ops n).getD p []).contains j]
theorem tpOf_len (ops : Array Oper) : ∀ n, (tpOf ops n).length = n
  | 0 => rfl
  | n + 1 => by simp [tpOf, tpOf_len ops n]
theorem tp_listed {ops : Array Oper} {L : Nat → Prop} (hcl : ∀ i, L i → ∀ p ∈ preds ops i, L p) : ∀ n i, i < n → ∀ j ∈ (tpOf ops n).getD i [], (∀ p ∈ preds ops i, L p) → L j
  | 0, i, h, _, _, _ => by omega
  | n + 1, i, h, j, hj, hp => by
    rw [tpOf, List.getD_eq_getElem?_getD] at hj
    by_cases hi : i < n
    · rw [List.getElem?_append_left (by rw [tpOf_len]; exact hi), ← List.getD_eq_getElem?_getD] at hj
      exact tp_listed hcl n i hi j hj hp
    · have : i = n := by omega
      subst this
      rw [List.getElem?_append_right (by rw [tpOf_len]; omega), tpOf_len, Nat.sub_self] at hj
      simp only [List.getElem?_cons_zero, Option.getD_some, List.mem_filter, List.mem_range, List.any_eq_true, Bool.or_eq_true, beq_iff_eq, List.contains_eq_mem, decide_eq_true_eq] at hj
      obtain ⟨_, p, hpm, hpj⟩ := hj
      have hpl := hp p hpm
      rcases hpj with rfl | hpj
      · exact hpl
      · have hpi : p < i := by
          rcases Nat.lt_or_ge p i with h' | h'
          · exact h'
          · rw [List.getD_eq_getElem?_getD, List.getElem?_eq_none (by rw [tpOf_len]; exact h')] at hpj
            cases hpj
        exact tp_listed hcl i p hpi j hpj (hcl p hpl)
def orderChk (ops : Array Oper) (vops : List VOper) : Bool :=
  let tp := tpOf ops ops.size
  (List.range ops.size).all fun i => (preds ops i).all (fun p => decide (p < i)) && (List.range i).all fun j => apart (at_ vops j) (at_ vops i) || (tp.getD i []).contains j
theorem ready_iff {ops : Array Oper} {listed : Array Bool} {i : Nat} : i ∈ Region.ready .any ops listed ↔ i < ops.size ∧ listed.getD i true = false ∧ ∀ p ∈ preds ops i, listed.getD p false = true := by
  unfold Region.ready preds
  simp only [List.mem_filter, List.mem_range, Bool.and_eq_true, Bool.not_eq_true']
  constructor
  · rintro ⟨h1, h2, h3⟩
    refine ⟨h1, h2, fun p hp => ?_⟩
    rw [Array.getElem?_eq_getElem h1] at h3 hp
    simp only [Option.map_some, Option.getD_some, Array.all_eq_true_iff_forall_mem] at h3
    simp only [List.mem_map, List.mem_filter] at hp
    obtain ⟨e, ⟨he1, he2⟩, rfl⟩ := hp
    have := h3 e (by simpa using he1)
    rw [he2] at this
    simpa using this
  · rintro ⟨h1, h2, h3⟩
    refine ⟨h1, h2, ?_⟩
    rw [Array.getElem?_eq_getElem h1] at h3 ⊢
    simp only [Option.map_some, Option.getD_some, Array.all_eq_true_iff_forall_mem]
    intro e he
    cases hb : Region.binds .any e with
    | false => simp
    | true =>
      simp only [Bool.not_true, Bool.false_or]
      exact h3 e.on (List.mem_map.2 ⟨e, List.mem_filter.2 ⟨by simpa using he, hb⟩, rfl⟩)
def todo (n : Nat) (listed : Array Bool) : List Nat := (List.range n).filter fun j => !listed.getD j true
theorem mem_todo {n : Nat} {listed : Array Bool} {j : Nat} : j ∈ todo n listed ↔ j < n ∧ listed.getD j true = false := by simp [todo]
theorem todo_pair (n : Nat) (listed : Array Bool) : (todo n listed).Pairwise (· < ·) := List.Pairwise.filter _ List.pairwise_lt_range
theorem getD_set (listed : Array Bool) (i j : Nat) (d : Bool) : (listed.setIfInBounds i true).getD j d = if i = j ∧ i < listed.size then true else listed.getD j d := by
  by_cases h : i = j
  · subst h
    by_cases hd : i < listed.size
    · simp [hd]
    · simp [hd, Array.getD]
  · simp [Array.getElem?_setIfInBounds_ne h, h]
theorem todo_set {n i : Nat} {listed : Array Bool} (hs : listed.size = n) (hi : i < n) : todo n (listed.setIfInBounds i true) = (todo n listed).filter (· != i) := by
  unfold todo
  rw [List.filter_filter]
  apply List.filter_congr
  intro j hj
  rw [getD_set]
  by_cases h : i = j
  · subst h; simp [hs, hi]
  · have : (j != i) = true := by simpa using Ne.symm h
    simp [h, this]
theorem ops_any {F : CallF} (hF : FnOk C.P C.Φ F) (hT : ∀ h vf, C.Φ h = some vf → funcOk C.P vf = true) {ops : Array Oper} {vops : List VOper} (hO : OpsOk C Γ ops vops) (hord : orderChk ops vops = true) {R : Type} {k : St → Option R} {r : R} {Q : Exit → Act → World → Prop} (hQ : ∀ st' a' w' g', Inv C Γ g0 w0 g' st' a' w' → k st' = some r → Q .normal a' w') :
    ∀ (fuel : Nat) (listed : Array Bool) {st : St} {a : Act} {w : World} {g : G}, listed.size = ops.size → (todo ops.size listed).length ≤ fuel → (∀ i, listed.getD i false = true → ∀ p ∈ preds ops i, listed.getD p false = true) → Inv C Γ g0 w0 g st a w → runOps C.Φ F ((todo ops.size listed).map (at_ vops)) st k = some r → wpAny C.P .any ops Q fuel listed a w := by
  simp only [orderChk, List.all_eq_true, List.mem_range, Bool.and_eq_true, decide_eq_true_eq, Bool.or_eq_true, List.contains_eq_mem] at hord
  have hsame : ∀ (listed : Array Bool), listed.size = ops.size → ∀ j, j < ops.size → listed.getD j true = listed.getD j false := by
    intro listed hs j hj
    simp [show j < listed.size by omega]
  have hempty : ∀ (listed : Array Bool) {st : St} {a : Act} {w : World} {g : G}, listed.size = ops.size → Inv C Γ g0 w0 g st a w → runOps C.Φ F ((todo ops.size listed).map (at_ vops)) st k = some r → Region.ready .any ops listed = [] → Q .normal a w := by
    intro listed st a w g hs hI hr hre
    have : todo ops.size listed = [] := by
      cases ht : todo ops.size listed with
      | nil => rfl
      | cons i rest =>
        have hi : i ∈ todo ops.size listed := by rw [ht]; simp
        obtain ⟨hi1, hi2⟩ := mem_todo.1 hi
        have : i ∈ Region.ready .any ops listed := by
          refine ready_iff.2 ⟨hi1, hi2, fun p hp => ?_⟩
          have hpi := (hord i hi1).1 p hp
          cases hl : listed.getD p false with
          | true => rfl
          | false =>
            have hpt : p ∈ todo ops.size listed := mem_todo.2 ⟨by omega, by rw [hsame listed hs p (by omega)]; exact hl⟩
            have hpw := todo_pair ops.size listed
            rw [ht] at hpt hpw
            rcases List.mem_cons.1 hpt with h | h
            · omega
            · have := (List.pairwise_cons.1 hpw).1 p h; omega
        rw [hre] at this; cases this
    rw [this] at hr
    exact hQ _ _ _ _ hI (by simpa [runOps] using hr)
  intro fuel
  induction fuel with
  | zero =>
    intro listed st a w g hs hf hcl hI hr
    have ht : todo ops.size listed = [] := List.length_eq_zero_iff.1 (by omega)
    refine ⟨?_, ?_⟩
    · cases hre : Region.ready .any ops listed with
      | nil => rfl
      | cons i rest =>
        have : i ∈ Region.ready .any ops listed := by rw [hre]; simp
        obtain ⟨h1, h2, _⟩ := ready_iff.1 this
        have := mem_todo.2 ⟨h1, h2⟩
        rw [ht] at this; cases this
    · rw [ht] at hr; exact hQ _ _ _ _ hI (by simpa [runOps] using hr)
  | succ fuel ih =>
    intro listed st a w g hs hf hcl hI hr
    refine ⟨hempty listed hs hI hr, fun i hi => ?_⟩
    obtain ⟨h1, h2, h3⟩ := ready_iff.1 hi
    obtain ⟨o, ho, hc⟩ := hO i h1
    have him := mem_todo.2 ⟨h1, h2⟩
    obtain ⟨A, B, hAB⟩ := List.append_of_mem him
    have hpw := todo_pair ops.size listed
    rw [hAB] at hpw
    have hA : ∀ j ∈ A, j < i := fun j hj => (List.pairwise_append.1 hpw).2.2 j hj i (by simp)
    have hB : ∀ j ∈ B, i < j := (List.pairwise_cons.1 (List.pairwise_append.1 hpw).2.1).1
    have hap : ∀ y ∈ A.map (at_ vops), apart y (at_ vops i) = true := by
      intro y hy
      obtain ⟨j, hj, rfl⟩ := List.mem_map.1 hy
      rcases (hord i h1).2 j (hA j hj) with h | h
      · exact h
      · have hl := tp_listed (L := fun j => listed.getD j false = true) hcl ops.size i h1 j (by simpa using h) h3
        have hjt : j ∈ todo ops.size listed := by rw [hAB]; simp [hj]
        obtain ⟨q1, q2⟩ := mem_todo.1 hjt
        rw [hsame listed hs j q1] at q2
        rw [hl] at q2; cases q2
    rw [hAB, List.map_append, List.map_cons, runOps_front C.Φ F _ k _ st hap, runOps_step] at hr
    obtain ⟨st', hs', hr'⟩ := Option.bind_eq_some_iff.1 hr
    refine op_sound hF hT hI ho hc hs' fun a' w' g' hI' => ?_
    have hset : todo ops.size (listed.setIfInBounds i true) = A ++ B := by
      rw [todo_set hs h1, hAB, List.filter_append, List.filter_cons]
      have e1 : A.filter (· != i) = A := List.filter_eq_self.2 fun j hj => by have := hA j hj; simp; omega
      have e2 : B.filter (· != i) = B := List.filter_eq_self.2 fun j hj => by have := hB j hj; simp; omega
      rw [e1, e2]; simp
    refine ih (listed.setIfInBounds i true) (by simpa using hs) ?_ ?_ hI' ?_
    · rw [hset]; rw [hAB] at hf; simp at hf ⊢; omega
    · intro j hj p hp
      rw [getD_set] at hj ⊢
      split
      · rfl
      · split at hj
        · rename_i hij
          obtain ⟨rfl, _⟩ := hij
          exact h3 p hp
        · exact hcl j hj p hp
    · rw [hset, List.map_append]; exact hr'
def regChk (C : Ctx) (Γ : List Ty) (ops : Array Oper) (vops : List VOper) (draw : Bool) : Bool :=
  vops.length == ops.size && ((List.range ops.size).all fun i => match ops[i]? with | some o => chkVO C Γ ops o (at_ vops i) | none => false) && (!draw || (C.P.follows .mixedOrders && orderChk ops vops))
theorem range_map_at (vops : List VOper) : (List.range vops.length).map (at_ vops) = vops := by
  apply List.ext_getElem
  · simp
  · intro i h1 h2
    simp [at_, h2]
theorem reg_sound {F : CallF} (hF : FnOk C.P C.Φ F) (hT : ∀ h vf, C.Φ h = some vf → funcOk C.P vf = true) {id : Nat} {ops : Array Oper} {vops : List VOper} {draw : Bool} (hc : regChk C Γ ops vops draw = true) {R : Type} {k : St → Option R} {r : R} {Q : Exit → Act → World → Prop}
    (hQ : ∀ st' a' w' g', Inv C Γ g0 w0 g' st' a' w' → k st' = some r → Q .normal a' w') (hI : Inv C Γ g0 w0 g st a w) (hr : runOps C.Φ F vops st k = some r) : (Code.region id ops draw).wp C.P Q a w := by
  unfold regChk at hc
  simp only [Bool.and_eq_true, List.all_eq_true, List.mem_range] at hc
  obtain ⟨⟨h1, h2⟩, h3⟩ := hc
  have hlen : vops.length = ops.size := by simpa using h1
  have hO : OpsOk C Γ ops vops := by
    intro i hi
    have := h2 i hi
    rw [Array.getElem?_eq_getElem hi] at this
    exact ⟨_, Array.getElem?_eq_getElem hi, this⟩
  have hr' : runOps C.Φ F ((List.range ops.size).map (at_ vops)) st k = some r := by rw [← hlen, range_map_at]; exact hr
  cases draw with
  | false => exact wp_region (ops_seq hF hT hO hQ _ (fun i hi => by simpa using hi) hI hr')
  | true =>
    simp only [Bool.not_true, Bool.false_or, Bool.and_eq_true] at h3
    refine wp_region_any h3.1 ?_
    have hrep : ∀ j, j < ops.size → (Array.replicate ops.size false).getD j true = false := by intro j hj; simp [hj]
    have ht : todo ops.size (Array.replicate ops.size false) = List.range ops.size := by
      unfold todo
      refine List.filter_eq_self.2 fun j hj => ?_
      rw [hrep j (by simpa using hj)]; rfl
    refine ops_any hF hT hO h3.2 hQ ops.size _ (by simp) (by rw [ht]; simp) (fun i hi => ?_) (hI.drew 1) (by rw [ht]; exact hr')
    have : (Array.replicate ops.size false).getD i false = false := by
      by_cases h : i < ops.size
      · simp [h]
      · simp [h, Array.getD]
    rw [this] at hi; cases hi
end
end Go.Vam
