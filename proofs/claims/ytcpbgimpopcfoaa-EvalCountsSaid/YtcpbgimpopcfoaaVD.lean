/- THE SHADOW MACHINE, 4: operands are what they stand for; one step. -/
import Derived.Test.YtcpbgimpopcfoaaVC
set_option linter.unusedSimpArgs false
namespace Go.Vam
def constOk (P : Program) : Ty → Value → D → Bool
  | .v t, v, d =>
    match P.underlying t, v, d with
    | some .bool, .bool x, .b y => x == y
    | some (.int k), .int k' n, .i m => (k == k' && n == m) && (decide (k.min ≤ n) && decide (n ≤ k.max))
    | some (.float .f64), .float .f64 n, .f m => n == m && decide (n < 18446744073709551616)
    | some .string, .string s, .s x => bytesL s == x && decide (s.size ≤ maxLen)
    | some (.slice _), .slice none 0 0, .sz [] => true
    | some (.pointer _), .pointer none, .nil => true
    | some (.interface _), .nilIface, .nil => true
    | some (.func _ _ _), .nilFunc, .nil => true
    | _, _, _ => false
  | .p _, .pointer none, .nil => true
  | _, _, _ => false
theorem constOk_rt {P : Program} {S : Cells} {τ : Ty} {v : Value} {d : D} (h : constOk P τ v d = true) : RT P S τ d v := by
  unfold constOk at h
  split at h
  · rename_i t v d
    simp only [RT, AggOk]
    split at h
    · rename_i hu; rw [hu]; simp at h; subst h; exact ⟨.b hu, by simp⟩
    · rename_i hu; rw [hu]; simp at h; obtain ⟨⟨rfl, rfl⟩, h1, h2⟩ := h; exact ⟨.i hu ⟨h1, h2⟩, by simp⟩
    · rename_i hu; rw [hu]; simp at h; obtain ⟨rfl, h1⟩ := h; exact ⟨.f hu ⟨.inl rfl, h1⟩, by simp⟩
    · rename_i hu; rw [hu]; simp at h; obtain ⟨rfl, h1⟩ := h; exact ⟨.s hu h1, by simp⟩
    · rename_i hu; rw [hu]; exact ⟨.nils hu (.inl rfl), by simp⟩
    · rename_i hu; rw [hu]; exact ⟨.pn hu, by simp⟩
    · rename_i hu; rw [hu]; exact ⟨.ifn hu, by simp⟩
    · rename_i hu; rw [hu]; exact ⟨.fnn hu, by simp⟩
    · cases h
  · exact .inl ⟨rfl, rfl⟩
  · cases h
def opd (C : Ctx) (Γ : List Ty) (x : Operand) (vx : Opd) (τ : Ty) : Bool :=
  match x, vx with
  | .tmp n, .t m => n == m && (match Γ[n]? with | some σ => fits C.P σ τ | none => false)
  | .const v, .c d => constOk C.P τ v d
  | .func f, .fn g => (match C.Φ g with | some vf => vf.fid == f | none => false)
  | _, _ => false
section
variable {C : Ctx} {Γ : List Ty} {g0 g : G} {w0 w : World} {st : St} {a : Act}
theorem Inv.slot (hI : Inv C Γ g0 w0 g st a w) {n : Nat} {σ : Ty} (h : Γ[n]? = some σ) : RV C g st.H w (.slot n) σ (st.get n) (a.tmps.getD n undef) := by
  obtain ⟨hn, rfl⟩ := List.getElem?_eq_some_iff.1 h
  have hn' : n < st.sl.length := by rw [← hI.glen]; exact hn
  have := hI.slots n hn' hn
  unfold St.get
  rwa [List.getD_eq_getElem?_getD, List.getElem?_eq_getElem hn', Option.getD_some]
def Opd.own : Opd → Own
  | .t n => .slot n
  | _ => .ret
theorem Inv.ev (hI : Inv C Γ g0 w0 g st a w) {x : Operand} {vx : Opd} {τ : Ty} (h : opd C Γ x vx τ = true) : RV C g st.H w vx.own τ (vx.ev st.get) (a.eval x) := by
  unfold opd at h
  split at h
  · rename_i n m
    simp only [Bool.and_eq_true] at h
    obtain ⟨h1, h2⟩ := h
    have : n = m := by simpa using h1
    subst this
    split at h2
    · rename_i σ hσ
      exact RV.conv _ h2 (hI.slot hσ)
    · cases h2
  · simp only [Opd.ev, RV, Act.eval]; exact constOk_rt h
  · split at h
    · rename_i f _ vf hf
      simp at h; subst h
      simp only [Opd.ev, RV, Act.eval]
      exact ⟨_, #[], hf, rfl, rfl, rfl, trivial⟩
    · cases h
  · cases h
theorem Inv.rd (hI : Inv C Γ g0 w0 g st a w) {x : Operand} {vx : Opd} {τ : Ty} (h : opd C Γ x vx τ = true) (Y : Own) : RV C g st.H w Y τ (vx.rd st.get) (a.eval x) :=
  RV.rd _ (hI.ev h)
theorem RV.data {H : List V} {X : Own} {τ : Ty} {x : V} {v : Value} (h : RV C g H w X τ x v) (hf : x.isF = true) : RT C.P g.S τ x.toD v := by
  cases x <;> simp [V.isF] at hf
  · simpa only [RV, V.toD] using h
  · simp only [RV, V.toD] at *
    obtain ⟨t, a, rfl, rfl, h⟩ := h
    refine ⟨by simpa [Value.cells] using h, ?_⟩
    unfold AggOk
    generalize hl : [Value.slice a _ _] = l at h
    cases h <;> simp_all
theorem Inv.d (hI : Inv C Γ g0 w0 g st a w) {x : Operand} {vx : Opd} {τ : Ty} (h : opd C Γ x vx τ = true) (hd : vx.isD st.get = true) : RT C.P g.S τ (vx.d st.get) (a.eval x) :=
  (hI.rd h .ret).data hd
theorem getD_setIfInBounds (l : Array Value) (d n : Nat) (v u : Value) : (l.setIfInBounds d v).getD n u = if d = n ∧ d < l.size then v else l.getD n u := by
  by_cases h : d = n
  · subst h
    by_cases hd : d < l.size
    · simp [hd]
    · simp [hd, Array.getD]
  · simp [Array.getElem?_setIfInBounds_ne h, h]
theorem applyE_len (o : VOper) (e : E) (st : St) : (applyE o e st).sl.length = st.sl.length := by
  obtain ⟨dst, op, gd⟩ := o
  obtain ⟨ok, v, sd, H⟩ := e
  cases dst <;> cases sd <;> simp [applyE]
theorem applyE_dst (o : VOper) (e : E) (st : St) {n : Nat} (hn : n < st.sl.length) (h : o.dst = some n) : (applyE o e st).sl[n]? = some e.v := by
  obtain ⟨dst, op, gd⟩ := o
  obtain ⟨ok, v, sd, H⟩ := e
  simp only at h; subst h
  cases sd <;> simp [applyE, hn]
theorem applyE_sd (o : VOper) (e : E) (st : St) {n : Nat} {y : V} (hn : n < st.sl.length) (h : o.dst ≠ some n) (hy : e.sd = some (n, y)) : (applyE o e st).sl[n]? = some y := by
  obtain ⟨dst, op, gd⟩ := o
  obtain ⟨ok, v, sd, H⟩ := e
  simp only at h hy; subst hy
  cases dst with
  | none => simp [applyE, hn]
  | some d =>
    have hne : d ≠ n := fun e => h (by rw [e])
    simp only [applyE]
    rw [List.getElem?_set_ne hne]
    simp [hn]
theorem applyE_other (o : VOper) (e : E) (st : St) {n : Nat} (h : o.dst ≠ some n) (hy : ∀ y, e.sd ≠ some (n, y)) : (applyE o e st).sl[n]? = st.sl[n]? := by
  obtain ⟨dst, op, gd⟩ := o
  obtain ⟨ok, v, sd, H⟩ := e
  simp only at h hy
  have h1 : ∀ d, dst = some d → d ≠ n := fun d hd e => h (by rw [hd, e])
  have h2 : ∀ q, sd = some q → q.1 ≠ n := fun q hq e => hy q.2 (by rw [hq, ← e])
  cases dst with
  | none =>
    cases sd with
    | none => rfl
    | some q => simp [applyE, List.getElem?_set_ne (h2 q rfl)]
  | some d =>
    cases sd with
    | none => simp [applyE, List.getElem?_set_ne (h1 d rfl)]
    | some q => simp [applyE, List.getElem?_set_ne (h1 d rfl), List.getElem?_set_ne (h2 q rfl)]
theorem get_of_get? {α : Type} {l : List α} {n : Nat} {x : α} (hn : n < l.length) (h : l[n]? = some x) : l[n] = x := by
  rw [List.getElem?_eq_getElem hn] at h; injection h
theorem Inv.step {g' : G} {w' : World} {H' : List V} {x : V} {v : Value} {sd : Option (Nat × V)} {Z : Own → Prop} {o : VOper}
    (hI : Inv C Γ g0 w0 g st a w) (k : Keeps C g st.H w g' H' w' Z)
    (hZ : ∀ n, Z (.slot n) → o.dst = some n ∨ ∃ y, sd = some (n, y))
    (hs : ∀ n y, sd = some (n, y) → o.dst ≠ some n → ∀ τ, Γ[n]? = some τ → RV C g' H' w' (.slot n) τ y (a.tmps.getD n undef))
    (hv : ∀ d, o.dst = some d → ∃ τ, Γ[d]? = some τ ∧ RV C g' H' w' (.slot d) τ x v)
    (hb : ∀ s, getB H' s ≠ .u → RB C g' w' s (getB H' s))
    (hc : ∀ b o v, g'.S b o = some v → w'.cell? ⟨b, o, none⟩ = some v)
    (hf : Frm C g0 w0 w') (hk : ∀ r, r < C.base → g'.kap r = g0.kap r) (ho : ∀ r o, r < C.base → g'.S r o = g0.S r o) (hx : Sub g0.S g'.S) (hbase : C.base ≤ w'.heap.size) (hrho : ∀ s, s < C.nin → g'.loc s = g0.loc s) {ok : Bool} :
    Inv C Γ g0 w0 g' (applyE o { ok, v := x, sd, H := H' } st) (a.put o.dst v) w' := by
  have hl1 := applyE_len o { ok, v := x, sd, H := H' } st
  have hl2 : (a.put o.dst v).tmps.size = a.tmps.size := by cases o.dst <;> simp [Act.put]
  refine ⟨by rw [hl1, hl2]; exact hI.len, by rw [hl1]; exact hI.glen, ?_, hb, hc, ?_, hf, hk, ho, hx, hbase, hI.ent, hrho⟩
  · intro n hn hn'
    have hn0 : n < st.sl.length := by rw [← hl1]; exact hn
    have hsz : n < a.tmps.size := by rw [hI.len]; exact hn0
    have hΓ : Γ[n]? = some Γ[n] := List.getElem?_eq_getElem hn'
    by_cases hd : o.dst = some n
    · obtain ⟨τ, h1, h2⟩ := hv n hd
      rw [hΓ] at h1; injection h1 with h1; subst h1
      have e2 : (a.put o.dst v).tmps.getD n undef = v := by
        simp only [hd, Act.put, getD_setIfInBounds]
        simp [hsz]
      rw [get_of_get? hn (applyE_dst o _ st hn0 hd), e2]
      exact h2
    · have e2 : (a.put o.dst v).tmps.getD n undef = a.tmps.getD n undef := by
        cases hdd : o.dst with
        | none => simp [Act.put]
        | some d =>
          have hne : d ≠ n := fun e => hd (by rw [hdd, e])
          simp only [Act.put, getD_setIfInBounds, hne, false_and, if_false]
      rw [e2]
      by_cases hy : ∃ y, sd = some (n, y)
      · obtain ⟨y, hy⟩ := hy
        rw [get_of_get? hn (applyE_sd o { ok, v := x, sd, H := H' } st hn0 hd hy)]
        exact hs n y hy hd _ hΓ
      · have e1 := applyE_other o { ok, v := x, sd, H := H' } st hd (fun y h => hy ⟨y, h⟩)
        rw [List.getElem?_eq_getElem hn0] at e1
        rw [get_of_get? hn e1]
        refine RV.keeps k _ (fun hz => ?_) (hI.slots n hn0 hn')
        rcases hZ n (by simpa [Own.root] using hz) with h | h
        · exact hd h
        · exact hy h
  · cases o.dst <;> simp [Act.put, hI.defers]
theorem Inv.pure {x : V} {v : Value} {o : VOper} (hI : Inv C Γ g0 w0 g st a w) (hv : ∀ d, o.dst = some d → ∃ τ, Γ[d]? = some τ ∧ RV C g st.H w (.slot d) τ x v) {ok : Bool} :
    Inv C Γ g0 w0 g (applyE o { ok, v := x, H := st.H } st) (a.put o.dst v) w :=
  hI.step (Z := fun _ => False) (Keeps.refl _ _ _ _ _) (fun _ h => h.elim) (fun _ _ h => by cases h) hv hI.blocks hI.cells hI.frm hI.kap hI.sold hI.ext hI.base hI.rho
theorem Inv.drew (hI : Inv C Γ g0 w0 g st a w) (n : Nat) : Inv C Γ g0 w0 g st a (w.drewN n) := by
  have k : Keeps C g st.H w g st.H (w.drewN n) (fun _ => False) := ⟨Sub.refl _, fun _ _ h _ _ => ⟨h, rfl, fun _ => rfl⟩, fun _ h => ⟨h, fun _ _ => rfl, rfl⟩⟩
  exact ⟨hI.len, hI.glen, fun m hm hm' => RV.keeps k _ (fun h => h) (hI.slots m hm hm'), fun s hs => (hI.blocks s hs).keeps k (fun h => h) rfl, hI.cells, hI.defers,
    ⟨hI.frm.os, hI.frm.tape, hI.frm.output, hI.frm.size, hI.frm.old⟩, hI.kap, hI.sold, hI.ext, hI.base, hI.ent, hI.rho⟩
end
end Go.Vam
