/- THE SHADOW MACHINE, 19: calls; one operation; regions. -/
import Derived.Test.YtbpgfdjencpcmaaVT
import Derived.Test.YtbpgfdjencpcmaaVR
import Derived.Orders
import Derived.LoopN
set_option linter.unusedSimpArgs false
set_option linter.unusedVariables false
namespace Go.Vam

/-! ### What a call leaves behind -/
structure Back (C : Ctx) (g0 g' : G) (w0 w' : World) : Prop where
  frm : Frm C g0 w0 w'
  cells : ∀ b o v, g'.S b o = some v → w'.cell? ⟨b, o, none⟩ = some v
  sold : ∀ r o, r < C.base → g'.S r o = g0.S r o
  ext : Sub g0.S g'.S
def ctxOf (P : Program) (Φ : Tab) (vf : VFunc) (n : Nat) : Ctx := ⟨P, Φ, fun s => vf.blocks[s]?, n⟩
def g0Of (S : Cells) : G := ⟨S, fun _ => none, fun _ => none⟩
/-- Calls do what their shadows do. -/
def FnOk (P : Program) (Φ : Tab) (F : CallF) : Prop := ∀ (h : Nat) (vf : VFunc) (args : List V) (r : V) (H' : List V), Φ h = some vf → vf.nin = 0 → toO (F h args []) = some (r, H') →
  ∀ (S : Cells) (w : World) (av : Array Value), (∀ b o v, S b o = some v → w.cell? ⟨b, o, none⟩ = some v) → av.size = args.length → args.length = vf.ptys.length →
    RVs (ctxOf P Φ vf w.heap.size) (g0Of S) [] w .ret 0 vf.ptys args av.toList →
    Calls P vf.fid av w fun e w' => ∃ v g', e = .returned v ∧ RV (ctxOf P Φ vf w.heap.size) g' [] w' .ret vf.rty r v ∧ Back (ctxOf P Φ vf w.heap.size) (g0Of S) g' w w'

section
variable {C : Ctx} {Γ : List Ty} {g0 g : G} {w0 w : World} {st : St} {a : Act}
mutual
theorem RV.ren {C' : Ctx} {g' : G} {H H' : List V} {w' : World} {X Y : Own} (hP : C'.P = C.P) (hΦ : C'.Φ = C.Φ) (hS : Sub g.S g'.S) : ∀ (x : V) {τ : Ty} {v : Value}, RV C g H w X τ x v → RV C' g' H' w' Y τ (x.ren []) v
  | .f d, τ, v, h => by simp only [V.ren, RV] at *; rw [hP]; exact h.mono hS
  | .c xs, τ, v, h => by
    have := RV.data h rfl
    simp only [V.ren, RV, V.toD] at *; rw [hP]; exact this.mono hS
  | .o _ _, τ, v, h => by simp only [V.ren, RV]
  | .w _ _, τ, v, h => by simp only [V.ren, RV]
  | .a, τ, v, h => by simp only [V.ren, RV]
  | .t _, τ, v, h => by simp only [V.ren, RV]
  | .u, τ, v, h => by simp only [V.ren, RV]
  | .n, τ, v, h => by simp only [V.ren, RV] at *; exact h
  | .m s p, τ, v, h => by simp only [V.ren, idx, RV]
  | .ms s nn, τ, v, h => by simp only [V.ren, idx, RV]
  | .fn k caps tys, τ, v, h => by
    simp only [V.ren, RV] at *
    obtain ⟨vf, arr, h1, h2, h3, h4, h5⟩ := h
    obtain ⟨k1, k2⟩ := RVs.ren hP hΦ hS caps (C' := C') (H' := H') (w' := w') (Y := Y) 0 h5
    exact ⟨vf, arr, by rw [hΦ]; exact h1, h2, by rw [k2]; exact h3, by rw [k2]; exact h4, k1⟩
theorem RVs.ren {C' : Ctx} {g' : G} {H H' : List V} {w' : World} {X Y : Own} (hP : C'.P = C.P) (hΦ : C'.Φ = C.Φ) (hS : Sub g.S g'.S) : ∀ (xs : List V) {n : Nat} (m : Nat) {ts : List Ty} {vs : List Value}, RVs C g H w X n ts xs vs → RVs C' g' H' w' Y m ts (V.renAll [] xs) vs ∧ (V.renAll [] xs).length = xs.length
  | [], n, m, ts, vs, h => by cases ts <;> cases vs <;> simp_all [RVs, V.renAll]
  | x :: xs, n, m, [], vs, h => by simp [RVs] at h
  | x :: xs, n, m, τ :: ts, [], h => by simp [RVs] at h
  | x :: xs, n, m, τ :: ts, v :: vs, h => by
    simp only [RVs] at h
    obtain ⟨k1, k2⟩ := RVs.ren hP hΦ hS xs (C' := C') (H' := H') (w' := w') (Y := Y) (m + 1) h.2
    exact ⟨by simp only [V.renAll, RVs]; exact ⟨RV.ren hP hΦ hS x h.1, k1⟩, by simp [V.renAll, k2]⟩
end
def Own.re (d : Option Nat) : Own → Option Own
  | .ret => d.map .slot
  | .sub o k => (o.re d).map (.sub · k)
  | _ => none
/-- The ghost behind a call. -/
def mergeG (g g' : G) (n : Nat) (d : Option Nat) : G := ⟨g'.S, g.rho, fun b => if b < n then g.kap b else (g'.kap b).bind (Own.re d)⟩
mutual
theorem RV.back {C' : Ctx} {g' : G} {H : List V} {w' : World} {d : Option Nat} {n : Nat} (hP : C'.P = C.P) (hΦ : C'.Φ = C.Φ) (hn : C'.base = n) (hb : C.base ≤ n) : ∀ (x : V) {X Y : Own} (_ : X.re d = some Y) {τ : Ty} {v : Value}, RV C' g' [] w' X τ x v → RV C (mergeG g g' n d) H w' Y τ x v
  | .f d, X, Y, hX, τ, v, h => by simp only [RV] at *; rw [← hP]; exact h
  | .c xs, X, Y, hX, τ, v, h => by simp only [RV] at *; rw [← hP]; exact h
  | .o nn xs, X, Y, hX, τ, v, h => by
    simp only [RV] at *
    obtain ⟨t, e, h1, h2, h3⟩ := h
    refine ⟨t, e, h1, by rw [← hP]; exact h2, ?_⟩
    rcases h3 with h3 | ⟨r, cap, c, e', k1, k2, k3, k4, k5, k6, k7, k8, k9, k10⟩
    · exact .inl h3
    · refine .inr ⟨r, cap, c, e', k1, k2, by omega, ?_, k5, by rw [← hP]; exact k6, k7, k8, by rw [← hP]; exact k9, by rw [← hP]; exact k10⟩
      simp [mergeG, show ¬ r < n by omega, k4, hX]
  | .w nn xs, X, Y, hX, τ, v, h => by
    simp only [RV] at *
    obtain ⟨t, e, h1, h2, h3⟩ := h
    refine ⟨t, e, h1, by rw [← hP]; exact h2, ?_⟩
    rcases h3 with h3 | ⟨r, cap, c, e', k1, k2, k3, k4, k5, k6, k7, k8, k9, k10⟩
    · exact .inl h3
    · refine .inr ⟨r, cap, c, e', k1, k2, by omega, ?_, k5, by rw [← hP]; exact k6, k7, k8, by rw [← hP]; exact k9, by rw [← hP]; exact k10⟩
      simp [mergeG, show ¬ r < n by omega, k4, hX]
  | .a, X, Y, hX, τ, v, h => by
    simp only [RV] at *
    obtain ⟨e, r, c, e', k1, k2, k3, k4, k5, k6, k7⟩ := h
    exact ⟨e, r, c, e', by rw [← hP]; exact k1, k2, by omega, by simp [mergeG, show ¬ r < n by omega, k4, hX], k5, by rw [← hP]; exact k6, k7⟩
  | .m s p, X, Y, hX, τ, v, h => by simp only [RV] at h; obtain ⟨_, _, _, _, _, _, _, _, _, h⟩ := h; simp [getB] at h
  | .ms s nn, X, Y, hX, τ, v, h => by simp only [RV] at h; obtain ⟨_, _, _, _, _, h, _⟩ := h; simp [getB] at h
  | .t vs, X, Y, hX, τ, v, h => by
    simp only [RV] at *
    obtain ⟨ts, arr, h1, h2, h3, h4, h5⟩ := h
    exact ⟨ts, arr, h1, h2, h3, h4, RVs.back hP hΦ hn hb vs hX h5⟩
  | .fn k caps tys, X, Y, hX, τ, v, h => by
    simp only [RV] at *
    obtain ⟨vf, arr, h1, h2, h3, h4, h5⟩ := h
    exact ⟨vf, arr, by rw [← hΦ]; exact h1, h2, h3, h4, RVs.back hP hΦ hn hb caps hX h5⟩
  | .n, X, Y, hX, τ, v, h => by simp only [RV] at *; exact h
  | .u, X, Y, hX, τ, v, h => by simp only [RV]
theorem RVs.back {C' : Ctx} {g' : G} {H : List V} {w' : World} {d : Option Nat} {n : Nat} (hP : C'.P = C.P) (hΦ : C'.Φ = C.Φ) (hn : C'.base = n) (hb : C.base ≤ n) : ∀ (xs : List V) {X Y : Own} (_ : X.re d = some Y) {m : Nat} {ts : List Ty} {vs : List Value}, RVs C' g' [] w' X m ts xs vs → RVs C (mergeG g g' n d) H w' Y m ts xs vs
  | [], X, Y, hX, m, ts, vs, h => by cases ts <;> cases vs <;> simp_all [RVs]
  | x :: xs, X, Y, hX, m, [], vs, h => by simp [RVs] at h
  | x :: xs, X, Y, hX, m, τ :: ts, [], h => by simp [RVs] at h
  | x :: xs, X, Y, hX, m, τ :: ts, v :: vs, h => by
    simp only [RVs] at *
    exact ⟨RV.back hP hΦ hn hb x (by simp [Own.re, hX]) h.1, RVs.back hP hΦ hn hb xs hX h.2⟩
end

/-- Behind a call. -/
theorem Inv.called (hI : Inv C Γ g0 w0 g st a w) {vf : VFunc} {vo : VOper} {r : V} {v : Value} {g' : G} {w' : World} (hr : resTy C.P Γ vo.dst vf.rty = true)
    (hv : RV (ctxOf C.P C.Φ vf w.heap.size) g' [] w' .ret vf.rty r v) (hb : Back (ctxOf C.P C.Φ vf w.heap.size) (g0Of g.S) g' w w') {ok : Bool} :
    Inv C Γ g0 w0 (mergeG g g' w.heap.size vo.dst) (applyE vo { ok, v := r, H := st.H } st) (a.put vo.dst v) w' := by
  have hbase := hI.base
  have hk : Keeps C g st.H w (mergeG g g' w.heap.size vo.dst) st.H w' (fun _ => False) := by
    refine ⟨hb.ext, fun b X h1 _ h2 => ⟨by simp [mergeG, h2, h1], hb.frm.old b h2 rfl, fun o => hb.sold b o h2⟩, fun s h => ⟨h, fun _ _ => rfl, rfl⟩⟩
  refine hI.step (o := vo) hk (fun _ h => h.elim) (fun _ _ h => by cases h) (resTy_rv hr fun d hd => ?_) (fun s h => (hI.blocks s h).keeps hk (fun h => h) rfl) hb.cells ?_ ?_ ?_ ?_ ?_
  · rw [hd]
    exact RV.back (C := C) (g := g) (C' := ctxOf C.P C.Φ vf w.heap.size) (X := .ret) (Y := .slot d) (d := some d) rfl rfl rfl hbase r rfl hv
  · obtain ⟨q1, q2, q3, q4, q5⟩ := hI.frm
    obtain ⟨p1, p2, p3, p4, p5⟩ := hb.frm
    exact ⟨p1.trans q1, p2.trans q2, p3.trans q3, by omega, fun b h1 h2 => (p5 b (by simp only [ctxOf]; omega) rfl).trans (q5 b h1 h2)⟩
  · intro b h; rw [← hI.kap b h]; simp [mergeG, show b < w.heap.size by omega]
  · intro b o h; exact (hb.sold b o (by simp only [ctxOf]; omega)).trans (hI.sold b o h)
  · exact hI.ext.trans hb.ext
  · have := hb.frm.size; omega

/-! ### Calls as operations -/
def funcOk (P : Program) (vf : VFunc) : Bool :=
  match P.funcs[vf.fid]? with
  | some fn => fn.body.isSome && !(fn.name == "runtime.NumGoroutine")
  | none => false
theorem run_callFunc {P : Program} {w : World} {vf : VFunc} {av : Array Value} (h : funcOk P vf = true) : (callFunc vf.fid av).run P w = .ok (.enter vf.fid av) w := by
  unfold funcOk at h
  split at h
  · rename_i fn hf
    simp only [Bool.and_eq_true, Bool.not_eq_true', beq_eq_false_iff_ne, ne_eq] at h
    obtain ⟨h1, h2⟩ := h
    cases hb : fn.body with
    | none => simp [hb] at h1
    | some c => simp [callFunc, hf, h2, hb]
  · cases h
theorem run_call {P : Program} {ρ : Operand → Value} {o : Oper} {w : World} {vf : VFunc} {f : Operand} {args : List Operand} {ts : List Nat} {arr : Array Value} (ho : o.op = .call { callee := .value f, args := args.toArray, argTypes := ts.toArray }) (hf : ρ f = .func (.func vf.fid) #[] arr) (h : funcOk P vf = true) :
    (execOp ρ o).run P w = .ok (.enter vf.fid ((args.map ρ).toArray ++ arr)) w := by
  simp [execOp, ho, resolve, Deferred.ofValue, hf, invoke, run_callFunc h]
def vcallOf : Op → Option (Operand × List Operand × List Nat)
  | .call c => (match c.callee with | .value f => some (f, c.args.toList, c.argTypes.toList) | _ => none)
  | _ => none
theorem vcallOf_eq {op : Op} {f : Operand} {xs : List Operand} {ts : List Nat} (h : vcallOf op = some (f, xs, ts)) : op = .call { callee := .value f, args := xs.toArray, argTypes := ts.toArray } := by
  unfold vcallOf at h
  split at h
  · rename_i c
    split at h
    · rename_i f' hb
      injection h with h
      simp only [Prod.mk.injEq] at h
      obtain ⟨rfl, h2, h3⟩ := h
      obtain ⟨cal, ar, at_⟩ := c
      simp only at hb h2 h3
      subst hb
      rw [← h2, ← h3]
    · cases h
  · cases h
def chkCall (C : Ctx) (Γ : List Ty) (dst : Option Nat) (op : Op) (h : Nat) (args : List Opd) (refs : List Nat) : Bool :=
  match vcallOf op, C.Φ h with
  | some (.func f, xs, _), some vf => refs.isEmpty && vf.nin == 0 && vf.fid == f && funcOk C.P vf && cloOk C Γ xs args vf.ptys && resTy C.P Γ dst vf.rty
  | _, _ => false
/-- What goes on behind an operation. -/
def StepW (C : Ctx) (Γ : List Ty) (g0 : G) (w0 : World) (o : Oper) (st' : St) (a : Act) (w : World) : Prop :=
  ∀ (K : Act → World → Prop) (Q : Exit → Act → World → Prop), (∀ a' w' g', Inv C Γ g0 w0 g' st' a' w' → K a' w') → o.wp C.P a w K Q
theorem Step.wp {o : Oper} {vo : VOper} (h : Step C Γ g0 w0 o vo st a w) : StepW C Γ g0 w0 o (applyE vo (sem vo.op st.get st.H) st) a w := by
  intro K Q hK
  obtain ⟨v, w', g', h1, h2⟩ := h
  unfold Oper.wp
  rcases h1 with h1 | ⟨h1, rfl⟩
  · rw [h1, Oper.upon_value]; exact hK _ _ _ h2
  · rw [h1, Oper.upon_skip]; exact hK _ _ _ h2
theorem map_rd_ren {args : List Opd} {ρ : Nat → V} : callArgs ρ args [] = V.renAll [] (args.map fun x => x.rd ρ) := by
  unfold callArgs
  induction args with
  | nil => rfl
  | cons x xs ih => simp only [List.map_cons, V.renAll, ih]
theorem snd_call {F : CallF} (hF : FnOk C.P C.Φ F) (hI : Inv C Γ g0 w0 g st a w) {o : Oper} {vo : VOper} {h : Nat} {args : List Opd} {refs : List Nat} (hd : o.dst = vo.dst) (hv : vo.op = .call h args refs) (hc : chkCall C Γ vo.dst o.op h args refs = true) {e : E}
    (he : opEff C.Φ F vo.op st.get st.H = some e) : StepW C Γ g0 w0 o (applyE vo e st) a w := by
  intro K Q hK
  unfold chkCall at hc
  split at hc
  · rename_i f xs ts vf ho hvf
    replace ho := vcallOf_eq ho
    simp only [Bool.and_eq_true, List.isEmpty_iff] at hc
    obtain ⟨⟨⟨⟨⟨h1, h2⟩, h3⟩, h4⟩, h5⟩, h6⟩ := hc
    subst h1
    have hnin : vf.nin = 0 := by simpa using h2
    have hfid : vf.fid = f := by simpa using h3
    subst hfid
    rw [hv] at he
    simp only [opEff, List.map_nil] at he
    obtain ⟨r, hr, rfl⟩ := Option.map_eq_some_iff.1 he
    obtain ⟨r, H'⟩ := r
    obtain ⟨q1, q2, q3⟩ := clo_vals hI .ret 0 h5
    rw [map_rd_ren] at hr
    obtain ⟨k1, k2⟩ := RVs.ren (C := C) (g := g) (C' := ctxOf C.P C.Φ vf w.heap.size) (g' := g0Of g.S) (H' := []) (w' := w) (Y := .ret) rfl rfl (Sub.refl _) _ 0 q1
    have := hF h vf _ r H' hvf hnin hr g.S w (xs.map a.eval).toArray hI.cells (by simp only [List.size_toArray, List.length_map, k2]; exact q3) (by rw [k2]; simp [q2]) k1
    unfold Oper.wp
    rw [run_call (arr := #[]) ho rfl h4, Oper.upon_enter]
    simp only [Array.append_empty]
    refine Calls.mono this fun e w' he => ?_
    obtain ⟨v, g', rfl, hv', hb⟩ := he
    refine hK _ _ (mergeG g g' w.heap.size vo.dst) ?_
    rw [hd]
    simp only [putBack_nil]
    exact hI.called h6 hv' hb
  · cases hc
/-- A call of a function value. -/
def chkCallv (C : Ctx) (Γ : List Ty) (dst : Option Nat) (op : Op) (x : Opd) (args : List Opd) (tys : List Ty) (refs : List Nat) : Bool :=
  match vcallOf op, x, tys with
  | some (.tmp n, xs, _), .t m, τ :: τs => n == m && decide (n < Γ.length) && refs.isEmpty && cloOk C Γ xs args τs && resTy C.P Γ dst τ
  | _, _, _ => false
theorem RVs_append {H : List V} {X : Own} : ∀ {ts ts' : List Ty} {xs xs' : List V} {vs vs' : List Value} (n : Nat), ts.length = xs.length → vs.length = xs.length → RVs C g H w X n ts xs vs → RVs C g H w X (n + xs.length) ts' xs' vs' → RVs C g H w X n (ts ++ ts') (xs ++ xs') (vs ++ vs')
  | [], ts', [], xs', [], vs', n, _, _, _, h => by simpa using h
  | [], ts', [], xs', _ :: _, vs', n, _, h, _, _ => by simp at h
  | [], ts', _ :: _, xs', vs, vs', n, h, _, _, _ => by simp at h
  | _ :: _, ts', [], xs', vs, vs', n, h, _, _, _ => by simp at h
  | t :: ts, ts', x :: xs, xs', [], vs', n, _, h, _, _ => by simp at h
  | t :: ts, ts', x :: xs, xs', v :: vs, vs', n, h1, h2, h, h' => by
    simp only [RVs, List.cons_append] at *
    exact ⟨h.1, RVs_append (n + 1) (by simpa using h1) (by simpa using h2) h.2 (by rw [show n + 1 + xs.length = n + (x :: xs).length by simp; omega]; exact h')⟩
theorem RV.renX {H : List V} {X Y : Own} {x : V} {τ : Ty} {v : Value} (h : RV C g H w X τ (x.ren []) v) : True := trivial
theorem snd_callv {F : CallF} (hF : FnOk C.P C.Φ F) (hT : ∀ h vf, C.Φ h = some vf → funcOk C.P vf = true) (hI : Inv C Γ g0 w0 g st a w) {o : Oper} {vo : VOper} {x : Opd} {args : List Opd} {tys : List Ty} {refs : List Nat} (hd : o.dst = vo.dst) (hv : vo.op = .callv x args tys refs) (hc : chkCallv C Γ vo.dst o.op x args tys refs = true) {e : E}
    (he : opEff C.Φ F vo.op st.get st.H = some e) : StepW C Γ g0 w0 o (applyE vo e st) a w := by
  intro K Q hK
  unfold chkCallv at hc
  split at hc
  · rename_i n xs ts m τ τs ho
    replace ho := vcallOf_eq ho
    simp only [Bool.and_eq_true, List.isEmpty_iff, decide_eq_true_eq] at hc
    obtain ⟨⟨⟨⟨h1, h2⟩, h3⟩, h4⟩, h5⟩ := hc
    have : n = m := by simpa using h1
    subst this
    subst h3
    have hx := RV.rd (Y := .ret) _ (hI.slot (List.getElem?_eq_getElem h2))
    rw [hv] at he
    simp only [opEff, List.map_nil, Opd.rd, Opd.ev] at he
    cases hs : (st.get n).rd with
    | fn k caps ctys =>
      rw [hs] at hx he
      simp only [RV] at hx
      obtain ⟨vf, arr, hvf, e1, e2, e3, e4⟩ := hx
      simp only [hvf] at he
      rw [cond_eq_ite] at he
      split at he
      · rename_i hq
        simp only [Bool.and_eq_true] at hq
        obtain ⟨hq1, hq2⟩ := hq
        have hnin : vf.nin = 0 := by simpa using hq2
        have hty := Ty.eqAll_eq _ _ hq1
        simp only [List.cons_append, List.cons.injEq] at hty
        obtain ⟨hty1, hty2⟩ := hty
        obtain ⟨r, hr, rfl⟩ := Option.map_eq_some_iff.1 he
        obtain ⟨r, H'⟩ := r
        obtain ⟨q1, q2, q3⟩ := clo_vals hI .ret 0 h4
        rw [map_rd_ren] at hr
        have e5 : (args.map fun x => x.rd st.get).length = args.length := by simp
        obtain ⟨k1, k2⟩ := RVs.ren (C := C) (g := g) (C' := ctxOf C.P C.Φ vf w.heap.size) (g' := g0Of g.S) (H' := []) (w' := w) (Y := .ret) rfl rfl (Sub.refl _) _ 0 q1
        obtain ⟨k3, k4⟩ := RVs.ren (C := C) (g := g) (C' := ctxOf C.P C.Φ vf w.heap.size) (g' := g0Of g.S) (H' := []) (w' := w) (Y := .ret) rfl rfl (Sub.refl _) _ (0 + (V.renAll [] (args.map fun x => x.rd st.get)).length) e4
        have k5 := RVs_append (C := ctxOf C.P C.Φ vf w.heap.size) (g := g0Of g.S) 0 (by rw [k2, e5]; exact q2) (by rw [k2, e5, List.length_map]; exact q3) k1 k3
        rw [← hty2] at k5
        have := hF k vf _ r H' hvf hnin hr g.S w ((xs.map a.eval).toArray ++ arr) hI.cells (by simp only [Array.size_append, List.size_toArray, List.length_map, List.length_append, k2, k4]; omega) (by rw [hty2]; simp only [List.length_append, k2, k4, e5]; omega) (by simpa using k5)
        unfold Oper.wp
        rw [run_call (vf := vf) (arr := arr) ho e1 (hT k vf hvf), Oper.upon_enter]
        refine Calls.mono this fun e w' he => ?_
        obtain ⟨v, g', rfl, hv', hb⟩ := he
        refine hK _ _ (mergeG g g' w.heap.size vo.dst) ?_
        rw [hd]
        simp only [putBack_nil]
        exact hI.called (hty1 ▸ h5) hv' hb
      · cases he
    | _ => rw [hs] at he; cases he
  · cases hc
end
end Go.Vam
