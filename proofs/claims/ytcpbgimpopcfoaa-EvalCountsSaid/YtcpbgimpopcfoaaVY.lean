/- THE SHADOW MACHINE, 22: functions. -/
import Derived.Test.YtcpbgimpopcfoaaVX
set_option linter.unusedSimpArgs false
set_option linter.unusedVariables false
namespace Go.Vam
theorem OwnS.anyOwn {C : Ctx} {g : G} {w : World} {X Y : Own} {e : Nat} {nn : Bool} {xs : List D} {v : Value} {fz : Bool} (hk : ∀ r X, X.root = .ret → g.kap r ≠ some X) (hX : X.root = .ret) (h : OwnS C g w X e nn xs v fz) : OwnS C g w Y e nn xs v fz := by
  rcases h with h | ⟨r, cap, c, e', h1, h2, h3, h4, h5⟩
  · exact .inl h
  · exact absurd h4 (hk r X hX)
mutual
theorem RV.anyOwn {C : Ctx} {g : G} {H : List V} {w : World} (hk : ∀ r X, X.root = .ret → g.kap r ≠ some X) : ∀ (x : V) {X Y : Own} (_ : X.root = .ret) {τ : Ty} {v : Value}, RV C g H w X τ x v → RV C g H w Y τ x v
  | .f d, X, Y, hX, τ, v, h => by simp only [RV] at *; exact h
  | .o nn xs, X, Y, hX, τ, v, h => by simp only [RV] at *; obtain ⟨t, e, h1, h2, h3⟩ := h; exact ⟨t, e, h1, h2, h3.anyOwn hk hX⟩
  | .w nn xs, X, Y, hX, τ, v, h => by simp only [RV] at *; obtain ⟨t, e, h1, h2, h3⟩ := h; exact ⟨t, e, h1, h2, h3.anyOwn hk hX⟩
  | .c xs, X, Y, hX, τ, v, h => by simp only [RV] at *; exact h
  | .a, X, Y, hX, τ, v, h => by simp only [RV] at h; obtain ⟨e, r, c, e', _, _, _, h4, _⟩ := h; exact absurd h4 (hk r X hX)
  | .m s p, X, Y, hX, τ, v, h => by simp only [RV] at *; exact h
  | .ms s nn, X, Y, hX, τ, v, h => by simp only [RV] at *; exact h
  | .t vs, X, Y, hX, τ, v, h => by
    simp only [RV] at *
    obtain ⟨ts, arr, h1, h2, h3, h4, h5⟩ := h
    exact ⟨ts, arr, h1, h2, h3, h4, RVs.anyOwn hk vs hX h5⟩
  | .fn k caps tys, X, Y, hX, τ, v, h => by
    simp only [RV] at *
    obtain ⟨vf, arr, h1, h2, h3, h4, h5⟩ := h
    exact ⟨vf, arr, h1, h2, h3, h4, RVs.anyOwn hk caps hX h5⟩
  | .n, X, Y, hX, τ, v, h => by simp only [RV] at *; exact h
  | .u, X, Y, hX, τ, v, h => by simp only [RV]
theorem RVs.anyOwn {C : Ctx} {g : G} {H : List V} {w : World} (hk : ∀ r X, X.root = .ret → g.kap r ≠ some X) : ∀ (xs : List V) {X Y : Own} (_ : X.root = .ret) {n : Nat} {ts : List Ty} {vs : List Value}, RVs C g H w X n ts xs vs → RVs C g H w Y n ts xs vs
  | [], X, Y, hX, n, ts, vs, h => by cases ts <;> cases vs <;> simp_all [RVs]
  | x :: xs, X, Y, hX, n, [], vs, h => by simp [RVs] at h
  | x :: xs, X, Y, hX, n, τ :: ts, [], h => by simp [RVs] at h
  | x :: xs, X, Y, hX, n, τ :: ts, v :: vs, h => by simp only [RVs] at *; exact ⟨RV.anyOwn hk x (by simpa [Own.root] using hX) h.1, RVs.anyOwn hk xs hX h.2⟩
end
section
variable {C : Ctx} {Γ : List Ty} {g0 g : G} {w0 w : World} {st : St} {a : Act}
def resOk (C : Ctx) (Γ : List Ty) : List ResultVar → List Res → List Ty → Bool
  | [], [], [] => true
  | .tmp t :: rs, .tmp t' kp :: qs, τ :: τs => t == t' && !kp && (match Γ[t]? with | some σ => fits C.P σ τ | none => false) && resOk C Γ rs qs τs
  | .cell a t :: rs, .cell a' :: qs, τ :: τs => a == a' && decide (0 < C.P.cellsOf t) && (match Γ[a]? with | some σ => fits C.P σ (.p t) | none => false) && fits C.P (.v t) τ && resOk C Γ rs qs τs
  | _, _, _ => false
def rtyOk : List Ty → Ty → Bool
  | [τ], σ => Ty.eq τ σ
  | τs, .tup σs => Ty.eqAll τs σs
  | _, _ => false
theorem rtyOk_spec {τs : List Ty} {σ : Ty} (h : rtyOk τs σ = true) : (∃ τ, τs = [τ] ∧ τ = σ) ∨ (τs.length ≠ 1 ∧ σ = .tup τs) := by
  cases τs with
  | nil =>
    cases σ <;> simp only [rtyOk, Bool.false_eq_true] at h
    exact .inr ⟨by simp, by rw [Ty.eqAll_eq _ _ h]⟩
  | cons a l =>
    cases l with
    | nil => exact .inl ⟨a, rfl, Ty.eq_eq _ _ (by simpa only [rtyOk] using h)⟩
    | cons b l =>
      cases σ <;> simp only [rtyOk, Bool.false_eq_true] at h
      exact .inr ⟨by simp, by rw [Ty.eqAll_eq _ _ h]⟩
def resM (tmps : Array Value) : ResultVar → Sem Value
  | .tmp t => pure (tmps.getD t undef)
  | .cell a t => do loadVar t (← asAddr (tmps.getD a undef))
theorem isf_cons {v : V} {vs : List V} (h : ∃ d, v = .f d) (h' : ∀ x ∈ vs, ∃ d, x = .f d) : ∀ x ∈ v :: vs, ∃ d, x = .f d := by
  intro x hx
  rcases List.mem_cons.1 hx with rfl | hx
  · exact h
  · exact h' x hx
theorem res_sound (hI : Inv C Γ g0 w0 g st a w) (nin : Nat) (H : List V) (X : Own) : ∀ {rs : List ResultVar} {qs : List Res} {τs : List Ty} {vs : List V} (n : Nat), resOk C Γ rs qs τs = true → resAll nin st qs = some vs →
    ∃ vals, (rs.mapM (resM a.tmps)).run C.P w = .ok vals w ∧ RVs C g H w X n τs vs vals ∧ vals.length = vs.length ∧ τs.length = vs.length ∧ ∀ x ∈ vs, ∃ d, x = .f d
  | [], [], [], vs, n, _, h => by
    simp only [resAll, Option.some.injEq] at h
    subst h
    exact ⟨[], by simp, trivial, rfl, rfl, fun x hx => by cases hx⟩
  | .tmp t :: rs, .tmp t' kp :: qs, τ :: τs, vs, n, hc, h => by
    simp only [resOk, Bool.and_eq_true, Bool.not_eq_true'] at hc
    obtain ⟨⟨⟨h1, hkp⟩, h2⟩, h3⟩ := hc
    have : t = t' := by simpa using h1
    subst this
    subst hkp
    rw [resAll] at h
    obtain ⟨v, hv, h⟩ := Option.bind_eq_some_iff.1 h
    obtain ⟨vs', hvs, h⟩ := Option.bind_eq_some_iff.1 h
    injection h with h; subst h
    obtain ⟨vals, k1, k2, k3, k4, k5⟩ := res_sound hI nin H X (n + 1) h3 hvs
    split at h2
    · rename_i σ hσ
      have hvd : ∃ d, v = .f d := by
        simp only [resV] at hv
        cases hst : st.get t with
        | f d => rw [hst] at hv; injection hv with hv; exact ⟨_, hv.symm⟩
        | o nn xs => rw [hst] at hv; injection hv with hv; exact ⟨_, hv.symm⟩
        | c xs => rw [hst] at hv; injection hv with hv; exact ⟨_, hv.symm⟩
        | _ => rw [hst] at hv; cases hv
      refine ⟨a.tmps.getD t undef :: vals, by simp [List.mapM_cons, resM, k1], ⟨?_, k2⟩, by simp [k3], by simp [k4], isf_cons hvd k5⟩
      have hslot := hI.slot hσ
      refine RV.conv _ h2 ?_
      have hrd : ∀ d, (st.get t).rd = .f d → RV C g H w (.sub X n) σ (.f d) (a.tmps.getD t undef) := by
        intro d hd
        have := RV.rd (Y := .ret) _ hslot
        rw [hd] at this
        simp only [RV] at *; exact this
      simp only [resV] at hv
      cases hst : st.get t with
      | f d => rw [hst] at hv; injection hv with hv; subst hv; exact hrd d (by rw [hst]; rfl)
      | o nn xs => rw [hst] at hv; injection hv with hv; subst hv; exact hrd _ (by rw [hst]; rfl)
      | c xs =>
        rw [hst] at hv hslot; injection hv with hv; subst hv
        have := RV.data hslot rfl
        simp only [RV, cond_false]; exact this
      | _ => rw [hst] at hv; cases hv
    · cases h2
  | .cell ad t :: rs, .cell ad' :: qs, τ :: τs, vs, n, hc, h => by
    simp only [resOk, Bool.and_eq_true, decide_eq_true_eq] at hc
    obtain ⟨⟨⟨⟨h1, h0⟩, h2⟩, h4⟩, h3⟩ := hc
    have : ad = ad' := by simpa using h1
    subst this
    rw [resAll] at h
    obtain ⟨v, hv, h⟩ := Option.bind_eq_some_iff.1 h
    obtain ⟨vs', hvs, h⟩ := Option.bind_eq_some_iff.1 h
    injection h with h; subst h
    obtain ⟨vals, k1, k2, k3, k4, k5⟩ := res_sound hI nin H X (n + 1) h3 hvs
    split at h2
    · rename_i σ hσ
      have hslot := hI.slot hσ
      simp only [resV] at hv
      cases hst : st.get ad with
      | f d =>
        rw [hst] at hv hslot
        simp only at hv
        rw [cond_eq_ite] at hv
        split at hv
        · rename_i hp
          injection hv with hv; subst hv
          have hx := RV.conv _ h2 hslot
          simp only [RV, RT] at hx
          obtain ⟨cs, b, off, e1, e2, e3, e4⟩ := RP.at_ hx hp
          have hl := run_loadVar (w := w) e2 h0 e3 fun j u hj => hI.cells _ _ _ (e4 j u hj)
          have he : (a.tmps.getD ad undef) = .pointer (some ⟨b, off, none⟩) := e1
          refine ⟨valOf C.P t cs :: vals, by simp only [List.mapM_cons, resM, he, asAddr, Sem.run_bind, Sem.run_pure, Result.andThen, hl, k1], ⟨?_, k2⟩, by simp [k3], by simp [k4], isf_cons ⟨_, rfl⟩ k5⟩
          refine RV.conv _ h4 ?_
          simp only [RV]
          exact e2.val
        · cases hv
      | _ => rw [hst] at hv; cases hv
    · cases h2
  | [], [], _ :: _, vs, n, hc, h => by simp [resOk] at hc
  | [], _ :: _, _, vs, n, hc, h => by simp [resOk] at hc
  | .tmp _ :: _, [], _, vs, n, hc, h => by simp [resOk] at hc
  | .cell _ _ :: _, [], _, vs, n, hc, h => by simp [resOk] at hc
  | .tmp _ :: _, .tmp _ _ :: _, [], vs, n, hc, h => by simp [resOk] at hc
  | .cell _ _ :: _, .cell _ :: _, [], vs, n, hc, h => by simp [resOk] at hc
  | .tmp _ :: _, .cell _ :: _, _, vs, n, hc, h => by simp [resOk] at hc
  | .cell _ _ :: _, .tmp _ _ :: _, _, vs, n, hc, h => by simp [resOk] at hc
theorem run_res {P : Program} {w : World} {fn : Func} {tmps : Array Value} {vals : List Value} (h : (fn.results.toList.mapM (resM tmps)).run P w = .ok vals w) : (results fn tmps).run P w = .ok (if hh : vals.toArray.size = 1 then vals.toArray[0] else .tuple vals.toArray) w := by
  have e : results fn tmps = (do let vs ← fn.results.mapM (resM tmps); pure (if h : vs.size = 1 then vs[0] else .tuple vs)) := rfl
  rw [e, Array.mapM_eq_mapM_toList]
  simp [h]
end
def keepOk (C : Ctx) (Γ : List Ty) : List ResultVar → List Res → Ty → Bool
  | [.tmp t], [.tmp t' _], τ => t == t' && (match Γ[t]? with | some σ => fits C.P σ τ | none => false)
  | _, _, _ => false
def G.give (g : G) (t : Nat) : G := { g with kap := fun r => if g.kap r = some (.slot t) then some .ret else none }
theorem OwnS.give {C : Ctx} {g : G} {w : World} {t : Nat} {e : Nat} {nn : Bool} {xs : List D} {v : Value} {fz : Bool} (h : OwnS C g w (.slot t) e nn xs v fz) : OwnS C (g.give t) w .ret e nn xs v fz := by
  rcases h with h | ⟨r, cap, c, e', h1, h2, h3, h4, h5⟩
  · exact .inl h
  · exact .inr ⟨r, cap, c, e', h1, h2, h3, by simp [G.give, h4], h5⟩
theorem keep_sound {C : Ctx} {Γ : List Ty} {g0 g : G} {w0 w : World} {st : St} {a : Act} (hI : Inv C Γ g0 w0 g st a w) (nin : Nat) {rs : List ResultVar} {qs : List Res} {τ : Ty} {vs : List V} (hc : keepOk C Γ rs qs τ = true) (h : resAll nin st qs = some vs) :
    ∃ t x g', rs = [.tmp t] ∧ vs = [x] ∧ g'.S = g.S ∧ RV C g' [] w .ret τ x (a.tmps.getD t undef) := by
  unfold keepOk at hc
  split at hc
  · rename_i τ' t t' kp
    simp only [Bool.and_eq_true] at hc
    obtain ⟨h1, h2⟩ := hc
    have : t = t' := by simpa using h1
    subst this
    split at h2
    · rename_i σ hσ
      simp only [resAll] at h
      obtain ⟨v, hv, h⟩ := Option.bind_eq_some_iff.1 h
      simp only [Option.bind_some, Option.some.injEq] at h
      subst h
      refine ⟨t, v, g.give t, rfl, rfl, rfl, ?_⟩
      have hslot := hI.slot hσ
      refine RV.conv _ h2 ?_
      simp only [resV] at hv
      cases hst : st.get t with
      | f d => rw [hst] at hv hslot; injection hv with hv; subst hv; simp only [RV] at *; exact hslot
      | o nn xs =>
        rw [hst] at hv hslot; injection hv with hv; subst hv
        cases kp
        · have := RV.rd (Y := .ret) _ hslot
          simp only [V.rd, RV, cond_false] at *; exact this
        · simp only [RV, cond_true] at *
          obtain ⟨t2, e, q1, q2, q3⟩ := hslot
          exact ⟨t2, e, q1, q2, q3.give⟩
      | w nn xs =>
        rw [hst] at hv hslot
        cases kp
        · cases hv
        · injection hv with hv; subst hv
          simp only [RV] at *
          obtain ⟨t2, e, q1, q2, q3⟩ := hslot
          exact ⟨t2, e, q1, q2, q3.give⟩
      | c xs =>
        rw [hst] at hv hslot; injection hv with hv; subst hv
        have := RV.data hslot rfl
        cases kp
        · simp only [RV, cond_false]; exact this
        · simp only [RV, cond_true] at *; exact hslot
      | _ => rw [hst] at hv; cases hv
    · cases h2
  · cases hc
def fnChk (P : Program) (Φ : Tab) (vf : VFunc) (fn : Func) (c : Code) (τs : List Ty) (n : Nat) : Bool :=
  fn.ntmps == vf.slots.length && Ty.eqAll (vf.slots.take vf.ptys.length) vf.ptys && chkC (ctxOf P Φ vf n) vf.slots vf.body c && ((resOk (ctxOf P Φ vf n) vf.slots fn.results.toList vf.res τs && rtyOk τs vf.rty) || (keepOk (ctxOf P Φ vf n) vf.slots fn.results.toList vf.res vf.rty && vf.nin == 0))
structure FnChk (P : Program) (Φ : Tab) (vf : VFunc) : Prop where
  ok : funcOk P vf = true
  fn : ∃ fn c τs, P.funcs[vf.fid]? = some fn ∧ fn.body = some c ∧ ∀ n, fnChk P Φ vf fn c τs n = true
theorem getB_rep (Hin : List V) (n s : Nat) : getB (Hin ++ List.replicate n V.u) s = getB Hin s := by
  unfold getB
  rw [List.getD_eq_getElem?_getD, List.getD_eq_getElem?_getD, List.getElem?_append]
  split
  · rfl
  · rename_i h
    rw [List.getElem?_replicate, List.getElem?_eq_none (Nat.le_of_not_lt h)]
    split <;> rfl
theorem getB_take (H : List V) {n s : Nat} (h : s < n) : getB (H.take n) s = getB H s := by
  unfold getB
  rw [List.getD_eq_getElem?_getD, List.getD_eq_getElem?_getD, List.getElem?_take, if_pos h]
theorem RVs_at {C : Ctx} {g : G} {H : List V} {w : World} {X : Own} : ∀ {ts : List Ty} {xs : List V} {vs : List Value} {n : Nat} (k : Nat) (h1 : k < ts.length) (h2 : k < xs.length), RVs C g H w X n ts xs vs → vs.length = xs.length → ∃ h3 : k < vs.length, RV C g H w (.sub X (n + k)) ts[k] xs[k] vs[k]
  | [], _, _, _, k, h1, _, _, _ => by simp at h1
  | t :: ts, [], _, _, k, _, h2, _, _ => by simp at h2
  | t :: ts, x :: xs, [], _, k, _, _, _, hl => by simp at hl
  | t :: ts, x :: xs, v :: vs, n, 0, _, _, h, _ => ⟨by simp, h.1⟩
  | t :: ts, x :: xs, v :: vs, n, k + 1, h1, h2, h, hl => by
    obtain ⟨q1, q2⟩ := RVs_at k (by simpa using h1) (by simpa using h2) h.2 (by simpa using hl)
    refine ⟨by simpa using q1, ?_⟩
    rw [show n + (k + 1) = n + 1 + k by omega]
    simpa using q2
theorem fn_step (P : Program) (Φ : Tab) (hΦ : ∀ h vf, Φ h = some vf → FnChk P Φ vf) {F : CallF} (hF : FnOk P Φ F) {h : Nat} {vf : VFunc} {args Hin : List V} {r : V} {H' : List V} (hvf : Φ h = some vf) (N : Nat) (hr : runC Φ F N vf.body (enterV vf args Hin) (finish vf) = some (r, H'))
    (g0 : G) (w : World) (av : Array Value) (hcell : ∀ b o v, g0.S b o = some v → w.cell? ⟨b, o, none⟩ = some v) (hH : Handed (ctxOf P Φ vf w.heap.size) g0 w Hin) (hav : av.size = args.length) (hlen : args.length = vf.ptys.length) (hargs : RVs (ctxOf P Φ vf w.heap.size) g0 Hin w .ret 0 vf.ptys args av.toList) :
    Calls P vf.fid av w fun e w' => ∃ v g', e = .returned v ∧ RV (ctxOf P Φ vf w.heap.size) g' [] w' .ret vf.rty r v ∧ Back (ctxOf P Φ vf w.heap.size) g0 g' w w' ∧ Gave (ctxOf P Φ vf w.heap.size) g0 g' w' H' := by
  obtain ⟨hfo, fn, c, τs, hfn, hbody, hchk⟩ := hΦ h vf hvf
  have hck := hchk w.heap.size
  unfold fnChk at hck
  simp only [Bool.and_eq_true] at hck
  obtain ⟨⟨⟨c1, c2⟩, c3⟩, c45⟩ := hck
  have c1 : fn.ntmps = vf.slots.length := by simpa using c1
  have c2 := Ty.eqAll_eq _ _ c2
  have hple : vf.ptys.length ≤ vf.slots.length := by
    have := congrArg List.length c2
    simp at this; omega
  refine calls_of_wp hfn hbody ?_
  have hT : ∀ h vf', (ctxOf P Φ vf w.heap.size).Φ h = some vf' → funcOk (ctxOf P Φ vf w.heap.size).P vf' = true := fun h vf' hv => (hΦ h vf' hv).ok
  have hsl : (enterV vf args Hin).sl.length = vf.slots.length := by simp [enterV]; omega
  have hI : Inv (ctxOf P Φ vf w.heap.size) vf.slots g0 w g0 (enterV vf args Hin) { tmps := av ++ Array.replicate (fn.ntmps - av.size) undef, defers := [] } w := by
    refine ⟨by rw [hsl]; simp; omega, hsl.symm, fun k hk hk' => ?_, fun s hs => ?_, hcell, rfl, ⟨rfl, rfl, rfl, Nat.le_refl _, fun _ _ _ => rfl⟩, fun _ _ => rfl, fun _ _ _ => rfl, Sub.refl _, Nat.le_refl _, fun r X _ h => (by obtain ⟨k, h1, h2, _⟩ := hH.own r X h; exact ⟨k, h1, h2⟩), fun _ _ => rfl⟩
    rotate_left
    · simp only [enterV] at hs ⊢
      rw [getB_rep] at hs ⊢
      have hsn : s < vf.nin := by
        rcases Nat.lt_or_ge s vf.nin with h | h
        · exact h
        · refine absurd ?_ hs
          unfold getB
          rw [List.getD_eq_getElem?_getD, List.getElem?_eq_none (by rw [hH.len]; exact h)]; rfl
      obtain ⟨d, h1, h2⟩ := hH.blk s hsn
      rw [h1]; exact h2
    simp only [enterV]
    by_cases hka : k < args.length
    · obtain ⟨q1, q2⟩ := RVs_at k (by omega) hka hargs (by simpa using hav)
      have e1 : (args ++ List.replicate (vf.slots.length - args.length) V.n)[k]'(by simp; omega) = args[k] := List.getElem_append_left hka
      have e2 : vf.slots[k] = vf.ptys[k]'(by omega) := by
        have : (vf.slots.take vf.ptys.length)[k]? = vf.ptys[k]? := by rw [c2]
        rw [List.getElem?_take, if_pos (by omega), List.getElem?_eq_getElem hk', List.getElem?_eq_getElem (by omega)] at this
        injection this
      have e3 : (av ++ Array.replicate (fn.ntmps - av.size) undef).getD k undef = av.toList[k] := by
        have hk2 : k < av.size := by omega
        simp [Array.getElem?_append, hk2]
      rw [e1, e2, e3]
      exact RV.otherH _ (fun s _ => getB_rep _ _ s) (RV.anyOwn (fun r X hX hk => by obtain ⟨k, rfl, _⟩ := hH.own r X hk; cases hX) _ (by simp [Own.root]) q2)
    · have e1 : (args ++ List.replicate (vf.slots.length - args.length) V.n)[k]'(by simp; omega) = .n := by
        rw [List.getElem_append_right (by omega), List.getElem_replicate]
      have e3 : (av ++ Array.replicate (fn.ntmps - av.size) undef).getD k undef = undef := by
        have hk2 : ¬ k < av.size := by omega
        by_cases hkk : k - av.size < fn.ntmps - av.size <;> simp [Array.getElem?_append, hk2, hkk]
      rw [e1, e3]
      simp only [RV]
  refine code_sound (C := ctxOf P Φ vf w.heap.size) hF hT N vf.body c c3 _ (r, H') hI hr fun e st' a' w' g' hI' hk => ?_
  have key : ∀ (hk : (resAll vf.nin st' vf.res).bind (fun vs => bif (List.range vf.nin).all fun k => (getB st'.H k).isDat then some (resTup vs, st'.H.take vf.nin) else none) = some (r, H')), a'.defers = [] ∧ ∃ v, (results fn a'.tmps).run P w' = .ok v w' ∧ ∃ v' g'', Ending.returned v = .returned v' ∧ RV (ctxOf P Φ vf w.heap.size) g'' [] w' .ret vf.rty r v' ∧ Back (ctxOf P Φ vf w.heap.size) g0 g'' w w' ∧ Gave (ctxOf P Φ vf w.heap.size) g0 g'' w' H' := by
    intro hk
    obtain ⟨vs, hvs, hk⟩ := Option.bind_eq_some_iff.1 hk
    rw [cond_eq_ite] at hk
    split at hk
    rotate_left
    · cases hk
    rename_i hdat
    simp only [Option.some.injEq, Prod.mk.injEq] at hk
    obtain ⟨rfl, hH'⟩ := hk
    have hgave : Gave (ctxOf P Φ vf w.heap.size) g0 g' w' H' := fun k hk => by
      have hk1 : (getB st'.H k).isDat = true := List.all_eq_true.1 hdat k (List.mem_range.2 hk)
      cases hg : getB st'.H k with
      | f d =>
        refine ⟨d, by rw [← hH', getB_take _ (show k < vf.nin from hk), hg], ?_, hI'.rho k hk⟩
        have := hI'.blocks k (by rw [hg]; simp)
        rwa [hg] at this
      | _ => rw [hg] at hk1; cases hk1
    rw [Bool.or_eq_true] at c45
    rcases c45 with c45 | c45
    rotate_left
    · rw [Bool.and_eq_true] at c45
      obtain ⟨c45, c0⟩ := c45
      have c0 : vf.nin = 0 := by simpa using c0
      obtain ⟨t, x, g2, q1, q2, q3, q4⟩ := keep_sound hI' vf.nin c45 hvs
      subst q2
      refine ⟨hI'.defers, _, run_res (vals := [a'.tmps.getD t undef]) (by rw [q1]; simp [List.mapM_cons, resM]), _, g2, rfl, by simpa [resTup] using q4, ⟨hI'.frm, by rw [q3]; exact hI'.cells, fun r o hr => by rw [q3]; exact hI'.sold r o hr, by rw [q3]; exact hI'.ext⟩, fun k hk => absurd hk (by simp [ctxOf, c0])⟩
    rw [Bool.and_eq_true] at c45
    obtain ⟨c4, c5⟩ := c45
    obtain ⟨vals, k1, k2, k3, k4, k5⟩ := res_sound hI' vf.nin [] .ret 0 c4 hvs
    refine ⟨hI'.defers, _, run_res k1, _, g', rfl, ?_, ⟨hI'.frm, hI'.cells, fun r o hr => hI'.sold r o hr, hI'.ext⟩, hgave⟩
    rcases rtyOk_spec c5 with ⟨τ, rfl, rfl⟩ | ⟨hne, hty⟩
    · obtain ⟨x, rfl⟩ := List.length_eq_one_iff.1 (show vs.length = 1 by simpa using k4.symm)
      obtain ⟨v, rfl⟩ := List.length_eq_one_iff.1 (show vals.length = 1 by simpa using k3)
      obtain ⟨d, rfl⟩ := k5 x (by simp)
      have k6 := k2.1
      simp only [resTup, RV] at *
      simpa using k6
    · have hsz : ¬ vals.toArray.size = 1 := by simp; omega
      rw [dif_neg hsz, hty]
      have : resTup vs = .t vs := by
        cases vs with
        | nil => rfl
        | cons x vs =>
          cases vs with
          | nil => exact absurd k4 (by simpa using hne)
          | cons => rfl
      rw [this]
      simp only [RV]
      exact ⟨_, _, rfl, rfl, k4, by simpa using k3, k2⟩
  cases e with
  | exit id => simp [finish] at hk
  | normal => exact key hk
  | ret => exact key hk
end Go.Vam
