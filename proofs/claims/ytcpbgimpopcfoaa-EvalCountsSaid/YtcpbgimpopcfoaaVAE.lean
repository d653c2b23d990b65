/- THE SHADOW MACHINE, 23b: slices with the right to append that lie in a field of a variable. -/
import Derived.Test.YtcpbgimpopcfoaaVW
set_option linter.unusedSimpArgs false
set_option linter.unusedVariables false
namespace Go.Vam
section
variable {C : Ctx} {Γ : List Ty} {g0 g : G} {w0 w : World} {st : St} {a : Act}
theorem RCs_at {X : Own} {cs : List Value} : ∀ {fs : List Field} {vs : List V} {n : Nat} (k : Nat) (h1 : k < fs.length) (h2 : k < vs.length), RCs C g w X n fs vs cs → RC C g w (.sub X (n + k)) fs[k].type vs[k] ((cs.drop fs[k].offset).take (C.P.cellsOf fs[k].type))
  | [], vs, n, k, h1, _, _ => by simp at h1
  | f :: fs, [], n, k, _, h2, _ => by simp at h2
  | f :: fs, v :: vs, n, 0, _, _, h => by simp only [RCs] at h; exact h.1
  | f :: fs, v :: vs, n, k + 1, h1, h2, h => by
    simp only [RCs] at h
    have := RCs_at k (by simpa using h1) (by simpa using h2) h.2
    rw [show n + (k + 1) = n + 1 + k by omega]
    simpa using this
theorem RCs_mk {X : Own} {cs : List Value} : ∀ {fs : List Field} {vs : List V} {n : Nat}, vs.length = fs.length → (∀ k (h1 : k < fs.length) (h2 : k < vs.length), RC C g w (.sub X (n + k)) fs[k].type vs[k] ((cs.drop fs[k].offset).take (C.P.cellsOf fs[k].type))) → RCs C g w X n fs vs cs
  | [], [], n, _, _ => by simp [RCs]
  | [], _ :: _, n, h, _ => by simp at h
  | _ :: _, [], n, h, _ => by simp at h
  | f :: fs, v :: vs, n, h, hk => by
    simp only [RCs]
    refine ⟨hk 0 (by simp) (by simp), RCs_mk (by simpa using h) fun k h1 h2 => ?_⟩
    have := hk (k + 1) (by simpa using h1) (by simpa using h2)
    rw [show n + (k + 1) = n + 1 + k by omega] at this
    simpa using this
theorem Inv.content (hI : Inv C Γ g0 w0 g st a w) {s t : Nat} {x' : V} (hu : getB st.H s ≠ .u) (hb : C.bt s = some (.var t)) (hx' : x' ≠ .u) (hRB : RB C g w s x') : Inv C Γ g0 w0 g { sl := st.sl, H := st.H.set s x' } a w := by
  have kk : Keeps C g st.H w g (st.H.set s x') w (fun _ => False) := by
    refine ⟨Sub.refl _, fun r X h1 _ _ => ⟨h1, rfl, fun _ => rfl⟩, fun s' h => ?_⟩
    rw [getB_set hu]
    by_cases hs : s' = s
    · subst hs
      rw [if_pos rfl]
      exact ⟨hx', fun e he => (by rw [hb] at he; injection he with he; cases he), rfl⟩
    · rw [if_neg hs]; exact ⟨h, fun _ _ => rfl, rfl⟩
  refine ⟨hI.len, hI.glen, fun n hn hn' => RV.keeps kk _ (fun h => h) (hI.slots n hn hn'), fun s' h => ?_, hI.cells, hI.defers, hI.frm, hI.kap, hI.sold, hI.ext, hI.base, hI.ent, hI.rho⟩
  rw [getB_set hu] at h ⊢
  by_cases hs : s' = s
  · subst hs; rw [if_pos rfl]; exact hRB
  · rw [if_neg hs] at h ⊢; exact hI.blocks s' h
def opvChk (C : Ctx) (s : Nat) : Bool :=
  match C.bt s with
  | some (.var t) => (match C.P.underlying t with | some (.slice _) => true | _ => false)
  | _ => false
def opnChk (C : Ctx) (s k : Nat) : Bool :=
  match C.bt s with
  | some (.var t) => (match C.P.underlying t with
    | some (.struct fs) => (match fs[k]? with
      | some f => (match C.P.underlying f.type with | some (.slice _) => true | _ => false)
      | none => false)
    | _ => false)
  | _ => false
theorem Inv.opn (hI : Inv C Γ g0 w0 g st a w) {s k : Nat} {ds : List D} (hc : opnChk C s k = true) (hB : getB st.H s = .f (.ag ds)) (hk : ds.getD k .nil = .sz []) : Inv C Γ g0 w0 g { sl := st.sl, H := st.H.set s (.t ((ds.map V.f).set k (.o false []))) } a w := by
  unfold opnChk at hc
  split at hc
  · rename_i t hb
    split at hc
    · rename_i fs hu
      split at hc
      · rename_i f hf
        split at hc
        · rename_i e he
          have hne : getB st.H s ≠ .u := by rw [hB]; simp
          refine hI.content hne hb (by simp) ?_
          have hRB := hI.blocks s hne
          rw [hB] at hRB
          unfold RB at hRB ⊢
          rw [hb] at hRB ⊢
          simp only at hRB ⊢
          obtain ⟨r, c, t', h1, h2, h3, h4, h5, h6⟩ := hRB
          refine ⟨r, c, t', h1, h2, h3, h4, h5, ?_⟩
          simp only [RC] at h6 ⊢
          obtain ⟨ds', e1, e2, e3, e4⟩ := h6.strct hu
          injection e1 with e1; subst e1
          refine ⟨fs, hu, by simpa using e2, e3, h6.one, RCs_mk (by simpa using e2) fun j h1 h2 => ?_⟩
          have hj : j < ds.length := by simpa using h2
          have hjf : j < fs.size := by simpa using h1
          have hr := e4 j hj hjf
          by_cases hjk : k = j
          · subst hjk
            rw [List.getElem_set_self]
            have hdk : ds[k] = .sz [] := by
              have := hk
              rw [List.getD_eq_getElem?_getD, List.getElem?_eq_getElem hj] at this
              exact this
            rw [hdk] at hr
            obtain ⟨hkf, rfl⟩ := Array.getElem?_eq_some_iff.1 hf
            obtain ⟨xs, q1, q2⟩ := hr.slice he
            rcases q2 with ⟨_, _, q3⟩ | ⟨ad, cap, q3, _⟩
            · simp only [RC, Array.getElem_toList]
              exact ⟨e, _, q3, he, .inl ⟨rfl, rfl, rfl⟩⟩
            · rcases q3 with q3 | ⟨q3, q4⟩ | q3
              · cases q3
              · injection q3 with q3; exact absurd q3.symm q4
              · cases q3
          · rw [List.getElem_set_ne hjk]
            simp only [List.getElem_map, RC, Array.getElem_toList]
            exact hr
        · cases hc
      · cases hc
    · cases hc
  · cases hc
theorem own_rf {X : Own} {t e : Nat} {nn : Bool} {xs : List D} {v : Value} (hu : C.P.underlying t = some (.slice e)) (h : OwnS C g w X e nn xs v true) : RF C.P g.S t (mkD nn xs) [v] := by
  have hr := (h.rt hu).1
  have : v.cells.toList = [v] := by
    rcases h with ⟨_, _, rfl⟩ | ⟨r, cap, c, e', rfl, _⟩ <;> rfl
  rwa [this] at hr
theorem flat_rf {X : Own} {t : Nat} {x : V} {cs : List Value} (hf : x.flat = true) (h : RC C g w X t x cs) : RF C.P g.S t x.toD cs := by
  cases x <;> simp [V.flat] at hf
  · simpa only [RC, V.toD] using h
  · simp only [RC] at h
    obtain ⟨e, v, rfl, hu, h⟩ := h
    exact own_rf hu h
theorem Inv.cls (hI : Inv C Γ g0 w0 g st a w) {s : Nat} {vs : List V} (hB : getB st.H s = .t vs) (hf : flatAll vs = true) : Inv C Γ g0 w0 g { sl := st.sl, H := st.H.set s (.f (.ag (vs.map V.toD))) } a w := by
  have hne : getB st.H s ≠ .u := by rw [hB]; simp
  have hRB := hI.blocks s hne
  rw [hB] at hRB
  unfold RB at hRB
  split at hRB
  · rename_i t hb
    refine hI.content hne hb (by simp) ?_
    unfold RB
    rw [hb]
    simp only
    obtain ⟨r, c, t', h1, h2, h3, h4, h5, h6⟩ := hRB
    refine ⟨r, c, t', h1, h2, h3, h4, h5, ?_⟩
    simp only [RC] at h6 ⊢
    obtain ⟨fs, hu, e2, e3, e4, e5⟩ := h6
    refine .st hu (by simpa using e2) e3 (fun k hk hk' => ?_) e4
    have hkv : k < vs.length := by simpa using hk
    have := RCs_at k (by simpa using hk') hkv e5
    simp only [List.getElem_map, Array.getElem_toList] at this ⊢
    exact flat_rf (List.all_eq_true.1 hf _ (List.getElem_mem hkv)) this
  · obtain ⟨d, h, _⟩ := hRB; cases h
  · exact hRB.elim
theorem Inv.opv (hI : Inv C Γ g0 w0 g st a w) {s : Nat} (hc : opvChk C s = true) (hB : getB st.H s = .f (.sz [])) : Inv C Γ g0 w0 g { sl := st.sl, H := st.H.set s (.o false []) } a w := by
  unfold opvChk at hc
  split at hc
  · rename_i t hb
    split at hc
    · rename_i e he
      have hne : getB st.H s ≠ .u := by rw [hB]; simp
      refine hI.content hne hb (by simp) ?_
      have hRB := hI.blocks s hne
      rw [hB] at hRB
      unfold RB at hRB ⊢
      rw [hb] at hRB ⊢
      simp only at hRB ⊢
      obtain ⟨r, c, t', h1, h2, h3, h4, h5, h6⟩ := hRB
      refine ⟨r, c, t', h1, h2, h3, h4, h5, ?_⟩
      simp only [RC] at h6 ⊢
      obtain ⟨xs, q1, q2⟩ := h6.slice he
      rcases q2 with ⟨_, _, q3⟩ | ⟨ad, cap, q3, _⟩
      · exact ⟨e, _, q3, he, .inl ⟨rfl, rfl, rfl⟩⟩
      · rcases q3 with q3 | ⟨q3, q4⟩ | q3
        · cases q3
        · injection q3 with q3; exact absurd q3.symm q4
        · cases q3
    · cases hc
  · cases hc
theorem Inv.clv (hI : Inv C Γ g0 w0 g st a w) {s : Nat} {nn : Bool} {xs : List D} (hB : getB st.H s = .o nn xs) : Inv C Γ g0 w0 g { sl := st.sl, H := st.H.set s (.f (mkD nn xs)) } a w := by
  have hne : getB st.H s ≠ .u := by rw [hB]; simp
  have hRB := hI.blocks s hne
  rw [hB] at hRB
  unfold RB at hRB
  split at hRB
  · rename_i t hb
    refine hI.content hne hb (by simp) ?_
    unfold RB
    rw [hb]
    simp only
    obtain ⟨r, c, t', h1, h2, h3, h4, h5, h6⟩ := hRB
    refine ⟨r, c, t', h1, h2, h3, h4, h5, ?_⟩
    simp only [RC] at h6 ⊢
    obtain ⟨e, v, e1, e2, e3⟩ := h6
    rw [e1]
    exact own_rf e2 e3
  · obtain ⟨d, h, _⟩ := hRB; cases h
  · exact hRB.elim
def G.mv (g : G) (X Y : Own) : G := { g with kap := fun r => if g.kap r = some X then some Y else g.kap r }
theorem OwnS.mv {X Y : Own} {e : Nat} {nn : Bool} {xs : List D} {v : Value} {fz : Bool} (h : OwnS C g w X e nn xs v fz) : OwnS C (g.mv X Y) w Y e nn xs v fz := by
  rcases h with h | ⟨r, cap, c, e', h1, h2, h3, h4, h5⟩
  · exact .inl h
  · exact .inr ⟨r, cap, c, e', h1, h2, h3, by simp [G.mv, h4], h5⟩
theorem OwnS.mvo {X Y Z : Own} (hz : Z ≠ X) {e : Nat} {nn : Bool} {xs : List D} {v : Value} {fz : Bool} (h : OwnS C g w Z e nn xs v fz) : OwnS C (g.mv X Y) w Z e nn xs v fz := by
  rcases h with h | ⟨r, cap, c, e', h1, h2, h3, h4, h5⟩
  · exact .inl h
  · exact .inr ⟨r, cap, c, e', h1, h2, h3, by simp [G.mv, h4, hz], h5⟩
theorem flat_mvo {X Y Z : Own} (hz : Z ≠ X) {t : Nat} {x : V} {cs : List Value} (hf : x.flat = true) (h : RC C g w Z t x cs) : RC C (g.mv X Y) w Z t x cs := by
  cases x <;> simp [V.flat] at hf
  · simp only [RC] at h ⊢; exact h
  · simp only [RC] at h ⊢
    obtain ⟨e, v, h1, h2, h3⟩ := h
    exact ⟨e, v, h1, h2, h3.mvo hz⟩
theorem Own.sub_inj {X : Own} {j k : Nat} (h : j ≠ k) : Own.sub X j ≠ Own.sub X k := fun e => h (by injection e)
theorem pathB_one {P : Program} {t n k e off : Nat} {fs : Array Field} (hu : P.underlying t = some (.struct fs)) (h : pathB P (.var t) n [k] = some (e, off)) : ∃ f, fs[k]? = some f ∧ fldGood P t fs k f = true ∧ e = f.type ∧ off = f.offset := by
  simp only [pathB, pathT, hu] at h
  split at h
  · rename_i f hf
    split at h
    · rename_i hg
      simp only [Option.map_some, Option.some.injEq, Prod.mk.injEq, Nat.add_zero] at h
      exact ⟨f, hf, hg, h.1.symm, h.2.symm⟩
    · cases h
  · cases h
def chkLdT (C : Ctx) (Γ : List Ty) (dst : Option Nat) (op : Op) (vx : Opd) : Bool :=
  match op, dst with
  | .load t x, some d => decide (0 < C.P.cellsOf t) && opd C Γ x vx (.p t) && (match Γ[d]? with | some (.v t') => t' == t | _ => false)
  | _, _ => false
theorem snd_ldT (hI : Inv C Γ g0 w0 g st a w) {o : Oper} {vo : VOper} {vx : Opd} (hd : o.dst = vo.dst) (hv : vo.op = .ldT vx) (hc : chkLdT C Γ vo.dst o.op vx = true)
    (hok : (sem vo.op st.get st.H).ok = true) : Step C Γ g0 w0 o vo st a w := by
  unfold chkLdT at hc
  split at hc
  · rename_i t x d ho hdd
    simp only [Bool.and_eq_true, decide_eq_true_eq] at hc
    obtain ⟨⟨h0, h1⟩, h2⟩ := hc
    split at h2
    · rename_i t' hτ
      have : t' = t := by simpa using h2
      subst this
      have hx := hI.rd h1 .ret
      cases hev : vx.rd st.get with
      | m s p =>
        rw [hev] at hx
        simp only [RV, asP] at hx
        obtain ⟨e, off, b, r, he, h4, h5, h6, h7, h8⟩ := hx
        injection he with he; subst he
        cases p with
        | nil =>
          cases hB : getB st.H s with
          | o nn xs =>
            have hRB := hI.blocks s h8
            rw [hB] at hRB
            unfold RB at hRB
            rw [h4] at hRB
            cases b with
            | arr e0 => simp only at hRB; obtain ⟨d2, h, _⟩ := hRB; cases h
            | var t0 =>
              simp only [pathB, pathT, Option.some.injEq, Prod.mk.injEq] at h6
              obtain ⟨rfl, rfl⟩ := h6
              simp only at hRB
              obtain ⟨r', c, t2, k1, k2, k3, k4, k5, k6⟩ := hRB
              rw [h5] at k1; injection k1 with k1; subst k1
              simp only [RC] at k6
              obtain ⟨e, v, hcs, hue, hown⟩ := k6
              have hrf := own_rf hue hown
              have hl1 : C.P.cellsOf t0 = 1 := by
                have : c.toList.length = 1 := by rw [hcs]; rfl
                simp at this; omega
              have hval : valOf C.P t0 [v] = v := by unfold valOf; rw [hue]; rfl
              have hrun := run_ld (P := C.P) (w := w) ho h7 (run_loadVar hrf h0 (by simp [hl1]) fun j u hj => by
                rw [cell_of k3]
                rw [← hcs] at hj
                simpa using hj)
              rw [hval] at hrun
              have hs : sem vo.op st.get st.H = { ok := true, v := .o nn xs, H := st.H.set s (.f (mkD nn xs)) } := by rw [hv]; simp only [sem, hev, hB]
              refine ⟨v, w, g.mv (.sub (.site s) 0) (.slot d), .inl hrun, ?_⟩
              rw [hs, hd]
              have hne : getB st.H s ≠ .u := h8
              have hgB := fun s' v => getB_set (s' := s') (v := v) hne
              have hk : Keeps C g st.H w (g.mv (.sub (.site s) 0) (.slot d)) (st.H.set s (.f (mkD nn xs))) w (fun X => X = .site s) := by
                refine ⟨Sub.refl _, fun b X h1 h2 h3 => ⟨?_, rfl, fun _ => rfl⟩, fun s' h => ?_⟩
                · have : X ≠ .sub (.site s) 0 := fun e => h2 (by subst e; rfl)
                  simp [G.mv, h1, this]
                · rw [hgB]
                  by_cases hss : s' = s
                  · subst hss
                    rw [if_pos rfl]
                    exact ⟨by simp, fun e hbt => (by rw [h4] at hbt; injection hbt with hbt; cases hbt), rfl⟩
                  · rw [if_neg hss]; exact ⟨h, fun _ _ => rfl, rfl⟩
              refine hI.step (o := vo) hk (fun n h => by cases h) (fun _ _ h => by cases h) (fun d' hd' => ?_) (fun s' h => ?_) hI.cells hI.frm (fun r2 hr2 => ?_) hI.sold hI.ext hI.base hI.rho
              · rw [hdd] at hd'; injection hd' with hd'; subst hd'
                refine ⟨_, hτ, ?_⟩
                simp only [RV]
                exact ⟨_, e, rfl, hue, hown.mv⟩
              · rw [hgB] at h ⊢
                by_cases hss : s' = s
                · subst hss
                  rw [if_pos rfl]
                  unfold RB
                  rw [h4]
                  simp only
                  refine ⟨r, c, t2, h5, by simp [G.mv, k2], k3, k4, k5, ?_⟩
                  simp only [RC]
                  rw [hcs]; exact hrf
                · rw [if_neg hss] at h ⊢
                  exact (hI.blocks s' h).keeps hk (fun e => hss (by injection e)) rfl
              · have : g.kap r2 ≠ some (.sub (.site s) 0) := fun e => by rw [hI.kap r2 hr2] at e; obtain ⟨k', hk', _⟩ := hI.ent r2 _ hr2 e; cases hk'
                simp only [G.mv, this, if_false]
                exact hI.kap r2 hr2
          | _ => rw [hv] at hok; simp [sem, hev, hB] at hok
        | cons k p =>
        cases p with
        | cons k2 p => rw [hv] at hok; simp [sem, hev] at hok
        | nil =>
        cases hB : getB st.H s with
        | t vs =>
          have hRB := hI.blocks s h8
          have hRB' := hRB
          rw [hB] at hRB
          have hs : sem vo.op st.get st.H = { ok := flatAll vs && (vs.getD k .u).isO, v := vs.getD k .u, H := st.H.set s (.t (vs.set k (.f (vs.getD k .u).toD))) } := by rw [hv]; simp only [sem, hev, hB]
          rw [hs] at hok
          simp only [Bool.and_eq_true] at hok
          obtain ⟨hfl, hiO⟩ := hok
          have hkv : k < vs.length := by
            rcases Nat.lt_or_ge k vs.length with h | h
            · exact h
            · rw [List.getD_eq_getElem?_getD, List.getElem?_eq_none h] at hiO; cases hiO
          have hgd : vs.getD k .u = vs[k] := by rw [List.getD_eq_getElem?_getD, List.getElem?_eq_getElem hkv]; rfl
          rw [hgd] at hiO hs
          cases hvk : vs[k] with
          | o nn xs =>
            rw [hvk] at hs
            unfold RB at hRB
            rw [h4] at hRB
            cases b with
            | arr e0 => simp only at hRB; obtain ⟨d2, h, _⟩ := hRB; cases h
            | var t0 =>
              simp only at hRB
              obtain ⟨r', c, t2, k1, k2, k3, k4, k5, k6⟩ := hRB
              rw [h5] at k1; injection k1 with k1; subst k1
              simp only [RC] at k6
              obtain ⟨fs, hu, e2, e3, e4, e5⟩ := k6
              obtain ⟨f, hf, hg, rfl, rfl⟩ := pathB_one hu h6
              obtain ⟨hkf, rfl⟩ := Array.getElem?_eq_some_iff.1 hf
              have hfit := fldGood_fits hg
              have hpart := RCs_at k (by simpa using hkf) hkv e5
              rw [hvk] at hpart
              simp only [RC, Array.getElem_toList, Nat.zero_add] at hpart
              obtain ⟨e, v, hcs, hue, hown⟩ := hpart
              have hrf := own_rf hue hown
              have hl1 : C.P.cellsOf fs[k].type = 1 := by
                have : ((c.toList.drop fs[k].offset).take (C.P.cellsOf fs[k].type)).length = 1 := by rw [hcs]; rfl
                simp at this; omega
              have hval : valOf C.P fs[k].type [v] = v := by unfold valOf; rw [hue]; rfl
              have hrun := run_ld (P := C.P) (w := w) ho h7 (run_loadVar hrf h0 (by simp [hl1]) fun j u hj => by
                rw [cell_of k3]
                rw [← hcs] at hj
                have := (getElem?_part hj).1
                simpa using this)
              rw [hval] at hrun
              refine ⟨v, w, g.mv (.sub (.sub (.site s) 0) k) (.slot d), .inl hrun, ?_⟩
              rw [hs, hd]
              have hne : getB st.H s ≠ .u := h8
              have hgB := fun s' v => getB_set (s' := s') (v := v) hne
              have hk : Keeps C g st.H w (g.mv (.sub (.sub (.site s) 0) k) (.slot d)) (st.H.set s (.t (vs.set k (.f (V.o nn xs).toD)))) w (fun X => X = .site s) := by
                refine ⟨Sub.refl _, fun b X h1 h2 h3 => ⟨?_, rfl, fun _ => rfl⟩, fun s' h => ?_⟩
                · have : X ≠ .sub (.sub (.site s) 0) k := fun e => h2 (by subst e; rfl)
                  simp [G.mv, h1, this]
                · rw [hgB]
                  by_cases hss : s' = s
                  · subst hss
                    rw [if_pos rfl]
                    exact ⟨by simp, fun e hbt => (by rw [h4] at hbt; injection hbt with hbt; cases hbt), rfl⟩
                  · rw [if_neg hss]; exact ⟨h, fun _ _ => rfl, rfl⟩
              refine hI.step (o := vo) hk (fun n h => by cases h) (fun _ _ h => by cases h) (fun d' hd' => ?_) (fun s' h => ?_) hI.cells hI.frm (fun r2 hr2 => ?_) hI.sold hI.ext hI.base hI.rho
              · rw [hdd] at hd'; injection hd' with hd'; subst hd'
                refine ⟨_, hτ, ?_⟩
                simp only [RV]
                exact ⟨_, e, rfl, hue, hown.mv⟩
              · rw [hgB] at h ⊢
                by_cases hss : s' = s
                · subst hss
                  rw [if_pos rfl]
                  unfold RB
                  rw [h4]
                  simp only
                  refine ⟨r, c, t2, h5, by simp [G.mv, k2], k3, k4, k5, ?_⟩
                  simp only [RC]
                  refine ⟨fs, hu, by simpa using e2, e3, e4, RCs_mk (by simpa using e2) fun j h1 h2 => ?_⟩
                  have hj : j < vs.length := by simpa using h2
                  have hpj := RCs_at j h1 hj e5
                  rw [Nat.zero_add] at hpj ⊢
                  by_cases hjk : k = j
                  · subst hjk
                    rw [List.getElem_set_self]
                    simp only [RC, Array.getElem_toList, V.toD]
                    rw [hcs]
                    exact hrf
                  · rw [List.getElem_set_ne hjk]
                    exact flat_mvo (Own.sub_inj (Ne.symm hjk)) (List.all_eq_true.1 hfl _ (List.getElem_mem hj)) hpj
                · rw [if_neg hss] at h ⊢
                  exact (hI.blocks s' h).keeps hk (fun e => hss (by injection e)) rfl
              · have : g.kap r2 ≠ some (.sub (.sub (.site s) 0) k) := fun e => by rw [hI.kap r2 hr2] at e; obtain ⟨k', hk', _⟩ := hI.ent r2 _ hr2 e; cases hk'
                simp only [G.mv, this, if_false]
                exact hI.kap r2 hr2
          | _ => rw [hvk] at hiO; cases hiO
        | _ => rw [hv] at hok; simp [sem, hev, hB] at hok
      | _ => rw [hv] at hok; simp [sem, hev] at hok
    · cases h2
  · cases hc
def chkStT (C : Ctx) (Γ : List Ty) (dst : Option Nat) (op : Op) (vx : Opd) (n : Nat) : Bool :=
  match op with
  | .store e x (.tmp m) => m == n && (match dst with | none => true | _ => false) && opd C Γ x vx (.p e) && (match Γ[n]? with | some (.v t') => t' == e | _ => false)
  | _ => false
theorem snd_stT (hI : Inv C Γ g0 w0 g st a w) {o : Oper} {vo : VOper} {vx : Opd} {n : Nat} (hd : o.dst = vo.dst) (hv : vo.op = .stT vx n) (hc : chkStT C Γ vo.dst o.op vx n = true)
    (hok : (sem vo.op st.get st.H).ok = true) : Step C Γ g0 w0 o vo st a w := by
  unfold chkStT at hc
  split at hc
  · rename_i e x m ho
    simp only [Bool.and_eq_true] at hc
    obtain ⟨⟨⟨hm, h1⟩, h3⟩, h6⟩ := hc
    have : m = n := by simpa using hm
    subst this
    split at h1
    · rename_i hdn
      split at h6
      · rename_i t' hτ
        have : t' = e := by simpa using h6
        subst this
        have hx := hI.rd h3 .ret
        cases hev : vx.rd st.get with
        | m s p =>
          rw [hev] at hx
          simp only [RV, asP] at hx
          obtain ⟨e', off, b, r, he, q4, q5, q6, q7, q8⟩ := hx
          injection he with he; subst he
          cases p with
          | nil =>
            cases hB : getB st.H s with
            | f d0 =>
              have hRB := hI.blocks s q8
              rw [hB] at hRB
              have hs : sem vo.op st.get st.H = { ok := (st.get m).isO, v := .n, sd := some (m, (st.get m).left), H := st.H.set s (st.get m) } := by rw [hv]; simp only [sem, hev, hB]
              rw [hs] at hok
              have hiO : (st.get m).isO = true := hok
              have hy := hI.slot hτ
              cases hvk : st.get m with
              | o nn xs =>
                rw [hvk] at hs hy
                simp only [RV] at hy
                obtain ⟨t1, e1, ht1, hue, hown⟩ := hy
                injection ht1 with ht1; subst ht1
                unfold RB at hRB
                rw [q4] at hRB
                cases b with
                | arr e0 => simp [pathB] at q6
                | var t0 =>
                  simp only [pathB, pathT, Option.some.injEq, Prod.mk.injEq] at q6
                  obtain ⟨rfl, rfl⟩ := q6
                  simp only at hRB
                  obtain ⟨r', c, t2, k1, k2, k3, k4, k5, k6⟩ := hRB
                  rw [q5] at k1; injection k1 with k1; subst k1
                  simp only [RC] at k6
                  have hsl : ∃ ad l cp, a.tmps.getD m undef = .slice ad l cp := by
                    rcases hown with ⟨_, _, h⟩ | ⟨r1, cap, c1, e1', h, _⟩
                    · exact ⟨_, _, _, h⟩
                    · exact ⟨_, _, _, h⟩
                  obtain ⟨ad, l, cp, hval⟩ := hsl
                  have hcl : (a.eval (.tmp m)).cells.toList = [a.tmps.getD m undef] := by
                    show (a.tmps.getD m undef).cells.toList = _
                    rw [hval]; rfl
                  have hrf := own_rf hue hown
                  have hc1 : c.toList.length = 1 := by
                    obtain ⟨xs', _, q | ⟨ad', cap', _, q, _⟩⟩ := k6.slice hue
                    · rw [q.2.2]; rfl
                    · rw [q]; rfl
                  have hc1' : c.size = 1 := by simpa using hc1
                  have hl1 : C.P.cellsOf t0 = 1 := by omega
                  have hrun := run_st (P := C.P) ho q7 k3 (by rw [← Array.length_toList, hcl]; simp [hl1]) (by omega) (by omega) (by rw [hcl]; exact hrf.one)
                  rw [hcl] at hrun
                  generalize hrow : (splice c.toList 0 [a.tmps.getD m undef]).toArray = row at hrun
                  refine ⟨undef, _, g.mv (.slot m) (.sub (.site s) 0), .inr ⟨hrun, rfl⟩, ?_⟩
                  rw [hs, hd]
                  have hrt : row.toList = [a.tmps.getD m undef] := by
                    rw [← hrow]
                    unfold splice
                    have : c.toList.drop (0 + [a.tmps.getD m undef].length) = [] := List.drop_eq_nil_of_le (by rw [hc1]; simp)
                    rw [this]
                    simp
                  have hrs : row.size = c.size := by rw [← Array.length_toList, hrt, hc1']; rfl
                  have hH := setRow_heap w r c row _ _ k3
                  have hne : getB st.H s ≠ .u := q8
                  have hgB := fun s' v => getB_set (s' := s') (v := v) hne
                  have hk : Keeps C g st.H w (g.mv (.slot m) (.sub (.site s) 0)) (st.H.set s (.o nn xs)) (w.setRow r row) (fun X => X = .site s ∨ X = .slot m) := by
                    refine ⟨Sub.refl _, fun b X h1 h2 h3 => ⟨?_, setRow_other w r b _ (fun e => ?_), fun _ => rfl⟩, fun s' h => ?_⟩
                    · have : X ≠ .slot m := fun e => h2 (by subst e; exact .inr rfl)
                      simp [G.mv, h1, this]
                    · subst e; rw [k2] at h1; injection h1 with h1; subst h1; exact h2 (.inl rfl)
                    · rw [hgB]
                      by_cases hss : s' = s
                      · subst hss
                        rw [if_pos rfl]
                        exact ⟨by simp, fun e hbt => (by rw [q4] at hbt; injection hbt with hbt; cases hbt), rfl⟩
                      · rw [if_neg hss]; exact ⟨h, fun _ _ => rfl, rfl⟩
                  have hmv : OwnS C g (w.setRow r row) (.slot m) e1 nn xs (a.tmps.getD m undef) true := by
                    rcases hown with h | ⟨r1, cap, c1, e1', h1, h2, h3, h4, h5, h6⟩
                    · exact .inl h
                    · refine .inr ⟨r1, cap, c1, e1', h1, h2, h3, h4, ?_, h6⟩
                      have : r1 ≠ r := fun e => by subst e; rw [k2] at h4; injection h4 with h4; cases h4
                      rw [setRow_other w r r1 _ this]; exact h5
                  refine hI.step (o := vo) hk (fun n' h => h.elim (fun h => by cases h) (fun h => by injection h with h; subst h; exact .inr ⟨_, rfl⟩)) (fun m' y' hy' hne' τ' hτ' => ?_) (fun d' hd' => by rw [hdn] at hd'; cases hd') (fun s' h => ?_) (fun b o v h => ?_) ?_ (fun r2 hr2 => ?_) hI.sold hI.ext (by have := hI.base; simpa using this) hI.rho
                  · injection hy' with hy'; injection hy' with hy1 hy2; subst hy1; subst hy2
                    rw [hτ] at hτ'; injection hτ' with hτ'; subst hτ'
                    simp only [V.left, RV]
                    have := hown.rt hue
                    exact this
                  · rw [hgB] at h ⊢
                    by_cases hss : s' = s
                    · subst hss
                      rw [if_pos rfl]
                      unfold RB
                      rw [q4]
                      simp only
                      refine ⟨r, row, t2, q5, by simp [G.mv, k2], hH, by omega, k5, ?_⟩
                      simp only [RC]
                      exact ⟨e1, _, hrt, hue, hmv.mv⟩
                    · rw [if_neg hss] at h ⊢
                      exact (hI.blocks s' h).keeps hk (fun e => e.elim (fun e => hss (by injection e)) (fun e => by cases e)) rfl
                  · by_cases hb : b = r
                    · subst hb; have h' : g.S b o = some v := h; rw [k5] at h'; cases h'
                    · rw [cell_heap (setRow_other w r b _ hb)]; exact hI.cells _ _ _ h
                  · obtain ⟨p1, p2, p3, p4, p5⟩ := hI.frm
                    refine ⟨p1, p2, p3, by simpa using p4, fun b h1 h2 => ?_⟩
                    have : b ≠ r := fun e => by subst e; rw [hI.kap b h1] at k2; rw [k2] at h2; cases h2
                    rw [setRow_other w r b _ this]; exact p5 b h1 h2
                  · have : g.kap r2 ≠ some (.slot m) := fun e => by rw [hI.kap r2 hr2] at e; obtain ⟨k', hk', _⟩ := hI.ent r2 _ hr2 e; cases hk'
                    simp only [G.mv, this, if_false]
                    exact hI.kap r2 hr2
              | _ => rw [hvk] at hiO; cases hiO
            | _ => rw [hv] at hok; simp [sem, hev, hB] at hok
          | cons k p =>
          cases p with
          | cons k2 p => rw [hv] at hok; simp [sem, hev] at hok
          | nil =>
          cases hB : getB st.H s with
          | t vs =>
            have hRB := hI.blocks s q8
            rw [hB] at hRB
            have hs : sem vo.op st.get st.H = { ok := flatAll vs && ((st.get m).isO && decide (k < vs.length)), v := .n, sd := some (m, (st.get m).left), H := st.H.set s (.t (vs.set k (st.get m))) } := by rw [hv]; simp only [sem, hev, hB]
            rw [hs] at hok
            simp only [Bool.and_eq_true, decide_eq_true_eq] at hok
            obtain ⟨hfl, hiO, hkv⟩ := hok
            have hy := hI.slot hτ
            cases hvk : st.get m with
            | o nn xs =>
              rw [hvk] at hs hy
              simp only [RV] at hy
              obtain ⟨t1, e1, ht1, hue, hown⟩ := hy
              injection ht1 with ht1; subst ht1
              unfold RB at hRB
              rw [q4] at hRB
              cases b with
              | arr e0 => simp only at hRB; obtain ⟨d2, h, _⟩ := hRB; cases h
              | var t0 =>
                simp only at hRB
                obtain ⟨r', c, t2, k1, k2, k3, k4, k5, k6⟩ := hRB
                rw [q5] at k1; injection k1 with k1; subst k1
                simp only [RC] at k6
                obtain ⟨fs, hu, e2, e3, e4, e5⟩ := k6
                obtain ⟨f, hf, hg, rfl, rfl⟩ := pathB_one hu q6
                obtain ⟨hkf, rfl⟩ := Array.getElem?_eq_some_iff.1 hf
                have hfit := fldGood_fits hg
                have hsl : ∃ ad l cp, a.tmps.getD m undef = .slice ad l cp := by
                  rcases hown with ⟨_, _, h⟩ | ⟨r1, cap, c1, e1', h, _⟩
                  · exact ⟨_, _, _, h⟩
                  · exact ⟨_, _, _, h⟩
                obtain ⟨ad, l, cp, hval⟩ := hsl
                have hcl : (a.eval (.tmp m)).cells.toList = [a.tmps.getD m undef] := by
                  show (a.tmps.getD m undef).cells.toList = _
                  rw [hval]; rfl
                have hrf := own_rf hue hown
                have hpart := RCs_at k (by simpa using hkf) hkv e5
                -- a slice is one cell
                have hl1 : C.P.cellsOf fs[k].type = 1 := by
                  have hff := flat_rf (List.all_eq_true.1 hfl _ (List.getElem_mem hkv)) hpart
                  simp only [Array.getElem_toList] at hff
                  have hlen : ((c.toList.drop fs[k].offset).take (C.P.cellsOf fs[k].type)).length = 1 := by
                    obtain ⟨xs', _, q | ⟨ad', cap', _, q, _⟩⟩ := hff.slice hue
                    · rw [q.2.2]; rfl
                    · rw [q]; rfl
                  simp at hlen; omega
                have hrun := run_st (P := C.P) ho q7 k3 (by rw [← Array.length_toList, hcl]; simp [hl1]) (by omega) (by omega) (by rw [hcl]; exact hrf.one)
                rw [hcl] at hrun
                generalize hrow : (splice c.toList fs[k].offset [a.tmps.getD m undef]).toArray = row at hrun
                refine ⟨undef, _, g.mv (.slot m) (.sub (.sub (.site s) 0) k), .inr ⟨hrun, rfl⟩, ?_⟩
                rw [hs, hd]
                have hsp : fs[k].offset + [a.tmps.getD m undef].length ≤ c.toList.length := by simp; omega
                have hrs : row.size = c.size := by rw [← hrow, List.size_toArray, splice_len hsp, Array.length_toList]
                have hH := setRow_heap w r c row _ _ k3
                have hne : getB st.H s ≠ .u := q8
                have hgB := fun s' v => getB_set (s' := s') (v := v) hne
                have hk : Keeps C g st.H w (g.mv (.slot m) (.sub (.sub (.site s) 0) k)) (st.H.set s (.t (vs.set k (.o nn xs)))) (w.setRow r row) (fun X => X = .site s ∨ X = .slot m) := by
                  refine ⟨Sub.refl _, fun b X h1 h2 h3 => ⟨?_, setRow_other w r b _ (fun e => ?_), fun _ => rfl⟩, fun s' h => ?_⟩
                  · have : X ≠ .slot m := fun e => h2 (by subst e; exact .inr rfl)
                    simp [G.mv, h1, this]
                  · subst e; rw [k2] at h1; injection h1 with h1; subst h1; exact h2 (.inl rfl)
                  · rw [hgB]
                    by_cases hss : s' = s
                    · subst hss
                      rw [if_pos rfl]
                      exact ⟨by simp, fun e hbt => (by rw [q4] at hbt; injection hbt with hbt; cases hbt), rfl⟩
                    · rw [if_neg hss]; exact ⟨h, fun _ _ => rfl, rfl⟩
                -- what others own lies as it lay
                have hmv : ∀ {Z : Own} {e : Nat} {nn : Bool} {xs : List D} {v : Value}, Z ≠ .site s → OwnS C g w Z e nn xs v true → OwnS C g (w.setRow r row) Z e nn xs v true := by
                  intro Z e nn xs v hz h
                  rcases h with h | ⟨r1, cap, c1, e1', h1, h2, h3, h4, h5, h6⟩
                  · exact .inl h
                  · refine .inr ⟨r1, cap, c1, e1', h1, h2, h3, h4, ?_, h6⟩
                    have : r1 ≠ r := fun e => by subst e; rw [k2] at h4; injection h4 with h4; exact hz h4.symm
                    rw [setRow_other w r r1 _ this]; exact h5
                refine hI.step (o := vo) hk (fun n' h => h.elim (fun h => by cases h) (fun h => by injection h with h; subst h; exact .inr ⟨_, rfl⟩)) (fun m' y' hy' hne' τ' hτ' => ?_) (fun d' hd' => by rw [hdn] at hd'; cases hd') (fun s' h => ?_) (fun b o v h => ?_) ?_ (fun r2 hr2 => ?_) hI.sold hI.ext (by have := hI.base; simpa using this) hI.rho
                · injection hy' with hy'; injection hy' with hy1 hy2; subst hy1; subst hy2
                  rw [hτ] at hτ'; injection hτ' with hτ'; subst hτ'
                  simp only [V.left, RV]
                  have := hown.rt hue
                  exact this
                · rw [hgB] at h ⊢
                  by_cases hss : s' = s
                  · subst hss
                    rw [if_pos rfl]
                    unfold RB
                    rw [q4]
                    simp only
                    refine ⟨r, row, t2, q5, by simp [G.mv, k2], hH, by omega, k5, ?_⟩
                    simp only [RC]
                    have hrt : row.toList = splice c.toList fs[k].offset [a.tmps.getD m undef] := by rw [← hrow]
                    rw [hrt]
                    refine ⟨fs, hu, by simpa using e2, by rw [splice_len hsp]; exact e3, splice_one e4 hrf.one, RCs_mk (by simpa using e2) fun j h1 h2 => ?_⟩
                    have hj : j < vs.length := by simpa using h2
                    have hjf : j < fs.size := by simpa using h1
                    have hpj := RCs_at j h1 hj e5
                    rw [Nat.zero_add] at hpj ⊢
                    by_cases hjk : k = j
                    · subst hjk
                      rw [List.getElem_set_self]
                      simp only [RC, Array.getElem_toList]
                      refine ⟨e1, a.tmps.getD m undef, ?_, hue, (hmv (by simp) hown).mv⟩
                      rw [hl1]
                      apply List.ext_getElem?
                      intro i
                      rw [List.getElem?_take, List.getElem?_drop, splice_get hsp]
                      by_cases hi : i < 1
                      · have : i = 0 := by omega
                        subst this
                        simp
                      · rw [if_neg hi]; simp; omega
                    · rw [List.getElem_set_ne hjk]
                      have hsame : ((splice c.toList fs[k].offset [a.tmps.getD m undef]).drop fs.toList[j].offset).take (C.P.cellsOf fs.toList[j].type) = (c.toList.drop fs.toList[j].offset).take (C.P.cellsOf fs.toList[j].type) := by
                        refine splice_other ?_ hsp
                        unfold fldGood at hg
                        simp only [Bool.and_eq_true, List.all_eq_true, List.mem_range] at hg
                        have := hg.2 j hjf
                        rw [Array.getElem?_eq_getElem hjf] at this
                        simp only [Bool.or_eq_true, decide_eq_true_eq] at this
                        simp only [Array.getElem_toList]
                        rcases this with h | h | h
                        · exact absurd (show j = k by simpa using h) (Ne.symm hjk)
                        · left; omega
                        · right; simp; omega
                      rw [hsame]
                      have hfj := List.all_eq_true.1 hfl _ (List.getElem_mem hj)
                      refine flat_mvo (by simp) hfj ?_
                      cases hvj : vs[j] with
                      | f d => rw [hvj] at hpj; simp only [RC] at hpj ⊢; exact hpj
                      | o nn' xs' => rw [hvj] at hpj; simp only [RC] at hpj ⊢; obtain ⟨e9, v9, z1, z2, z3⟩ := hpj; exact ⟨e9, v9, z1, z2, hmv (by simp) z3⟩
                      | _ => rw [hvj] at hfj; simp [V.flat] at hfj
                  · rw [if_neg hss] at h ⊢
                    exact (hI.blocks s' h).keeps hk (fun e => e.elim (fun e => hss (by injection e)) (fun e => by cases e)) rfl
                · by_cases hb : b = r
                  · subst hb; have h' : g.S b o = some v := h; rw [k5] at h'; cases h'
                  · rw [cell_heap (setRow_other w r b _ hb)]; exact hI.cells _ _ _ h
                · obtain ⟨p1, p2, p3, p4, p5⟩ := hI.frm
                  refine ⟨p1, p2, p3, by simpa using p4, fun b h1 h2 => ?_⟩
                  have : b ≠ r := fun e => by subst e; rw [hI.kap b h1] at k2; rw [k2] at h2; cases h2
                  rw [setRow_other w r b _ this]; exact p5 b h1 h2
                · have : g.kap r2 ≠ some (.slot m) := fun e => by rw [hI.kap r2 hr2] at e; obtain ⟨k', hk', _⟩ := hI.ent r2 _ hr2 e; cases hk'
                  simp only [G.mv, this, if_false]
                  exact hI.kap r2 hr2
            | _ => rw [hvk] at hiO; cases hiO
          | _ => rw [hv] at hok; simp [sem, hev, hB] at hok
        | _ => rw [hv] at hok; simp [sem, hev] at hok
      · cases h6
    · cases h1
  · cases hc
end
end Go.Vam
