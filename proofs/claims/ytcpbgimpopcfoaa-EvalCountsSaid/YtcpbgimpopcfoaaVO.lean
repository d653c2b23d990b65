/- THE SHADOW MACHINE, 14: append. -/
import Derived.Test.YtcpbgimpopcfoaaVM
set_option linter.unusedSimpArgs false
set_option linter.unusedVariables false
namespace Go.Vam
theorem add_sub' {C : Ctx} {Γ : List Ty} {g0 g : G} {w0 w : World} {st : St} {a : Act} (hI : Inv C Γ g0 w0 g st a w) (f : Nat → Option Value) (k : Option Own) : Sub g.S (g.add w.heap.size f k).S := by
  intro b o v h
  have : b ≠ w.heap.size := fun e => by rw [e, hI.S_new (Nat.le_refl _)] at h; cases h
  simp [G.add, this, h]
theorem fresh_keeps {C : Ctx} {Γ : List Ty} {g0 g : G} {w0 w : World} {st : St} {a : Act} (hI : Inv C Γ g0 w0 g st a w) (f : Nat → Option Value) (k : Option Own) (n : Nat) (o : Obj) : Keeps C g st.H w (g.add w.heap.size f k) st.H ((w.drewN n).alloc o) (fun _ => False) := by
  refine ⟨add_sub' hI f k, fun r X h1 _ h2 => ?_, fun s h => ⟨h, fun _ _ => rfl, rfl⟩⟩
  have : r ≠ w.heap.size := by omega
  exact ⟨by simp [G.add, this, h1], heap_old _ _ _ this, fun o => by simp [G.add, this]⟩
section
variable {P : Program} {ρ : Operand → Value} {o : Oper} {w : World}
theorem run_app {x y : Operand} {t t' : Nat} {v : Value} {w' : World} (ho : o.op = .call { callee := .builtin .append, args := #[x, y], argTypes := #[t, t'] }) (hr : (Builtin.append_ #[t, t'] o.type #[ρ x, ρ y]).run P w = .ok v w') : (execOp ρ o).run P w = .ok (.value v) w' := by
  simp [execOp, ho, resolve, invoke, builtin, hr]
theorem app_room {t tx ty e r n m cap : Nat} {c : Array Value} {e' : TypeId} {x : Value} {news : List Value} {i : TypeInfo} (ht : P.underlying t = some (.slice e)) (hi : P.info? e = some i) (hh : w.heap[r]? = some (.cells c e' (0, 0))) (hs : Src P i.size tx x m news w) (hroom : n + m ≤ cap) (hc : c.size = cap * i.size) :
    (Builtin.append_ #[t, tx] ty #[.slice (some ⟨r, 0, none⟩) n cap, x]).run P w = .ok (.slice (some ⟨r, 0, none⟩) (n + m) cap) (w.setRow r (c.toList.take (n * i.size) ++ news ++ c.toList.drop (n * i.size + news.length)).toArray) := by
  have hfit : n * i.size + news.length ≤ c.size := by
    rw [hs.newsLen, hc, ← Nat.add_mul]; exact Nat.mul_le_mul_right _ hroom
  have hst := run_storeCells_at P r (n * i.size) e' news 0 c w hh (by simpa using hfit) hs.one
  simp only [Nat.add_zero] at hst
  rcases hs.kind with ⟨e2, hk⟩ | hk <;> simp [Builtin.append_, run_underlying ht, run_underlying hk, sizeOf, typeInfo, hi, hs.len, hroom, hs.cells, Addr.add_lit, hst]
end
section
variable {C : Ctx} {Γ : List Ty} {g0 g : G} {w0 w : World} {st : St} {a : Act}
theorem app_grow (hI : Inv C Γ g0 w0 g st a w) {o : Oper} {vo : VOper} {x y : Operand} {t t2 t' e d n cap m lim : Nat} {md : Md} {nn : Bool} {xs ys : List D} {sd : Option (Nat × V)} {ok : Bool} {base : Option Addr} {olds news : List Value} {i : TypeInfo} {z : Value}
    (hd : o.dst = vo.dst) (ho : o.op = .call { callee := .builtin .append, args := #[x, y], argTypes := #[t, t2] }) (hdd : vo.dst = some d) (hΓ : Γ[d]? = some (.v t')) (hq : uEq C.P t t' = true) (hu : C.P.underlying t = some (.slice e)) (hi : C.P.info? e = some i) (hz : i.zero = some z) (hzs : z.cells.size = C.P.cellsOf e)
    (hx : a.eval x = .slice base n cap) (hn : n = xs.length) (hm : m = ys.length) (hold : ∀ w' : World, w'.heap = w.heap → (Builtin.firstCells i.size n (.slice base n cap)).run C.P w' = .ok olds.toArray w') (hol : olds.length = n * C.P.cellsOf e) (hoE : Els C.P g.S e xs olds)
    (hs : Src C.P i.size t2 (a.eval y) m news w) (hnE : Els C.P g.S e ys news) (hg : cap < n + m) (hlim : n + m ≤ lim) (hl1 : lim * i.bytes ≤ 140737488355328) (hl2 : lim ≤ maxLen)
    (hsd : ∀ k v, sd = some (k, v) → vo.dst ≠ some k → ∀ τ, Γ[k]? = some τ → RV C g st.H w (.slot k) τ v (a.tmps.getD k undef)) (hnn : nn = true ∨ xs ++ ys ≠ []) :
    ∃ v w' g', (execOp a.eval o).run C.P w = .ok (.value v) w' ∧ Inv C Γ g0 w0 g' (applyE vo { ok, v := mkV md nn (xs ++ ys), sd, H := st.H } st) (a.put o.dst v) w' := by
  have hce : C.P.cellsOf e = i.size := by simp [Program.cellsOf, hi]
  have hb : (n + m) * i.bytes ≤ 140737488355328 := Nat.le_trans (Nat.mul_le_mul_right _ hlim) hl1
  have hrun := run_append_grow_src (P := C.P) w t t2 o.type e i z hu hi hz base n cap olds (hold w.drew rfl) (a.eval y) m news hs hg (by simp only [maxLen] at hl2; omega) (growslice_fits hg hb)
  rw [← hx] at hrun
  generalize hk : grownCap w (n + m) cap e = k at hrun
  have hge : n + m ≤ k := by rw [← hk]; exact grownCap_ge _ _ _ _
  have hle : k ≤ maxLen := by rw [← hk]; exact grownCap_le_maxLen _ _ _ _ (by omega)
  generalize hrow : (olds ++ news).toArray ++ Builtin.zeroCells z.cells (k - (n + m)) = row at hrun
  have hnl : news.length = m * C.P.cellsOf e := by rw [hs.newsLen, hce]
  have hsz : row.size = k * C.P.cellsOf e := by
    rw [← hrow]
    simp only [Array.size_append, List.size_toArray, List.length_append, size_zeroCells, hol, hnl, hzs, ← Nat.add_mul]
    congr 1; omega
  have hxl : (xs ++ ys).length = n + m := by simp; omega
  have hE : Els C.P g.S e (xs ++ ys) row.toList := by
    rw [← hrow]
    simp only [Array.toList_append]
    exact (hoE.append (by rw [hol, hn]) hnE).more _
  refine ⟨_, _, g.add w.heap.size (frzF md ((n + m) * C.P.cellsOf e) row) (some (.slot d)), run_app ho hrun, ?_⟩
  rw [hd]
  have kp := fresh_keeps hI (frzF md ((n + m) * C.P.cellsOf e) row) (some (.slot d)) 1 (.cells row e)
  refine hI.fresh (o := vo) (sd := sd) 1 (frzF_sub _ _ _) (fun k' v h1 h2 τ h3 => RV.keeps kp _ (fun h => h) (hsd k' v h1 h2 τ h3)) (fun d' hd' => ⟨.v t', ?_, ?_⟩)
  · rw [hdd] at hd'; injection hd' with hd'; subst hd'; exact hΓ
  · rw [hdd] at hd'; injection hd' with hd'; subst hd'
    refine RV.conv _ (show fits C.P (.v t) (.v t') = true from hq) ?_
    have := mkV_rv (C := C) (H := st.H) (g' := g.add w.heap.size (frzF md ((n + m) * C.P.cellsOf e) row) (some (.slot d))) (w' := (w.drewN 1).alloc (.cells row e)) (r := w.heap.size) (cap := k) (d := d) hu md nn (f := fun _ => none) hI.base (heap_new w 1 _) hsz hle (by omega) hnn (hE.mono (add_sub' hI _ _)) (by simp [G.add]) (by rw [hxl]; exact frzF_spec md _ row (S := (g.add w.heap.size (frzF md ((n + m) * C.P.cellsOf e) row) (some (.slot d))).S w.heap.size) (by funext j; simp [G.add]))
    rw [hxl] at this
    exact this
theorem app_in (hI : Inv C Γ g0 w0 g st a w) {o : Oper} {vo : VOper} {x y : Operand} {t t2 t' e e' d n cap m s r : Nat} {md : Md} {nn : Bool} {xs ys : List D} {lv : V} {ok fz : Bool} {news : List Value} {i : TypeInfo} {c : Array Value}
    (hd : o.dst = vo.dst) (ho : o.op = .call { callee := .builtin .append, args := #[x, y], argTypes := #[t, t2] }) (hdd : vo.dst = some d) (hΓ : Γ[d]? = some (.v t')) (hq : uEq C.P t t' = true) (hu : C.P.underlying t = some (.slice e)) (hi : C.P.info? e = some i)
    (hx : a.eval x = .slice (some ⟨r, 0, none⟩) n cap) (hn : n = xs.length) (hm : m = ys.length) (hrb : C.base ≤ r) (hkr : g.kap r = some (.slot s)) (hh : w.heap[r]? = some (.cells c e' (0, 0))) (hcs : c.size = cap * C.P.cellsOf e) (hcap : cap ≤ maxLen) (hE : Els C.P g.S e xs c.toList)
    (hS : if fz then (∀ j, j < xs.length * C.P.cellsOf e → g.S r j = c[j]?) ∧ ∀ j, xs.length * C.P.cellsOf e ≤ j → g.S r j = none else ∀ j, g.S r j = none) (hmd : fz = true → md ≠ .w)
    (hs : Src C.P i.size t2 (a.eval y) m news w) (hnE : Els C.P g.S e ys news) (hg : n + m ≤ cap) (hlv : vo.dst ≠ some s → ∀ τ, Γ[s]? = some τ → ∀ g' w', Sub g.S g'.S → RV C g' st.H w' (.slot s) τ lv (a.tmps.getD s undef)) (hnn : nn = true ∨ xs ++ ys ≠ []) :
    ∃ v w' g', (execOp a.eval o).run C.P w = .ok (.value v) w' ∧ Inv C Γ g0 w0 g' (applyE vo { ok, v := mkV md nn (xs ++ ys), sd := some (s, lv), H := st.H } st) (a.put o.dst v) w' := by
  have hce : C.P.cellsOf e = i.size := by simp [Program.cellsOf, hi]
  have hrun := app_room (P := C.P) (tx := t2) (ty := o.type) (n := n) (cap := cap) hu hi hh hs hg (by rw [hcs, hce])
  rw [← hx] at hrun
  have hnl : news.length = m * C.P.cellsOf e := by rw [hs.newsLen, hce]
  generalize hrow : (c.toList.take (n * i.size) ++ news ++ c.toList.drop (n * i.size + news.length)).toArray = row at hrun
  have hxl : (xs ++ ys).length = n + m := by simp; omega
  have hfst := hE.first
  rw [← hn, hce] at hfst
  have hmul : (n + m) * C.P.cellsOf e ≤ cap * C.P.cellsOf e := Nat.mul_le_mul_right _ hg
  have hsz : row.size = c.size := by
    rw [← hrow]
    simp only [List.size_toArray, List.length_append, List.length_drop, Array.length_toList, hfst.2, hnl]
    rw [Nat.add_mul, hce] at hmul
    rw [hcs, hce]; omega
  have hEr : Els C.P g.S e (xs ++ ys) row.toList := by
    rw [← hrow]
    exact (hfst.1.append (by rw [hfst.2, hn, hce]) hnE).more _
  have hpre : ∀ j, j < n * C.P.cellsOf e → row[j]? = c[j]? := by
    intro j hj
    rw [← hrow]
    rw [hce] at hj
    simp only [List.getElem?_toArray]
    rw [List.append_assoc, List.getElem?_append_left (by rw [hfst.2]; exact hj), List.getElem?_take, if_pos hj]
    simp
  refine ⟨_, _, ⟨fun b o => if b = r then frzF md ((n + m) * C.P.cellsOf e) row o else g.S b o, g.rho, fun b => if b = r then some (.slot d) else g.kap b, g.cp⟩, run_app ho hrun, ?_⟩
  rw [hd]
  have hsub : Sub g.S (fun b o => if b = r then frzF md ((n + m) * C.P.cellsOf e) row o else g.S b o) := by
    intro b o v h
    by_cases hb : b = r
    · subst hb
      simp only [if_true]
      cases fz with
      | false => simp only [Bool.false_eq_true, if_false] at hS; rw [hS] at h; cases h
      | true =>
        simp only [if_true] at hS
        have hjn : o < xs.length * C.P.cellsOf e := by
          rcases Nat.lt_or_ge o (xs.length * C.P.cellsOf e) with h' | h'
          · exact h'
          · rw [hS.2 o h'] at h; cases h
        rw [hS.1 o hjn] at h
        rw [← hn] at hjn
        have hlt : o < (n + m) * C.P.cellsOf e := by rw [Nat.add_mul]; omega
        have hne := hmd rfl
        cases md
        · simp only [frzF, hlt, if_true, hpre o hjn, h]
        · simp only [frzF, hlt, if_true, hpre o hjn, h]
        · exact absurd rfl hne
    · simp [hb, h]
  have hH := setRow_heap w r c row _ _ hh
  refine hI.turn (o := vo) (g' := ⟨fun b o => if b = r then frzF md ((n + m) * C.P.cellsOf e) row o else g.S b o, g.rho, fun b => if b = r then some (.slot d) else g.kap b, g.cp⟩) (w' := w.setRow r row) (Z := fun X => X = .slot s) (r := r) (X := .slot s) hrb rfl (by simp [Own.root]) (by simp) hkr (fun _ => rfl) (by simp) (fun b hb => ⟨setRow_other w r b _ hb, by simp [hb], fun o => by simp [hb]⟩) rfl rfl rfl hsub ?_ ?_ ?_ ?_
  · intro j u hj
    simp only [if_true] at hj
    rw [cell_of hH]; exact frzF_sub _ _ _ _ _ hj
  · intro n' hn'; injection hn' with hn'; subst hn'; exact .inr ⟨_, rfl⟩
  · intro m' y' hy' hne τ hτ
    injection hy' with hy'; injection hy' with q1 q2; subst q1; subst q2
    exact hlv hne τ hτ _ _ hsub
  · intro d' hd'
    refine ⟨.v t', ?_, ?_⟩
    · rw [hdd] at hd'; injection hd' with hd'; subst hd'; exact hΓ
    · rw [hdd] at hd'; injection hd' with hd'; subst hd'
      refine RV.conv _ (show fits C.P (.v t) (.v t') = true from hq) ?_
      have := mkV_rv (C := C) (H := st.H) (g' := ⟨fun b o => if b = r then frzF md ((n + m) * C.P.cellsOf e) row o else g.S b o, g.rho, fun b => if b = r then some (.slot d) else g.kap b, g.cp⟩) (w' := w.setRow r row) (r := r) (cap := cap) (d := d) hu md nn (f := fun _ => none) hrb hH (by rw [hsz, hcs]) hcap (by omega) hnn (hEr.mono hsub) (by simp) (by rw [hxl]; exact frzF_spec md _ row (S := fun o => if r = r then frzF md ((n + m) * C.P.cellsOf e) row o else g.S r o) (by funext j; simp))
      rw [hxl] at this
      exact this
end
end Go.Vam
