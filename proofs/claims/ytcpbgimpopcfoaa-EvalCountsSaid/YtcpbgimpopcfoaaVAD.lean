/- THE SHADOW MACHINE, 27: a law's run, for its row. -/
import Derived.Test.YtcpbgimpopcfoaaVAC
import Derived.Below
set_option linter.unusedVariables false
namespace Go.Vam
open Go.RowKit (Below)
theorem Back.below {C : Ctx} {S : Cells} {g' : G} {w w' : World} (hb : C.base = w.heap.size) (h : Back C (g0Of S) g' w w') : Below w.heap.size w w' :=
  ⟨h.frm.os, h.frm.tape, h.frm.output, h.frm.size, fun k hk => h.frm.old k (by omega) rfl⟩
theorem FnOk.law {P : Program} {Φ : Tab} {F : CallF} (hF : FnOk P Φ F) {g : Nat} {vf : VFunc} (hvf : Φ g = some vf) (hn : vf.nin = 0) {tb : Nat} (hr : vf.rty = .v tb) (hb : P.underlying tb = some .bool) {ts : List Nat} (hts : vf.ptys = ts.map .v) {ds : List D} (hF' : toO (F g (ds.map .f) []) = some (.f (.b true), []))
    (w : World) (av : Array Value) (hl : ds.length = ts.length) (hal : av.size = ts.length) (ha : RVs (ctxOf P Φ vf w.heap.size) (g0Of (cellsOf w)) [] w .ret 0 (ts.map .v) (ds.map .f) av.toList) :
    Calls P vf.fid av w fun e w' => e = .returned (.bool true) ∧ Below w.heap.size w w' := by
  have h := hF g vf (ds.map .f) [] _ _ hvf hF' (g0Of (cellsOf w)) w av (fun b o v h => h) ⟨by simp [ctxOf, hn], fun k hk => absurd hk (by simp [ctxOf, hn]), fun r X h => by cases h⟩ (by simpa using hal.trans hl.symm) (by rw [hts]; simpa using hl) (by rw [hts]; exact ha)
  refine Calls.mono h fun e w' he => ?_
  obtain ⟨v, g', rfl, hv, hbk, _⟩ := he
  rw [hr] at hv
  simp only [RV] at hv
  have := (RT.bool (show (ctxOf P Φ vf w.heap.size).P.underlying tb = some .bool from hb) hv).2
  subst this
  exact ⟨rfl, hbk.below rfl⟩
theorem rvs_nil {C : Ctx} {g : G} {w : World} {X : Own} {n : Nat} : RVs C g [] w X n ([] : List Ty) ([] : List V) [] := by simp [RVs]
theorem rvs_cons {C : Ctx} {g : G} {w : World} {X : Own} {n : Nat} {t : Nat} {d : D} {v : Value} {ts : List Ty} {xs : List V} {vs : List Value} (h : RT C.P g.S (.v t) d v) (hs : RVs C g [] w X (n + 1) ts xs vs) : RVs C g [] w X n (.v t :: ts) (.f d :: xs) (v :: vs) := by
  simp only [RVs, RV]
  exact ⟨h, hs⟩
end Go.Vam
