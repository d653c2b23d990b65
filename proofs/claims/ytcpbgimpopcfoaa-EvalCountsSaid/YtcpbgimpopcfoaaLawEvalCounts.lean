/- Statement EvalCounts: the groups of a query count and sum what all its rows count and sum. No conditions. -/
import Derived.Test.YtcpbgimpopcfoaaP9
import Derived.Test.YtcpbgimpopcfoaaRows
import Derived.KernelRfl
import Derived.WalkKit
import Derived.ProofKit
import Derived.OpenShut
import Derived.ShutString
import Derived.ChangeOld
import Derived.Below
import Derived.SizedLaws
import Derived.Carry
set_option linter.unusedVariables false
set_option maxRecDepth 100000
namespace Go.Proofs.Ytcpbgimpopcfoaa.evalCounts
open Go.ChangeShapes Go.WideShapes Go.ChangeAt Go.RowKit Go.Vam Go.Vam.C14
theorem own : ownKnob Try.prog.godebug = none := by kernel_rfl
theorem laidOut : laidOutB Try.prog = true := by kernel_rfl
def plains : List Nat := [2, 3, 9, 23, 26, 29, 30, 32]
theorem lifted (os : Os) (started : os.Started) (H : Type) (enc : TypeId × Value → H) :
    ReturnsInHanded {} Try.checked os 4 .any (Rows.evalCountsSpec.pre6 enc Try.prog Try.f4 Rows.evalCountsRow.domain false) (Rows.evalCountsSpec.post enc Try.prog Try.f4 false true false false) := by
  refine returnsInHanded_of_change_sized (C := Try.checked) own started (by kernel_rfl) Try.func4
    (ChangeSpec.witness6 (enc := enc) (C := Try.checked) false ⟨#[], #[.slice none 0 0, .int .i64 0, .slice none 0 0], []⟩ 8 (by kernel_rfl) (by kernel_rfl) (by kernel_rfl) (by kernel_rfl)) ?_
  intro W base args ds gs before hval0 hW hcnd hsz0 _
  have hval : ∀ (j : Nat) t v, Try.f4.params[j]? = some t → args[j]? = some v → Value.okWide Try.prog W .any base t v := hval0
  have hW' := hW
  obtain ⟨p, q, hA0, hV, rfl, hfz, hnd⟩ := hW
  have hA : DataW.TrodAll enc Try.prog W 0 (fun _ => true) true Try.f4.params.toList args.toList ds p := hA0
  rw [Try.params4] at hA hval
  obtain ⟨v0, vs0, d0, ds0, p0, q0, hargs, rfl, rfl, h0, r0⟩ := trodAll_cons hA
  obtain ⟨v1, vs1, d1, ds1, p1, q1, rfl, rfl, rfl, h1, r1⟩ := trodAll_cons r0
  obtain ⟨v2, vs2, d2, ds2, p2, q2, rfl, rfl, rfl, h2, r2⟩ := trodAll_cons r1
  obtain ⟨rfl, rfl, rfl⟩ := trodAll_nil r2
  obtain rfl : args = #[v0, v1, v2] := by cases args; simp_all
  obtain ⟨rfl, rfl⟩ := trodVars_none hV
  have k0 := h0
  have k1 := h1
  have k2 := h2
  have lt0 : ∀ x ∈ p0, x.block < W.heap.size := by obtain ⟨m, hm⟩ := k0; exact DataW.trod_lt m _ _ _ hm
  have lt1 : ∀ x ∈ p1, x.block < W.heap.size := by obtain ⟨m, hm⟩ := k1; exact DataW.trod_lt m _ _ _ hm
  have lt2 : ∀ x ∈ p2, x.block < W.heap.size := by obtain ⟨m, hm⟩ := k2; exact DataW.trod_lt m _ _ _ hm
  obtain ⟨x0, hx0⟩ := trod_rt (P := Try.prog) (t := 29) plains (by kernel_rfl) (by rfl) h0 (hval 0 29 v0 rfl rfl)
  obtain ⟨x1, hx1⟩ := trod_rt (P := Try.prog) (t := 3) plains (by kernel_rfl) (by rfl) h1 (hval 1 3 v1 rfl rfl)
  obtain ⟨x2, hx2⟩ := trod_rt (P := Try.prog) (t := 26) plains (by kernel_rfl) (by rfl) h2 (hval 2 26 v2 rfl rfl)
  obtain ⟨x2, hx2, hn2⟩ := sharp hx2
  have run := FnOk.law ok4 (g := 4) (vf := vf4) (by kernel_rfl) rfl (tb := 4) rfl (by kernel_rfl) (ts := [29, 3, 26]) rfl (ds := [x0, x1, x2]) (by
    show toO (F1.ok .isN x2, _, _) = _
    rw [hn2]; rfl) W #[v0, v1, v2] rfl rfl (rvs_cons hx0 (rvs_cons hx1 (rvs_cons hx2 rvs_nil)))
  clear hA0 hval0 hsz0
  refine (show Calls Try.prog 4 #[v0, v1, v2] W _ from run).mono fun e W' ⟨he, bel⟩ => ?_
  subst he
  exact ⟨_, rfl, _, _, _, [], _, [], hW', trodAll_mk1 (shut_bool (t := 4) (by kernel_rfl) _), (trodAll_cons_mk (Below.trod laidOut (by kernel_rfl) (of_decide_eq_true (by kernel_rfl)) k0 bel lt0) (trodAll_cons_mk (Below.trod laidOut (by kernel_rfl) (of_decide_eq_true (by kernel_rfl)) k1 bel lt1) (trodAll_cons_mk (Below.trod laidOut (by kernel_rfl) (of_decide_eq_true (by kernel_rfl)) k2 bel lt2) trodAll_mk0))), rfl, bel.frame _, fun h => by cases h⟩
theorem over : Rows.evalCountsRow.holds Try.pinned (OpenSpec.ofChange Rows.evalCountsSpec) :=
  OpenClaim.holds_of_wide 4 Try.f4 rfl rfl rfl rfl rfl rfl rfl ⟨rfl, rfl, rfl, rfl, rfl⟩ rfl rfl rfl rfl rfl (by kernel_rfl) Try.func4 (by kernel_rfl)
    (of_decide_eq_true (by kernel_rfl)) (by unfold Func.isWrapper; first | (rw [if_pos (by decide +kernel)]; kernel_rfl) | (rw [if_neg (by decide +kernel)]; exact ⟨rfl, rfl⟩))
    (fun os started H enc _ => lifted os started H enc)
theorem proved : Rows.EvalCountsSaid := over
#print axioms proved
end Go.Proofs.Ytcpbgimpopcfoaa.evalCounts
namespace Go.Proofs.Ytcpbgimpopcfoaa
theorem evalCounts_holds : Rows.EvalCountsSaid := evalCounts.proved
end Go.Proofs.Ytcpbgimpopcfoaa
