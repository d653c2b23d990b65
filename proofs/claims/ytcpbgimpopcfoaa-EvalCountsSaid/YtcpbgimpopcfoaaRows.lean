/-
  NARROWER THAN 'FOR EVERY INPUT', by the rows' own cells (each row's printed sentence says how): EvalAnswers: loops · EvalTurned: loops · EvalLimits: loops · EvalNodes: loops.
  DERIVED. THE GIVEN ROWS OF THIS SEAT. 6 by the template 'for every input the law returns true; each argument reads behind the call as it read before'; 0 by the template 'total and deterministic' (their statements: YtcpbgimpopcfoaaTotals.lean).
  GIVEN WITH THE SEED: the statements are not yours to turn. If you find one false, say at which input.
  Laid BY PROGRAM, IN A SANDBOX (cutbox-rows.mjs): the forced cells as the released guide's own fill.sh prints them over the translation 3a41065683ce82b0… (all of the seat's roots in one cut). By AI agents, Wed Nov 11 2026. No macro, syntax, notation, axiom, sorry.
-/
import Derived.Test.YtcpbgimpopcfoaaChecked
import GoSem.Claim
import GoSem.ClaimJoined
import GoSem.ClaimMapViews
import Derived.JoinedTies
import Derived.KernelRfl
namespace Go.Proofs.Ytcpbgimpopcfoaa
/- THE CELL 'sum', in the pinned program and in every row, IS THE sha256 OF THE DUMP (.gsa) THAT YtcpbgimpopcfoaaProg.lean LOADS. Nothing in Lean hashes anything: it is a label: what it is worth is what the hold of that sum in a sandbox is worth. -/
noncomputable def Try.pinned : Pinned := { name := "ytcpbgimpopcfoaa", sum := "3a41065683ce82b00439391422e9337deb239b7cd45702e378ef74ff098d66ec", checked := Try.checked }
namespace Rows
def none {H : Type} : Left H := { results := [], args := [] }

/-- 'dowserlaw14.EvalOrders': WHATEVER THE INPUT: true; the input reads as it did. -/
def evalOrdersSpec : ChangeSpec := { name := "evalOrders", fn := fun _ => fun
  | [d1, d2, d3] => { results := [.lit (.bool true)], args := [d1, d2, d3] }
  | _ => none }
def evalOrdersRow : OpenClaim := { program := "ytcpbgimpopcfoaa", sum := "3a41065683ce82b00439391422e9337deb239b7cd45702e378ef74ff098d66ec", func := "dowser/dowserlaw14.EvalOrders", spec := "evalOrders", inPlace := ["math.Float64frombits", "internal/bytealg.abigen_runtime_cmpstring", "math/bits.Add64"], unfollowed := true, recurses := true, apart := false }
def EvalOrdersSaid : Prop := evalOrdersRow.holds Try.pinned (OpenSpec.ofChange evalOrdersSpec)

/-- ITS FALSE NEIGHBOUR: 'it returns false'. Refute it at one input. -/
def evalOrdersWrong : ChangeSpec := { name := "evalOrders", fn := fun _ => fun
  | [d1, d2, d3] => { results := [.lit (.bool false)], args := [d1, d2, d3] }
  | _ => none }
def EvalOrdersWrongFalsely : Prop := evalOrdersRow.holds Try.pinned (OpenSpec.ofChange evalOrdersWrong)

/-- 'dowserlaw14.EvalCounts': WHATEVER THE INPUT: true; the input reads as it did. -/
def evalCountsSpec : ChangeSpec := { name := "evalCounts", fn := fun _ => fun
  | [d1, d2, d3] => { results := [.lit (.bool true)], args := [d1, d2, d3] }
  | _ => none }
def evalCountsRow : OpenClaim := { program := "ytcpbgimpopcfoaa", sum := "3a41065683ce82b00439391422e9337deb239b7cd45702e378ef74ff098d66ec", func := "dowser/dowserlaw14.EvalCounts", spec := "evalCounts", inPlace := ["math.Float64frombits", "internal/bytealg.abigen_runtime_cmpstring", "math/bits.Add64"], unfollowed := true, recurses := true, apart := false }
def EvalCountsSaid : Prop := evalCountsRow.holds Try.pinned (OpenSpec.ofChange evalCountsSpec)

/-- ITS FALSE NEIGHBOUR: 'it returns false'. Refute it at one input. -/
def evalCountsWrong : ChangeSpec := { name := "evalCounts", fn := fun _ => fun
  | [d1, d2, d3] => { results := [.lit (.bool false)], args := [d1, d2, d3] }
  | _ => none }
def EvalCountsWrongFalsely : Prop := evalCountsRow.holds Try.pinned (OpenSpec.ofChange evalCountsWrong)

/-- 'dowserlaw14.EvalAnswers': WHATEVER THE INPUT: true; the input reads as it did. -/
def evalAnswersSpec : ChangeSpec := { name := "evalAnswers", fn := fun _ => fun
  | [d1, d2] => { results := [.lit (.bool true)], args := [d1, d2] }
  | _ => none }
def evalAnswersRow : OpenClaim := { program := "ytcpbgimpopcfoaa", sum := "3a41065683ce82b00439391422e9337deb239b7cd45702e378ef74ff098d66ec", func := "dowser/dowserlaw14.EvalAnswers", spec := "evalAnswers", inPlace := ["math.Float64frombits", "internal/bytealg.abigen_runtime_cmpstring", "math/bits.Add64", "math.Float64bits"], unfollowed := true, recurses := true, loops := true, apart := false }
def EvalAnswersSaid : Prop := evalAnswersRow.holds Try.pinned (OpenSpec.ofChange evalAnswersSpec)

/-- ITS FALSE NEIGHBOUR: 'it returns false'. Refute it at one input. -/
def evalAnswersWrong : ChangeSpec := { name := "evalAnswers", fn := fun _ => fun
  | [d1, d2] => { results := [.lit (.bool false)], args := [d1, d2] }
  | _ => none }
def EvalAnswersWrongFalsely : Prop := evalAnswersRow.holds Try.pinned (OpenSpec.ofChange evalAnswersWrong)

/-- 'dowserlaw14.EvalTurned': WHATEVER THE INPUT: true; the input reads as it did. -/
def evalTurnedSpec : ChangeSpec := { name := "evalTurned", fn := fun _ => fun
  | [d1, d2, d3] => { results := [.lit (.bool true)], args := [d1, d2, d3] }
  | _ => none }
def evalTurnedRow : OpenClaim := { program := "ytcpbgimpopcfoaa", sum := "3a41065683ce82b00439391422e9337deb239b7cd45702e378ef74ff098d66ec", func := "dowser/dowserlaw14.EvalTurned", spec := "evalTurned", inPlace := ["math.Float64frombits", "internal/bytealg.abigen_runtime_cmpstring", "math/bits.Add64", "math.Float64bits"], unfollowed := true, recurses := true, loops := true, apart := false }
def EvalTurnedSaid : Prop := evalTurnedRow.holds Try.pinned (OpenSpec.ofChange evalTurnedSpec)

/-- ITS FALSE NEIGHBOUR: 'it returns false'. Refute it at one input. -/
def evalTurnedWrong : ChangeSpec := { name := "evalTurned", fn := fun _ => fun
  | [d1, d2, d3] => { results := [.lit (.bool false)], args := [d1, d2, d3] }
  | _ => none }
def EvalTurnedWrongFalsely : Prop := evalTurnedRow.holds Try.pinned (OpenSpec.ofChange evalTurnedWrong)

/-- 'dowserlaw14.EvalLimits': WHATEVER THE INPUT: true; the input reads as it did. -/
def evalLimitsSpec : ChangeSpec := { name := "evalLimits", fn := fun _ => fun
  | [d1, d2, d3] => { results := [.lit (.bool true)], args := [d1, d2, d3] }
  | _ => none }
def evalLimitsRow : OpenClaim := { program := "ytcpbgimpopcfoaa", sum := "3a41065683ce82b00439391422e9337deb239b7cd45702e378ef74ff098d66ec", func := "dowser/dowserlaw14.EvalLimits", spec := "evalLimits", inPlace := ["math.Float64frombits", "internal/bytealg.abigen_runtime_cmpstring", "math/bits.Add64", "math.Float64bits"], unfollowed := true, recurses := true, loops := true, apart := false }
def EvalLimitsSaid : Prop := evalLimitsRow.holds Try.pinned (OpenSpec.ofChange evalLimitsSpec)

/-- ITS FALSE NEIGHBOUR: 'it returns false'. Refute it at one input. -/
def evalLimitsWrong : ChangeSpec := { name := "evalLimits", fn := fun _ => fun
  | [d1, d2, d3] => { results := [.lit (.bool false)], args := [d1, d2, d3] }
  | _ => none }
def EvalLimitsWrongFalsely : Prop := evalLimitsRow.holds Try.pinned (OpenSpec.ofChange evalLimitsWrong)

/-- 'dowserlaw14.EvalNodes': WHATEVER THE INPUT: true; the input reads as it did. -/
def evalNodesSpec : ChangeSpec := { name := "evalNodes", fn := fun _ => fun
  | [d1, d2] => { results := [.lit (.bool true)], args := [d1, d2] }
  | _ => none }
def evalNodesRow : OpenClaim := { program := "ytcpbgimpopcfoaa", sum := "3a41065683ce82b00439391422e9337deb239b7cd45702e378ef74ff098d66ec", func := "dowser/dowserlaw14.EvalNodes", spec := "evalNodes", inPlace := ["math.Float64frombits", "internal/bytealg.abigen_runtime_cmpstring", "math/bits.Add64", "math.Float64bits"], unfollowed := true, recurses := true, loops := true, apart := false }
def EvalNodesSaid : Prop := evalNodesRow.holds Try.pinned (OpenSpec.ofChange evalNodesSpec)

/-- ITS FALSE NEIGHBOUR: 'it returns false'. Refute it at one input. -/
def evalNodesWrong : ChangeSpec := { name := "evalNodes", fn := fun _ => fun
  | [d1, d2] => { results := [.lit (.bool false)], args := [d1, d2] }
  | _ => none }
def EvalNodesWrongFalsely : Prop := evalNodesRow.holds Try.pinned (OpenSpec.ofChange evalNodesWrong)

/- THE SECOND FORM. 'bulk': how many values and letters a reading holds, each counted each time it is reached (what is shared counts as often as it is met; a slice's spare places count too). A statement '..UptoSaid' is the law's where the arguments, and the package variables that the reading takes, are together of bulk at most 1048576: NARROWER than '..Said'. Prove '..Said' where nothing that the law and all that it calls make is longer than what came in: it says more and counts as full. Else prove '..UptoSaid'. A law counts once. -/
mutual
def uptoBulk {H : Type} : DataW H → Nat
  | .lit (.string bytes) => bytes.length + 1
  | .lit _ => 1
  | .nil => 1
  | .ptr d => uptoBulk d + 1
  | .slice elems spare => uptoBulkAll elems + uptoBulkAll spare + 1
  | .agg parts => uptoBulkAll parts + 1
  | .iface _ d => uptoBulk d + 1
  | .map entries => uptoBulkEntries entries + 1
  | .held _ => 1
def uptoBulkAll {H : Type} : List (DataW H) → Nat
  | [] => 0
  | d :: r => uptoBulk d + uptoBulkAll r
def uptoBulkEntries {H : Type} : List (Lit × DataW H) → Nat
  | [] => 0
  | x :: r => uptoBulkEntry x + uptoBulkEntries r
def uptoBulkEntry {H : Type} : Lit × DataW H → Nat
  | (.string bytes, d) => bytes.length + uptoBulk d + 1
  | (_, d) => uptoBulk d + 1
 end
def uptoSmall : (H : Type) → List (DataW H) → Bool := fun _ ds => decide (uptoBulkAll ds ≤ 1048576)
def OpenSpec.upto (s : _root_.Go.ChangeSpec) : _root_.Go.OpenSpec := { _root_.Go.OpenSpec.ofChange s with cond := some uptoSmall }

/-- 'dowserlaw14.EvalOrders', WHERE WHAT IT READS IS OF BULK AT MOST 1048576: true; the input reads as it did. -/
def evalOrdersUptoRow : OpenClaim := { program := "ytcpbgimpopcfoaa", sum := "3a41065683ce82b00439391422e9337deb239b7cd45702e378ef74ff098d66ec", func := "dowser/dowserlaw14.EvalOrders", spec := "evalOrders", inPlace := ["math.Float64frombits", "internal/bytealg.abigen_runtime_cmpstring", "math/bits.Add64"], unfollowed := true, recurses := true, apart := false, narrowed := true }
def EvalOrdersUptoSaid : Prop := evalOrdersUptoRow.holds Try.pinned (OpenSpec.upto evalOrdersSpec)

/-- 'dowserlaw14.EvalCounts', WHERE WHAT IT READS IS OF BULK AT MOST 1048576: true; the input reads as it did. -/
def evalCountsUptoRow : OpenClaim := { program := "ytcpbgimpopcfoaa", sum := "3a41065683ce82b00439391422e9337deb239b7cd45702e378ef74ff098d66ec", func := "dowser/dowserlaw14.EvalCounts", spec := "evalCounts", inPlace := ["math.Float64frombits", "internal/bytealg.abigen_runtime_cmpstring", "math/bits.Add64"], unfollowed := true, recurses := true, apart := false, narrowed := true }
def EvalCountsUptoSaid : Prop := evalCountsUptoRow.holds Try.pinned (OpenSpec.upto evalCountsSpec)

/-- 'dowserlaw14.EvalAnswers', WHERE WHAT IT READS IS OF BULK AT MOST 1048576: true; the input reads as it did. -/
def evalAnswersUptoRow : OpenClaim := { program := "ytcpbgimpopcfoaa", sum := "3a41065683ce82b00439391422e9337deb239b7cd45702e378ef74ff098d66ec", func := "dowser/dowserlaw14.EvalAnswers", spec := "evalAnswers", inPlace := ["math.Float64frombits", "internal/bytealg.abigen_runtime_cmpstring", "math/bits.Add64", "math.Float64bits"], unfollowed := true, recurses := true, loops := true, apart := false, narrowed := true }
def EvalAnswersUptoSaid : Prop := evalAnswersUptoRow.holds Try.pinned (OpenSpec.upto evalAnswersSpec)

/-- 'dowserlaw14.EvalTurned', WHERE WHAT IT READS IS OF BULK AT MOST 1048576: true; the input reads as it did. -/
def evalTurnedUptoRow : OpenClaim := { program := "ytcpbgimpopcfoaa", sum := "3a41065683ce82b00439391422e9337deb239b7cd45702e378ef74ff098d66ec", func := "dowser/dowserlaw14.EvalTurned", spec := "evalTurned", inPlace := ["math.Float64frombits", "internal/bytealg.abigen_runtime_cmpstring", "math/bits.Add64", "math.Float64bits"], unfollowed := true, recurses := true, loops := true, apart := false, narrowed := true }
def EvalTurnedUptoSaid : Prop := evalTurnedUptoRow.holds Try.pinned (OpenSpec.upto evalTurnedSpec)

/-- 'dowserlaw14.EvalLimits', WHERE WHAT IT READS IS OF BULK AT MOST 1048576: true; the input reads as it did. -/
def evalLimitsUptoRow : OpenClaim := { program := "ytcpbgimpopcfoaa", sum := "3a41065683ce82b00439391422e9337deb239b7cd45702e378ef74ff098d66ec", func := "dowser/dowserlaw14.EvalLimits", spec := "evalLimits", inPlace := ["math.Float64frombits", "internal/bytealg.abigen_runtime_cmpstring", "math/bits.Add64", "math.Float64bits"], unfollowed := true, recurses := true, loops := true, apart := false, narrowed := true }
def EvalLimitsUptoSaid : Prop := evalLimitsUptoRow.holds Try.pinned (OpenSpec.upto evalLimitsSpec)

/-- 'dowserlaw14.EvalNodes', WHERE WHAT IT READS IS OF BULK AT MOST 1048576: true; the input reads as it did. -/
def evalNodesUptoRow : OpenClaim := { program := "ytcpbgimpopcfoaa", sum := "3a41065683ce82b00439391422e9337deb239b7cd45702e378ef74ff098d66ec", func := "dowser/dowserlaw14.EvalNodes", spec := "evalNodes", inPlace := ["math.Float64frombits", "internal/bytealg.abigen_runtime_cmpstring", "math/bits.Add64", "math.Float64bits"], unfollowed := true, recurses := true, loops := true, apart := false, narrowed := true }
def EvalNodesUptoSaid : Prop := evalNodesUptoRow.holds Try.pinned (OpenSpec.upto evalNodesSpec)

end Rows
end Go.Proofs.Ytcpbgimpopcfoaa
