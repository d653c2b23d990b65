/- THE SHADOW MACHINE, 23: continuations by name. -/
import Derived.Test.YtcpbgimpopcfoaaVY
namespace Go.Vam
def slotsOf : Nat → Nat → List (Nat × V) → List V
  | 0, _, _ => []
  | n + 1, k, [] => V.u :: slotsOf n (k + 1) []
  | n + 1, k, q :: r => bif Nat.beq q.1 k then q.2 :: slotsOf n (k + 1) r else V.u :: slotsOf n (k + 1) (q :: r)
def sts (n : Nat) (l : List (Nat × V)) (H : List V) : St := { sl := slotsOf n 0 l, H := H }
abbrev Kn (R : Type) := Ex → St → Option R
def ltb (x y : Int) : Bool := decide (x < y)
def leb (x y : Int) : Bool := decide (x ≤ y)
def eqb (x y : Int) : Bool := decide (x = y)
def leN (x y : Nat) : Bool := decide (x ≤ y)
theorem ltb_t {x y : Int} (h : x < y) : ltb x y = true := decide_eq_true h
theorem ltb_f {x y : Int} (h : ¬ x < y) : ltb x y = false := decide_eq_false h
theorem leb_t {x y : Int} (h : x ≤ y) : leb x y = true := decide_eq_true h
theorem leb_f {x y : Int} (h : ¬ x ≤ y) : leb x y = false := decide_eq_false h
theorem eqb_t {x y : Int} (h : x = y) : eqb x y = true := decide_eq_true h
theorem eqb_f {x y : Int} (h : ¬ x = y) : eqb x y = false := decide_eq_false h
theorem leN_t {x y : Nat} (h : x ≤ y) : leN x y = true := decide_eq_true h
def kseq {R : Type} (Φ : Tab) (F : CallF) (N : Nat) (b : VC) (k : Ex → St → Option R) : Ex → St → Option R := fun e st => match e with
  | .normal => runC Φ F N b st k
  | e => k e st
def kpost {R : Type} (p : Pre) (k : Ex → St → Option R) : Ex → St → Option R := fun e st => match e with
  | .normal => (runPre p st).bind fun st2 => k .normal st2
  | e => k e st
def kblk {R : Type} (id : Nat) (k : Ex → St → Option R) : Ex → St → Option R := fun e st => match e with
  | .exit id' => bif id' == id then k .normal st else k (.exit id') st
  | e => k e st
def kloop {R : Type} (Φ : Tab) (F : CallF) (N : Nat) (b : VC) (j : Nat) (k : Ex → St → Option R) : Ex → St → Option R := fun e st => match e with
  | .normal => loopGo (runC Φ F N b) j st k
  | e => k e st
section
variable {R : Type} {Φ : Tab} {F : CallF} {n : Nat}
theorem runC_seq (a b : VC) (st : St) (k : Ex → St → Option R) : runC Φ F n (.seq a b) st k = runC Φ F n a st (kseq Φ F n b k) := rfl
theorem runC_post (c : VC) (p : Pre) (st : St) (k : Ex → St → Option R) : runC Φ F n (.post c p) st k = runC Φ F n c st (kpost p k) := rfl
theorem runC_block (id : Nat) (c : VC) (st : St) (k : Ex → St → Option R) : runC Φ F n (.block id c) st k = runC Φ F n c st (kblk id k) := rfl
theorem runC_loop (b : VC) (st : St) (k : Ex → St → Option R) : runC Φ F n (.loop b) st k = loopGo (runC Φ F n b) n st k := rfl
theorem loop_succ (b : VC) (j : Nat) (st : St) (k : Ex → St → Option R) : loopGo (runC Φ F n b) (j + 1) st k = runC Φ F n b st (kloop Φ F n b j k) := rfl
theorem runC_pre {p : Pre} {st s1 : St} (h : runPre p st = some s1) (c : VC) (k : Ex → St → Option R) : runC Φ F n (.pre p c) st k = runC Φ F n c s1 k := by
  rw [runC, runPreK_eq, h]; rfl
theorem runC_cond {m : Nat} {st s1 s2 : St} {d : D} {p1 p2 : Pre} (a b : VC) (k : Ex → St → Option R) (hd : st.get m = .f d) (h1 : runPre p1 (st.put m (.f (.b true))) = some s1) (h2 : runPre p2 (st.put m (.f (.b false))) = some s2) :
    runC Φ F n (.cond (.t m) (.pre p1 a) (.pre p2 b)) st k = cond d.toB (runC Φ F n a s1 k) (runC Φ F n b s2 k) := by
  rw [runC]
  simp only [Opd.ev, hd]
  rw [runC_pre h1, runC_pre h2]
theorem ops_run (l : List VOper) (d : Bool) (st : St) (k : Ex → St → Option R) : runC Φ F n (.ops l d) st k = runOps Φ F l st (k .normal) := rfl
end
end Go.Vam
