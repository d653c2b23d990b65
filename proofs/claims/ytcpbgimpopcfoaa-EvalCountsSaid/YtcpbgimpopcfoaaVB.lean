/- THE SHADOW MACHINE, 2: how data and shadow values stand for the machine's values. -/
import Derived.Test.YtcpbgimpopcfoaaVA
import Derived.Orders
import Derived.Laws.Append
import Derived.Laws.Rows
import Derived.Laws.Tables
import Derived.Deep.Draws
import Derived.ChangeBears
namespace Go.Vam
abbrev Cells := Nat → Nat → Option Value
def bytesL (s : ByteArray) : List Nat := s.data.toList.map (·.toNat)
def FEq (n m : Nat) : Prop := n = m ∨ (isNan n = true ∧ isNan m = true)
def FB (n m : Nat) : Prop := FEq n m ∧ n < 18446744073709551616
def AggOk (P : Program) (t : Nat) (v : Value) : Prop :=
  match P.underlying t with
  | some (.struct _) | some (.array _ _) => ∃ cs, v = .agg cs
  | _ => ∀ cs, v ≠ .agg cs
inductive RF (P : Program) (S : Cells) : Nat → D → List Value → Prop where
  | b {t x} : P.underlying t = some .bool → RF P S t (.b x) [.bool x]
  | i {t k n} : P.underlying t = some (.int k) → k.min ≤ n ∧ n ≤ k.max → RF P S t (.i n) [.int k n]
  | f {t n m} : P.underlying t = some (.float .f64) → FB n m → RF P S t (.f n) [.float .f64 m]
  | s {t bs} : P.underlying t = some .string → bs.size ≤ maxLen → RF P S t (.s (bytesL bs)) [.string bs]
  | nils {t e d} : P.underlying t = some (.slice e) → d = .sz [] ∨ d = .sq [] → RF P S t d [.slice none 0 0]
  | slc {t e d xs} {a : Addr} {cap} : P.underlying t = some (.slice e) → (d = .sl xs ∨ (d = .sz xs ∧ xs ≠ []) ∨ d = .sq xs) → xs.length ≤ cap ∧ xs.length ≤ maxLen → (0 < xs.length → a.spot = none) → (cs : Nat → List Value) →
      (∀ i (h : i < xs.length), RF P S e xs[i] (cs i)) → (∀ i, i < xs.length → (cs i).length = P.cellsOf e) →
      (∀ i, i < xs.length → ∀ j v, (cs i)[j]? = some v → S a.block (a.off + (i * P.cellsOf e + j)) = some v) → RF P S t d [.slice (some a) xs.length cap]
  | st {t fs ds cs} : P.underlying t = some (.struct fs) → ds.length = fs.size → cs.length = P.cellsOf t →
      (∀ k (h : k < ds.length) (h' : k < fs.size), RF P S fs[k].type ds[k] ((cs.drop fs[k].offset).take (P.cellsOf fs[k].type))) → (∀ v ∈ cs, v.oneCell' = true) → RF P S t (.ag ds) cs
  | ar {t n e ds cs} : P.underlying t = some (.array n e) → ds.length = n → cs.length = P.cellsOf t →
      (∀ k (h : k < ds.length), RF P S e ds[k] ((cs.drop (k * P.cellsOf e)).take (P.cellsOf e))) → (∀ v ∈ cs, v.oneCell' = true) → RF P S t (.ag ds) cs
  | pn {t e} : P.underlying t = some (.pointer e) → RF P S t .nil [.pointer none]
  | p {t e d cs b o} : P.underlying t = some (.pointer e) → RF P S e d cs → cs.length = P.cellsOf e → (∀ j v, cs[j]? = some v → S b (o + j) = some v) → RF P S t (.p d) [.pointer (some ⟨b, o, none⟩)]
  | ifn {t ms} : P.underlying t = some (.interface ms) → RF P S t .nil [.nilIface]
  | ifc {t ms u d v} : P.underlying t = some (.interface ms) → RF P S u d v.cells.toList → AggOk P u v → RF P S t (.ifc u d) [.iface u v]
  | fnn {t ps rs vr} : P.underlying t = some (.func ps rs vr) → RF P S t .nil [.nilFunc]
def Sub (S S' : Cells) : Prop := ∀ b o v, S b o = some v → S' b o = some v
theorem Sub.refl (S : Cells) : Sub S S := fun _ _ _ h => h
theorem Sub.trans {S S' S'' : Cells} (h : Sub S S') (h' : Sub S' S'') : Sub S S'' := fun b o v k => h' b o v (h b o v k)
theorem RF.mono {P : Program} {S S' : Cells} (hs : Sub S S') {t : Nat} {d : D} {cs : List Value} (h : RF P S t d cs) : RF P S' t d cs := by
  induction h with
  | b h => exact .b h
  | i h h' => exact .i h h'
  | f h h' => exact .f h h'
  | s h h' => exact .s h h'
  | nils h h' => exact .nils h h'
  | slc h h1 h2 h3 cs _ h5 h6 ih => exact .slc h h1 h2 h3 cs ih h5 fun i hi j v hv => hs _ _ _ (h6 i hi j v hv)
  | st h h1 h2 _ h4 ih => exact .st h h1 h2 ih h4
  | ar h h1 h2 _ h4 ih => exact .ar h h1 h2 ih h4
  | pn h => exact .pn h
  | p h _ h2 h3 ih => exact .p h ih h2 fun j v hv => hs _ _ _ (h3 j v hv)
  | ifn h => exact .ifn h
  | ifc h _ h2 ih => exact .ifc h ih h2
  | fnn h => exact .fnn h
theorem RF.one {P : Program} {S : Cells} {t : Nat} {d : D} {cs : List Value} (h : RF P S t d cs) : ∀ v ∈ cs, v.oneCell' = true := by
  cases h <;> first | assumption | simp [Value.oneCell']
section
variable {P : Program} {S : Cells} {t : Nat} {d : D} {cs : List Value}
theorem RF.bool (hu : P.underlying t = some .bool) (h : RF P S t d cs) : ∃ x, d = .b x ∧ cs = [.bool x] := by
  cases h <;> simp_all
theorem RF.int {k : IntKind} (hu : P.underlying t = some (.int k)) (h : RF P S t d cs) : ∃ n, d = .i n ∧ cs = [.int k n] ∧ k.min ≤ n ∧ n ≤ k.max := by
  cases h <;> simp_all
theorem RF.float (hu : P.underlying t = some (.float .f64)) (h : RF P S t d cs) : ∃ n m, d = .f n ∧ cs = [.float .f64 m] ∧ FB n m := by
  cases h <;> simp_all
theorem RF.str (hu : P.underlying t = some .string) (h : RF P S t d cs) : ∃ bs, d = .s (bytesL bs) ∧ cs = [.string bs] ∧ bs.size ≤ maxLen := by
  cases h <;> first | exact ⟨_, rfl, rfl, ‹_›⟩ | simp_all
theorem RF.strct {fs : Array Field} (hu : P.underlying t = some (.struct fs)) (h : RF P S t d cs) :
    ∃ ds, d = .ag ds ∧ ds.length = fs.size ∧ cs.length = P.cellsOf t ∧ ∀ k (h : k < ds.length) (h' : k < fs.size), RF P S fs[k].type ds[k] ((cs.drop fs[k].offset).take (P.cellsOf fs[k].type)) := by
  cases h <;> simp_all
theorem RF.arr {n e : Nat} (hu : P.underlying t = some (.array n e)) (h : RF P S t d cs) :
    ∃ ds, d = .ag ds ∧ ds.length = n ∧ cs.length = P.cellsOf t ∧ ∀ k (h : k < ds.length), RF P S e ds[k] ((cs.drop (k * P.cellsOf e)).take (P.cellsOf e)) := by
  cases h with
  | ar h1 h2 h3 h4 h5 => rw [hu] at h1; injection h1 with h1; injection h1 with h1 h1'; subst h1; subst h1'; exact ⟨_, rfl, h2, h3, h4⟩
  | _ => simp_all
def SlAt (P : Program) (S : Cells) (e : Nat) (a : Addr) (xs : List D) : Prop :=
  (0 < xs.length → a.spot = none) ∧ ∃ cs : Nat → List Value, (∀ i (h : i < xs.length), RF P S e xs[i] (cs i)) ∧ (∀ i, i < xs.length → (cs i).length = P.cellsOf e) ∧
      (∀ i, i < xs.length → ∀ j v, (cs i)[j]? = some v → S a.block (a.off + (i * P.cellsOf e + j)) = some v)
def IsSl (d : D) (xs : List D) : Prop := d = .sl xs ∨ d = .sz xs ∨ d = .sq xs
theorem IsSl.toL {d : D} {xs : List D} (h : IsSl d xs) : d.toL = xs := by rcases h with rfl | rfl | rfl <;> rfl
theorem RF.slice {e : Nat} (hu : P.underlying t = some (.slice e)) (h : RF P S t d cs) :
    ∃ xs, IsSl d xs ∧ ((xs = [] ∧ (d = .sz [] ∨ d = .sq []) ∧ cs = [.slice none 0 0]) ∨ ∃ a cap, (d = .sl xs ∨ (d = .sz xs ∧ xs ≠ []) ∨ d = .sq xs) ∧ cs = [.slice (some a) xs.length cap] ∧ (xs.length ≤ cap ∧ xs.length ≤ maxLen) ∧ SlAt P S e a xs) := by
  cases h with
  | nils h1 h2 => exact ⟨[], by rcases h2 with rfl | rfl <;> simp [IsSl], .inl ⟨rfl, h2, rfl⟩⟩
  | slc h1 h2 h3 h4 f h5 h6 h7 =>
    rw [hu] at h1; injection h1 with h1; injection h1 with h1; subst h1
    refine ⟨_, ?_, .inr ⟨_, _, h2, rfl, h3, h4, f, h5, h6, h7⟩⟩
    rcases h2 with h2 | h2 | h2 <;> simp [IsSl, h2]
  | _ => simp_all
def RP (P : Program) (S : Cells) (e : Nat) (d : D) (v : Value) : Prop :=
  (d = .nil ∧ v = .pointer none) ∨ ∃ d' cs b o, d = .p d' ∧ v = .pointer (some ⟨b, o, none⟩) ∧ RF P S e d' cs ∧ cs.length = P.cellsOf e ∧ ∀ j u, cs[j]? = some u → S b (o + j) = some u
theorem RF.ptr {e : Nat} (hu : P.underlying t = some (.pointer e)) (h : RF P S t d cs) : ∃ v, cs = [v] ∧ RP P S e d v := by
  cases h with
  | pn h => exact ⟨_, rfl, .inl ⟨rfl, rfl⟩⟩
  | p h1 h2 h3 h4 =>
    rw [hu] at h1; injection h1 with h1; injection h1 with h1; subst h1
    exact ⟨_, rfl, .inr ⟨_, _, _, _, rfl, rfl, h2, h3, h4⟩⟩
  | _ => simp_all
theorem RP.rf {e : Nat} {v : Value} (hu : P.underlying t = some (.pointer e)) (h : RP P S e d v) : RF P S t d [v] := by
  rcases h with ⟨rfl, rfl⟩ | ⟨d', cs, b, o, rfl, rfl, h1, h2, h3⟩
  · exact .pn hu
  · exact .p hu h1 h2 h3
theorem RP.mono {S' : Cells} (hs : Sub S S') {e : Nat} {v : Value} (h : RP P S e d v) : RP P S' e d v := by
  rcases h with ⟨rfl, rfl⟩ | ⟨d', cs, b, o, rfl, rfl, h1, h2, h3⟩
  · exact .inl ⟨rfl, rfl⟩
  · exact .inr ⟨d', cs, b, o, rfl, rfl, h1.mono hs, h2, fun j u hu => hs _ _ _ (h3 j u hu)⟩
theorem RF.iface {ms : Array (String × TypeId)} (hu : P.underlying t = some (.interface ms)) (h : RF P S t d cs) :
    (d = .nil ∧ cs = [.nilIface]) ∨ ∃ u d' v, d = .ifc u d' ∧ cs = [.iface u v] ∧ RF P S u d' v.cells.toList ∧ AggOk P u v := by
  cases h with
  | ifn h => exact .inl ⟨rfl, rfl⟩
  | ifc h1 h2 h3 => exact .inr ⟨_, _, _, rfl, rfl, h2, h3⟩
  | _ => simp_all
end
def asP (P : Program) : Ty → Option Nat
  | .p e => some e
  | .v t => match P.underlying t with
    | some (.pointer e) => some e
    | _ => none
  | _ => none
def RT (P : Program) (S : Cells) (τ : Ty) (d : D) (v : Value) : Prop :=
  match τ with
  | .v t => RF P S t d v.cells.toList ∧ AggOk P t v
  | .p e => RP P S e d v
  | _ => False
theorem RT.mono {P : Program} {S S' : Cells} (hs : Sub S S') {τ : Ty} {d : D} {v : Value} (h : RT P S τ d v) : RT P S' τ d v := by
  cases τ <;> simp only [RT] at * <;> first | exact ⟨h.1.mono hs, h.2⟩ | exact h.mono hs
inductive Own where
  | slot (n : Nat)
  | site (s : Nat)
  | ret
  | sub (o : Own) (k : Nat)
  deriving DecidableEq
def Own.root : Own → Own
  | .sub o _ => o.root
  | o => o
structure G where
  S : Cells
  rho : Nat → Option Nat
  kap : Nat → Option Own
  cp : Nat → Nat
def G.loc (g : G) (s : Nat) : Option Nat × Nat := (g.rho s, g.cp s)
theorem loc_eq {g g' : G} {s : Nat} (h1 : g'.rho s = g.rho s) (h2 : g'.cp s = g.cp s) : g'.loc s = g.loc s := by unfold G.loc; rw [h1, h2]
theorem loc_rho {g g' : G} {s : Nat} (h : g'.loc s = g.loc s) : g'.rho s = g.rho s := congrArg Prod.fst h
theorem loc_cp {g g' : G} {s : Nat} (h : g'.loc s = g.loc s) : g'.cp s = g.cp s := congrArg Prod.snd h
structure Ctx where
  P : Program
  Φ : Tab
  bt : Nat → Option BTy
  base : Nat
  nin : Nat
def fldGood (P : Program) (t : Nat) (fs : Array Field) (k : Nat) (f : Field) : Bool :=
  decide (f.offset + P.cellsOf f.type ≤ P.cellsOf t) && (List.range fs.size).all fun j => j == k || (match fs[j]? with | some h => decide (h.offset + P.cellsOf h.type ≤ f.offset) || decide (f.offset + P.cellsOf f.type ≤ h.offset) | none => true)
def pathT (P : Program) : List Nat → Nat → Option (Nat × Nat)
  | [], t => some (t, 0)
  | k :: r, t =>
    match P.underlying t with
    | some (.struct fs) => (match fs[k]? with | some f => (if fldGood P t fs k f = true then (pathT P r f.type).map fun q => (q.1, f.offset + q.2) else none) | none => none)
    | some (.array n e) => if k < n ∧ n * P.cellsOf e ≤ P.cellsOf t then (pathT P r e).map fun q => (q.1, k * P.cellsOf e + q.2) else none
    | _ => none
def pathB (P : Program) (b : BTy) (n : Nat) (p : List Nat) : Option (Nat × Nat) :=
  match b, p with
  | .var t, p => pathT P p t
  | .arr e, k :: r => if k < n then (pathT P r e).map fun q => (q.1, k * P.cellsOf e + q.2) else none
  | .arr _, [] => none
def OwnS (C : Ctx) (g : G) (w : World) (X : Own) (e : Nat) (nn : Bool) (xs : List D) (v : Value) (fz : Bool) : Prop :=
  (nn = false ∧ xs = [] ∧ v = .slice none 0 0) ∨
  ∃ r cap c e', v = .slice (some ⟨r, 0, none⟩) xs.length cap ∧ (nn = true ∨ xs ≠ []) ∧ C.base ≤ r ∧ g.kap r = some X ∧ w.heap[r]? = some (.cells c e' (0, 0)) ∧ c.size = cap * C.P.cellsOf e ∧
    xs.length ≤ cap ∧ cap ≤ maxLen ∧ (∀ i (h : i < xs.length), RF C.P g.S e xs[i] ((c.toList.drop (i * C.P.cellsOf e)).take (C.P.cellsOf e))) ∧
    (if fz then (∀ j, j < xs.length * C.P.cellsOf e → g.S r j = c[j]?) ∧ ∀ j, xs.length * C.P.cellsOf e ≤ j → g.S r j = none else ∀ j, g.S r j = none)
mutual
def RV (C : Ctx) (g : G) (H : List V) (w : World) (X : Own) (τ : Ty) : V → Value → Prop
  | .f d, v => RT C.P g.S τ d v
  | .o nn xs, v => ∃ t e, τ = .v t ∧ C.P.underlying t = some (.slice e) ∧ OwnS C g w X e nn xs v true
  | .w nn xs, v => ∃ t e, τ = .v t ∧ C.P.underlying t = some (.slice e) ∧ OwnS C g w X e nn xs v false
  | .c xs, v => ∃ t a, τ = .v t ∧ v = .slice a xs.length xs.length ∧ RF C.P g.S t (.sq xs) [v]
  | .a, v => ∃ e r c e', asP C.P τ = some e ∧ v = .pointer (some ⟨r, 0, none⟩) ∧ C.base ≤ r ∧ g.kap r = some X ∧ w.heap[r]? = some (.cells c e' (0, 0)) ∧ c.size = C.P.cellsOf e ∧ ∀ j, g.S r j = none
  | .m s p, v => ∃ e off b r, asP C.P τ = some e ∧ C.bt s = some b ∧ g.rho s = some r ∧ pathB C.P b (blen (getB H s)) p = some (e, off) ∧ v = .pointer (some ⟨r, off, none⟩) ∧ getB H s ≠ .u
  | .ms s nn, v => ∃ t e, τ = .v t ∧ C.P.underlying t = some (.slice e) ∧ C.bt s = some (.arr e) ∧ getB H s ≠ .u ∧
      ((blen (getB H s) = 0 ∧ ∃ a : Option Addr, v = .slice a 0 0 ∧ (nn = false → a = none)) ∨ ∃ r, (nn = true ∨ blen (getB H s) ≠ 0) ∧ g.rho s = some r ∧ v = .slice (some ⟨r, 0, none⟩) (blen (getB H s)) (g.cp s) ∧ (blen (getB H s) ≤ g.cp s ∧ blen (getB H s) ≤ maxLen))
  | .t vs, v => ∃ ts arr, τ = .tup ts ∧ v = .tuple arr ∧ ts.length = vs.length ∧ arr.size = vs.length ∧ RVs C g H w X 0 ts vs arr.toList
  | .fn h caps tys, v => ∃ vf arr, C.Φ h = some vf ∧ v = .func (.func vf.fid) #[] arr ∧ tys.length = caps.length ∧ arr.size = caps.length ∧ RVs C g H w X 0 tys caps arr.toList
  | .n, v => v = undef
  | .u, _ => True
def RVs (C : Ctx) (g : G) (H : List V) (w : World) (X : Own) (k : Nat) : List Ty → List V → List Value → Prop
  | τ :: ts, x :: xs, v :: vs => RV C g H w (.sub X k) τ x v ∧ RVs C g H w X (k + 1) ts xs vs
  | _, [], _ => True
  | _, _, _ => False
end
structure Keeps (C : Ctx) (g : G) (H : List V) (w : World) (g' : G) (H' : List V) (w' : World) (Z : Own → Prop) : Prop where
  S : Sub g.S g'.S
  own : ∀ r X, g.kap r = some X → ¬ Z X.root → r < w.heap.size → g'.kap r = some X ∧ w'.heap[r]? = w.heap[r]? ∧ ∀ o, g'.S r o = g.S r o
  blk : ∀ s, getB H s ≠ .u → getB H' s ≠ .u ∧ (∀ e, C.bt s = some (.arr e) → blen (getB H' s) = blen (getB H s)) ∧ g'.loc s = g.loc s
theorem Keeps.refl (C : Ctx) (g : G) (H : List V) (w : World) (Z : Own → Prop) : Keeps C g H w g H w Z := ⟨Sub.refl _, fun _ _ h _ _ => ⟨h, rfl, fun _ => rfl⟩, fun _ h => ⟨h, fun _ _ => rfl, rfl⟩⟩
theorem OwnS.keeps {C : Ctx} {g g' : G} {H H' : List V} {w w' : World} {Z : Own → Prop} (k : Keeps C g H w g' H' w' Z) {X : Own} (hX : ¬ Z X.root) {e : Nat} {nn : Bool} {xs : List D} {v : Value} {fz : Bool}
    (h : OwnS C g w X e nn xs v fz) : OwnS C g' w' X e nn xs v fz := by
  rcases h with h | ⟨r, cap, c, e', h1, h2, h3, h4, h5, h6, h7, h8, h9, h10⟩
  · exact .inl h
  · obtain ⟨k1, k2, k3⟩ := k.own r X h4 hX (Array.getElem?_eq_some_iff.1 h5).1
    refine .inr ⟨r, cap, c, e', h1, h2, h3, k1, k2.trans h5, h6, h7, h8, fun i hi => (h9 i hi).mono k.S, ?_⟩
    cases fz
    · simpa [k3] using h10
    · simpa [k3] using h10
mutual
theorem RV.keeps {C : Ctx} {g g' : G} {H H' : List V} {w w' : World} {Z : Own → Prop} (k : Keeps C g H w g' H' w' Z) : ∀ (x : V) {X : Own} (_ : ¬ Z X.root) {τ : Ty} {v : Value}, RV C g H w X τ x v → RV C g' H' w' X τ x v
  | .f d, X, _, τ, v, h => by simp only [RV] at *; exact h.mono k.S
  | .o nn xs, X, hX, τ, v, h => by simp only [RV] at *; obtain ⟨t, e, h1, h2, h3⟩ := h; exact ⟨t, e, h1, h2, h3.keeps k hX⟩
  | .w nn xs, X, hX, τ, v, h => by simp only [RV] at *; obtain ⟨t, e, h1, h2, h3⟩ := h; exact ⟨t, e, h1, h2, h3.keeps k hX⟩
  | .c xs, X, _, τ, v, h => by simp only [RV] at *; obtain ⟨t, a, h1, h2, h3⟩ := h; exact ⟨t, a, h1, h2, h3.mono k.S⟩
  | .a, X, hX, τ, v, h => by
    simp only [RV] at *
    obtain ⟨e, r, c, e', h1, h2, h3, h4, h5, h6, h7⟩ := h
    obtain ⟨k1, k2, k3⟩ := k.own r X h4 hX (Array.getElem?_eq_some_iff.1 h5).1
    exact ⟨e, r, c, e', h1, h2, h3, k1, k2.trans h5, h6, fun j => (k3 j).trans (h7 j)⟩
  | .m s p, X, _, τ, v, h => by
    simp only [RV] at *
    obtain ⟨e, off, b, r, h1, h2, h3, h4, h5, h6⟩ := h
    obtain ⟨k1, k2, k3⟩ := k.blk s h6
    exact ⟨e, off, b, r, h1, h2, (loc_rho k3).trans h3, by cases b with
      | var t => exact h4
      | arr e' => rw [k2 e' h2]; exact h4, h5, k1⟩
  | .ms s nn, X, _, τ, v, h => by
    simp only [RV] at *
    obtain ⟨t, e, h1, h2, h3, h4, h5⟩ := h
    obtain ⟨k1, k2, k3⟩ := k.blk s h4
    exact ⟨t, e, h1, h2, h3, k1, by rw [k2 e h3, loc_rho k3, loc_cp k3]; exact h5⟩
  | .t vs, X, hX, τ, v, h => by
    simp only [RV] at *
    obtain ⟨ts, arr, h1, h2, h3, h4, h5⟩ := h
    exact ⟨ts, arr, h1, h2, h3, h4, RVs.keeps k vs hX h5⟩
  | .fn _ caps _, X, hX, τ, v, h => by
    simp only [RV] at *
    obtain ⟨vf, arr, h1, h2, h3, h4, h5⟩ := h
    exact ⟨vf, arr, h1, h2, h3, h4, RVs.keeps k caps hX h5⟩
  | .n, X, _, τ, v, h => by simp only [RV] at *; exact h
  | .u, X, _, τ, v, h => by simp only [RV] at *
theorem RVs.keeps {C : Ctx} {g g' : G} {H H' : List V} {w w' : World} {Z : Own → Prop} (k : Keeps C g H w g' H' w' Z) : ∀ (xs : List V) {X : Own} (_ : ¬ Z X.root) {n : Nat} {ts : List Ty} {vs : List Value}, RVs C g H w X n ts xs vs → RVs C g' H' w' X n ts xs vs
  | [], X, _, n, ts, vs, h => by cases ts <;> cases vs <;> simp_all [RVs]
  | x :: xs, X, hX, n, [], vs, h => by simp [RVs] at h
  | x :: xs, X, hX, n, τ :: ts, [], h => by simp [RVs] at h
  | x :: xs, X, hX, n, τ :: ts, v :: vs, h => by simp only [RVs] at *; exact ⟨RV.keeps k x (by simpa [Own.root] using hX) h.1, RVs.keeps k xs hX h.2⟩
end
mutual
def RC (C : Ctx) (g : G) (w : World) (X : Own) (t : Nat) : V → List Value → Prop
  | .f d, cs => RF C.P g.S t d cs
  | .o nn xs, cs => ∃ e v, cs = [v] ∧ C.P.underlying t = some (.slice e) ∧ OwnS C g w X e nn xs v true
  | .w nn xs, cs => ∃ e v, cs = [v] ∧ C.P.underlying t = some (.slice e) ∧ OwnS C g w X e nn xs v false
  | .t vs, cs => ∃ fs, C.P.underlying t = some (.struct fs) ∧ vs.length = fs.size ∧ cs.length = C.P.cellsOf t ∧ (∀ v ∈ cs, v.oneCell' = true) ∧ RCs C g w X 0 fs.toList vs cs
  | .n, _ => True
  | _, _ => False
def RCs (C : Ctx) (g : G) (w : World) (X : Own) (k : Nat) : List Field → List V → List Value → Prop
  | f :: fs, x :: xs, cs => RC C g w (.sub X k) f.type x ((cs.drop f.offset).take (C.P.cellsOf f.type)) ∧ RCs C g w X (k + 1) fs xs cs
  | [], [], _ => True
  | _, _, _ => False
end
mutual
theorem RC.keeps {C : Ctx} {g g' : G} {H H' : List V} {w w' : World} {Z : Own → Prop} (k : Keeps C g H w g' H' w' Z) : ∀ (x : V) {X : Own} (_ : ¬ Z X.root) {t : Nat} {cs : List Value}, RC C g w X t x cs → RC C g' w' X t x cs
  | .f d, X, _, t, cs, h => by simp only [RC] at *; exact h.mono k.S
  | .o nn xs, X, hX, t, cs, h => by simp only [RC] at *; obtain ⟨e, v, h1, h2, h3⟩ := h; exact ⟨e, v, h1, h2, h3.keeps k hX⟩
  | .w nn xs, X, hX, t, cs, h => by simp only [RC] at *; obtain ⟨e, v, h1, h2, h3⟩ := h; exact ⟨e, v, h1, h2, h3.keeps k hX⟩
  | .t vs, X, hX, t, cs, h => by simp only [RC] at *; obtain ⟨fs, h1, h2, h3, h5, h4⟩ := h; exact ⟨fs, h1, h2, h3, h5, RCs.keeps k vs hX h4⟩
  | .c _, X, _, t, cs, h => by simp [RC] at h
  | .a, X, _, t, cs, h => by simp [RC] at h
  | .m _ _, X, _, t, cs, h => by simp [RC] at h
  | .ms _ _, X, _, t, cs, h => by simp [RC] at h
  | .fn _ _ _, X, _, t, cs, h => by simp [RC] at h
  | .n, X, _, t, cs, h => by simp only [RC]
  | .u, X, _, t, cs, h => by simp [RC] at h
theorem RCs.keeps {C : Ctx} {g g' : G} {H H' : List V} {w w' : World} {Z : Own → Prop} (k : Keeps C g H w g' H' w' Z) : ∀ (xs : List V) {X : Own} (_ : ¬ Z X.root) {n : Nat} {fs : List Field} {cs : List Value}, RCs C g w X n fs xs cs → RCs C g' w' X n fs xs cs
  | [], X, _, n, fs, cs, h => by cases fs <;> simp_all [RCs]
  | x :: xs, X, hX, n, [], cs, h => by simp [RCs] at h
  | x :: xs, X, hX, n, f :: fs, cs, h => by simp only [RCs] at *; exact ⟨RC.keeps k x (by simpa [Own.root] using hX) h.1, RCs.keeps k xs hX h.2⟩
end
def RB (C : Ctx) (g : G) (w : World) (s : Nat) (x : V) : Prop :=
  match C.bt s with
  | some (.var t) => ∃ r c t', g.rho s = some r ∧ g.kap r = some (.site s) ∧ w.heap[r]? = some (.cells c t' (0, 0)) ∧ c.size = C.P.cellsOf t ∧ (∀ j, g.S r j = none) ∧ RC C g w (.sub (.site s) 0) t x c.toList
  | some (.arr e) => ∃ d, x = .f d ∧ ((g.rho s = none ∧ d.toL = []) ∨ ∃ r c t', g.rho s = some r ∧ g.kap r = some (.site s) ∧ w.heap[r]? = some (.cells c t' (0, 0)) ∧ (c.size = g.cp s * C.P.cellsOf e ∧ d.toL.length ≤ g.cp s ∧ g.cp s ≤ maxLen) ∧ (∀ j, g.S r j = none) ∧
      ∀ i (h : i < d.toL.length), RF C.P g.S e d.toL[i] ((c.toList.drop (i * C.P.cellsOf e)).take (C.P.cellsOf e)))
  | none => False
theorem RB.keeps {C : Ctx} {g g' : G} {H H' : List V} {w w' : World} {Z : Own → Prop} (k : Keeps C g H w g' H' w' Z) {s : Nat} (hs : ¬ Z (.site s)) (hr' : g'.loc s = g.loc s) {x : V} (h : RB C g w s x) : RB C g' w' s x := by
  have hr := loc_rho hr'
  have hcp := loc_cp hr'
  unfold RB at *
  split at h
  · obtain ⟨r, c, t', h1, h2, h3, h4, h5, h6⟩ := h
    obtain ⟨k1, k2, k3⟩ := k.own r _ h2 (by simpa [Own.root] using hs) (Array.getElem?_eq_some_iff.1 h3).1
    exact ⟨r, c, t', hr.trans h1, k1, k2.trans h3, h4, fun j => (k3 j).trans (h5 j), RC.keeps k x (by simpa [Own.root] using hs) h6⟩
  · obtain ⟨d, rfl, h⟩ := h
    refine ⟨d, rfl, ?_⟩
    rcases h with ⟨h1, h2⟩ | ⟨r, c, t', h1, h2, h3, h4, h5, h6⟩
    · exact .inl ⟨hr.trans h1, h2⟩
    · obtain ⟨k1, k2, k3⟩ := k.own r _ h2 (by simpa [Own.root] using hs) (Array.getElem?_eq_some_iff.1 h3).1
      exact .inr ⟨r, c, t', hr.trans h1, k1, k2.trans h3, by rw [hcp]; exact h4, fun j => (k3 j).trans (h5 j), fun i hi => (h6 i hi).mono k.S⟩
  · exact h.elim
structure Frm (C : Ctx) (g0 : G) (w0 w : World) : Prop where
  os : w.os = w0.os
  tape : w.tape = w0.tape
  output : w.output = w0.output
  size : w0.heap.size ≤ w.heap.size
  old : ∀ r, r < C.base → g0.kap r = none → w.heap[r]? = w0.heap[r]?
structure Inv (C : Ctx) (Γ : List Ty) (g0 : G) (w0 : World) (g : G) (st : St) (a : Act) (w : World) : Prop where
  len : a.tmps.size = st.sl.length
  glen : Γ.length = st.sl.length
  slots : ∀ n (h : n < st.sl.length) (h' : n < Γ.length), RV C g st.H w (.slot n) Γ[n] st.sl[n] (a.tmps.getD n undef)
  blocks : ∀ s, getB st.H s ≠ .u → RB C g w s (getB st.H s)
  cells : ∀ b o v, g.S b o = some v → w.cell? ⟨b, o, none⟩ = some v
  defers : a.defers = []
  frm : Frm C g0 w0 w
  kap : ∀ r, r < C.base → g.kap r = g0.kap r
  sold : ∀ r o, r < C.base → g.S r o = g0.S r o
  ext : Sub g0.S g.S
  base : C.base ≤ w.heap.size
  ent : ∀ r X, r < C.base → g0.kap r = some X → ∃ k, X = .site k ∧ k < C.nin
  rho : ∀ s, s < C.nin → g.loc s = g0.loc s
end Go.Vam
