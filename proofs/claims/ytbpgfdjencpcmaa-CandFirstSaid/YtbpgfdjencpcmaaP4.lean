/- Chapter 20: what functions come to, part 4. No conditions. -/
import Derived.Test.YtbpgfdjencpcmaaP3
import Derived.KernelRfl
set_option linter.unusedVariables false
set_option maxRecDepth 100000
namespace Go.Vam.C20
open Go.Proofs
/-! ### The signs -/
theorem sp34_any (s v : D) : sp34 s v = s.toL.any fun x => eqL v.toS x.toS := fst_any0 (fun x => eqL v.toS x.toS) s.toL
theorem sgn_eq : sp34 (.sl [.s [61]]) = sgn true := by
  funext v
  rw [sp34_any]
  show (eqL v.toS [61] || false) = _
  unfold sgn
  cases eqL v.toS [61] <;> rfl
theorem sgn_rg : sp34 (.sl [.s [60], .s [60, 61], .s [62], .s [62, 61]]) = sgn false := by
  funext v
  rw [sp34_any]
  show (eqL v.toS [60] || (eqL v.toS [60, 61] || (eqL v.toS [62] || (eqL v.toS [62, 61] || false)))) = _
  unfold sgn
  cases eqL v.toS [61] <;> cases eqL v.toS [60] <;> cases eqL v.toS [60, 61] <;> cases eqL v.toS [62] <;> cases eqL v.toS [62, 61] <;> rfl
theorem addS_len (l t : D) (xs : List D) : (addS l t xs).toL.length ≤ l.toL.length + 1 := by
  unfold addS
  cases (xs.take 3).isEmpty || l.toL.any (fun d => eqb (d.at 0).toI t.toI && sp40 (d.at 1) (.sl (xs.take 3)))
  · simp [D.toL]
  · simp
/-! ### The indexes that might help a query -/
/-- The columns of the order, if all are a table's. -/
def byL (q : D) (f : Int) : List D := bif sp20 q && !(q.at 7).toL.any sp22 then (runO (plcO q f) ((q.at 7).toL.map fun x => x.at 0) []).getD [] else []
def of2 (t : D) (eq : List D) (o c : D) : D := addS o t (add1 (eq.take 2) c)
def of3 (t o c : D) : D := addS o t [c]
def ofT (q t : D) (f : Int) (o : D) : D :=
  let eq := heldL q f (sgn true)
  let rg := heldL q f (sgn false)
  let o3 := (uni eq rg).foldl (of3 t) (rg.foldl (of2 t eq) (addS o t eq))
  bif ltb 0 ((byL q f).length : Int) then addS (addS o3 t (byL q f)) t (uni eq (byL q f)) else addS o3 t (byL q f)
theorem fold_len {g : D → D → D} (h : ∀ o c, (g o c).toL.length ≤ o.toL.length + 1) : ∀ (l : List D) (o : D), (l.foldl g o).toL.length ≤ o.toL.length + l.length
  | [], o => by simp
  | x :: l, o => by
    have h1 := fold_len h l (g o x)
    have h2 := h o x
    rw [List.foldl_cons, List.length_cons]; omega
theorem plcO_len {q : D} {f : Int} : ∀ (l s r : List D), runO (plcO q f) l s = some r → r.length ≤ s.length + l.length
  | [], s, r, h => by injection h with h; subst h; simp
  | a :: l, s, r, h => by
    rw [runO] at h
    unfold plcO at h
    cases hq : eqb (sp43 q a) f
    · rw [hq] at h; cases h
    · rw [hq] at h
      have h1 := plcO_len l _ r h
      have h2 := add1_len s (colOf q a f)
      rw [List.length_cons]; omega
theorem byL_len (q : D) (f : Int) : (byL q f).length ≤ (q.at 7).toL.length := by
  unfold byL
  cases sp20 q && !(q.at 7).toL.any sp22
  · simp
  · simp only [cond_true]
    cases h : runO (plcO q f) ((q.at 7).toL.map fun x => x.at 0) [] with
    | none => simp
    | some r => have := plcO_len _ _ _ h; simpa using this
theorem ofT_len (q t : D) (f : Int) (o : D) (hw : (q.at 3).toL.length ≤ 1024) : (ofT q t f o).toL.length ≤ o.toL.length + 8192 := by
  have h1 := heldL_len q f (sgn true)
  have h2 := heldL_len q f (sgn false)
  have h3 := uni_len (heldL q f (sgn false)) (heldL q f (sgn true))
  have a1 := addS_len o t (heldL q f (sgn true))
  have a2 := fold_len (g := of2 t (heldL q f (sgn true))) (fun o c => addS_len _ _ _) (heldL q f (sgn false)) (addS o t (heldL q f (sgn true)))
  have a3 := fold_len (g := of3 t) (fun o c => addS_len _ _ _) (uni (heldL q f (sgn true)) (heldL q f (sgn false))) ((heldL q f (sgn false)).foldl (of2 t (heldL q f (sgn true))) (addS o t (heldL q f (sgn true))))
  unfold ofT
  simp only
  generalize (uni (heldL q f (sgn true)) (heldL q f (sgn false))).foldl (of3 t) _ = o3 at a3 ⊢
  have a4 := addS_len o3 t (byL q f)
  have a5 := addS_len (addS o3 t (byL q f)) t (uni (heldL q f (sgn true)) (byL q f))
  cases ltb 0 ((byL q f).length : Int) <;> simp only [cond_true, cond_false] <;> omega
def nOf (q : D) : Nat := min (q.at 0).toL.length (q.at 1).toL.length
def sp10 (q : D) : D := foldI (fun i o => ofT q ((q.at 0).toL.getD i .nil) (i : Nat) o) (nOf q) 0 (.sz [])
def prOf (q : D) : Bool := leN (q.at 0).toL.length 1024 && (leN (q.at 3).toL.length 1024 && leN (q.at 7).toL.length 1024)
def pr10 (q : D) : Bool := prOf q
section
variable {R : Type}
def m10_1 (N : Nat) (x0 : D) (K : D → Option R) : Option R :=
  K (D.p x0)
def s10_0 (x0 : D) : St := sts 112 [(0, V.f x0)] []
def s10_1 (x1 : D) : St := sts 112 [(1, V.f x1)] []
theorem e10_1 (N : Nat) (k : Kn R) (x0 : D) : runC PHI Tb29 N vc10_1 (s10_0 x0) k = m10_1 N x0 (fun x1 => k .normal (s10_1 x1)) := by
  refine Eq.trans (runC_post _ _ _ k) (Eq.trans (ops_run _ _ _ _) (by kernel_rfl))
def m10_3 (N : Nat) (x1 : D) (K : D → D → Option R) : Option R :=
  K x1 (D.sz [])
def s10_2 (x1 x3 : D) : St := sts 112 [(1, V.f x1), (3, V.f x3)] []
theorem e10_3 (N : Nat) (k : Kn R) (x1 : D) : runC PHI Tb29 N vc10_3 (s10_1 x1) k = m10_3 N x1 (fun x1 x3 => k .normal (s10_2 x1 x3)) := by
  refine Eq.trans (runC_post _ _ _ k) (Eq.trans (ops_run _ _ _ _) (by kernel_rfl))
def m10_6 (N : Nat) (x1 x3 : D) (K : D → D → D → D → D → Option R) : Option R :=
  (bif (isPtrD x1) then K x1 x3 (x1.deref.at 0) (D.i ((x1.deref.at 0).toL.length : Int)) (D.i 0) else none)
def s10_3 (x1 x3 x16 x17 x18 : D) : St := sts 112 [(1, V.f x1), (3, V.f x3), (16, V.f x16), (17, V.f x17), (18, V.f x18)] []
theorem e10_6 (N : Nat) (k : Kn R) (x1 x3 : D) : runC PHI Tb29 N vc10_6 (s10_2 x1 x3) k = m10_6 N x1 x3 (fun x1 x3 x16 x17 x18 => k .normal (s10_3 x1 x3 x16 x17 x18)) := by
  refine Eq.trans (runC_post _ _ _ k) (Eq.trans (ops_run _ _ _ _) (by kernel_rfl))
def m10_10 (N : Nat) (x1 x3 x16 x17 x18 : D) (K : D → D → D → D → D → D → Option R) : Option R :=
  K x1 x3 x16 x17 x18 (D.b (ltb x18.toI x17.toI))
def s10_4 (x1 x3 x16 x17 x18 x19 : D) : St := sts 112 [(1, V.f x1), (3, V.f x3), (16, V.f x16), (17, V.f x17), (18, V.f x18), (19, V.f x19)] []
theorem e10_10 (N : Nat) (k : Kn R) (x1 x3 x16 x17 x18 : D) : runC PHI Tb29 N vc10_10 (s10_3 x1 x3 x16 x17 x18) k = m10_10 N x1 x3 x16 x17 x18 (fun x1 x3 x16 x17 x18 x19 => k .normal (s10_4 x1 x3 x16 x17 x18 x19)) := by
  refine Eq.trans (runC_post _ _ _ k) (Eq.trans (ops_run _ _ _ _) (by kernel_rfl))
def m10_12 (N : Nat) (x1 x3 x16 x17 x18 x19 : D) (K : D → D → D → D → D → Option R) (K0 : D → Option R) : Option R :=
  (bif x19.toB then K x1 x3 x16 x17 x18 else K0 x3)
def s10_5 (x3 : D) : St := sts 112 [(3, V.f x3)] []
theorem e10_12 (N : Nat) (k : Kn R) (x1 x3 x16 x17 x18 x19 : D) : runC PHI Tb29 N vc10_12 (s10_4 x1 x3 x16 x17 x18 x19) k = m10_12 N x1 x3 x16 x17 x18 x19 (fun x1 x3 x16 x17 x18 => k .normal (s10_3 x1 x3 x16 x17 x18)) (fun x3 => k (.exit 0) (s10_5 x3)) := by kernel_rfl
def m10_18 (N : Nat) (x1 x3 x16 x17 x18 : D) (K : D → D → D → D → D → D → D → Option R) : Option R :=
  (bif (inb x18.toI x16.toL.length) then K x1 x3 x18 (x16.at (x18.toI : Int).toNat) x16 x17 x18 else none)
def s10_6 (x1 x3 x4 x5 x16 x17 x18 : D) : St := sts 112 [(1, V.f x1), (3, V.f x3), (4, V.f x4), (5, V.f x5), (16, V.f x16), (17, V.f x17), (18, V.f x18)] []
theorem e10_18 (N : Nat) (k : Kn R) (x1 x3 x16 x17 x18 : D) : runC PHI Tb29 N vc10_18 (s10_3 x1 x3 x16 x17 x18) k = m10_18 N x1 x3 x16 x17 x18 (fun x1 x3 x4 x5 x16 x17 x18 => k .normal (s10_6 x1 x3 x4 x5 x16 x17 x18)) := by
  refine Eq.trans (runC_post _ _ _ k) (Eq.trans (ops_run _ _ _ _) (by kernel_rfl))
def m10_20 (N : Nat) (x1 x3 x4 x5 x16 x17 x18 : D) (K : D → D → D → D → D → D → D → Option R) (K0 : D → Option R) : Option R :=
  (bif (isPtrD x1) then (bif (leb ((x1.deref.at 1).toL.length : Int) x4.toI) then K0 x3 else K x1 x3 x4 x5 x16 x17 x18) else none)
theorem e10_20 (N : Nat) (k : Kn R) (x1 x3 x4 x5 x16 x17 x18 : D) : runC PHI Tb29 N vc10_20 (s10_6 x1 x3 x4 x5 x16 x17 x18) k = m10_20 N x1 x3 x4 x5 x16 x17 x18 (fun x1 x3 x4 x5 x16 x17 x18 => k .normal (s10_6 x1 x3 x4 x5 x16 x17 x18)) (fun x3 => k (.exit 0) (s10_5 x3)) := by kernel_rfl
def m10_26 (N : Nat) (x1 x3 x4 x5 x16 x17 x18 : D) (K : D → D → D → D → D → D → D → D → D → Option R) : Option R :=
  (bif (isPtrD x1) then (bif (pr17 x1.deref x4 (D.sl ([(D.s [61])] : List D))) then (bif (isPtrD x1) then (bif (pr17 x1.deref x4 (D.sl ([(D.s [60]), (D.s [60, 61]), (D.s [62]), (D.s [62, 61])] : List D))) then K x1 x3 x4 x5 (sp17 x1.deref x4 (D.sl ([(D.s [61])] : List D))) (sp17 x1.deref x4 (D.sl ([(D.s [60]), (D.s [60, 61]), (D.s [62]), (D.s [62, 61])] : List D))) x16 x17 x18 else none) else none) else none) else none)
def s10_7 (x1 x3 x4 x5 x6 x7 x16 x17 x18 : D) : St := sts 112 [(1, V.f x1), (3, V.f x3), (4, V.f x4), (5, V.f x5), (6, V.f x6), (7, V.f x7), (16, V.f x16), (17, V.f x17), (18, V.f x18)] []
theorem e10_26 (N : Nat) (k : Kn R) (x1 x3 x4 x5 x16 x17 x18 : D) : runC PHI Tb29 N vc10_26 (s10_6 x1 x3 x4 x5 x16 x17 x18) k = m10_26 N x1 x3 x4 x5 x16 x17 x18 (fun x1 x3 x4 x5 x6 x7 x16 x17 x18 => k .normal (s10_7 x1 x3 x4 x5 x6 x7 x16 x17 x18)) := by
  refine Eq.trans (runC_post _ _ _ k) (Eq.trans (ops_run _ _ _ _) (by kernel_rfl))
def m10_28 (N : Nat) (x1 x3 x4 x5 x6 x7 x16 x17 x18 : D) (K : D → D → D → D → D → D → D → D → D → Option R) : Option R :=
  (bif (pr18 x3 x5 x6) then K x1 (sp18 x3 x5 x6) x4 x5 x6 x7 x16 x17 x18 else none)
theorem e10_28 (N : Nat) (k : Kn R) (x1 x3 x4 x5 x6 x7 x16 x17 x18 : D) : runC PHI Tb29 N vc10_28 (s10_7 x1 x3 x4 x5 x6 x7 x16 x17 x18) k = m10_28 N x1 x3 x4 x5 x6 x7 x16 x17 x18 (fun x1 x3 x4 x5 x6 x7 x16 x17 x18 => k .normal (s10_7 x1 x3 x4 x5 x6 x7 x16 x17 x18)) := by
  refine Eq.trans (runC_post _ _ _ k) (Eq.trans (ops_run _ _ _ _) (by kernel_rfl))
def m10_31 (N : Nat) (x1 x3 x4 x5 x6 x7 x16 x17 x18 : D) (K : D → D → D → D → D → D → D → D → D → D → D → D → Option R) : Option R :=
  K x1 x3 x4 x5 x6 x7 x16 x17 x18 x7 (D.i (x7.toL.length : Int)) (D.i 0)
def s10_8 (x1 x3 x4 x5 x6 x7 x16 x17 x18 x40 x41 x42 : D) : St := sts 112 [(1, V.f x1), (3, V.f x3), (4, V.f x4), (5, V.f x5), (6, V.f x6), (7, V.f x7), (16, V.f x16), (17, V.f x17), (18, V.f x18), (40, V.f x40), (41, V.f x41), (42, V.f x42)] []
theorem e10_31 (N : Nat) (k : Kn R) (x1 x3 x4 x5 x6 x7 x16 x17 x18 : D) : runC PHI Tb29 N vc10_31 (s10_7 x1 x3 x4 x5 x6 x7 x16 x17 x18) k = m10_31 N x1 x3 x4 x5 x6 x7 x16 x17 x18 (fun x1 x3 x4 x5 x6 x7 x16 x17 x18 x40 x41 x42 => k .normal (s10_8 x1 x3 x4 x5 x6 x7 x16 x17 x18 x40 x41 x42)) := by
  refine Eq.trans (runC_post _ _ _ k) (Eq.trans (ops_run _ _ _ _) (by kernel_rfl))
def m10_34 (N : Nat) (x1 x3 x4 x5 x6 x7 x16 x17 x18 x40 x41 x42 : D) (K : D → D → D → D → D → D → D → D → D → D → D → D → Option R) (K2 : D → D → D → D → D → D → D → D → D → Option R) : Option R :=
  (bif (ltb x42.toI x41.toI) then (bif (inb x42.toI x40.toL.length) then (bif (leb 0 0 && leb 0 (mmI false (x6.toL.length : Int) [2]) && leb (mmI false (x6.toL.length : Int) [2]) (x6.toL.length : Int)) then (bif (pr19 (cutD x6 ((mmI false (x6.toL.length : Int) [2]) : Int).toNat (0 : Int).toNat) (D.sl ([(x40.at (x42.toI : Int).toNat)] : List D))) then (bif (pr18 x3 x5 (sp19 (cutD x6 ((mmI false (x6.toL.length : Int) [2]) : Int).toNat (0 : Int).toNat) (D.sl ([(x40.at (x42.toI : Int).toNat)] : List D)))) then K x1 (sp18 x3 x5 (sp19 (cutD x6 ((mmI false (x6.toL.length : Int) [2]) : Int).toNat (0 : Int).toNat) (D.sl ([(x40.at (x42.toI : Int).toNat)] : List D)))) x4 x5 x6 x7 x16 x17 x18 x40 x41 (D.i (IntKind.wrap IntKind.i64 (x42.toI + 1))) else none) else none) else none) else none) else K2 x1 x3 x4 x5 x6 x7 x16 x17 x18)
theorem e10_34 (N : Nat) (k : Kn R) (x1 x3 x4 x5 x6 x7 x16 x17 x18 x40 x41 x42 : D) : runC PHI Tb29 N vc10_34 (s10_8 x1 x3 x4 x5 x6 x7 x16 x17 x18 x40 x41 x42) k = m10_34 N x1 x3 x4 x5 x6 x7 x16 x17 x18 x40 x41 x42 (fun x1 x3 x4 x5 x6 x7 x16 x17 x18 x40 x41 x42 => k .normal (s10_8 x1 x3 x4 x5 x6 x7 x16 x17 x18 x40 x41 x42)) (fun x1 x3 x4 x5 x6 x7 x16 x17 x18 => k (.exit 2) (s10_7 x1 x3 x4 x5 x6 x7 x16 x17 x18)) := by kernel_rfl
def l10_33 (N : Nat) (j : Nat) (x1 x3 x4 x5 x6 x7 x16 x17 x18 x40 x41 x42 : D) (K2 : D → D → D → D → D → D → D → D → D → Option R) : Option R :=
  match j with
  | 0 => none
  | j + 1 => (m10_34 N x1 x3 x4 x5 x6 x7 x16 x17 x18 x40 x41 x42 (fun y1 y3 y4 y5 y6 y7 y16 y17 y18 y40 y41 y42 => l10_33 N j y1 y3 y4 y5 y6 y7 y16 y17 y18 y40 y41 y42 K2) K2)
def m10_33 (N : Nat) (x1 x3 x4 x5 x6 x7 x16 x17 x18 x40 x41 x42 : D) (K2 : D → D → D → D → D → D → D → D → D → Option R) : Option R :=
  l10_33 N N x1 x3 x4 x5 x6 x7 x16 x17 x18 x40 x41 x42 K2
theorem el10_33 (N : Nat) (k : Kn R) : ∀ (j : Nat) (x1 x3 x4 x5 x6 x7 x16 x17 x18 x40 x41 x42 : D), loopGo (runC PHI Tb29 N vc10_34) j (s10_8 x1 x3 x4 x5 x6 x7 x16 x17 x18 x40 x41 x42) k = l10_33 N j x1 x3 x4 x5 x6 x7 x16 x17 x18 x40 x41 x42 (fun x1 x3 x4 x5 x6 x7 x16 x17 x18 => k (.exit 2) (s10_7 x1 x3 x4 x5 x6 x7 x16 x17 x18))
  | 0, _, _, _, _, _, _, _, _, _, _, _, _ => by kernel_rfl
  | j + 1, x1, x3, x4, x5, x6, x7, x16, x17, x18, x40, x41, x42 => by
    have h2 := e10_34 N (kloop PHI Tb29 N vc10_34 j k) x1 x3 x4 x5 x6 x7 x16 x17 x18 x40 x41 x42
    have h3 : (fun (y1 y3 y4 y5 y6 y7 y16 y17 y18 y40 y41 y42 : D) => (kloop PHI Tb29 N vc10_34 j k) .normal (s10_8 y1 y3 y4 y5 y6 y7 y16 y17 y18 y40 y41 y42)) = (fun (y1 y3 y4 y5 y6 y7 y16 y17 y18 y40 y41 y42 : D) => l10_33 N j y1 y3 y4 y5 y6 y7 y16 y17 y18 y40 y41 y42 (fun x1 x3 x4 x5 x6 x7 x16 x17 x18 => k (.exit 2) (s10_7 x1 x3 x4 x5 x6 x7 x16 x17 x18))) := funext fun y1 => funext fun y3 => funext fun y4 => funext fun y5 => funext fun y6 => funext fun y7 => funext fun y16 => funext fun y17 => funext fun y18 => funext fun y40 => funext fun y41 => funext fun y42 => (el10_33 N k j y1 y3 y4 y5 y6 y7 y16 y17 y18 y40 y41 y42)
    refine Eq.trans (loop_succ _ j _ k) (Eq.trans h2 (Eq.trans (congrArg (fun K => m10_34 N x1 x3 x4 x5 x6 x7 x16 x17 x18 x40 x41 x42 K (fun x1 x3 x4 x5 x6 x7 x16 x17 x18 => (kloop PHI Tb29 N vc10_34 j k) (.exit 2) (s10_7 x1 x3 x4 x5 x6 x7 x16 x17 x18))) h3) (by kernel_rfl)))
theorem e10_33 (N : Nat) (k : Kn R) (x1 x3 x4 x5 x6 x7 x16 x17 x18 x40 x41 x42 : D) : runC PHI Tb29 N vc10_33 (s10_8 x1 x3 x4 x5 x6 x7 x16 x17 x18 x40 x41 x42) k = m10_33 N x1 x3 x4 x5 x6 x7 x16 x17 x18 x40 x41 x42 (fun x1 x3 x4 x5 x6 x7 x16 x17 x18 => k (.exit 2) (s10_7 x1 x3 x4 x5 x6 x7 x16 x17 x18)) := by
  refine Eq.trans (runC_loop _ _ k) (Eq.trans (el10_33 N k N x1 x3 x4 x5 x6 x7 x16 x17 x18 x40 x41 x42) (by kernel_rfl))
def m10_32 (N : Nat) (x1 x3 x4 x5 x6 x7 x16 x17 x18 x40 x41 x42 : D) (K : D → D → D → D → D → D → D → D → D → Option R) : Option R :=
  (m10_33 N x1 x3 x4 x5 x6 x7 x16 x17 x18 x40 x41 x42 (fun y1 y3 y4 y5 y6 y7 y16 y17 y18 => K y1 y3 y4 y5 y6 y7 y16 y17 y18))
theorem e10_32 (N : Nat) (k : Kn R) (x1 x3 x4 x5 x6 x7 x16 x17 x18 x40 x41 x42 : D) : runC PHI Tb29 N vc10_32 (s10_8 x1 x3 x4 x5 x6 x7 x16 x17 x18 x40 x41 x42) k = m10_32 N x1 x3 x4 x5 x6 x7 x16 x17 x18 x40 x41 x42 (fun x1 x3 x4 x5 x6 x7 x16 x17 x18 => k .normal (s10_7 x1 x3 x4 x5 x6 x7 x16 x17 x18)) := by
  refine Eq.trans (runC_block _ _ _ k) (Eq.trans (e10_33 N (kblk 2 k) x1 x3 x4 x5 x6 x7 x16 x17 x18 x40 x41 x42) (by kernel_rfl))
def m10_30 (N : Nat) (x1 x3 x4 x5 x6 x7 x16 x17 x18 : D) (K : D → D → D → D → D → D → D → D → D → Option R) : Option R :=
  (m10_31 N x1 x3 x4 x5 x6 x7 x16 x17 x18 (fun y1 y3 y4 y5 y6 y7 y16 y17 y18 y40 y41 y42 => (m10_32 N y1 y3 y4 y5 y6 y7 y16 y17 y18 y40 y41 y42 (fun y1 y3 y4 y5 y6 y7 y16 y17 y18 => K y1 y3 y4 y5 y6 y7 y16 y17 y18))))
theorem e10_30 (N : Nat) (k : Kn R) (x1 x3 x4 x5 x6 x7 x16 x17 x18 : D) : runC PHI Tb29 N vc10_30 (s10_7 x1 x3 x4 x5 x6 x7 x16 x17 x18) k = m10_30 N x1 x3 x4 x5 x6 x7 x16 x17 x18 (fun x1 x3 x4 x5 x6 x7 x16 x17 x18 => k .normal (s10_7 x1 x3 x4 x5 x6 x7 x16 x17 x18)) := by
  have h2 := e10_31 N (kseq PHI Tb29 N vc10_32 k) x1 x3 x4 x5 x6 x7 x16 x17 x18
  have h3 := (funext fun y1 => funext fun y3 => funext fun y4 => funext fun y5 => funext fun y6 => funext fun y7 => funext fun y16 => funext fun y17 => funext fun y18 => funext fun y40 => funext fun y41 => funext fun y42 => (e10_32 N k y1 y3 y4 y5 y6 y7 y16 y17 y18 y40 y41 y42) : (fun (y1 y3 y4 y5 y6 y7 y16 y17 y18 y40 y41 y42 : D) => (kseq PHI Tb29 N vc10_32 k) .normal (s10_8 y1 y3 y4 y5 y6 y7 y16 y17 y18 y40 y41 y42)) = _)
  refine Eq.trans (runC_seq _ _ _ k) (Eq.trans h2 (Eq.trans (congrArg (fun K => m10_31 N x1 x3 x4 x5 x6 x7 x16 x17 x18 K) h3) (by kernel_rfl)))
def m10_48 (N : Nat) (x1 x3 x4 x5 x6 x7 x16 x17 x18 : D) (K : D → D → D → D → D → D → D → D → D → D → D → Option R) : Option R :=
  (bif (pr19 x6 x7) then K x1 x3 x4 x5 x6 x16 x17 x18 (sp19 x6 x7) (D.i ((sp19 x6 x7).toL.length : Int)) (D.i 0) else none)
def s10_9 (x1 x3 x4 x5 x6 x16 x17 x18 x60 x61 x62 : D) : St := sts 112 [(1, V.f x1), (3, V.f x3), (4, V.f x4), (5, V.f x5), (6, V.f x6), (16, V.f x16), (17, V.f x17), (18, V.f x18), (60, V.f x60), (61, V.f x61), (62, V.f x62)] []
theorem e10_48 (N : Nat) (k : Kn R) (x1 x3 x4 x5 x6 x7 x16 x17 x18 : D) : runC PHI Tb29 N vc10_48 (s10_7 x1 x3 x4 x5 x6 x7 x16 x17 x18) k = m10_48 N x1 x3 x4 x5 x6 x7 x16 x17 x18 (fun x1 x3 x4 x5 x6 x16 x17 x18 x60 x61 x62 => k .normal (s10_9 x1 x3 x4 x5 x6 x16 x17 x18 x60 x61 x62)) := by
  refine Eq.trans (runC_post _ _ _ k) (Eq.trans (ops_run _ _ _ _) (by kernel_rfl))
def m10_51 (N : Nat) (x1 x3 x4 x5 x6 x16 x17 x18 x60 x61 x62 : D) (K : D → D → D → D → D → D → D → D → D → D → D → Option R) (K4 : D → D → D → D → D → D → D → D → Option R) : Option R :=
  (bif (ltb x62.toI x61.toI) then (bif (inb x62.toI x60.toL.length) then (bif (pr18 x3 x5 (D.sl ([(x60.at (x62.toI : Int).toNat)] : List D))) then K x1 (sp18 x3 x5 (D.sl ([(x60.at (x62.toI : Int).toNat)] : List D))) x4 x5 x6 x16 x17 x18 x60 x61 (D.i (IntKind.wrap IntKind.i64 (x62.toI + 1))) else none) else none) else K4 x1 x3 x4 x5 x6 x16 x17 x18)
def s10_10 (x1 x3 x4 x5 x6 x16 x17 x18 : D) : St := sts 112 [(1, V.f x1), (3, V.f x3), (4, V.f x4), (5, V.f x5), (6, V.f x6), (16, V.f x16), (17, V.f x17), (18, V.f x18)] []
theorem e10_51 (N : Nat) (k : Kn R) (x1 x3 x4 x5 x6 x16 x17 x18 x60 x61 x62 : D) : runC PHI Tb29 N vc10_51 (s10_9 x1 x3 x4 x5 x6 x16 x17 x18 x60 x61 x62) k = m10_51 N x1 x3 x4 x5 x6 x16 x17 x18 x60 x61 x62 (fun x1 x3 x4 x5 x6 x16 x17 x18 x60 x61 x62 => k .normal (s10_9 x1 x3 x4 x5 x6 x16 x17 x18 x60 x61 x62)) (fun x1 x3 x4 x5 x6 x16 x17 x18 => k (.exit 4) (s10_10 x1 x3 x4 x5 x6 x16 x17 x18)) := by kernel_rfl
def l10_50 (N : Nat) (j : Nat) (x1 x3 x4 x5 x6 x16 x17 x18 x60 x61 x62 : D) (K4 : D → D → D → D → D → D → D → D → Option R) : Option R :=
  match j with
  | 0 => none
  | j + 1 => (m10_51 N x1 x3 x4 x5 x6 x16 x17 x18 x60 x61 x62 (fun y1 y3 y4 y5 y6 y16 y17 y18 y60 y61 y62 => l10_50 N j y1 y3 y4 y5 y6 y16 y17 y18 y60 y61 y62 K4) K4)
def m10_50 (N : Nat) (x1 x3 x4 x5 x6 x16 x17 x18 x60 x61 x62 : D) (K4 : D → D → D → D → D → D → D → D → Option R) : Option R :=
  l10_50 N N x1 x3 x4 x5 x6 x16 x17 x18 x60 x61 x62 K4
theorem el10_50 (N : Nat) (k : Kn R) : ∀ (j : Nat) (x1 x3 x4 x5 x6 x16 x17 x18 x60 x61 x62 : D), loopGo (runC PHI Tb29 N vc10_51) j (s10_9 x1 x3 x4 x5 x6 x16 x17 x18 x60 x61 x62) k = l10_50 N j x1 x3 x4 x5 x6 x16 x17 x18 x60 x61 x62 (fun x1 x3 x4 x5 x6 x16 x17 x18 => k (.exit 4) (s10_10 x1 x3 x4 x5 x6 x16 x17 x18))
  | 0, _, _, _, _, _, _, _, _, _, _, _ => by kernel_rfl
  | j + 1, x1, x3, x4, x5, x6, x16, x17, x18, x60, x61, x62 => by
    have h2 := e10_51 N (kloop PHI Tb29 N vc10_51 j k) x1 x3 x4 x5 x6 x16 x17 x18 x60 x61 x62
    have h3 : (fun (y1 y3 y4 y5 y6 y16 y17 y18 y60 y61 y62 : D) => (kloop PHI Tb29 N vc10_51 j k) .normal (s10_9 y1 y3 y4 y5 y6 y16 y17 y18 y60 y61 y62)) = (fun (y1 y3 y4 y5 y6 y16 y17 y18 y60 y61 y62 : D) => l10_50 N j y1 y3 y4 y5 y6 y16 y17 y18 y60 y61 y62 (fun x1 x3 x4 x5 x6 x16 x17 x18 => k (.exit 4) (s10_10 x1 x3 x4 x5 x6 x16 x17 x18))) := funext fun y1 => funext fun y3 => funext fun y4 => funext fun y5 => funext fun y6 => funext fun y16 => funext fun y17 => funext fun y18 => funext fun y60 => funext fun y61 => funext fun y62 => (el10_50 N k j y1 y3 y4 y5 y6 y16 y17 y18 y60 y61 y62)
    refine Eq.trans (loop_succ _ j _ k) (Eq.trans h2 (Eq.trans (congrArg (fun K => m10_51 N x1 x3 x4 x5 x6 x16 x17 x18 x60 x61 x62 K (fun x1 x3 x4 x5 x6 x16 x17 x18 => (kloop PHI Tb29 N vc10_51 j k) (.exit 4) (s10_10 x1 x3 x4 x5 x6 x16 x17 x18))) h3) (by kernel_rfl)))
theorem e10_50 (N : Nat) (k : Kn R) (x1 x3 x4 x5 x6 x16 x17 x18 x60 x61 x62 : D) : runC PHI Tb29 N vc10_50 (s10_9 x1 x3 x4 x5 x6 x16 x17 x18 x60 x61 x62) k = m10_50 N x1 x3 x4 x5 x6 x16 x17 x18 x60 x61 x62 (fun x1 x3 x4 x5 x6 x16 x17 x18 => k (.exit 4) (s10_10 x1 x3 x4 x5 x6 x16 x17 x18)) := by
  refine Eq.trans (runC_loop _ _ k) (Eq.trans (el10_50 N k N x1 x3 x4 x5 x6 x16 x17 x18 x60 x61 x62) (by kernel_rfl))
def m10_49 (N : Nat) (x1 x3 x4 x5 x6 x16 x17 x18 x60 x61 x62 : D) (K : D → D → D → D → D → D → D → D → Option R) : Option R :=
  (m10_50 N x1 x3 x4 x5 x6 x16 x17 x18 x60 x61 x62 (fun y1 y3 y4 y5 y6 y16 y17 y18 => K y1 y3 y4 y5 y6 y16 y17 y18))
theorem e10_49 (N : Nat) (k : Kn R) (x1 x3 x4 x5 x6 x16 x17 x18 x60 x61 x62 : D) : runC PHI Tb29 N vc10_49 (s10_9 x1 x3 x4 x5 x6 x16 x17 x18 x60 x61 x62) k = m10_49 N x1 x3 x4 x5 x6 x16 x17 x18 x60 x61 x62 (fun x1 x3 x4 x5 x6 x16 x17 x18 => k .normal (s10_10 x1 x3 x4 x5 x6 x16 x17 x18)) := by
  refine Eq.trans (runC_block _ _ _ k) (Eq.trans (e10_50 N (kblk 4 k) x1 x3 x4 x5 x6 x16 x17 x18 x60 x61 x62) (by kernel_rfl))
def m10_47 (N : Nat) (x1 x3 x4 x5 x6 x7 x16 x17 x18 : D) (K : D → D → D → D → D → D → D → D → Option R) : Option R :=
  (m10_48 N x1 x3 x4 x5 x6 x7 x16 x17 x18 (fun y1 y3 y4 y5 y6 y16 y17 y18 y60 y61 y62 => (m10_49 N y1 y3 y4 y5 y6 y16 y17 y18 y60 y61 y62 (fun y1 y3 y4 y5 y6 y16 y17 y18 => K y1 y3 y4 y5 y6 y16 y17 y18))))
theorem e10_47 (N : Nat) (k : Kn R) (x1 x3 x4 x5 x6 x7 x16 x17 x18 : D) : runC PHI Tb29 N vc10_47 (s10_7 x1 x3 x4 x5 x6 x7 x16 x17 x18) k = m10_47 N x1 x3 x4 x5 x6 x7 x16 x17 x18 (fun x1 x3 x4 x5 x6 x16 x17 x18 => k .normal (s10_10 x1 x3 x4 x5 x6 x16 x17 x18)) := by
  have h2 := e10_48 N (kseq PHI Tb29 N vc10_49 k) x1 x3 x4 x5 x6 x7 x16 x17 x18
  have h3 := (funext fun y1 => funext fun y3 => funext fun y4 => funext fun y5 => funext fun y6 => funext fun y16 => funext fun y17 => funext fun y18 => funext fun y60 => funext fun y61 => funext fun y62 => (e10_49 N k y1 y3 y4 y5 y6 y16 y17 y18 y60 y61 y62) : (fun (y1 y3 y4 y5 y6 y16 y17 y18 y60 y61 y62 : D) => (kseq PHI Tb29 N vc10_49 k) .normal (s10_9 y1 y3 y4 y5 y6 y16 y17 y18 y60 y61 y62)) = _)
  refine Eq.trans (runC_seq _ _ _ k) (Eq.trans h2 (Eq.trans (congrArg (fun K => m10_48 N x1 x3 x4 x5 x6 x7 x16 x17 x18 K) h3) (by kernel_rfl)))
def m10_64 (N : Nat) (x1 x3 x4 x5 x6 x16 x17 x18 : D) (K : D → D → D → D → D → List D → D → D → D → Option R) : Option R :=
  K x1 x3 x4 x5 x6 ([] : List D) x16 x17 x18
def s10_11 (x1 x3 x4 x5 x6 : D) (x12 : List D) (x16 x17 x18 : D) : St := sts 112 [(1, V.f x1), (3, V.f x3), (4, V.f x4), (5, V.f x5), (6, V.f x6), (12, V.o false x12), (16, V.f x16), (17, V.f x17), (18, V.f x18)] []
theorem e10_64 (N : Nat) (k : Kn R) (x1 x3 x4 x5 x6 x16 x17 x18 : D) : runC PHI Tb29 N vc10_64 (s10_10 x1 x3 x4 x5 x6 x16 x17 x18) k = m10_64 N x1 x3 x4 x5 x6 x16 x17 x18 (fun x1 x3 x4 x5 x6 x12 x16 x17 x18 => k .normal (s10_11 x1 x3 x4 x5 x6 x12 x16 x17 x18)) := by
  refine Eq.trans (runC_post _ _ _ k) (Eq.trans (ops_run _ _ _ _) (by kernel_rfl))
def m10_67 (N : Nat) (x1 x3 x4 x5 x6 : D) (x12 : List D) (x16 x17 x18 : D) (K : D → D → D → D → D → List D → D → D → D → D → Option R) : Option R :=
  (bif (isPtrD x1) then (bif (sp20 x1.deref) then (bif (isPtrD x1) then K x1 x3 x4 x5 x6 x12 x16 x17 x18 (D.b (!(sp21_22 (x1.deref.at 7)))) else none) else K x1 x3 x4 x5 x6 x12 x16 x17 x18 (D.b false)) else none)
def s10_12 (x1 x3 x4 x5 x6 : D) (x12 : List D) (x16 x17 x18 x79 : D) : St := sts 112 [(1, V.f x1), (3, V.f x3), (4, V.f x4), (5, V.f x5), (6, V.f x6), (12, V.o false x12), (16, V.f x16), (17, V.f x17), (18, V.f x18), (79, V.f x79)] []
theorem e10_67 (N : Nat) (k : Kn R) (x1 x3 x4 x5 x6 : D) (x12 : List D) (x16 x17 x18 : D) : runC PHI Tb29 N vc10_67 (s10_11 x1 x3 x4 x5 x6 x12 x16 x17 x18) k = m10_67 N x1 x3 x4 x5 x6 x12 x16 x17 x18 (fun x1 x3 x4 x5 x6 x12 x16 x17 x18 x79 => k .normal (s10_12 x1 x3 x4 x5 x6 x12 x16 x17 x18 x79)) := by
  refine Eq.trans (runC_post _ _ _ k) (Eq.trans (ops_run _ _ _ _) (by kernel_rfl))
def m10_71 (N : Nat) (x1 x3 x4 x5 x6 : D) (x12 : List D) (x16 x17 x18 : D) (K : D → D → D → D → D → List D → D → D → D → D → D → D → Option R) : Option R :=
  (bif (isPtrD x1) then K x1 x3 x4 x5 x6 x12 x16 x17 x18 (x1.deref.at 7) (D.i ((x1.deref.at 7).toL.length : Int)) (D.i 0) else none)
def s10_13 (x1 x3 x4 x5 x6 : D) (x12 : List D) (x16 x17 x18 x81 x82 x83 : D) : St := sts 112 [(1, V.f x1), (3, V.f x3), (4, V.f x4), (5, V.f x5), (6, V.f x6), (12, V.o false x12), (16, V.f x16), (17, V.f x17), (18, V.f x18), (81, V.f x81), (82, V.f x82), (83, V.f x83)] []
theorem e10_71 (N : Nat) (k : Kn R) (x1 x3 x4 x5 x6 : D) (x12 : List D) (x16 x17 x18 : D) : runC PHI Tb29 N vc10_71 (s10_11 x1 x3 x4 x5 x6 x12 x16 x17 x18) k = m10_71 N x1 x3 x4 x5 x6 x12 x16 x17 x18 (fun x1 x3 x4 x5 x6 x12 x16 x17 x18 x81 x82 x83 => k .normal (s10_13 x1 x3 x4 x5 x6 x12 x16 x17 x18 x81 x82 x83)) := by
  refine Eq.trans (runC_post _ _ _ k) (Eq.trans (ops_run _ _ _ _) (by kernel_rfl))
def m10_74 (N : Nat) (x1 x3 x4 x5 x6 : D) (x12 : List D) (x16 x17 x18 x81 x82 x83 : D) (K : D → D → D → D → D → List D → D → D → D → D → D → D → Option R) (K6 : D → D → D → D → D → List D → D → D → D → Option R) : Option R :=
  (bif (ltb x83.toI x82.toI) then (bif (inb x83.toI x81.toL.length) then (bif (leN (x12.length + ([((x81.at (x83.toI : Int).toNat).at 0)] : List D).length) 17592186044416 && true) then K x1 x3 x4 x5 x6 (x12 ++ ([((x81.at (x83.toI : Int).toNat).at 0)] : List D)) x16 x17 x18 x81 x82 (D.i (IntKind.wrap IntKind.i64 (x83.toI + 1))) else none) else none) else K6 x1 x3 x4 x5 x6 x12 x16 x17 x18)
theorem e10_74 (N : Nat) (k : Kn R) (x1 x3 x4 x5 x6 : D) (x12 : List D) (x16 x17 x18 x81 x82 x83 : D) : runC PHI Tb29 N vc10_74 (s10_13 x1 x3 x4 x5 x6 x12 x16 x17 x18 x81 x82 x83) k = m10_74 N x1 x3 x4 x5 x6 x12 x16 x17 x18 x81 x82 x83 (fun x1 x3 x4 x5 x6 x12 x16 x17 x18 x81 x82 x83 => k .normal (s10_13 x1 x3 x4 x5 x6 x12 x16 x17 x18 x81 x82 x83)) (fun x1 x3 x4 x5 x6 x12 x16 x17 x18 => k (.exit 6) (s10_11 x1 x3 x4 x5 x6 x12 x16 x17 x18)) := by kernel_rfl
def l10_73 (N : Nat) (j : Nat) (x1 x3 x4 x5 x6 : D) (x12 : List D) (x16 x17 x18 x81 x82 x83 : D) (K6 : D → D → D → D → D → List D → D → D → D → Option R) : Option R :=
  match j with
  | 0 => none
  | j + 1 => (m10_74 N x1 x3 x4 x5 x6 x12 x16 x17 x18 x81 x82 x83 (fun y1 y3 y4 y5 y6 y12 y16 y17 y18 y81 y82 y83 => l10_73 N j y1 y3 y4 y5 y6 y12 y16 y17 y18 y81 y82 y83 K6) K6)
def m10_73 (N : Nat) (x1 x3 x4 x5 x6 : D) (x12 : List D) (x16 x17 x18 x81 x82 x83 : D) (K6 : D → D → D → D → D → List D → D → D → D → Option R) : Option R :=
  l10_73 N N x1 x3 x4 x5 x6 x12 x16 x17 x18 x81 x82 x83 K6
theorem el10_73 (N : Nat) (k : Kn R) : ∀ (j : Nat) (x1 x3 x4 x5 x6 : D) (x12 : List D) (x16 x17 x18 x81 x82 x83 : D), loopGo (runC PHI Tb29 N vc10_74) j (s10_13 x1 x3 x4 x5 x6 x12 x16 x17 x18 x81 x82 x83) k = l10_73 N j x1 x3 x4 x5 x6 x12 x16 x17 x18 x81 x82 x83 (fun x1 x3 x4 x5 x6 x12 x16 x17 x18 => k (.exit 6) (s10_11 x1 x3 x4 x5 x6 x12 x16 x17 x18))
  | 0, _, _, _, _, _, _, _, _, _, _, _, _ => by kernel_rfl
  | j + 1, x1, x3, x4, x5, x6, x12, x16, x17, x18, x81, x82, x83 => by
    have h2 := e10_74 N (kloop PHI Tb29 N vc10_74 j k) x1 x3 x4 x5 x6 x12 x16 x17 x18 x81 x82 x83
    have h3 : (fun (y1 y3 y4 y5 y6 : D) (y12 : List D) (y16 y17 y18 y81 y82 y83 : D) => (kloop PHI Tb29 N vc10_74 j k) .normal (s10_13 y1 y3 y4 y5 y6 y12 y16 y17 y18 y81 y82 y83)) = (fun (y1 y3 y4 y5 y6 : D) (y12 : List D) (y16 y17 y18 y81 y82 y83 : D) => l10_73 N j y1 y3 y4 y5 y6 y12 y16 y17 y18 y81 y82 y83 (fun x1 x3 x4 x5 x6 x12 x16 x17 x18 => k (.exit 6) (s10_11 x1 x3 x4 x5 x6 x12 x16 x17 x18))) := funext fun y1 => funext fun y3 => funext fun y4 => funext fun y5 => funext fun y6 => funext fun y12 => funext fun y16 => funext fun y17 => funext fun y18 => funext fun y81 => funext fun y82 => funext fun y83 => (el10_73 N k j y1 y3 y4 y5 y6 y12 y16 y17 y18 y81 y82 y83)
    refine Eq.trans (loop_succ _ j _ k) (Eq.trans h2 (Eq.trans (congrArg (fun K => m10_74 N x1 x3 x4 x5 x6 x12 x16 x17 x18 x81 x82 x83 K (fun x1 x3 x4 x5 x6 x12 x16 x17 x18 => (kloop PHI Tb29 N vc10_74 j k) (.exit 6) (s10_11 x1 x3 x4 x5 x6 x12 x16 x17 x18))) h3) (by kernel_rfl)))
theorem e10_73 (N : Nat) (k : Kn R) (x1 x3 x4 x5 x6 : D) (x12 : List D) (x16 x17 x18 x81 x82 x83 : D) : runC PHI Tb29 N vc10_73 (s10_13 x1 x3 x4 x5 x6 x12 x16 x17 x18 x81 x82 x83) k = m10_73 N x1 x3 x4 x5 x6 x12 x16 x17 x18 x81 x82 x83 (fun x1 x3 x4 x5 x6 x12 x16 x17 x18 => k (.exit 6) (s10_11 x1 x3 x4 x5 x6 x12 x16 x17 x18)) := by
  refine Eq.trans (runC_loop _ _ k) (Eq.trans (el10_73 N k N x1 x3 x4 x5 x6 x12 x16 x17 x18 x81 x82 x83) (by kernel_rfl))
def m10_72 (N : Nat) (x1 x3 x4 x5 x6 : D) (x12 : List D) (x16 x17 x18 x81 x82 x83 : D) (K : D → D → D → D → D → List D → D → D → D → Option R) : Option R :=
  (m10_73 N x1 x3 x4 x5 x6 x12 x16 x17 x18 x81 x82 x83 (fun y1 y3 y4 y5 y6 y12 y16 y17 y18 => K y1 y3 y4 y5 y6 y12 y16 y17 y18))
theorem e10_72 (N : Nat) (k : Kn R) (x1 x3 x4 x5 x6 : D) (x12 : List D) (x16 x17 x18 x81 x82 x83 : D) : runC PHI Tb29 N vc10_72 (s10_13 x1 x3 x4 x5 x6 x12 x16 x17 x18 x81 x82 x83) k = m10_72 N x1 x3 x4 x5 x6 x12 x16 x17 x18 x81 x82 x83 (fun x1 x3 x4 x5 x6 x12 x16 x17 x18 => k .normal (s10_11 x1 x3 x4 x5 x6 x12 x16 x17 x18)) := by
  refine Eq.trans (runC_block _ _ _ k) (Eq.trans (e10_73 N (kblk 6 k) x1 x3 x4 x5 x6 x12 x16 x17 x18 x81 x82 x83) (by kernel_rfl))
def m10_70 (N : Nat) (x1 x3 x4 x5 x6 : D) (x12 : List D) (x16 x17 x18 : D) (K : D → D → D → D → D → List D → D → D → D → Option R) : Option R :=
  (m10_71 N x1 x3 x4 x5 x6 x12 x16 x17 x18 (fun y1 y3 y4 y5 y6 y12 y16 y17 y18 y81 y82 y83 => (m10_72 N y1 y3 y4 y5 y6 y12 y16 y17 y18 y81 y82 y83 (fun y1 y3 y4 y5 y6 y12 y16 y17 y18 => K y1 y3 y4 y5 y6 y12 y16 y17 y18))))
theorem e10_70 (N : Nat) (k : Kn R) (x1 x3 x4 x5 x6 : D) (x12 : List D) (x16 x17 x18 : D) : runC PHI Tb29 N vc10_70 (s10_11 x1 x3 x4 x5 x6 x12 x16 x17 x18) k = m10_70 N x1 x3 x4 x5 x6 x12 x16 x17 x18 (fun x1 x3 x4 x5 x6 x12 x16 x17 x18 => k .normal (s10_11 x1 x3 x4 x5 x6 x12 x16 x17 x18)) := by
  have h2 := e10_71 N (kseq PHI Tb29 N vc10_72 k) x1 x3 x4 x5 x6 x12 x16 x17 x18
  have h3 := (funext fun y1 => funext fun y3 => funext fun y4 => funext fun y5 => funext fun y6 => funext fun y12 => funext fun y16 => funext fun y17 => funext fun y18 => funext fun y81 => funext fun y82 => funext fun y83 => (e10_72 N k y1 y3 y4 y5 y6 y12 y16 y17 y18 y81 y82 y83) : (fun (y1 y3 y4 y5 y6 : D) (y12 : List D) (y16 y17 y18 y81 y82 y83 : D) => (kseq PHI Tb29 N vc10_72 k) .normal (s10_13 y1 y3 y4 y5 y6 y12 y16 y17 y18 y81 y82 y83)) = _)
  refine Eq.trans (runC_seq _ _ _ k) (Eq.trans h2 (Eq.trans (congrArg (fun K => m10_71 N x1 x3 x4 x5 x6 x12 x16 x17 x18 K) h3) (by kernel_rfl)))
def m10_86 (N : Nat) (x1 x3 x4 x5 x6 : D) (x12 : List D) (x16 x17 x18 : D) (K : D → D → D → D → D → D → D → D → Option R) : Option R :=
  (bif (isPtrD x1) then (bif (pr23 x1.deref x4 (D.sz x12)) then K x1 x3 x5 x6 (sp23 x1.deref x4 (D.sz x12)) x16 x17 x18 else none) else none)
def s10_14 (x1 x3 x5 x6 x12 x16 x17 x18 : D) : St := sts 112 [(1, V.f x1), (3, V.f x3), (5, V.f x5), (6, V.f x6), (12, V.f x12), (16, V.f x16), (17, V.f x17), (18, V.f x18)] []
theorem e10_86 (N : Nat) (k : Kn R) (x1 x3 x4 x5 x6 : D) (x12 : List D) (x16 x17 x18 : D) : runC PHI Tb29 N vc10_86 (s10_11 x1 x3 x4 x5 x6 x12 x16 x17 x18) k = m10_86 N x1 x3 x4 x5 x6 x12 x16 x17 x18 (fun x1 x3 x5 x6 x12 x16 x17 x18 => k .normal (s10_14 x1 x3 x5 x6 x12 x16 x17 x18)) := by
  refine Eq.trans (runC_post _ _ _ k) (Eq.trans (ops_run _ _ _ _) (by kernel_rfl))
def m10_69 (N : Nat) (x1 x3 x4 x5 x6 : D) (x12 : List D) (x16 x17 x18 : D) (K : D → D → D → D → D → D → D → D → Option R) : Option R :=
  (m10_70 N x1 x3 x4 x5 x6 x12 x16 x17 x18 (fun y1 y3 y4 y5 y6 y12 y16 y17 y18 => (m10_86 N y1 y3 y4 y5 y6 y12 y16 y17 y18 (fun y1 y3 y5 y6 y12 y16 y17 y18 => K y1 y3 y5 y6 y12 y16 y17 y18))))
theorem e10_69 (N : Nat) (k : Kn R) (x1 x3 x4 x5 x6 : D) (x12 : List D) (x16 x17 x18 : D) : runC PHI Tb29 N vc10_69 (s10_11 x1 x3 x4 x5 x6 x12 x16 x17 x18) k = m10_69 N x1 x3 x4 x5 x6 x12 x16 x17 x18 (fun x1 x3 x5 x6 x12 x16 x17 x18 => k .normal (s10_14 x1 x3 x5 x6 x12 x16 x17 x18)) := by
  have h2 := e10_70 N (kseq PHI Tb29 N vc10_86 k) x1 x3 x4 x5 x6 x12 x16 x17 x18
  have h3 := (funext fun y1 => funext fun y3 => funext fun y4 => funext fun y5 => funext fun y6 => funext fun y12 => funext fun y16 => funext fun y17 => funext fun y18 => (e10_86 N k y1 y3 y4 y5 y6 y12 y16 y17 y18) : (fun (y1 y3 y4 y5 y6 : D) (y12 : List D) (y16 y17 y18 : D) => (kseq PHI Tb29 N vc10_86 k) .normal (s10_11 y1 y3 y4 y5 y6 y12 y16 y17 y18)) = _)
  refine Eq.trans (runC_seq _ _ _ k) (Eq.trans h2 (Eq.trans (congrArg (fun K => m10_70 N x1 x3 x4 x5 x6 x12 x16 x17 x18 K) h3) (by kernel_rfl)))
def m10_87 (N : Nat) (x1 x3 x5 x6 : D) (x12 : List D) (x16 x17 x18 : D) (K : D → D → D → D → List D → D → D → D → Option R) : Option R :=
  K x1 x3 x5 x6 x12 x16 x17 x18
def s10_15 (x1 x3 x5 x6 : D) (x12 : List D) (x16 x17 x18 : D) : St := sts 112 [(1, V.f x1), (3, V.f x3), (5, V.f x5), (6, V.f x6), (12, V.o false x12), (16, V.f x16), (17, V.f x17), (18, V.f x18)] []
theorem e10_87 (N : Nat) (k : Kn R) (x1 x3 x5 x6 : D) (x12 : List D) (x16 x17 x18 : D) : runC PHI Tb29 N vc10_87 (s10_15 x1 x3 x5 x6 x12 x16 x17 x18) k = m10_87 N x1 x3 x5 x6 x12 x16 x17 x18 (fun x1 x3 x5 x6 x12 x16 x17 x18 => k .normal (s10_15 x1 x3 x5 x6 x12 x16 x17 x18)) := by kernel_rfl
def m10_68 (N : Nat) (x1 x3 x4 x5 x6 : D) (x12 : List D) (x16 x17 x18 x79 : D) (K : D → D → D → D → D → D → D → D → Option R) : Option R :=
  (bif x79.toB then (m10_69 N x1 x3 x4 x5 x6 x12 x16 x17 x18 (fun y1 y3 y5 y6 y12 y16 y17 y18 => K y1 y3 y5 y6 y12 y16 y17 y18)) else (m10_87 N x1 x3 x5 x6 x12 x16 x17 x18 (fun y1 y3 y5 y6 y12 y16 y17 y18 => K y1 y3 y5 y6 (D.sz y12) y16 y17 y18)))
theorem e10_68 (N : Nat) (k : Kn R) (x1 x3 x4 x5 x6 : D) (x12 : List D) (x16 x17 x18 x79 : D) : runC PHI Tb29 N vc10_68 (s10_12 x1 x3 x4 x5 x6 x12 x16 x17 x18 x79) k = m10_68 N x1 x3 x4 x5 x6 x12 x16 x17 x18 x79 (fun x1 x3 x5 x6 x12 x16 x17 x18 => k .normal (s10_14 x1 x3 x5 x6 x12 x16 x17 x18)) := by
  refine Eq.trans (runC_cond (s1 := (s10_11 x1 x3 x4 x5 x6 x12 x16 x17 x18)) (s2 := (s10_15 x1 x3 x5 x6 x12 x16 x17 x18)) (d := x79) _ _ k (by kernel_rfl) (by kernel_rfl) (by kernel_rfl)) (Eq.trans (congr (congrArg (cond x79.toB) ((e10_69 N k x1 x3 x4 x5 x6 x12 x16 x17 x18))) ((runC_post _ _ _ _).trans (e10_87 N (kpost (.weak [12]) k) x1 x3 x5 x6 x12 x16 x17 x18))) (by kernel_rfl))
def m10_66 (N : Nat) (x1 x3 x4 x5 x6 : D) (x12 : List D) (x16 x17 x18 : D) (K : D → D → D → D → D → D → D → D → Option R) : Option R :=
  (m10_67 N x1 x3 x4 x5 x6 x12 x16 x17 x18 (fun y1 y3 y4 y5 y6 y12 y16 y17 y18 y79 => (m10_68 N y1 y3 y4 y5 y6 y12 y16 y17 y18 y79 (fun y1 y3 y5 y6 y12 y16 y17 y18 => K y1 y3 y5 y6 y12 y16 y17 y18))))
theorem e10_66 (N : Nat) (k : Kn R) (x1 x3 x4 x5 x6 : D) (x12 : List D) (x16 x17 x18 : D) : runC PHI Tb29 N vc10_66 (s10_11 x1 x3 x4 x5 x6 x12 x16 x17 x18) k = m10_66 N x1 x3 x4 x5 x6 x12 x16 x17 x18 (fun x1 x3 x5 x6 x12 x16 x17 x18 => k .normal (s10_14 x1 x3 x5 x6 x12 x16 x17 x18)) := by
  have h2 := e10_67 N (kseq PHI Tb29 N vc10_68 k) x1 x3 x4 x5 x6 x12 x16 x17 x18
  have h3 := (funext fun y1 => funext fun y3 => funext fun y4 => funext fun y5 => funext fun y6 => funext fun y12 => funext fun y16 => funext fun y17 => funext fun y18 => funext fun y79 => (e10_68 N k y1 y3 y4 y5 y6 y12 y16 y17 y18 y79) : (fun (y1 y3 y4 y5 y6 : D) (y12 : List D) (y16 y17 y18 y79 : D) => (kseq PHI Tb29 N vc10_68 k) .normal (s10_12 y1 y3 y4 y5 y6 y12 y16 y17 y18 y79)) = _)
  refine Eq.trans (runC_seq _ _ _ k) (Eq.trans h2 (Eq.trans (congrArg (fun K => m10_67 N x1 x3 x4 x5 x6 x12 x16 x17 x18 K) h3) (by kernel_rfl)))
def m10_88 (N : Nat) (x1 x3 x5 x6 x12 x16 x17 x18 : D) (K : D → D → D → D → D → Option R) : Option R :=
  (bif (pr18 x3 x5 x12) then (bif (ltb 0 (x12.toL.length : Int)) then (bif (pr19 x6 x12) then (bif (pr18 (sp18 x3 x5 x12) x5 (sp19 x6 x12)) then K x1 (sp18 (sp18 x3 x5 x12) x5 (sp19 x6 x12)) x16 x17 x18 else none) else none) else K x1 (sp18 x3 x5 x12) x16 x17 x18) else none)
theorem e10_88 (N : Nat) (k : Kn R) (x1 x3 x5 x6 x12 x16 x17 x18 : D) : runC PHI Tb29 N vc10_88 (s10_14 x1 x3 x5 x6 x12 x16 x17 x18) k = m10_88 N x1 x3 x5 x6 x12 x16 x17 x18 (fun x1 x3 x16 x17 x18 => k .normal (s10_3 x1 x3 x16 x17 x18)) := by kernel_rfl
def m10_65 (N : Nat) (x1 x3 x4 x5 x6 : D) (x12 : List D) (x16 x17 x18 : D) (K : D → D → D → D → D → Option R) : Option R :=
  (m10_66 N x1 x3 x4 x5 x6 x12 x16 x17 x18 (fun y1 y3 y5 y6 y12 y16 y17 y18 => (m10_88 N y1 y3 y5 y6 y12 y16 y17 y18 (fun y1 y3 y16 y17 y18 => K y1 y3 y16 y17 y18))))
theorem e10_65 (N : Nat) (k : Kn R) (x1 x3 x4 x5 x6 : D) (x12 : List D) (x16 x17 x18 : D) : runC PHI Tb29 N vc10_65 (s10_11 x1 x3 x4 x5 x6 x12 x16 x17 x18) k = m10_65 N x1 x3 x4 x5 x6 x12 x16 x17 x18 (fun x1 x3 x16 x17 x18 => k .normal (s10_3 x1 x3 x16 x17 x18)) := by
  have h2 := e10_66 N (kseq PHI Tb29 N vc10_88 k) x1 x3 x4 x5 x6 x12 x16 x17 x18
  have h3 := (funext fun y1 => funext fun y3 => funext fun y5 => funext fun y6 => funext fun y12 => funext fun y16 => funext fun y17 => funext fun y18 => (e10_88 N k y1 y3 y5 y6 y12 y16 y17 y18) : (fun (y1 y3 y5 y6 y12 y16 y17 y18 : D) => (kseq PHI Tb29 N vc10_88 k) .normal (s10_14 y1 y3 y5 y6 y12 y16 y17 y18)) = _)
  refine Eq.trans (runC_seq _ _ _ k) (Eq.trans h2 (Eq.trans (congrArg (fun K => m10_66 N x1 x3 x4 x5 x6 x12 x16 x17 x18 K) h3) (by kernel_rfl)))
def m10_63 (N : Nat) (x1 x3 x4 x5 x6 x16 x17 x18 : D) (K : D → D → D → D → D → Option R) : Option R :=
  (m10_64 N x1 x3 x4 x5 x6 x16 x17 x18 (fun y1 y3 y4 y5 y6 y12 y16 y17 y18 => (m10_65 N y1 y3 y4 y5 y6 y12 y16 y17 y18 (fun y1 y3 y16 y17 y18 => K y1 y3 y16 y17 y18))))
theorem e10_63 (N : Nat) (k : Kn R) (x1 x3 x4 x5 x6 x16 x17 x18 : D) : runC PHI Tb29 N vc10_63 (s10_10 x1 x3 x4 x5 x6 x16 x17 x18) k = m10_63 N x1 x3 x4 x5 x6 x16 x17 x18 (fun x1 x3 x16 x17 x18 => k .normal (s10_3 x1 x3 x16 x17 x18)) := by
  have h2 := e10_64 N (kseq PHI Tb29 N vc10_65 k) x1 x3 x4 x5 x6 x16 x17 x18
  have h3 := (funext fun y1 => funext fun y3 => funext fun y4 => funext fun y5 => funext fun y6 => funext fun y12 => funext fun y16 => funext fun y17 => funext fun y18 => (e10_65 N k y1 y3 y4 y5 y6 y12 y16 y17 y18) : (fun (y1 y3 y4 y5 y6 : D) (y12 : List D) (y16 y17 y18 : D) => (kseq PHI Tb29 N vc10_65 k) .normal (s10_11 y1 y3 y4 y5 y6 y12 y16 y17 y18)) = _)
  refine Eq.trans (runC_seq _ _ _ k) (Eq.trans h2 (Eq.trans (congrArg (fun K => m10_64 N x1 x3 x4 x5 x6 x16 x17 x18 K) h3) (by kernel_rfl)))
def m10_46 (N : Nat) (x1 x3 x4 x5 x6 x7 x16 x17 x18 : D) (K : D → D → D → D → D → Option R) : Option R :=
  (m10_47 N x1 x3 x4 x5 x6 x7 x16 x17 x18 (fun y1 y3 y4 y5 y6 y16 y17 y18 => (m10_63 N y1 y3 y4 y5 y6 y16 y17 y18 (fun y1 y3 y16 y17 y18 => K y1 y3 y16 y17 y18))))
theorem e10_46 (N : Nat) (k : Kn R) (x1 x3 x4 x5 x6 x7 x16 x17 x18 : D) : runC PHI Tb29 N vc10_46 (s10_7 x1 x3 x4 x5 x6 x7 x16 x17 x18) k = m10_46 N x1 x3 x4 x5 x6 x7 x16 x17 x18 (fun x1 x3 x16 x17 x18 => k .normal (s10_3 x1 x3 x16 x17 x18)) := by
  have h2 := e10_47 N (kseq PHI Tb29 N vc10_63 k) x1 x3 x4 x5 x6 x7 x16 x17 x18
  have h3 := (funext fun y1 => funext fun y3 => funext fun y4 => funext fun y5 => funext fun y6 => funext fun y16 => funext fun y17 => funext fun y18 => (e10_63 N k y1 y3 y4 y5 y6 y16 y17 y18) : (fun (y1 y3 y4 y5 y6 y16 y17 y18 : D) => (kseq PHI Tb29 N vc10_63 k) .normal (s10_10 y1 y3 y4 y5 y6 y16 y17 y18)) = _)
  refine Eq.trans (runC_seq _ _ _ k) (Eq.trans h2 (Eq.trans (congrArg (fun K => m10_47 N x1 x3 x4 x5 x6 x7 x16 x17 x18 K) h3) (by kernel_rfl)))
def m10_29 (N : Nat) (x1 x3 x4 x5 x6 x7 x16 x17 x18 : D) (K : D → D → D → D → D → Option R) : Option R :=
  (m10_30 N x1 x3 x4 x5 x6 x7 x16 x17 x18 (fun y1 y3 y4 y5 y6 y7 y16 y17 y18 => (m10_46 N y1 y3 y4 y5 y6 y7 y16 y17 y18 (fun y1 y3 y16 y17 y18 => K y1 y3 y16 y17 y18))))
theorem e10_29 (N : Nat) (k : Kn R) (x1 x3 x4 x5 x6 x7 x16 x17 x18 : D) : runC PHI Tb29 N vc10_29 (s10_7 x1 x3 x4 x5 x6 x7 x16 x17 x18) k = m10_29 N x1 x3 x4 x5 x6 x7 x16 x17 x18 (fun x1 x3 x16 x17 x18 => k .normal (s10_3 x1 x3 x16 x17 x18)) := by
  have h2 := e10_30 N (kseq PHI Tb29 N vc10_46 k) x1 x3 x4 x5 x6 x7 x16 x17 x18
  have h3 := (funext fun y1 => funext fun y3 => funext fun y4 => funext fun y5 => funext fun y6 => funext fun y7 => funext fun y16 => funext fun y17 => funext fun y18 => (e10_46 N k y1 y3 y4 y5 y6 y7 y16 y17 y18) : (fun (y1 y3 y4 y5 y6 y7 y16 y17 y18 : D) => (kseq PHI Tb29 N vc10_46 k) .normal (s10_7 y1 y3 y4 y5 y6 y7 y16 y17 y18)) = _)
  refine Eq.trans (runC_seq _ _ _ k) (Eq.trans h2 (Eq.trans (congrArg (fun K => m10_30 N x1 x3 x4 x5 x6 x7 x16 x17 x18 K) h3) (by kernel_rfl)))
def m10_27 (N : Nat) (x1 x3 x4 x5 x6 x7 x16 x17 x18 : D) (K : D → D → D → D → D → Option R) : Option R :=
  (m10_28 N x1 x3 x4 x5 x6 x7 x16 x17 x18 (fun y1 y3 y4 y5 y6 y7 y16 y17 y18 => (m10_29 N y1 y3 y4 y5 y6 y7 y16 y17 y18 (fun y1 y3 y16 y17 y18 => K y1 y3 y16 y17 y18))))
theorem e10_27 (N : Nat) (k : Kn R) (x1 x3 x4 x5 x6 x7 x16 x17 x18 : D) : runC PHI Tb29 N vc10_27 (s10_7 x1 x3 x4 x5 x6 x7 x16 x17 x18) k = m10_27 N x1 x3 x4 x5 x6 x7 x16 x17 x18 (fun x1 x3 x16 x17 x18 => k .normal (s10_3 x1 x3 x16 x17 x18)) := by
  have h2 := e10_28 N (kseq PHI Tb29 N vc10_29 k) x1 x3 x4 x5 x6 x7 x16 x17 x18
  have h3 := (funext fun y1 => funext fun y3 => funext fun y4 => funext fun y5 => funext fun y6 => funext fun y7 => funext fun y16 => funext fun y17 => funext fun y18 => (e10_29 N k y1 y3 y4 y5 y6 y7 y16 y17 y18) : (fun (y1 y3 y4 y5 y6 y7 y16 y17 y18 : D) => (kseq PHI Tb29 N vc10_29 k) .normal (s10_7 y1 y3 y4 y5 y6 y7 y16 y17 y18)) = _)
  refine Eq.trans (runC_seq _ _ _ k) (Eq.trans h2 (Eq.trans (congrArg (fun K => m10_28 N x1 x3 x4 x5 x6 x7 x16 x17 x18 K) h3) (by kernel_rfl)))
def m10_25 (N : Nat) (x1 x3 x4 x5 x16 x17 x18 : D) (K : D → D → D → D → D → Option R) : Option R :=
  (m10_26 N x1 x3 x4 x5 x16 x17 x18 (fun y1 y3 y4 y5 y6 y7 y16 y17 y18 => (m10_27 N y1 y3 y4 y5 y6 y7 y16 y17 y18 (fun y1 y3 y16 y17 y18 => K y1 y3 y16 y17 y18))))
theorem e10_25 (N : Nat) (k : Kn R) (x1 x3 x4 x5 x16 x17 x18 : D) : runC PHI Tb29 N vc10_25 (s10_6 x1 x3 x4 x5 x16 x17 x18) k = m10_25 N x1 x3 x4 x5 x16 x17 x18 (fun x1 x3 x16 x17 x18 => k .normal (s10_3 x1 x3 x16 x17 x18)) := by
  have h2 := e10_26 N (kseq PHI Tb29 N vc10_27 k) x1 x3 x4 x5 x16 x17 x18
  have h3 := (funext fun y1 => funext fun y3 => funext fun y4 => funext fun y5 => funext fun y6 => funext fun y7 => funext fun y16 => funext fun y17 => funext fun y18 => (e10_27 N k y1 y3 y4 y5 y6 y7 y16 y17 y18) : (fun (y1 y3 y4 y5 y6 y7 y16 y17 y18 : D) => (kseq PHI Tb29 N vc10_27 k) .normal (s10_7 y1 y3 y4 y5 y6 y7 y16 y17 y18)) = _)
  refine Eq.trans (runC_seq _ _ _ k) (Eq.trans h2 (Eq.trans (congrArg (fun K => m10_26 N x1 x3 x4 x5 x16 x17 x18 K) h3) (by kernel_rfl)))
def m10_19 (N : Nat) (x1 x3 x4 x5 x16 x17 x18 : D) (K : D → D → D → D → D → Option R) (K0 : D → Option R) : Option R :=
  (m10_20 N x1 x3 x4 x5 x16 x17 x18 (fun y1 y3 y4 y5 y16 y17 y18 => (m10_25 N y1 y3 y4 y5 y16 y17 y18 (fun y1 y3 y16 y17 y18 => K y1 y3 y16 y17 y18))) K0)
theorem e10_19 (N : Nat) (k : Kn R) (x1 x3 x4 x5 x16 x17 x18 : D) : runC PHI Tb29 N vc10_19 (s10_6 x1 x3 x4 x5 x16 x17 x18) k = m10_19 N x1 x3 x4 x5 x16 x17 x18 (fun x1 x3 x16 x17 x18 => k .normal (s10_3 x1 x3 x16 x17 x18)) (fun x3 => k (.exit 0) (s10_5 x3)) := by
  have h2 := e10_20 N (kseq PHI Tb29 N vc10_25 k) x1 x3 x4 x5 x16 x17 x18
  have h3 := (funext fun y1 => funext fun y3 => funext fun y4 => funext fun y5 => funext fun y16 => funext fun y17 => funext fun y18 => (e10_25 N k y1 y3 y4 y5 y16 y17 y18) : (fun (y1 y3 y4 y5 y16 y17 y18 : D) => (kseq PHI Tb29 N vc10_25 k) .normal (s10_6 y1 y3 y4 y5 y16 y17 y18)) = _)
  refine Eq.trans (runC_seq _ _ _ k) (Eq.trans h2 (Eq.trans (congrArg (fun K => m10_20 N x1 x3 x4 x5 x16 x17 x18 K (fun x3 => (kseq PHI Tb29 N vc10_25 k) (.exit 0) (s10_5 x3))) h3) (by kernel_rfl)))
def m10_17 (N : Nat) (x1 x3 x16 x17 x18 : D) (K : D → D → D → D → D → Option R) (K0 : D → Option R) : Option R :=
  (m10_18 N x1 x3 x16 x17 x18 (fun y1 y3 y4 y5 y16 y17 y18 => (m10_19 N y1 y3 y4 y5 y16 y17 y18 (fun y1 y3 y16 y17 y18 => K y1 y3 y16 y17 y18) K0)))
theorem e10_17 (N : Nat) (k : Kn R) (x1 x3 x16 x17 x18 : D) : runC PHI Tb29 N vc10_17 (s10_3 x1 x3 x16 x17 x18) k = m10_17 N x1 x3 x16 x17 x18 (fun x1 x3 x16 x17 x18 => k .normal (s10_3 x1 x3 x16 x17 x18)) (fun x3 => k (.exit 0) (s10_5 x3)) := by
  have h2 := e10_18 N (kseq PHI Tb29 N vc10_19 k) x1 x3 x16 x17 x18
  have h3 := (funext fun y1 => funext fun y3 => funext fun y4 => funext fun y5 => funext fun y16 => funext fun y17 => funext fun y18 => (e10_19 N k y1 y3 y4 y5 y16 y17 y18) : (fun (y1 y3 y4 y5 y16 y17 y18 : D) => (kseq PHI Tb29 N vc10_19 k) .normal (s10_6 y1 y3 y4 y5 y16 y17 y18)) = _)
  refine Eq.trans (runC_seq _ _ _ k) (Eq.trans h2 (Eq.trans (congrArg (fun K => m10_18 N x1 x3 x16 x17 x18 K) h3) (by kernel_rfl)))
def m10_16 (N : Nat) (x1 x3 x16 x17 x18 : D) (K : D → D → D → D → D → Option R) (K0 : D → Option R) : Option R :=
  (m10_17 N x1 x3 x16 x17 x18 (fun y1 y3 y16 y17 y18 => K y1 y3 y16 y17 y18) K0)
theorem e10_16 (N : Nat) (k : Kn R) (x1 x3 x16 x17 x18 : D) : runC PHI Tb29 N vc10_16 (s10_3 x1 x3 x16 x17 x18) k = m10_16 N x1 x3 x16 x17 x18 (fun x1 x3 x16 x17 x18 => k .normal (s10_3 x1 x3 x16 x17 x18)) (fun x3 => k (.exit 0) (s10_5 x3)) := by
  refine Eq.trans (runC_block _ _ _ k) (Eq.trans (e10_17 N (kblk 1 k) x1 x3 x16 x17 x18) (by kernel_rfl))
def m10_95 (N : Nat) (x1 x3 x16 x17 x18 : D) (K : D → D → D → D → D → Option R) : Option R :=
  K x1 x3 x16 x17 (D.i (IntKind.wrap IntKind.i64 (x18.toI + 1)))
theorem e10_95 (N : Nat) (k : Kn R) (x1 x3 x16 x17 x18 : D) : runC PHI Tb29 N vc10_95 (s10_3 x1 x3 x16 x17 x18) k = m10_95 N x1 x3 x16 x17 x18 (fun x1 x3 x16 x17 x18 => k .normal (s10_3 x1 x3 x16 x17 x18)) := by
  refine Eq.trans (runC_post _ _ _ k) (Eq.trans (ops_run _ _ _ _) (by kernel_rfl))
def m10_15 (N : Nat) (x1 x3 x16 x17 x18 : D) (K : D → D → D → D → D → Option R) (K0 : D → Option R) : Option R :=
  (m10_16 N x1 x3 x16 x17 x18 (fun y1 y3 y16 y17 y18 => (m10_95 N y1 y3 y16 y17 y18 (fun y1 y3 y16 y17 y18 => K y1 y3 y16 y17 y18))) K0)
theorem e10_15 (N : Nat) (k : Kn R) (x1 x3 x16 x17 x18 : D) : runC PHI Tb29 N vc10_15 (s10_3 x1 x3 x16 x17 x18) k = m10_15 N x1 x3 x16 x17 x18 (fun x1 x3 x16 x17 x18 => k .normal (s10_3 x1 x3 x16 x17 x18)) (fun x3 => k (.exit 0) (s10_5 x3)) := by
  have h2 := e10_16 N (kseq PHI Tb29 N vc10_95 k) x1 x3 x16 x17 x18
  have h3 := (funext fun y1 => funext fun y3 => funext fun y16 => funext fun y17 => funext fun y18 => (e10_95 N k y1 y3 y16 y17 y18) : (fun (y1 y3 y16 y17 y18 : D) => (kseq PHI Tb29 N vc10_95 k) .normal (s10_3 y1 y3 y16 y17 y18)) = _)
  refine Eq.trans (runC_seq _ _ _ k) (Eq.trans h2 (Eq.trans (congrArg (fun K => m10_16 N x1 x3 x16 x17 x18 K (fun x3 => (kseq PHI Tb29 N vc10_95 k) (.exit 0) (s10_5 x3))) h3) (by kernel_rfl)))
def m10_11 (N : Nat) (x1 x3 x16 x17 x18 x19 : D) (K : D → D → D → D → D → Option R) (K0 : D → Option R) : Option R :=
  (m10_12 N x1 x3 x16 x17 x18 x19 (fun y1 y3 y16 y17 y18 => (m10_15 N y1 y3 y16 y17 y18 (fun y1 y3 y16 y17 y18 => K y1 y3 y16 y17 y18) K0)) K0)
theorem e10_11 (N : Nat) (k : Kn R) (x1 x3 x16 x17 x18 x19 : D) : runC PHI Tb29 N vc10_11 (s10_4 x1 x3 x16 x17 x18 x19) k = m10_11 N x1 x3 x16 x17 x18 x19 (fun x1 x3 x16 x17 x18 => k .normal (s10_3 x1 x3 x16 x17 x18)) (fun x3 => k (.exit 0) (s10_5 x3)) := by
  have h2 := e10_12 N (kseq PHI Tb29 N vc10_15 k) x1 x3 x16 x17 x18 x19
  have h3 := (funext fun y1 => funext fun y3 => funext fun y16 => funext fun y17 => funext fun y18 => (e10_15 N k y1 y3 y16 y17 y18) : (fun (y1 y3 y16 y17 y18 : D) => (kseq PHI Tb29 N vc10_15 k) .normal (s10_3 y1 y3 y16 y17 y18)) = _)
  refine Eq.trans (runC_seq _ _ _ k) (Eq.trans h2 (Eq.trans (congrArg (fun K => m10_12 N x1 x3 x16 x17 x18 x19 K (fun x3 => (kseq PHI Tb29 N vc10_15 k) (.exit 0) (s10_5 x3))) h3) (by kernel_rfl)))
def m10_9 (N : Nat) (x1 x3 x16 x17 x18 : D) (K : D → D → D → D → D → Option R) (K0 : D → Option R) : Option R :=
  (m10_10 N x1 x3 x16 x17 x18 (fun y1 y3 y16 y17 y18 y19 => (m10_11 N y1 y3 y16 y17 y18 y19 (fun y1 y3 y16 y17 y18 => K y1 y3 y16 y17 y18) K0)))
theorem e10_9 (N : Nat) (k : Kn R) (x1 x3 x16 x17 x18 : D) : runC PHI Tb29 N vc10_9 (s10_3 x1 x3 x16 x17 x18) k = m10_9 N x1 x3 x16 x17 x18 (fun x1 x3 x16 x17 x18 => k .normal (s10_3 x1 x3 x16 x17 x18)) (fun x3 => k (.exit 0) (s10_5 x3)) := by
  have h2 := e10_10 N (kseq PHI Tb29 N vc10_11 k) x1 x3 x16 x17 x18
  have h3 := (funext fun y1 => funext fun y3 => funext fun y16 => funext fun y17 => funext fun y18 => funext fun y19 => (e10_11 N k y1 y3 y16 y17 y18 y19) : (fun (y1 y3 y16 y17 y18 y19 : D) => (kseq PHI Tb29 N vc10_11 k) .normal (s10_4 y1 y3 y16 y17 y18 y19)) = _)
  refine Eq.trans (runC_seq _ _ _ k) (Eq.trans h2 (Eq.trans (congrArg (fun K => m10_10 N x1 x3 x16 x17 x18 K) h3) (by kernel_rfl)))
def l10_8 (N : Nat) (j : Nat) (x1 x3 x16 x17 x18 : D) (K0 : D → Option R) : Option R :=
  match j with
  | 0 => none
  | j + 1 => (m10_9 N x1 x3 x16 x17 x18 (fun y1 y3 y16 y17 y18 => l10_8 N j y1 y3 y16 y17 y18 K0) K0)
def m10_8 (N : Nat) (x1 x3 x16 x17 x18 : D) (K0 : D → Option R) : Option R :=
  l10_8 N N x1 x3 x16 x17 x18 K0
theorem el10_8 (N : Nat) (k : Kn R) : ∀ (j : Nat) (x1 x3 x16 x17 x18 : D), loopGo (runC PHI Tb29 N vc10_9) j (s10_3 x1 x3 x16 x17 x18) k = l10_8 N j x1 x3 x16 x17 x18 (fun x3 => k (.exit 0) (s10_5 x3))
  | 0, _, _, _, _, _ => by kernel_rfl
  | j + 1, x1, x3, x16, x17, x18 => by
    have h2 := e10_9 N (kloop PHI Tb29 N vc10_9 j k) x1 x3 x16 x17 x18
    have h3 : (fun (y1 y3 y16 y17 y18 : D) => (kloop PHI Tb29 N vc10_9 j k) .normal (s10_3 y1 y3 y16 y17 y18)) = (fun (y1 y3 y16 y17 y18 : D) => l10_8 N j y1 y3 y16 y17 y18 (fun x3 => k (.exit 0) (s10_5 x3))) := funext fun y1 => funext fun y3 => funext fun y16 => funext fun y17 => funext fun y18 => (el10_8 N k j y1 y3 y16 y17 y18)
    refine Eq.trans (loop_succ _ j _ k) (Eq.trans h2 (Eq.trans (congrArg (fun K => m10_9 N x1 x3 x16 x17 x18 K (fun x3 => (kloop PHI Tb29 N vc10_9 j k) (.exit 0) (s10_5 x3))) h3) (by kernel_rfl)))
theorem e10_8 (N : Nat) (k : Kn R) (x1 x3 x16 x17 x18 : D) : runC PHI Tb29 N vc10_8 (s10_3 x1 x3 x16 x17 x18) k = m10_8 N x1 x3 x16 x17 x18 (fun x3 => k (.exit 0) (s10_5 x3)) := by
  refine Eq.trans (runC_loop _ _ k) (Eq.trans (el10_8 N k N x1 x3 x16 x17 x18) (by kernel_rfl))
def m10_7 (N : Nat) (x1 x3 x16 x17 x18 : D) (K : D → Option R) : Option R :=
  (m10_8 N x1 x3 x16 x17 x18 (fun y3 => K y3))
theorem e10_7 (N : Nat) (k : Kn R) (x1 x3 x16 x17 x18 : D) : runC PHI Tb29 N vc10_7 (s10_3 x1 x3 x16 x17 x18) k = m10_7 N x1 x3 x16 x17 x18 (fun x3 => k .normal (s10_5 x3)) := by
  refine Eq.trans (runC_block _ _ _ k) (Eq.trans (e10_8 N (kblk 0 k) x1 x3 x16 x17 x18) (by kernel_rfl))
def m10_5 (N : Nat) (x1 x3 : D) (K : D → Option R) : Option R :=
  (m10_6 N x1 x3 (fun y1 y3 y16 y17 y18 => (m10_7 N y1 y3 y16 y17 y18 (fun y3 => K y3))))
theorem e10_5 (N : Nat) (k : Kn R) (x1 x3 : D) : runC PHI Tb29 N vc10_5 (s10_2 x1 x3) k = m10_5 N x1 x3 (fun x3 => k .normal (s10_5 x3)) := by
  have h2 := e10_6 N (kseq PHI Tb29 N vc10_7 k) x1 x3
  have h3 := (funext fun y1 => funext fun y3 => funext fun y16 => funext fun y17 => funext fun y18 => (e10_7 N k y1 y3 y16 y17 y18) : (fun (y1 y3 y16 y17 y18 : D) => (kseq PHI Tb29 N vc10_7 k) .normal (s10_3 y1 y3 y16 y17 y18)) = _)
  refine Eq.trans (runC_seq _ _ _ k) (Eq.trans h2 (Eq.trans (congrArg (fun K => m10_6 N x1 x3 K) h3) (by kernel_rfl)))
def m10_96 (N : Nat) (x3 : D) (Kr : D → Option R) : Option R :=
  Kr x3
def s10_16 (x2 : D) : St := sts 112 [(2, V.f x2)] []
theorem e10_96 (N : Nat) (k : Kn R) (x3 : D) : runC PHI Tb29 N vc10_96 (s10_5 x3) k = m10_96 N x3 (fun x2 => k .ret (s10_16 x2)) := by kernel_rfl
def m10_4 (N : Nat) (x1 x3 : D) (Kr : D → Option R) : Option R :=
  (m10_5 N x1 x3 (fun y3 => (m10_96 N y3 Kr)))
theorem e10_4 (N : Nat) (k : Kn R) (x1 x3 : D) : runC PHI Tb29 N vc10_4 (s10_2 x1 x3) k = m10_4 N x1 x3 (fun x2 => k .ret (s10_16 x2)) := by
  have h2 := e10_5 N (kseq PHI Tb29 N vc10_96 k) x1 x3
  have h3 := (funext fun y3 => (e10_96 N k y3) : (fun (y3 : D) => (kseq PHI Tb29 N vc10_96 k) .normal (s10_5 y3)) = _)
  refine Eq.trans (runC_seq _ _ _ k) (Eq.trans h2 (Eq.trans (congrArg (fun K => m10_5 N x1 x3 K) h3) (by kernel_rfl)))
def m10_2 (N : Nat) (x1 : D) (Kr : D → Option R) : Option R :=
  (m10_3 N x1 (fun y1 y3 => (m10_4 N y1 y3 Kr)))
theorem e10_2 (N : Nat) (k : Kn R) (x1 : D) : runC PHI Tb29 N vc10_2 (s10_1 x1) k = m10_2 N x1 (fun x2 => k .ret (s10_16 x2)) := by
  have h2 := e10_3 N (kseq PHI Tb29 N vc10_4 k) x1
  have h3 := (funext fun y1 => funext fun y3 => (e10_4 N k y1 y3) : (fun (y1 y3 : D) => (kseq PHI Tb29 N vc10_4 k) .normal (s10_2 y1 y3)) = _)
  refine Eq.trans (runC_seq _ _ _ k) (Eq.trans h2 (Eq.trans (congrArg (fun K => m10_3 N x1 K) h3) (by kernel_rfl)))
def m10_0 (N : Nat) (x0 : D) (Kr : D → Option R) : Option R :=
  (m10_1 N x0 (fun y1 => (m10_2 N y1 Kr)))
theorem e10_0 (N : Nat) (k : Kn R) (x0 : D) : runC PHI Tb29 N vc10_0 (s10_0 x0) k = m10_0 N x0 (fun x2 => k .ret (s10_16 x2)) := by
  have h2 := e10_1 N (kseq PHI Tb29 N vc10_2 k) x0
  have h3 := (funext fun y1 => (e10_2 N k y1) : (fun (y1 : D) => (kseq PHI Tb29 N vc10_2 k) .normal (s10_1 y1)) = _)
  refine Eq.trans (runC_seq _ _ _ k) (Eq.trans h2 (Eq.trans (congrArg (fun K => m10_1 N x0 K) h3) (by kernel_rfl)))
theorem r10 (N : Nat) (x0 : D) : runC PHI Tb29 N vf10.body (enterV vf10 [V.f x0] []) (finish vf10) = m10_0 N x0 (fun x2 => finish vf10 .ret (s10_16 x2)) := 
  Eq.trans (runC_pre (s1 := (s10_0 x0)) (by kernel_rfl) _ _) (Eq.trans (e10_0 N (finish vf10) x0) (by kernel_rfl))
end
theorem okN_mkD (b : Bool) (xs : List D) : okN (mkD b xs) = true := by cases b <;> rfl
theorem okN_cutz (xs : List D) (n : Nat) : okN (cutD (.sz xs) n 0) = true := by cases xs <;> rfl
section
variable {R : Type}
theorem lp33 (N : Nat) (q o f t : D) (eq rg : List D) (w lw iw x7 : D) (K : D → D → D → D → D → D → D → D → D → Option R) (he : eq.length ≤ 4096) (hr : rg.length ≤ 4096) (ho : o.toL.length ≤ 1073741824) (hN : 8192 ≤ N) :
    l10_33 N N q o f t (.sz eq) x7 w lw iw (.sz rg) (.i (rg.length : Int)) (.i 0) K = K q (rg.foldl (of2 t eq) o) f t (.sz eq) x7 w lw iw := by
  have h := loop_fold (fun j i s => l10_33 N j q s f t (.sz eq) x7 w lw iw (.sz rg) (.i (rg.length : Int)) (.i (i : Nat)) K) (fun s => K q s f t (.sz eq) x7 w lw iw) rg.length (fun i s => of2 t eq s (rg.getD i .nil)) (fun i s => s.toL.length ≤ 1073741824 + i)
    (fun j i s hi hs => by
      have e0 : (cutD (.sz eq) (mmI false (eq.length : Int) [2]).toNat (0 : Int).toNat).toL = eq.take 2 := toL_27 (.sz eq) (.i 2) (show (0 : Int) ≤ 2 by decide)
      have e1 : (sp19 (cutD (.sz eq) (mmI false (eq.length : Int) [2]).toNat (0 : Int).toNat) (.sl [rg.getD i .nil])).toL = add1 (eq.take 2) (rg.getD i .nil) := by
        unfold sp19; rw [toL_mkD, e0]; rfl
      have e2 : pr19 (cutD (.sz eq) (mmI false (eq.length : Int) [2]).toNat (0 : Int).toNat) (.sl [rg.getD i .nil]) = true := by
        unfold pr19
        have : (eq.take 2).length ≤ 549755813888 := by rw [List.length_take]; omega
        rw [show (0 : Int).toNat = 0 from rfl, okN_cutz]
        rw [show (0 : Int).toNat = 0 from rfl] at e0
        rw [e0, leN_t this]; rfl
      have e3 : ∀ c, okN c = true → pr18 s t c = true := fun c hc => by
        unfold pr18; rw [hc, leN_t (show s.toL.length ≤ 1099511627776 by omega)]; rfl
      simp only [l10_33, m10_34, toI_i, toL_sz, cond_true, ltb_n hi, inb_t hi, at_nat, succ_n hi (show rg.length ≤ 9223372036854775807 by omega), mm_guard' eq.length (show (0 : Int) ≤ 2 by decide), e2, e3 _ (okN_mkD _ _), sp18, e1, show ∀ a m, sp19 a m = mkD (sp37n a) (uni a.toL m.toL) from fun _ _ => rfl]
      rw [← show ∀ a m, sp19 a m = mkD (sp37n a) (uni a.toL m.toL) from fun _ _ => rfl, e1]
      rfl)
    (fun i s hi hs => by have := addS_len s t (add1 (eq.take 2) (rg.getD i .nil)); unfold of2; omega)
    (fun j s hs => by simp only [l10_33, m10_34, toI_i, ltb_self, cond_false])
    rg.length 0 N o (by omega) (by omega) (by omega)
  refine h.trans ?_
  rw [foldI_list (g := of2 t eq) rg rg.length 0 o (by omega)]
  rfl
theorem lp50 (N : Nat) (q o f t x6 : D) (us : D) (w lw iw : D) (K : D → D → D → D → D → D → D → D → Option R) (hr : us.toL.length ≤ 8192) (ho : o.toL.length ≤ 1073741824) (hN : 8193 ≤ N) :
    l10_50 N N q o f t x6 w lw iw us (.i (us.toL.length : Int)) (.i 0) K = K q (us.toL.foldl (of3 t) o) f t x6 w lw iw := by
  have h := loop_fold (fun j i s => l10_50 N j q s f t x6 w lw iw us (.i (us.toL.length : Int)) (.i (i : Nat)) K) (fun s => K q s f t x6 w lw iw) us.toL.length (fun i s => of3 t s (us.toL.getD i .nil)) (fun i s => s.toL.length ≤ 1073741824 + i)
    (fun j i s hi hs => by
      have e3 : ∀ c, pr18 s t (.sl [c]) = true := fun c => by
        unfold pr18; rw [leN_t (show s.toL.length ≤ 1099511627776 by omega)]; rfl
      simp only [l10_50, m10_51, toI_i, cond_true, ltb_n hi, inb_t hi, at_nat, succ_n hi (show us.toL.length ≤ 9223372036854775807 by omega), e3]
      rfl)
    (fun i s hi hs => by have := addS_len s t [us.toL.getD i .nil]; unfold of3; omega)
    (fun j s hs => by simp only [l10_50, m10_51, toI_i, ltb_self, cond_false])
    us.toL.length 0 N o (by omega) (by omega) (by omega)
  refine h.trans ?_
  rw [foldI_list (g := of3 t) us.toL us.toL.length 0 o (by omega)]
  rfl
theorem foldl_map : ∀ (l s : List D), l.foldl (fun s x => s ++ [x.at 0]) s = s ++ l.map fun x => x.at 0
  | [], s => by simp
  | x :: l, s => by rw [List.foldl_cons, foldl_map l]; simp
theorem lp73 (N : Nat) (q o f t x6 : D) (us : D) (w lw iw : D) (K : D → D → D → D → D → List D → D → D → D → Option R) (hr : us.toL.length ≤ 1024) (hN : 8193 ≤ N) :
    l10_73 N N q o f t x6 [] w lw iw us (.i (us.toL.length : Int)) (.i 0) K = K q o f t x6 (us.toL.map fun x => x.at 0) w lw iw := by
  have h := loop_fold (fun j i s => l10_73 N j q o f t x6 s w lw iw us (.i (us.toL.length : Int)) (.i (i : Nat)) K) (fun s => K q o f t x6 s w lw iw) us.toL.length (fun i s => s ++ [(us.toL.getD i .nil).at 0]) (fun i s => s.length ≤ i)
    (fun j i s hi hs => by
      have e3 : leN (s.length + [(us.toL.getD i D.nil).at 0].length) 17592186044416 = true := leN_t (by simp only [List.length_cons, List.length_nil]; omega)
      simp only [l10_73, m10_74, toI_i, cond_true, ltb_n hi, inb_t hi, at_nat, succ_n hi (show us.toL.length ≤ 9223372036854775807 by omega), e3, Bool.and_true])
    (fun i s hi hs => by simp; omega)
    (fun j s hs => by simp only [l10_73, m10_74, toI_i, ltb_self, cond_false])
    us.toL.length 0 N [] (by omega) (by omega) (by simp)
  refine h.trans ?_
  rw [foldI_list (g := fun s x => s ++ [x.at 0]) us.toL us.toL.length 0 [] (by omega), List.drop_zero, foldl_map]
  rfl
end

end Go.Vam.C20
namespace Go.Vam.C20
open Go.Proofs
def Tb10 : CallF := extend Tb29 10 (fn1 pr10 fun q => .f (sp10 q))
theorem st10 (N : Nat) (q : D) (K0 : D → Option (V × List V)) (hp : prOf q = true) (hN : 8193 ≤ N) (j i : Nat) (o : D) (hi : i < nOf q) (ho : o.toL.length ≤ 8192 * i) :
    l10_8 N (j + 1) (.p q) o (q.at 0) (.i ((q.at 0).toL.length : Int)) (.i (i : Nat)) K0 = l10_8 N j (.p q) (ofT q ((q.at 0).toL.getD i .nil) (i : Nat) o) (q.at 0) (.i ((q.at 0).toL.length : Int)) (.i ((i + 1 : Nat) : Int)) K0 := by
  simp only [prOf, Bool.and_eq_true] at hp
  have ht := leN_le hp.1
  have hw := leN_le hp.2.1
  have hr := leN_le hp.2.2
  have hi1 : i < (q.at 0).toL.length := by unfold nOf at hi; omega
  have hi2 : i < (q.at 1).toL.length := by unfold nOf at hi; omega
  have hge : leb ((q.at 1).toL.length : Int) (i : Int) = false := leb_f (by omega)
  have p17 : ∀ ops, pr17 q (.i (i : Nat)) ops = true := fun ops => by
    unfold pr17; rw [toI_i, leb_t (by omega), leN_t (show (q.at 3).toL.length ≤ 1073741824 by omega)]; rfl
  have he := heldL_len q (i : Nat) (sgn true)
  have hg := heldL_len q (i : Nat) (sgn false)
  have hu := uni_len (heldL q (i : Nat) (sgn false)) (heldL q (i : Nat) (sgn true))
  have hb := byL_len q (i : Nat)
  have p18 : ∀ s t c, s.toL.length ≤ 1099511627776 → okN c = true → pr18 s t c = true := fun s t c hs hc => by
    unfold pr18; rw [hc, leN_t hs]; rfl
  have p19 : ∀ xs m : List D, xs.length ≤ 4096 → m.length ≤ 4096 → pr19 (.sz xs) (.sz m) = true := fun xs m h1 h2 => by
    unfold pr19; rw [show okN (.sz xs) = true from rfl, toL_sz, toL_sz, leN_t (show xs.length ≤ 549755813888 by omega), leN_t (show m.length ≤ 549755813888 by omega)]; rfl
  simp only [l10_8, m10_9, m10_10, m10_11, m10_12, m10_15, m10_16, m10_17, m10_18, m10_19, m10_20, m10_25, m10_26, m10_27, m10_28, m10_29, m10_30, m10_31, m10_32, m10_33, m10_95, isPtr_p, deref_p, toI_i, toB_b, toL_sz, cond_true, cond_false, ltb_n hi1, inb_t hi1, at_nat, hge, p17, sp17, sgn_eq, sgn_rg, sp18, p18 o ((q.at 0).toL.getD i .nil) (.sz (heldL q (i : Nat) (sgn true))) (by omega) rfl]
  have a1 := addS_len o ((q.at 0).toL.getD i .nil) (heldL q (i : Nat) (sgn true))
  rw [lp33 N _ _ _ _ (heldL q (i : Nat) (sgn true)) (heldL q (i : Nat) (sgn false)) _ _ _ _ _ (by omega) (by omega) (by omega) (by omega)]
  have a2 := fold_len (g := of2 ((q.at 0).toL.getD i .nil) (heldL q (i : Nat) (sgn true))) (fun o c => addS_len _ _ _) (heldL q (i : Nat) (sgn false)) (addS o ((q.at 0).toL.getD i .nil) (heldL q (i : Nat) (sgn true)))
  have e19 : (sp19 (.sz (heldL q (i : Nat) (sgn true))) (.sz (heldL q (i : Nat) (sgn false)))).toL = uni (heldL q (i : Nat) (sgn true)) (heldL q (i : Nat) (sgn false)) := by unfold sp19; rw [toL_mkD]; rfl
  simp only [m10_46, m10_47, m10_48, m10_49, m10_50, p19 _ _ (show (heldL q (i : Nat) (sgn true)).length ≤ 4096 by omega) (show (heldL q (i : Nat) (sgn false)).length ≤ 4096 by omega), cond_true]
  rw [lp50 N _ _ _ _ _ _ _ _ _ _ (by rw [e19]; omega) (by omega) (by omega), e19]
  have a3 := fold_len (g := of3 ((q.at 0).toL.getD i .nil)) (fun o c => addS_len _ _ _) (uni (heldL q (i : Nat) (sgn true)) (heldL q (i : Nat) (sgn false))) ((heldL q (i : Nat) (sgn false)).foldl (of2 ((q.at 0).toL.getD i .nil) (heldL q (i : Nat) (sgn true))) (addS o ((q.at 0).toL.getD i .nil) (heldL q (i : Nat) (sgn true))))
  unfold ofT
  simp only [m10_63, m10_64, m10_65, m10_66, m10_67, m10_68, m10_69, m10_70, m10_71, m10_72, m10_73, m10_86, m10_87, isPtr_p, deref_p, cond_true]
  have ex : sp21_22 (q.at 7) = (q.at 7).toL.any sp22 := fst_any0 sp22 (q.at 7).toL
  rw [ex]
  generalize (uni (heldL q (i : Nat) (sgn true)) (heldL q (i : Nat) (sgn false))).foldl _ _ = o3 at a3 ⊢
  generalize (q.at 0).toL.getD i .nil = t at *
  generalize hE : heldL q (i : Nat) (sgn true) = E at *
  generalize heldL q (i : Nat) (sgn false) = G at *
  -- the rest, for any columns of the order
  have rest : ∀ b : List D, b = byL q (i : Nat) → m10_88 N (.p q) o3 t (.sz E) (.sz b) (q.at 0) (.i ((q.at 0).toL.length : Int)) (.i (i : Nat)) (fun y1 y3 y16 y17 y18 => l10_8 N j y1 y3 y16 y17 (.i (IntKind.i64.wrap (y18.toI + 1))) K0) =
      l10_8 N j (.p q) (bif ltb 0 ((byL q (i : Nat)).length : Int) then addS (addS o3 t (byL q (i : Nat))) t (uni E (byL q (i : Nat))) else addS o3 t (byL q (i : Nat))) (q.at 0) (.i ((q.at 0).toL.length : Int)) (.i ((i + 1 : Nat) : Int)) K0 := by
    intro b hbb
    rw [← hbb] at hb ⊢
    have a4 := addS_len o3 t b
    have e20 : (sp19 (.sz E) (.sz b)).toL = uni E b := by unfold sp19; rw [toL_mkD]; rfl
    have p1 : pr18 o3 t (.sz b) = true := p18 _ _ _ (by omega) rfl
    have p2 : pr19 (.sz E) (.sz b) = true := p19 _ _ (by omega) (by omega)
    have p3 : pr18 (addS o3 t b) t (sp19 (.sz E) (.sz b)) = true := p18 _ _ _ (by omega) (okN_mkD _ _)
    unfold m10_88 sp18
    rw [p1, toL_sz, p2, p3, e20]
    simp only [cond_true, toI_i, succ_n hi1 (show (q.at 0).toL.length ≤ 9223372036854775807 by omega)]
    cases ltb 0 (b.length : Int) <;> rfl
  cases hs : sp20 q
  · simp only [cond_false, toB_b]
    exact rest [] (by unfold byL; rw [hs]; rfl)
  · cases ha : (q.at 7).toL.any sp22
    · simp only [Bool.not_false, toB_b, cond_true]
      rw [lp73 N _ _ _ _ _ _ _ _ _ _ (by omega) (by omega)]
      have p23 : pr23 q (.i (i : Nat)) (.sz ((q.at 7).toL.map fun x => x.at 0)) = true := by
        unfold pr23; rw [toI_i, leb_t (by omega), toL_sz, List.length_map, leN_t (show (q.at 7).toL.length ≤ 1073741824 by omega)]; rfl
      simp only [isPtr_p, deref_p, p23, cond_true]
      exact rest _ (by unfold byL; rw [hs, ha]; rfl)
    · simp only [Bool.not_true, toB_b, cond_true, cond_false]
      exact rest [] (by unfold byL; rw [hs, ha]; rfl)
theorem ok10 : FnOk Try.prog PHI Tb10 := FnOk.add1 hPHI ok29 (by kernel_rfl) fun q ha hp => ⟨9000, (r10 _ q).trans (by
  have hp' : prOf q = true := hp
  simp only [prOf, Bool.and_eq_true] at hp'
  have ht := leN_le hp'.1
  simp only [m10_0, m10_1, m10_2, m10_3, m10_4, m10_5, m10_6, m10_7, m10_8, m10_96, isPtr_p, deref_p, cond_true]
  generalize hN : 9000 = N
  have hm : nOf q ≤ (q.at 0).toL.length := Nat.min_le_left _ _
  have h := loop_fold (fun j i s => l10_8 N j (.p q) s (q.at 0) (.i ((q.at 0).toL.length : Int)) (.i (i : Nat)) fun y3 => finish vf10 .ret (s10_16 y3)) (fun s => finish vf10 .ret (s10_16 s)) (nOf q) (fun i o => ofT q ((q.at 0).toL.getD i .nil) (i : Nat) o) (fun i s => s.toL.length ≤ 8192 * i)
    (fun j i s hi hs => st10 N q _ hp (by omega) j i s hi hs)
    (fun i s hi hs => by have := ofT_len q ((q.at 0).toL.getD i .nil) (i : Nat) s (leN_le hp'.2.1); omega)
    (fun j s hs => by
      by_cases hlt : nOf q < (q.at 0).toL.length
      · have he : nOf q = (q.at 1).toL.length := by unfold nOf at *; omega
        simp only [l10_8, m10_9, m10_10, m10_11, m10_12, m10_15, m10_16, m10_17, m10_18, m10_19, m10_20, isPtr_p, deref_p, toI_i, toB_b, cond_true, ltb_n hlt, inb_t hlt, leb_t (show ((q.at 1).toL.length : Int) ≤ (nOf q : Nat) by omega)]
      · have he : nOf q = (q.at 0).toL.length := by omega
        rw [he]
        simp only [l10_8, m10_9, m10_10, m10_11, m10_12, toI_i, toB_b, ltb_self, cond_false])
    (nOf q) 0 N (.sz []) (by omega) (by omega) (by simp [D.toL])
  exact h)⟩

end Go.Vam.C20
namespace Go.Vam.C20
open Go.Proofs
theorem nsl_cons {x : D} {xs : List D} : nsl (x :: xs) = .sl (x :: xs) := rfl
theorem nsl_27 (xs : List D) (n : Int) (hn : 1 ≤ n) : sp27 (nsl xs) (.i n) = nsl (xs.take n.toNat) := by
  have h := toL_27 (nsl xs) (.i n) (show (0 : Int) ≤ n by omega)
  rw [toL_nsl, toI_i] at h
  cases xs with
  | nil => rw [List.take_nil]; rfl
  | cons x xs =>
    have e : sp27 (nsl (x :: xs)) (.i n) = .sl ((sp27 (nsl (x :: xs)) (.i n)).toL) := rfl
    rw [e, h]
    obtain ⟨m, hm⟩ : ∃ m, n.toNat = m + 1 := ⟨n.toNat - 1, by omega⟩
    rw [hm]; rfl
theorem onces_nsl : ∀ (l xs : List D), onces (nsl xs) l = nsl (uni xs l)
  | [], xs => rfl
  | c :: l, xs => by
    show onces (sp26 (nsl xs) c) l = nsl (uni (add1 xs c) l)
    rw [nsl_26, onces_nsl]
theorem nsl_28 (xs : List D) (b : D) : sp28 (nsl xs) b = nsl (uni xs b.toL) := onces_nsl _ _
/-- No index of a list is there already. -/
def realF (l : D) : Prop := ∀ d ∈ l.toL, (d.at 2).toB = false
theorem realF_addS {l t : D} {xs : List D} (h : realF l) : realF (addS l t xs) := by
  unfold addS
  cases (xs.take 3).isEmpty || l.toL.any (fun d => eqb (d.at 0).toI t.toI && sp40 (d.at 1) (.sl (xs.take 3)))
  · intro d hd
    simp only [cond_false, toL_sl, List.mem_append, List.mem_singleton] at hd
    rcases hd with hd | rfl
    · exact h d hd
    · rfl
  · exact h
theorem any_congr' {p q : D → Bool} : ∀ {l : List D}, (∀ x ∈ l, p x = q x) → l.any p = l.any q
  | [], _ => rfl
  | x :: l, h => by rw [List.any_cons, List.any_cons, h x List.mem_cons_self, any_congr' fun y hy => h y (List.mem_cons_of_mem _ hy)]
theorem sp25_nsl {l t : D} {xs : List D} (h : realF l) : sp25 l t (nsl xs) = addS l t xs := by
  unfold sp25 addS
  rw [toL_nsl, nsl_27 xs 3 (by decide), show (3 : Int).toNat = 3 from rfl]
  cases hY : xs.take 3 with
  | nil => rfl
  | cons y ys =>
    rw [nsl_cons]
    have e : l.toL.any (fun x => sp14 x (.ag [t, .sl (y :: ys), .b false])) = l.toL.any (fun d => eqb (d.at 0).toI t.toI && sp40 (d.at 1) (.sl (y :: ys))) := by
      refine any_congr' fun x hx => ?_
      show (eqb (x.at 0).toI t.toI && ((x.at 2).toB == false && sp40 (x.at 1) (.sl (y :: ys)))) = _
      rw [h x hx]; rfl
    rw [e]
theorem ord_plc (q : D) (f : Int) : ∀ (l s : List D), l.any sp22 = false → runO (ordO q f) l s = runO (plcO q f) (l.map fun x => x.at 0) s
  | [], s, _ => rfl
  | x :: l, s, h => by
    simp only [List.any_cons, Bool.or_eq_false_iff] at h
    rw [runO, List.map_cons, runO]
    have e : ordO q f s x = plcO q f s (x.at 0) := by
      unfold ordO plcO
      rw [show (x.at 1).toB = false from h.1]; rfl
    rw [e]
    cases plcO q f s (x.at 0) with
    | none => rfl
    | some s' => exact ord_plc q f l s' h.2
theorem ord_none (q : D) (f : Int) : ∀ (l s : List D), l.any sp22 = true → runO (ordO q f) l s = none
  | [], s, h => by cases h
  | x :: l, s, h => by
    rw [runO]
    cases hx : (x.at 1).toB
    · have h' : l.any sp22 = true := by
        rw [List.any_cons, show sp22 x = false from hx] at h; exact h
      unfold ordO
      rw [hx]
      cases eqb (sp43 q (x.at 0)) f
      · rfl
      · exact ord_none q f l _ h'
    · unfold ordO; rw [hx]; rfl
theorem sp29_by (q f : D) : sp29 q f = nsl (byL q f.toI) := by
  unfold sp29 byL
  cases ha : (q.at 7).toL.any sp22
  · rw [ord_plc q f.toI _ _ ha]
    cases runO (plcO q f.toI) ((q.at 7).toL.map fun x => x.at 0) [] with
    | none => cases sp20 q <;> rfl
    | some r => cases sp20 q <;> rfl
  · rw [ord_none q f.toI _ _ ha]
    cases sp20 q <;> rfl
def sp11 (q : D) : D := sp10 q
def pr11 (q : D) : Bool := prOf q
section
variable {R : Type}
def m11_1 (N : Nat) (x0 : D) (K : D → Option R) : Option R :=
  K (D.p x0)
def s11_0 (x0 : D) : St := sts 91 [(0, V.f x0)] []
def s11_1 (x1 : D) : St := sts 91 [(1, V.f x1)] []
theorem e11_1 (N : Nat) (k : Kn R) (x0 : D) : runC PHI Tb10 N vc11_1 (s11_0 x0) k = m11_1 N x0 (fun x1 => k .normal (s11_1 x1)) := by
  refine Eq.trans (runC_post _ _ _ k) (Eq.trans (ops_run _ _ _ _) (by kernel_rfl))
def m11_3 (N : Nat) (x1 : D) (K : D → D → Option R) : Option R :=
  K x1 (D.sz [])
def s11_2 (x1 x3 : D) : St := sts 91 [(1, V.f x1), (3, V.f x3)] []
theorem e11_3 (N : Nat) (k : Kn R) (x1 : D) : runC PHI Tb10 N vc11_3 (s11_1 x1) k = m11_3 N x1 (fun x1 x3 => k .normal (s11_2 x1 x3)) := by
  refine Eq.trans (runC_post _ _ _ k) (Eq.trans (ops_run _ _ _ _) (by kernel_rfl))
def m11_6 (N : Nat) (x1 x3 : D) (K : D → D → D → Option R) : Option R :=
  K x1 x3 (D.i 0)
def s11_3 (x1 x3 x4 : D) : St := sts 91 [(1, V.f x1), (3, V.f x3), (4, V.f x4)] []
theorem e11_6 (N : Nat) (k : Kn R) (x1 x3 : D) : runC PHI Tb10 N vc11_6 (s11_2 x1 x3) k = m11_6 N x1 x3 (fun x1 x3 x4 => k .normal (s11_3 x1 x3 x4)) := by
  refine Eq.trans (runC_post _ _ _ k) (Eq.trans (ops_run _ _ _ _) (by kernel_rfl))
def m11_10 (N : Nat) (x1 x3 x4 : D) (K : D → D → D → Option R) (K0 : D → Option R) : Option R :=
  (bif (isPtrD x1) then (bif (ltb x4.toI ((x1.deref.at 0).toL.length : Int)) then (bif (isPtrD x1) then (bif (ltb x4.toI ((x1.deref.at 1).toL.length : Int)) then K x1 x3 x4 else K0 x3) else none) else (bif false then K x1 x3 x4 else K0 x3)) else none)
def s11_4 (x3 : D) : St := sts 91 [(3, V.f x3)] []
theorem e11_10 (N : Nat) (k : Kn R) (x1 x3 x4 : D) : runC PHI Tb10 N vc11_10 (s11_3 x1 x3 x4) k = m11_10 N x1 x3 x4 (fun x1 x3 x4 => k .normal (s11_3 x1 x3 x4)) (fun x3 => k (.exit 0) (s11_4 x3)) := by kernel_rfl
def m11_18 (N : Nat) (x1 x3 x4 : D) (K : D → D → D → D → Option R) : Option R :=
  (bif (isPtrD x1) then (bif (inb x4.toI (x1.deref.at 0).toL.length) then K x1 x3 x4 ((x1.deref.at 0).at (x4.toI : Int).toNat) else none) else none)
def s11_5 (x1 x3 x4 x5 : D) : St := sts 91 [(1, V.f x1), (3, V.f x3), (4, V.f x4), (5, V.f x5)] []
theorem e11_18 (N : Nat) (k : Kn R) (x1 x3 x4 : D) : runC PHI Tb10 N vc11_18 (s11_3 x1 x3 x4) k = m11_18 N x1 x3 x4 (fun x1 x3 x4 x5 => k .normal (s11_5 x1 x3 x4 x5)) := by
  refine Eq.trans (runC_post _ _ _ k) (Eq.trans (ops_run _ _ _ _) (by kernel_rfl))
def m11_20 (N : Nat) (x1 x3 x4 x5 : D) (K : D → D → D → D → D → D → Option R) : Option R :=
  (bif (isPtrD x1) then (bif (pr24 x1.deref x4 (D.b true)) then (bif (isPtrD x1) then (bif (pr24 x1.deref x4 (D.b false)) then K x1 x3 x4 x5 (sp24 x1.deref x4 (D.b true)) (sp24 x1.deref x4 (D.b false)) else none) else none) else none) else none)
def s11_6 (x1 x3 x4 x5 x6 x7 : D) : St := sts 91 [(1, V.f x1), (3, V.f x3), (4, V.f x4), (5, V.f x5), (6, V.f x6), (7, V.f x7)] []
theorem e11_20 (N : Nat) (k : Kn R) (x1 x3 x4 x5 : D) : runC PHI Tb10 N vc11_20 (s11_5 x1 x3 x4 x5) k = m11_20 N x1 x3 x4 x5 (fun x1 x3 x4 x5 x6 x7 => k .normal (s11_6 x1 x3 x4 x5 x6 x7)) := by
  refine Eq.trans (runC_post _ _ _ k) (Eq.trans (ops_run _ _ _ _) (by kernel_rfl))
def m11_22 (N : Nat) (x1 x3 x4 x5 x6 x7 : D) (K : D → D → D → D → D → D → Option R) : Option R :=
  (bif (pr25 x3 x5 x6) then K x1 (sp25 x3 x5 x6) x4 x5 x6 x7 else none)
theorem e11_22 (N : Nat) (k : Kn R) (x1 x3 x4 x5 x6 x7 : D) : runC PHI Tb10 N vc11_22 (s11_6 x1 x3 x4 x5 x6 x7) k = m11_22 N x1 x3 x4 x5 x6 x7 (fun x1 x3 x4 x5 x6 x7 => k .normal (s11_6 x1 x3 x4 x5 x6 x7)) := by
  refine Eq.trans (runC_post _ _ _ k) (Eq.trans (ops_run _ _ _ _) (by kernel_rfl))
def m11_25 (N : Nat) (x1 x3 x4 x5 x6 x7 : D) (K : D → D → D → D → D → D → D → Option R) : Option R :=
  K x1 x3 x4 x5 x6 x7 (D.i 0)
def s11_7 (x1 x3 x4 x5 x6 x7 x8 : D) : St := sts 91 [(1, V.f x1), (3, V.f x3), (4, V.f x4), (5, V.f x5), (6, V.f x6), (7, V.f x7), (8, V.f x8)] []
theorem e11_25 (N : Nat) (k : Kn R) (x1 x3 x4 x5 x6 x7 : D) : runC PHI Tb10 N vc11_25 (s11_6 x1 x3 x4 x5 x6 x7) k = m11_25 N x1 x3 x4 x5 x6 x7 (fun x1 x3 x4 x5 x6 x7 x8 => k .normal (s11_7 x1 x3 x4 x5 x6 x7 x8)) := by
  refine Eq.trans (runC_post _ _ _ k) (Eq.trans (ops_run _ _ _ _) (by kernel_rfl))
def m11_28 (N : Nat) (x1 x3 x4 x5 x6 x7 x8 : D) (K : D → D → D → D → D → D → D → Option R) (K2 : D → D → D → D → D → D → Option R) : Option R :=
  (bif (ltb x8.toI (x7.toL.length : Int)) then (bif (pr27 x6 (D.i 2)) then (bif (inb x8.toI x7.toL.length) then (bif (pr26 (sp27 x6 (D.i 2)) (x7.at (x8.toI : Int).toNat)) then (bif (pr25 x3 x5 (sp26 (sp27 x6 (D.i 2)) (x7.at (x8.toI : Int).toNat))) then K x1 (sp25 x3 x5 (sp26 (sp27 x6 (D.i 2)) (x7.at (x8.toI : Int).toNat))) x4 x5 x6 x7 (D.i (IntKind.wrap IntKind.i64 (x8.toI + 1))) else none) else none) else none) else none) else K2 x1 x3 x4 x5 x6 x7)
theorem e11_28 (N : Nat) (k : Kn R) (x1 x3 x4 x5 x6 x7 x8 : D) : runC PHI Tb10 N vc11_28 (s11_7 x1 x3 x4 x5 x6 x7 x8) k = m11_28 N x1 x3 x4 x5 x6 x7 x8 (fun x1 x3 x4 x5 x6 x7 x8 => k .normal (s11_7 x1 x3 x4 x5 x6 x7 x8)) (fun x1 x3 x4 x5 x6 x7 => k (.exit 2) (s11_6 x1 x3 x4 x5 x6 x7)) := by kernel_rfl
def l11_27 (N : Nat) (j : Nat) (x1 x3 x4 x5 x6 x7 x8 : D) (K2 : D → D → D → D → D → D → Option R) : Option R :=
  match j with
  | 0 => none
  | j + 1 => (m11_28 N x1 x3 x4 x5 x6 x7 x8 (fun y1 y3 y4 y5 y6 y7 y8 => l11_27 N j y1 y3 y4 y5 y6 y7 y8 K2) K2)
def m11_27 (N : Nat) (x1 x3 x4 x5 x6 x7 x8 : D) (K2 : D → D → D → D → D → D → Option R) : Option R :=
  l11_27 N N x1 x3 x4 x5 x6 x7 x8 K2
theorem el11_27 (N : Nat) (k : Kn R) : ∀ (j : Nat) (x1 x3 x4 x5 x6 x7 x8 : D), loopGo (runC PHI Tb10 N vc11_28) j (s11_7 x1 x3 x4 x5 x6 x7 x8) k = l11_27 N j x1 x3 x4 x5 x6 x7 x8 (fun x1 x3 x4 x5 x6 x7 => k (.exit 2) (s11_6 x1 x3 x4 x5 x6 x7))
  | 0, _, _, _, _, _, _, _ => by kernel_rfl
  | j + 1, x1, x3, x4, x5, x6, x7, x8 => by
    have h2 := e11_28 N (kloop PHI Tb10 N vc11_28 j k) x1 x3 x4 x5 x6 x7 x8
    have h3 : (fun (y1 y3 y4 y5 y6 y7 y8 : D) => (kloop PHI Tb10 N vc11_28 j k) .normal (s11_7 y1 y3 y4 y5 y6 y7 y8)) = (fun (y1 y3 y4 y5 y6 y7 y8 : D) => l11_27 N j y1 y3 y4 y5 y6 y7 y8 (fun x1 x3 x4 x5 x6 x7 => k (.exit 2) (s11_6 x1 x3 x4 x5 x6 x7))) := funext fun y1 => funext fun y3 => funext fun y4 => funext fun y5 => funext fun y6 => funext fun y7 => funext fun y8 => (el11_27 N k j y1 y3 y4 y5 y6 y7 y8)
    refine Eq.trans (loop_succ _ j _ k) (Eq.trans h2 (Eq.trans (congrArg (fun K => m11_28 N x1 x3 x4 x5 x6 x7 x8 K (fun x1 x3 x4 x5 x6 x7 => (kloop PHI Tb10 N vc11_28 j k) (.exit 2) (s11_6 x1 x3 x4 x5 x6 x7))) h3) (by kernel_rfl)))
theorem e11_27 (N : Nat) (k : Kn R) (x1 x3 x4 x5 x6 x7 x8 : D) : runC PHI Tb10 N vc11_27 (s11_7 x1 x3 x4 x5 x6 x7 x8) k = m11_27 N x1 x3 x4 x5 x6 x7 x8 (fun x1 x3 x4 x5 x6 x7 => k (.exit 2) (s11_6 x1 x3 x4 x5 x6 x7)) := by
  refine Eq.trans (runC_loop _ _ k) (Eq.trans (el11_27 N k N x1 x3 x4 x5 x6 x7 x8) (by kernel_rfl))
def m11_26 (N : Nat) (x1 x3 x4 x5 x6 x7 x8 : D) (K : D → D → D → D → D → D → Option R) : Option R :=
  (m11_27 N x1 x3 x4 x5 x6 x7 x8 (fun y1 y3 y4 y5 y6 y7 => K y1 y3 y4 y5 y6 y7))
theorem e11_26 (N : Nat) (k : Kn R) (x1 x3 x4 x5 x6 x7 x8 : D) : runC PHI Tb10 N vc11_26 (s11_7 x1 x3 x4 x5 x6 x7 x8) k = m11_26 N x1 x3 x4 x5 x6 x7 x8 (fun x1 x3 x4 x5 x6 x7 => k .normal (s11_6 x1 x3 x4 x5 x6 x7)) := by
  refine Eq.trans (runC_block _ _ _ k) (Eq.trans (e11_27 N (kblk 2 k) x1 x3 x4 x5 x6 x7 x8) (by kernel_rfl))
def m11_24 (N : Nat) (x1 x3 x4 x5 x6 x7 : D) (K : D → D → D → D → D → D → Option R) : Option R :=
  (m11_25 N x1 x3 x4 x5 x6 x7 (fun y1 y3 y4 y5 y6 y7 y8 => (m11_26 N y1 y3 y4 y5 y6 y7 y8 (fun y1 y3 y4 y5 y6 y7 => K y1 y3 y4 y5 y6 y7))))
theorem e11_24 (N : Nat) (k : Kn R) (x1 x3 x4 x5 x6 x7 : D) : runC PHI Tb10 N vc11_24 (s11_6 x1 x3 x4 x5 x6 x7) k = m11_24 N x1 x3 x4 x5 x6 x7 (fun x1 x3 x4 x5 x6 x7 => k .normal (s11_6 x1 x3 x4 x5 x6 x7)) := by
  have h2 := e11_25 N (kseq PHI Tb10 N vc11_26 k) x1 x3 x4 x5 x6 x7
  have h3 := (funext fun y1 => funext fun y3 => funext fun y4 => funext fun y5 => funext fun y6 => funext fun y7 => funext fun y8 => (e11_26 N k y1 y3 y4 y5 y6 y7 y8) : (fun (y1 y3 y4 y5 y6 y7 y8 : D) => (kseq PHI Tb10 N vc11_26 k) .normal (s11_7 y1 y3 y4 y5 y6 y7 y8)) = _)
  refine Eq.trans (runC_seq _ _ _ k) (Eq.trans h2 (Eq.trans (congrArg (fun K => m11_25 N x1 x3 x4 x5 x6 x7 K) h3) (by kernel_rfl)))
def m11_39 (N : Nat) (x1 x3 x4 x5 x6 x7 : D) (K : D → D → D → D → D → D → Option R) : Option R :=
  (bif (pr28 x6 x7) then K x1 x3 x4 x5 x6 (sp28 x6 x7) else none)
def s11_8 (x1 x3 x4 x5 x6 x9 : D) : St := sts 91 [(1, V.f x1), (3, V.f x3), (4, V.f x4), (5, V.f x5), (6, V.f x6), (9, V.f x9)] []
theorem e11_39 (N : Nat) (k : Kn R) (x1 x3 x4 x5 x6 x7 : D) : runC PHI Tb10 N vc11_39 (s11_6 x1 x3 x4 x5 x6 x7) k = m11_39 N x1 x3 x4 x5 x6 x7 (fun x1 x3 x4 x5 x6 x9 => k .normal (s11_8 x1 x3 x4 x5 x6 x9)) := by
  refine Eq.trans (runC_post _ _ _ k) (Eq.trans (ops_run _ _ _ _) (by kernel_rfl))
def m11_42 (N : Nat) (x1 x3 x4 x5 x6 x9 : D) (K : D → D → D → D → D → D → D → Option R) : Option R :=
  K x1 x3 x4 x5 x6 x9 (D.i 0)
def s11_9 (x1 x3 x4 x5 x6 x9 x10 : D) : St := sts 91 [(1, V.f x1), (3, V.f x3), (4, V.f x4), (5, V.f x5), (6, V.f x6), (9, V.f x9), (10, V.f x10)] []
theorem e11_42 (N : Nat) (k : Kn R) (x1 x3 x4 x5 x6 x9 : D) : runC PHI Tb10 N vc11_42 (s11_8 x1 x3 x4 x5 x6 x9) k = m11_42 N x1 x3 x4 x5 x6 x9 (fun x1 x3 x4 x5 x6 x9 x10 => k .normal (s11_9 x1 x3 x4 x5 x6 x9 x10)) := by
  refine Eq.trans (runC_post _ _ _ k) (Eq.trans (ops_run _ _ _ _) (by kernel_rfl))
def m11_45 (N : Nat) (x1 x3 x4 x5 x6 x9 x10 : D) (K : D → D → D → D → D → D → D → Option R) (K4 : D → D → D → D → D → Option R) : Option R :=
  (bif (ltb x10.toI (x9.toL.length : Int)) then (bif (inb x10.toI x9.toL.length) then (bif (pr25 x3 x5 (D.sl ([(x9.at (x10.toI : Int).toNat)] : List D))) then K x1 (sp25 x3 x5 (D.sl ([(x9.at (x10.toI : Int).toNat)] : List D))) x4 x5 x6 x9 (D.i (IntKind.wrap IntKind.i64 (x10.toI + 1))) else none) else none) else K4 x1 x3 x4 x5 x6)
def s11_10 (x1 x3 x4 x5 x6 : D) : St := sts 91 [(1, V.f x1), (3, V.f x3), (4, V.f x4), (5, V.f x5), (6, V.f x6)] []
theorem e11_45 (N : Nat) (k : Kn R) (x1 x3 x4 x5 x6 x9 x10 : D) : runC PHI Tb10 N vc11_45 (s11_9 x1 x3 x4 x5 x6 x9 x10) k = m11_45 N x1 x3 x4 x5 x6 x9 x10 (fun x1 x3 x4 x5 x6 x9 x10 => k .normal (s11_9 x1 x3 x4 x5 x6 x9 x10)) (fun x1 x3 x4 x5 x6 => k (.exit 4) (s11_10 x1 x3 x4 x5 x6)) := by kernel_rfl
def l11_44 (N : Nat) (j : Nat) (x1 x3 x4 x5 x6 x9 x10 : D) (K4 : D → D → D → D → D → Option R) : Option R :=
  match j with
  | 0 => none
  | j + 1 => (m11_45 N x1 x3 x4 x5 x6 x9 x10 (fun y1 y3 y4 y5 y6 y9 y10 => l11_44 N j y1 y3 y4 y5 y6 y9 y10 K4) K4)
def m11_44 (N : Nat) (x1 x3 x4 x5 x6 x9 x10 : D) (K4 : D → D → D → D → D → Option R) : Option R :=
  l11_44 N N x1 x3 x4 x5 x6 x9 x10 K4
theorem el11_44 (N : Nat) (k : Kn R) : ∀ (j : Nat) (x1 x3 x4 x5 x6 x9 x10 : D), loopGo (runC PHI Tb10 N vc11_45) j (s11_9 x1 x3 x4 x5 x6 x9 x10) k = l11_44 N j x1 x3 x4 x5 x6 x9 x10 (fun x1 x3 x4 x5 x6 => k (.exit 4) (s11_10 x1 x3 x4 x5 x6))
  | 0, _, _, _, _, _, _, _ => by kernel_rfl
  | j + 1, x1, x3, x4, x5, x6, x9, x10 => by
    have h2 := e11_45 N (kloop PHI Tb10 N vc11_45 j k) x1 x3 x4 x5 x6 x9 x10
    have h3 : (fun (y1 y3 y4 y5 y6 y9 y10 : D) => (kloop PHI Tb10 N vc11_45 j k) .normal (s11_9 y1 y3 y4 y5 y6 y9 y10)) = (fun (y1 y3 y4 y5 y6 y9 y10 : D) => l11_44 N j y1 y3 y4 y5 y6 y9 y10 (fun x1 x3 x4 x5 x6 => k (.exit 4) (s11_10 x1 x3 x4 x5 x6))) := funext fun y1 => funext fun y3 => funext fun y4 => funext fun y5 => funext fun y6 => funext fun y9 => funext fun y10 => (el11_44 N k j y1 y3 y4 y5 y6 y9 y10)
    refine Eq.trans (loop_succ _ j _ k) (Eq.trans h2 (Eq.trans (congrArg (fun K => m11_45 N x1 x3 x4 x5 x6 x9 x10 K (fun x1 x3 x4 x5 x6 => (kloop PHI Tb10 N vc11_45 j k) (.exit 4) (s11_10 x1 x3 x4 x5 x6))) h3) (by kernel_rfl)))
theorem e11_44 (N : Nat) (k : Kn R) (x1 x3 x4 x5 x6 x9 x10 : D) : runC PHI Tb10 N vc11_44 (s11_9 x1 x3 x4 x5 x6 x9 x10) k = m11_44 N x1 x3 x4 x5 x6 x9 x10 (fun x1 x3 x4 x5 x6 => k (.exit 4) (s11_10 x1 x3 x4 x5 x6)) := by
  refine Eq.trans (runC_loop _ _ k) (Eq.trans (el11_44 N k N x1 x3 x4 x5 x6 x9 x10) (by kernel_rfl))
def m11_43 (N : Nat) (x1 x3 x4 x5 x6 x9 x10 : D) (K : D → D → D → D → D → Option R) : Option R :=
  (m11_44 N x1 x3 x4 x5 x6 x9 x10 (fun y1 y3 y4 y5 y6 => K y1 y3 y4 y5 y6))
theorem e11_43 (N : Nat) (k : Kn R) (x1 x3 x4 x5 x6 x9 x10 : D) : runC PHI Tb10 N vc11_43 (s11_9 x1 x3 x4 x5 x6 x9 x10) k = m11_43 N x1 x3 x4 x5 x6 x9 x10 (fun x1 x3 x4 x5 x6 => k .normal (s11_10 x1 x3 x4 x5 x6)) := by
  refine Eq.trans (runC_block _ _ _ k) (Eq.trans (e11_44 N (kblk 4 k) x1 x3 x4 x5 x6 x9 x10) (by kernel_rfl))
def m11_41 (N : Nat) (x1 x3 x4 x5 x6 x9 : D) (K : D → D → D → D → D → Option R) : Option R :=
  (m11_42 N x1 x3 x4 x5 x6 x9 (fun y1 y3 y4 y5 y6 y9 y10 => (m11_43 N y1 y3 y4 y5 y6 y9 y10 (fun y1 y3 y4 y5 y6 => K y1 y3 y4 y5 y6))))
theorem e11_41 (N : Nat) (k : Kn R) (x1 x3 x4 x5 x6 x9 : D) : runC PHI Tb10 N vc11_41 (s11_8 x1 x3 x4 x5 x6 x9) k = m11_41 N x1 x3 x4 x5 x6 x9 (fun x1 x3 x4 x5 x6 => k .normal (s11_10 x1 x3 x4 x5 x6)) := by
  have h2 := e11_42 N (kseq PHI Tb10 N vc11_43 k) x1 x3 x4 x5 x6 x9
  have h3 := (funext fun y1 => funext fun y3 => funext fun y4 => funext fun y5 => funext fun y6 => funext fun y9 => funext fun y10 => (e11_43 N k y1 y3 y4 y5 y6 y9 y10) : (fun (y1 y3 y4 y5 y6 y9 y10 : D) => (kseq PHI Tb10 N vc11_43 k) .normal (s11_9 y1 y3 y4 y5 y6 y9 y10)) = _)
  refine Eq.trans (runC_seq _ _ _ k) (Eq.trans h2 (Eq.trans (congrArg (fun K => m11_42 N x1 x3 x4 x5 x6 x9 K) h3) (by kernel_rfl)))
def m11_55 (N : Nat) (x1 x3 x4 x5 x6 : D) (K : D → D → D → Option R) : Option R :=
  (bif (isPtrD x1) then (bif (pr29 x1.deref x4) then (bif (pr25 x3 x5 (sp29 x1.deref x4)) then (bif (ltb 0 ((sp29 x1.deref x4).toL.length : Int)) then (bif (pr28 x6 (sp29 x1.deref x4)) then (bif (pr25 (sp25 x3 x5 (sp29 x1.deref x4)) x5 (sp28 x6 (sp29 x1.deref x4))) then K x1 (sp25 (sp25 x3 x5 (sp29 x1.deref x4)) x5 (sp28 x6 (sp29 x1.deref x4))) x4 else none) else none) else K x1 (sp25 x3 x5 (sp29 x1.deref x4)) x4) else none) else none) else none)
theorem e11_55 (N : Nat) (k : Kn R) (x1 x3 x4 x5 x6 : D) : runC PHI Tb10 N vc11_55 (s11_10 x1 x3 x4 x5 x6) k = m11_55 N x1 x3 x4 x5 x6 (fun x1 x3 x4 => k .normal (s11_3 x1 x3 x4)) := by kernel_rfl
def m11_40 (N : Nat) (x1 x3 x4 x5 x6 x9 : D) (K : D → D → D → Option R) : Option R :=
  (m11_41 N x1 x3 x4 x5 x6 x9 (fun y1 y3 y4 y5 y6 => (m11_55 N y1 y3 y4 y5 y6 (fun y1 y3 y4 => K y1 y3 y4))))
theorem e11_40 (N : Nat) (k : Kn R) (x1 x3 x4 x5 x6 x9 : D) : runC PHI Tb10 N vc11_40 (s11_8 x1 x3 x4 x5 x6 x9) k = m11_40 N x1 x3 x4 x5 x6 x9 (fun x1 x3 x4 => k .normal (s11_3 x1 x3 x4)) := by
  have h2 := e11_41 N (kseq PHI Tb10 N vc11_55 k) x1 x3 x4 x5 x6 x9
  have h3 := (funext fun y1 => funext fun y3 => funext fun y4 => funext fun y5 => funext fun y6 => (e11_55 N k y1 y3 y4 y5 y6) : (fun (y1 y3 y4 y5 y6 : D) => (kseq PHI Tb10 N vc11_55 k) .normal (s11_10 y1 y3 y4 y5 y6)) = _)
  refine Eq.trans (runC_seq _ _ _ k) (Eq.trans h2 (Eq.trans (congrArg (fun K => m11_41 N x1 x3 x4 x5 x6 x9 K) h3) (by kernel_rfl)))
def m11_38 (N : Nat) (x1 x3 x4 x5 x6 x7 : D) (K : D → D → D → Option R) : Option R :=
  (m11_39 N x1 x3 x4 x5 x6 x7 (fun y1 y3 y4 y5 y6 y9 => (m11_40 N y1 y3 y4 y5 y6 y9 (fun y1 y3 y4 => K y1 y3 y4))))
theorem e11_38 (N : Nat) (k : Kn R) (x1 x3 x4 x5 x6 x7 : D) : runC PHI Tb10 N vc11_38 (s11_6 x1 x3 x4 x5 x6 x7) k = m11_38 N x1 x3 x4 x5 x6 x7 (fun x1 x3 x4 => k .normal (s11_3 x1 x3 x4)) := by
  have h2 := e11_39 N (kseq PHI Tb10 N vc11_40 k) x1 x3 x4 x5 x6 x7
  have h3 := (funext fun y1 => funext fun y3 => funext fun y4 => funext fun y5 => funext fun y6 => funext fun y9 => (e11_40 N k y1 y3 y4 y5 y6 y9) : (fun (y1 y3 y4 y5 y6 y9 : D) => (kseq PHI Tb10 N vc11_40 k) .normal (s11_8 y1 y3 y4 y5 y6 y9)) = _)
  refine Eq.trans (runC_seq _ _ _ k) (Eq.trans h2 (Eq.trans (congrArg (fun K => m11_39 N x1 x3 x4 x5 x6 x7 K) h3) (by kernel_rfl)))
def m11_23 (N : Nat) (x1 x3 x4 x5 x6 x7 : D) (K : D → D → D → Option R) : Option R :=
  (m11_24 N x1 x3 x4 x5 x6 x7 (fun y1 y3 y4 y5 y6 y7 => (m11_38 N y1 y3 y4 y5 y6 y7 (fun y1 y3 y4 => K y1 y3 y4))))
theorem e11_23 (N : Nat) (k : Kn R) (x1 x3 x4 x5 x6 x7 : D) : runC PHI Tb10 N vc11_23 (s11_6 x1 x3 x4 x5 x6 x7) k = m11_23 N x1 x3 x4 x5 x6 x7 (fun x1 x3 x4 => k .normal (s11_3 x1 x3 x4)) := by
  have h2 := e11_24 N (kseq PHI Tb10 N vc11_38 k) x1 x3 x4 x5 x6 x7
  have h3 := (funext fun y1 => funext fun y3 => funext fun y4 => funext fun y5 => funext fun y6 => funext fun y7 => (e11_38 N k y1 y3 y4 y5 y6 y7) : (fun (y1 y3 y4 y5 y6 y7 : D) => (kseq PHI Tb10 N vc11_38 k) .normal (s11_6 y1 y3 y4 y5 y6 y7)) = _)
  refine Eq.trans (runC_seq _ _ _ k) (Eq.trans h2 (Eq.trans (congrArg (fun K => m11_24 N x1 x3 x4 x5 x6 x7 K) h3) (by kernel_rfl)))
def m11_21 (N : Nat) (x1 x3 x4 x5 x6 x7 : D) (K : D → D → D → Option R) : Option R :=
  (m11_22 N x1 x3 x4 x5 x6 x7 (fun y1 y3 y4 y5 y6 y7 => (m11_23 N y1 y3 y4 y5 y6 y7 (fun y1 y3 y4 => K y1 y3 y4))))
theorem e11_21 (N : Nat) (k : Kn R) (x1 x3 x4 x5 x6 x7 : D) : runC PHI Tb10 N vc11_21 (s11_6 x1 x3 x4 x5 x6 x7) k = m11_21 N x1 x3 x4 x5 x6 x7 (fun x1 x3 x4 => k .normal (s11_3 x1 x3 x4)) := by
  have h2 := e11_22 N (kseq PHI Tb10 N vc11_23 k) x1 x3 x4 x5 x6 x7
  have h3 := (funext fun y1 => funext fun y3 => funext fun y4 => funext fun y5 => funext fun y6 => funext fun y7 => (e11_23 N k y1 y3 y4 y5 y6 y7) : (fun (y1 y3 y4 y5 y6 y7 : D) => (kseq PHI Tb10 N vc11_23 k) .normal (s11_6 y1 y3 y4 y5 y6 y7)) = _)
  refine Eq.trans (runC_seq _ _ _ k) (Eq.trans h2 (Eq.trans (congrArg (fun K => m11_22 N x1 x3 x4 x5 x6 x7 K) h3) (by kernel_rfl)))
def m11_19 (N : Nat) (x1 x3 x4 x5 : D) (K : D → D → D → Option R) : Option R :=
  (m11_20 N x1 x3 x4 x5 (fun y1 y3 y4 y5 y6 y7 => (m11_21 N y1 y3 y4 y5 y6 y7 (fun y1 y3 y4 => K y1 y3 y4))))
theorem e11_19 (N : Nat) (k : Kn R) (x1 x3 x4 x5 : D) : runC PHI Tb10 N vc11_19 (s11_5 x1 x3 x4 x5) k = m11_19 N x1 x3 x4 x5 (fun x1 x3 x4 => k .normal (s11_3 x1 x3 x4)) := by
  have h2 := e11_20 N (kseq PHI Tb10 N vc11_21 k) x1 x3 x4 x5
  have h3 := (funext fun y1 => funext fun y3 => funext fun y4 => funext fun y5 => funext fun y6 => funext fun y7 => (e11_21 N k y1 y3 y4 y5 y6 y7) : (fun (y1 y3 y4 y5 y6 y7 : D) => (kseq PHI Tb10 N vc11_21 k) .normal (s11_6 y1 y3 y4 y5 y6 y7)) = _)
  refine Eq.trans (runC_seq _ _ _ k) (Eq.trans h2 (Eq.trans (congrArg (fun K => m11_20 N x1 x3 x4 x5 K) h3) (by kernel_rfl)))
def m11_17 (N : Nat) (x1 x3 x4 : D) (K : D → D → D → Option R) : Option R :=
  (m11_18 N x1 x3 x4 (fun y1 y3 y4 y5 => (m11_19 N y1 y3 y4 y5 (fun y1 y3 y4 => K y1 y3 y4))))
theorem e11_17 (N : Nat) (k : Kn R) (x1 x3 x4 : D) : runC PHI Tb10 N vc11_17 (s11_3 x1 x3 x4) k = m11_17 N x1 x3 x4 (fun x1 x3 x4 => k .normal (s11_3 x1 x3 x4)) := by
  have h2 := e11_18 N (kseq PHI Tb10 N vc11_19 k) x1 x3 x4
  have h3 := (funext fun y1 => funext fun y3 => funext fun y4 => funext fun y5 => (e11_19 N k y1 y3 y4 y5) : (fun (y1 y3 y4 y5 : D) => (kseq PHI Tb10 N vc11_19 k) .normal (s11_5 y1 y3 y4 y5)) = _)
  refine Eq.trans (runC_seq _ _ _ k) (Eq.trans h2 (Eq.trans (congrArg (fun K => m11_18 N x1 x3 x4 K) h3) (by kernel_rfl)))
def m11_16 (N : Nat) (x1 x3 x4 : D) (K : D → D → D → Option R) : Option R :=
  (m11_17 N x1 x3 x4 (fun y1 y3 y4 => K y1 y3 y4))
theorem e11_16 (N : Nat) (k : Kn R) (x1 x3 x4 : D) : runC PHI Tb10 N vc11_16 (s11_3 x1 x3 x4) k = m11_16 N x1 x3 x4 (fun x1 x3 x4 => k .normal (s11_3 x1 x3 x4)) := by
  refine Eq.trans (runC_block _ _ _ k) (Eq.trans (e11_17 N (kblk 1 k) x1 x3 x4) (by kernel_rfl))
def m11_64 (N : Nat) (x1 x3 x4 : D) (K : D → D → D → Option R) : Option R :=
  K x1 x3 (D.i (IntKind.wrap IntKind.i64 (x4.toI + 1)))
theorem e11_64 (N : Nat) (k : Kn R) (x1 x3 x4 : D) : runC PHI Tb10 N vc11_64 (s11_3 x1 x3 x4) k = m11_64 N x1 x3 x4 (fun x1 x3 x4 => k .normal (s11_3 x1 x3 x4)) := by
  refine Eq.trans (runC_post _ _ _ k) (Eq.trans (ops_run _ _ _ _) (by kernel_rfl))
def m11_15 (N : Nat) (x1 x3 x4 : D) (K : D → D → D → Option R) : Option R :=
  (m11_16 N x1 x3 x4 (fun y1 y3 y4 => (m11_64 N y1 y3 y4 (fun y1 y3 y4 => K y1 y3 y4))))
theorem e11_15 (N : Nat) (k : Kn R) (x1 x3 x4 : D) : runC PHI Tb10 N vc11_15 (s11_3 x1 x3 x4) k = m11_15 N x1 x3 x4 (fun x1 x3 x4 => k .normal (s11_3 x1 x3 x4)) := by
  have h2 := e11_16 N (kseq PHI Tb10 N vc11_64 k) x1 x3 x4
  have h3 := (funext fun y1 => funext fun y3 => funext fun y4 => (e11_64 N k y1 y3 y4) : (fun (y1 y3 y4 : D) => (kseq PHI Tb10 N vc11_64 k) .normal (s11_3 y1 y3 y4)) = _)
  refine Eq.trans (runC_seq _ _ _ k) (Eq.trans h2 (Eq.trans (congrArg (fun K => m11_16 N x1 x3 x4 K) h3) (by kernel_rfl)))
def m11_9 (N : Nat) (x1 x3 x4 : D) (K : D → D → D → Option R) (K0 : D → Option R) : Option R :=
  (m11_10 N x1 x3 x4 (fun y1 y3 y4 => (m11_15 N y1 y3 y4 (fun y1 y3 y4 => K y1 y3 y4))) K0)
theorem e11_9 (N : Nat) (k : Kn R) (x1 x3 x4 : D) : runC PHI Tb10 N vc11_9 (s11_3 x1 x3 x4) k = m11_9 N x1 x3 x4 (fun x1 x3 x4 => k .normal (s11_3 x1 x3 x4)) (fun x3 => k (.exit 0) (s11_4 x3)) := by
  have h2 := e11_10 N (kseq PHI Tb10 N vc11_15 k) x1 x3 x4
  have h3 := (funext fun y1 => funext fun y3 => funext fun y4 => (e11_15 N k y1 y3 y4) : (fun (y1 y3 y4 : D) => (kseq PHI Tb10 N vc11_15 k) .normal (s11_3 y1 y3 y4)) = _)
  refine Eq.trans (runC_seq _ _ _ k) (Eq.trans h2 (Eq.trans (congrArg (fun K => m11_10 N x1 x3 x4 K (fun x3 => (kseq PHI Tb10 N vc11_15 k) (.exit 0) (s11_4 x3))) h3) (by kernel_rfl)))
def l11_8 (N : Nat) (j : Nat) (x1 x3 x4 : D) (K0 : D → Option R) : Option R :=
  match j with
  | 0 => none
  | j + 1 => (m11_9 N x1 x3 x4 (fun y1 y3 y4 => l11_8 N j y1 y3 y4 K0) K0)
def m11_8 (N : Nat) (x1 x3 x4 : D) (K0 : D → Option R) : Option R :=
  l11_8 N N x1 x3 x4 K0
theorem el11_8 (N : Nat) (k : Kn R) : ∀ (j : Nat) (x1 x3 x4 : D), loopGo (runC PHI Tb10 N vc11_9) j (s11_3 x1 x3 x4) k = l11_8 N j x1 x3 x4 (fun x3 => k (.exit 0) (s11_4 x3))
  | 0, _, _, _ => by kernel_rfl
  | j + 1, x1, x3, x4 => by
    have h2 := e11_9 N (kloop PHI Tb10 N vc11_9 j k) x1 x3 x4
    have h3 : (fun (y1 y3 y4 : D) => (kloop PHI Tb10 N vc11_9 j k) .normal (s11_3 y1 y3 y4)) = (fun (y1 y3 y4 : D) => l11_8 N j y1 y3 y4 (fun x3 => k (.exit 0) (s11_4 x3))) := funext fun y1 => funext fun y3 => funext fun y4 => (el11_8 N k j y1 y3 y4)
    refine Eq.trans (loop_succ _ j _ k) (Eq.trans h2 (Eq.trans (congrArg (fun K => m11_9 N x1 x3 x4 K (fun x3 => (kloop PHI Tb10 N vc11_9 j k) (.exit 0) (s11_4 x3))) h3) (by kernel_rfl)))
theorem e11_8 (N : Nat) (k : Kn R) (x1 x3 x4 : D) : runC PHI Tb10 N vc11_8 (s11_3 x1 x3 x4) k = m11_8 N x1 x3 x4 (fun x3 => k (.exit 0) (s11_4 x3)) := by
  refine Eq.trans (runC_loop _ _ k) (Eq.trans (el11_8 N k N x1 x3 x4) (by kernel_rfl))
def m11_7 (N : Nat) (x1 x3 x4 : D) (K : D → Option R) : Option R :=
  (m11_8 N x1 x3 x4 (fun y3 => K y3))
theorem e11_7 (N : Nat) (k : Kn R) (x1 x3 x4 : D) : runC PHI Tb10 N vc11_7 (s11_3 x1 x3 x4) k = m11_7 N x1 x3 x4 (fun x3 => k .normal (s11_4 x3)) := by
  refine Eq.trans (runC_block _ _ _ k) (Eq.trans (e11_8 N (kblk 0 k) x1 x3 x4) (by kernel_rfl))
def m11_5 (N : Nat) (x1 x3 : D) (K : D → Option R) : Option R :=
  (m11_6 N x1 x3 (fun y1 y3 y4 => (m11_7 N y1 y3 y4 (fun y3 => K y3))))
theorem e11_5 (N : Nat) (k : Kn R) (x1 x3 : D) : runC PHI Tb10 N vc11_5 (s11_2 x1 x3) k = m11_5 N x1 x3 (fun x3 => k .normal (s11_4 x3)) := by
  have h2 := e11_6 N (kseq PHI Tb10 N vc11_7 k) x1 x3
  have h3 := (funext fun y1 => funext fun y3 => funext fun y4 => (e11_7 N k y1 y3 y4) : (fun (y1 y3 y4 : D) => (kseq PHI Tb10 N vc11_7 k) .normal (s11_3 y1 y3 y4)) = _)
  refine Eq.trans (runC_seq _ _ _ k) (Eq.trans h2 (Eq.trans (congrArg (fun K => m11_6 N x1 x3 K) h3) (by kernel_rfl)))
def m11_65 (N : Nat) (x3 : D) (Kr : D → Option R) : Option R :=
  Kr x3
def s11_11 (x2 : D) : St := sts 91 [(2, V.f x2)] []
theorem e11_65 (N : Nat) (k : Kn R) (x3 : D) : runC PHI Tb10 N vc11_65 (s11_4 x3) k = m11_65 N x3 (fun x2 => k .ret (s11_11 x2)) := by kernel_rfl
def m11_4 (N : Nat) (x1 x3 : D) (Kr : D → Option R) : Option R :=
  (m11_5 N x1 x3 (fun y3 => (m11_65 N y3 Kr)))
theorem e11_4 (N : Nat) (k : Kn R) (x1 x3 : D) : runC PHI Tb10 N vc11_4 (s11_2 x1 x3) k = m11_4 N x1 x3 (fun x2 => k .ret (s11_11 x2)) := by
  have h2 := e11_5 N (kseq PHI Tb10 N vc11_65 k) x1 x3
  have h3 := (funext fun y3 => (e11_65 N k y3) : (fun (y3 : D) => (kseq PHI Tb10 N vc11_65 k) .normal (s11_4 y3)) = _)
  refine Eq.trans (runC_seq _ _ _ k) (Eq.trans h2 (Eq.trans (congrArg (fun K => m11_5 N x1 x3 K) h3) (by kernel_rfl)))
def m11_2 (N : Nat) (x1 : D) (Kr : D → Option R) : Option R :=
  (m11_3 N x1 (fun y1 y3 => (m11_4 N y1 y3 Kr)))
theorem e11_2 (N : Nat) (k : Kn R) (x1 : D) : runC PHI Tb10 N vc11_2 (s11_1 x1) k = m11_2 N x1 (fun x2 => k .ret (s11_11 x2)) := by
  have h2 := e11_3 N (kseq PHI Tb10 N vc11_4 k) x1
  have h3 := (funext fun y1 => funext fun y3 => (e11_4 N k y1 y3) : (fun (y1 y3 : D) => (kseq PHI Tb10 N vc11_4 k) .normal (s11_2 y1 y3)) = _)
  refine Eq.trans (runC_seq _ _ _ k) (Eq.trans h2 (Eq.trans (congrArg (fun K => m11_3 N x1 K) h3) (by kernel_rfl)))
def m11_0 (N : Nat) (x0 : D) (Kr : D → Option R) : Option R :=
  (m11_1 N x0 (fun y1 => (m11_2 N y1 Kr)))
theorem e11_0 (N : Nat) (k : Kn R) (x0 : D) : runC PHI Tb10 N vc11_0 (s11_0 x0) k = m11_0 N x0 (fun x2 => k .ret (s11_11 x2)) := by
  have h2 := e11_1 N (kseq PHI Tb10 N vc11_2 k) x0
  have h3 := (funext fun y1 => (e11_2 N k y1) : (fun (y1 : D) => (kseq PHI Tb10 N vc11_2 k) .normal (s11_1 y1)) = _)
  refine Eq.trans (runC_seq _ _ _ k) (Eq.trans h2 (Eq.trans (congrArg (fun K => m11_1 N x0 K) h3) (by kernel_rfl)))
theorem r11 (N : Nat) (x0 : D) : runC PHI Tb10 N vf11.body (enterV vf11 [V.f x0] []) (finish vf11) = m11_0 N x0 (fun x2 => finish vf11 .ret (s11_11 x2)) := 
  Eq.trans (runC_pre (s1 := (s11_0 x0)) (by kernel_rfl) _ _) (Eq.trans (e11_0 N (finish vf11) x0) (by kernel_rfl))
end
section
variable {R : Type}
theorem lp27 (N : Nat) (q o f t : D) (eq rg : List D) (K : D → D → D → D → D → D → Option R) (he : eq.length ≤ 4096) (hr : rg.length ≤ 4096) (ho : o.toL.length ≤ 1073741824) (hR : realF o) (hN : 8192 ≤ N) :
    l11_27 N N q o f t (nsl eq) (nsl rg) (.i 0) K = K q (rg.foldl (of2 t eq) o) f t (nsl eq) (nsl rg) := by
  have h := loop_fold (fun j i s => l11_27 N j q s f t (nsl eq) (nsl rg) (.i (i : Nat)) K) (fun s => K q s f t (nsl eq) (nsl rg)) rg.length (fun i s => of2 t eq s (rg.getD i .nil)) (fun i s => s.toL.length ≤ 1073741824 + i ∧ realF s)
    (fun j i s hi hs => by
      have p27 : ∀ c, pr27 c (.i 2) = true := fun _ => rfl
      have p26 : ∀ c, pr26 (nsl (eq.take 2)) c = true := fun c => leN_t (by rw [toL_nsl, List.length_take]; omega)
      have p25 : ∀ c, pr25 s t c = true := fun c => leN_t (show s.toL.length ≤ 1099511627776 by omega)
      simp only [l11_27, m11_28, toI_i, cond_true, ltb_n hi, inb_t hi, at_nat, succ_n hi (show rg.length ≤ 9223372036854775807 by omega), p27, nsl_27 eq 2 (by decide), show (2 : Int).toNat = 2 from rfl, p26, p25, nsl_26, toL_nsl, sp25_nsl hs.2]
      rfl)
    (fun i s hi hs => by
      have := addS_len s t (add1 (eq.take 2) (rg.getD i .nil))
      exact ⟨by unfold of2; omega, realF_addS hs.2⟩)
    (fun j s hs => by simp only [l11_27, m11_28, toI_i, toL_nsl, ltb_self, cond_false])
    rg.length 0 N o (by omega) (by omega) ⟨by omega, hR⟩
  refine h.trans ?_
  rw [foldI_list (g := of2 t eq) rg rg.length 0 o (by omega)]
  rfl
theorem lp44 (N : Nat) (q o f t x6 : D) (us : List D) (K : D → D → D → D → D → Option R) (hr : us.length ≤ 8192) (ho : o.toL.length ≤ 1073741824) (hR : realF o) (hN : 8193 ≤ N) :
    l11_44 N N q o f t x6 (nsl us) (.i 0) K = K q (us.foldl (of3 t) o) f t x6 := by
  have h := loop_fold (fun j i s => l11_44 N j q s f t x6 (nsl us) (.i (i : Nat)) K) (fun s => K q s f t x6) us.length (fun i s => of3 t s (us.getD i .nil)) (fun i s => s.toL.length ≤ 1073741824 + i ∧ realF s)
    (fun j i s hi hs => by
      have p25 : ∀ c, pr25 s t c = true := fun c => leN_t (show s.toL.length ≤ 1099511627776 by omega)
      simp only [l11_44, m11_45, toI_i, cond_true, ltb_n hi, inb_t hi, at_nat, succ_n hi (show us.length ≤ 9223372036854775807 by omega), p25, toL_nsl, show ∀ c : D, D.sl [c] = nsl [c] from fun _ => rfl, sp25_nsl hs.2]
      rfl)
    (fun i s hi hs => by
      have := addS_len s t [us.getD i .nil]
      exact ⟨by unfold of3; omega, realF_addS hs.2⟩)
    (fun j s hs => by simp only [l11_44, m11_45, toI_i, toL_nsl, ltb_self, cond_false])
    us.length 0 N o (by omega) (by omega) ⟨by omega, hR⟩
  refine h.trans ?_
  rw [foldI_list (g := of3 t) us us.length 0 o (by omega)]
  rfl
end
theorem realF_fold {g : D → D → D} (h : ∀ o c, realF o → realF (g o c)) : ∀ (l : List D) (o : D), realF o → realF (l.foldl g o)
  | [], o, ho => ho
  | x :: l, o, ho => realF_fold h l _ (h o x ho)
theorem realF_ofT {q t : D} {f : Int} {o : D} (h : realF o) : realF (ofT q t f o) := by
  unfold ofT
  simp only
  have h3 := realF_fold (g := of3 t) (fun o c ho => realF_addS ho) (uni (heldL q f (sgn true)) (heldL q f (sgn false))) _ (realF_fold (g := of2 t (heldL q f (sgn true))) (fun o c ho => realF_addS ho) (heldL q f (sgn false)) _ (realF_addS (t := t) (xs := heldL q f (sgn true)) h))
  cases ltb 0 ((byL q f).length : Int)
  · exact realF_addS h3
  · exact realF_addS (realF_addS h3)
theorem st11 (N : Nat) (q : D) (K0 : D → Option (V × List V)) (hp : prOf q = true) (hN : 8193 ≤ N) (j i : Nat) (o : D) (hi : i < nOf q) (ho : o.toL.length ≤ 8192 * i) (hR : realF o) :
    l11_8 N (j + 1) (.p q) o (.i (i : Nat)) K0 = l11_8 N j (.p q) (ofT q ((q.at 0).toL.getD i .nil) (i : Nat) o) (.i ((i + 1 : Nat) : Int)) K0 := by
  simp only [prOf, Bool.and_eq_true] at hp
  have ht := leN_le hp.1
  have hw := leN_le hp.2.1
  have hr := leN_le hp.2.2
  have hi1 : i < (q.at 0).toL.length := by unfold nOf at hi; omega
  have hi2 : i < (q.at 1).toL.length := by unfold nOf at hi; omega
  have p24 : ∀ e, pr24 q (.i (i : Nat)) e = true := fun e => by
    unfold pr24; rw [toI_i, leb_t (by omega), leN_t (show (q.at 3).toL.length ≤ 1073741824 by omega)]; rfl
  have p29 : pr29 q (.i (i : Nat)) = true := by
    unfold pr29; rw [toI_i, leb_t (by omega), leN_t (show (q.at 7).toL.length ≤ 1073741824 by omega)]; rfl
  have p25 : ∀ s t c, s.toL.length ≤ 1099511627776 → pr25 s t c = true := fun s t c hs => leN_t hs
  have p28 : ∀ a b : List D, a.length ≤ 4096 → b.length ≤ 4096 → pr28 (nsl a) (nsl b) = true := fun a b h1 h2 => by
    unfold pr28; rw [toL_nsl, toL_nsl, leN_t (show a.length ≤ 549755813888 by omega), leN_t (show b.length ≤ 549755813888 by omega)]; rfl
  have he := heldL_len q (i : Nat) (sgn true)
  have hg := heldL_len q (i : Nat) (sgn false)
  have hu := uni_len (heldL q (i : Nat) (sgn false)) (heldL q (i : Nat) (sgn true))
  have hb := byL_len q (i : Nat)
  have a1 := addS_len o ((q.at 0).toL.getD i .nil) (heldL q (i : Nat) (sgn true))
  have r1 := realF_addS (t := (q.at 0).toL.getD i .nil) (xs := heldL q (i : Nat) (sgn true)) hR
  have a2 := fold_len (g := of2 ((q.at 0).toL.getD i .nil) (heldL q (i : Nat) (sgn true))) (fun o c => addS_len _ _ _) (heldL q (i : Nat) (sgn false)) (addS o ((q.at 0).toL.getD i .nil) (heldL q (i : Nat) (sgn true)))
  have r2 := realF_fold (g := of2 ((q.at 0).toL.getD i .nil) (heldL q (i : Nat) (sgn true))) (fun o c ho => realF_addS ho) (heldL q (i : Nat) (sgn false)) _ r1
  have a3 := fold_len (g := of3 ((q.at 0).toL.getD i .nil)) (fun o c => addS_len _ _ _) (uni (heldL q (i : Nat) (sgn true)) (heldL q (i : Nat) (sgn false))) ((heldL q (i : Nat) (sgn false)).foldl (of2 ((q.at 0).toL.getD i .nil) (heldL q (i : Nat) (sgn true))) (addS o ((q.at 0).toL.getD i .nil) (heldL q (i : Nat) (sgn true))))
  have r3 := realF_fold (g := of3 ((q.at 0).toL.getD i .nil)) (fun o c ho => realF_addS ho) (uni (heldL q (i : Nat) (sgn true)) (heldL q (i : Nat) (sgn false))) _ r2
  simp only [l11_8, m11_9, m11_10, m11_15, m11_16, m11_17, m11_18, m11_19, m11_20, m11_21, m11_22, m11_23, m11_24, m11_25, m11_26, m11_27, m11_64, isPtr_p, deref_p, toI_i, toB_b, cond_true, ltb_n hi1, ltb_n hi2, inb_t hi1, at_nat, p24, sp24, p25 o _ _ (show o.toL.length ≤ 1099511627776 by omega), sp25_nsl hR]
  rw [lp27 N _ _ _ _ (heldL q (i : Nat) (sgn true)) (heldL q (i : Nat) (sgn false)) _ (by omega) (by omega) (by omega) r1 (by omega)]
  simp only [m11_38, m11_39, m11_40, m11_41, m11_42, m11_43, m11_44, p28 _ _ (show (heldL q (i : Nat) (sgn true)).length ≤ 4096 by omega) (show (heldL q (i : Nat) (sgn false)).length ≤ 4096 by omega), nsl_28, toL_nsl, cond_true]
  rw [lp44 N _ _ _ _ _ _ _ (by omega) (by omega) r2 (by omega)]
  unfold ofT
  simp only [m11_55]
  generalize (uni (heldL q (i : Nat) (sgn true)) (heldL q (i : Nat) (sgn false))).foldl _ _ = o3 at a3 r3 ⊢
  generalize (q.at 0).toL.getD i .nil = t at *
  generalize heldL q (i : Nat) (sgn true) = E at *
  simp only [isPtr_p, deref_p, cond_true, p29, sp29_by, toI_i]
  generalize byL q (i : Nat) = b at hb ⊢
  have a4 := addS_len o3 t b
  simp only [p25 o3 _ _ (show o3.toL.length ≤ 1099511627776 by omega), toL_nsl, p28 E b (by omega) (by omega), sp25_nsl r3, nsl_28, p25 (addS o3 t b) _ _ (show (addS o3 t b).toL.length ≤ 1099511627776 by omega), sp25_nsl (realF_addS (t := t) (xs := b) r3), cond_true, succ_n hi1 (show (q.at 0).toL.length ≤ 9223372036854775807 by omega)]
  cases ltb 0 (b.length : Int) <;> rfl
def Tb11 : CallF := extend Tb10 11 (fn1 pr11 fun q => .f (sp11 q))
theorem ok11 : FnOk Try.prog PHI Tb11 := FnOk.add1 hPHI ok10 (by kernel_rfl) fun q ha hp => ⟨9000, (r11 _ q).trans (by
  have hp' : prOf q = true := hp
  simp only [prOf, Bool.and_eq_true] at hp'
  have ht := leN_le hp'.1
  simp only [m11_0, m11_1, m11_2, m11_3, m11_4, m11_5, m11_6, m11_7, m11_8, m11_65]
  generalize hN : 9000 = N
  have hm : nOf q ≤ (q.at 0).toL.length := Nat.min_le_left _ _
  have h := loop_fold (fun j i s => l11_8 N j (.p q) s (.i (i : Nat)) fun y3 => finish vf11 .ret (s11_11 y3)) (fun s => finish vf11 .ret (s11_11 s)) (nOf q) (fun i o => ofT q ((q.at 0).toL.getD i .nil) (i : Nat) o) (fun i s => s.toL.length ≤ 8192 * i ∧ realF s)
    (fun j i s hi hs => st11 N q _ hp (by omega) j i s hi hs.1 hs.2)
    (fun i s hi hs => by have := ofT_len q ((q.at 0).toL.getD i .nil) (i : Nat) s (leN_le hp'.2.1); exact ⟨by omega, realF_ofT hs.2⟩)
    (fun j s hs => by
      by_cases hlt : nOf q < (q.at 0).toL.length
      · have he : nOf q = (q.at 1).toL.length := by unfold nOf at *; omega
        simp only [l11_8, m11_9, m11_10, isPtr_p, deref_p, toI_i, cond_true, ltb_n hlt, ltb_f (show ¬ ((nOf q : Nat) : Int) < ((q.at 1).toL.length : Int) by omega), cond_false]
      · have he : nOf q = (q.at 0).toL.length := by omega
        rw [he]
        simp only [l11_8, m11_9, m11_10, isPtr_p, deref_p, toI_i, cond_true, ltb_self, cond_false])
    (nOf q) 0 N (.sz []) (by omega) (by omega) ⟨by simp [D.toL], fun d hd => by cases hd⟩
  exact h)⟩

end Go.Vam.C20
namespace Go.Vam.C20
open Go.Proofs
def sp9 (a b : D) : Bool := eqb a.toL.length b.toL.length && !leb 0 (fst (fun i => !sp14 (a.toL.getD i .nil) (b.toL.getD i .nil)) a.toL.length 0)
def pr9 (_ _ : D) : Bool := true
section
variable {R : Type}
def m9_1 (N : Nat) (x0 x1 : D) (K : D → D → Option R) : Option R :=
  K x0 x1
def s9_0 (x0 x1 : D) : St := sts 27 [(0, V.f x0), (1, V.f x1)] []
theorem e9_1 (N : Nat) (k : Kn R) (x0 x1 : D) : runC PHI Tb11 N vc9_1 (s9_0 x0 x1) k = m9_1 N x0 x1 (fun x0 x1 => k .normal (s9_0 x0 x1)) := by
  refine Eq.trans (runC_post _ _ _ k) (Eq.trans (ops_run _ _ _ _) (by kernel_rfl))
def m9_3 (N : Nat) (x0 x1 : D) (K : D → D → Option R) (Kr : D → Option R) : Option R :=
  (bif (!eqb (x0.toL.length : Int) (x1.toL.length : Int)) then Kr (D.b false) else K x0 x1)
def s9_1 (x4 : D) : St := sts 27 [(4, V.f x4)] []
theorem e9_3 (N : Nat) (k : Kn R) (x0 x1 : D) : runC PHI Tb11 N vc9_3 (s9_0 x0 x1) k = m9_3 N x0 x1 (fun x0 x1 => k .normal (s9_0 x0 x1)) (fun x4 => k .ret (s9_1 x4)) := by kernel_rfl
def m9_12 (N : Nat) (x0 x1 : D) (K : D → D → D → D → Option R) : Option R :=
  K x0 x1 (D.i (x0.toL.length : Int)) (D.i 0)
def s9_2 (x0 x1 x12 x13 : D) : St := sts 27 [(0, V.f x0), (1, V.f x1), (12, V.f x12), (13, V.f x13)] []
theorem e9_12 (N : Nat) (k : Kn R) (x0 x1 : D) : runC PHI Tb11 N vc9_12 (s9_0 x0 x1) k = m9_12 N x0 x1 (fun x0 x1 x12 x13 => k .normal (s9_2 x0 x1 x12 x13)) := by
  refine Eq.trans (runC_post _ _ _ k) (Eq.trans (ops_run _ _ _ _) (by kernel_rfl))
def m9_15 (N : Nat) (x0 x1 x12 x13 : D) (K : D → D → D → D → Option R) (K0 : Option R) (Kr : D → Option R) : Option R :=
  (bif (ltb x13.toI x12.toI) then (bif (inb x13.toI x0.toL.length) then (bif (inb x13.toI x1.toL.length) then (bif (!(sp14 (x0.at (x13.toI : Int).toNat) (x1.at (x13.toI : Int).toNat))) then Kr (D.b false) else K x0 x1 x12 (D.i (IntKind.wrap IntKind.i64 (x13.toI + 1)))) else none) else none) else K0)
def s9_3 : St := sts 27 [] []
theorem e9_15 (N : Nat) (k : Kn R) (x0 x1 x12 x13 : D) : runC PHI Tb11 N vc9_15 (s9_2 x0 x1 x12 x13) k = m9_15 N x0 x1 x12 x13 (fun x0 x1 x12 x13 => k .normal (s9_2 x0 x1 x12 x13)) (k (.exit 0) s9_3) (fun x4 => k .ret (s9_1 x4)) := by kernel_rfl
def l9_14 (N : Nat) (j : Nat) (x0 x1 x12 x13 : D) (K0 : Option R) (Kr : D → Option R) : Option R :=
  match j with
  | 0 => none
  | j + 1 => (m9_15 N x0 x1 x12 x13 (fun y0 y1 y12 y13 => l9_14 N j y0 y1 y12 y13 K0 Kr) K0 Kr)
def m9_14 (N : Nat) (x0 x1 x12 x13 : D) (K0 : Option R) (Kr : D → Option R) : Option R :=
  l9_14 N N x0 x1 x12 x13 K0 Kr
theorem el9_14 (N : Nat) (k : Kn R) : ∀ (j : Nat) (x0 x1 x12 x13 : D), loopGo (runC PHI Tb11 N vc9_15) j (s9_2 x0 x1 x12 x13) k = l9_14 N j x0 x1 x12 x13 (k (.exit 0) s9_3) (fun x4 => k .ret (s9_1 x4))
  | 0, _, _, _, _ => by kernel_rfl
  | j + 1, x0, x1, x12, x13 => by
    have h2 := e9_15 N (kloop PHI Tb11 N vc9_15 j k) x0 x1 x12 x13
    have h3 : (fun (y0 y1 y12 y13 : D) => (kloop PHI Tb11 N vc9_15 j k) .normal (s9_2 y0 y1 y12 y13)) = (fun (y0 y1 y12 y13 : D) => l9_14 N j y0 y1 y12 y13 (k (.exit 0) s9_3) (fun x4 => k .ret (s9_1 x4))) := funext fun y0 => funext fun y1 => funext fun y12 => funext fun y13 => (el9_14 N k j y0 y1 y12 y13)
    refine Eq.trans (loop_succ _ j _ k) (Eq.trans h2 (Eq.trans (congrArg (fun K => m9_15 N x0 x1 x12 x13 K ((kloop PHI Tb11 N vc9_15 j k) (.exit 0) s9_3) (fun x4 => (kloop PHI Tb11 N vc9_15 j k) .ret (s9_1 x4))) h3) (by kernel_rfl)))
theorem e9_14 (N : Nat) (k : Kn R) (x0 x1 x12 x13 : D) : runC PHI Tb11 N vc9_14 (s9_2 x0 x1 x12 x13) k = m9_14 N x0 x1 x12 x13 (k (.exit 0) s9_3) (fun x4 => k .ret (s9_1 x4)) := by
  refine Eq.trans (runC_loop _ _ k) (Eq.trans (el9_14 N k N x0 x1 x12 x13) (by kernel_rfl))
def m9_13 (N : Nat) (x0 x1 x12 x13 : D) (K : Option R) (Kr : D → Option R) : Option R :=
  (m9_14 N x0 x1 x12 x13 (K) Kr)
theorem e9_13 (N : Nat) (k : Kn R) (x0 x1 x12 x13 : D) : runC PHI Tb11 N vc9_13 (s9_2 x0 x1 x12 x13) k = m9_13 N x0 x1 x12 x13 (k .normal s9_3) (fun x4 => k .ret (s9_1 x4)) := by
  refine Eq.trans (runC_block _ _ _ k) (Eq.trans (e9_14 N (kblk 0 k) x0 x1 x12 x13) (by kernel_rfl))
def m9_11 (N : Nat) (x0 x1 : D) (K : Option R) (Kr : D → Option R) : Option R :=
  (m9_12 N x0 x1 (fun y0 y1 y12 y13 => (m9_13 N y0 y1 y12 y13 (K) Kr)))
theorem e9_11 (N : Nat) (k : Kn R) (x0 x1 : D) : runC PHI Tb11 N vc9_11 (s9_0 x0 x1) k = m9_11 N x0 x1 (k .normal s9_3) (fun x4 => k .ret (s9_1 x4)) := by
  have h2 := e9_12 N (kseq PHI Tb11 N vc9_13 k) x0 x1
  have h3 := (funext fun y0 => funext fun y1 => funext fun y12 => funext fun y13 => (e9_13 N k y0 y1 y12 y13) : (fun (y0 y1 y12 y13 : D) => (kseq PHI Tb11 N vc9_13 k) .normal (s9_2 y0 y1 y12 y13)) = _)
  refine Eq.trans (runC_seq _ _ _ k) (Eq.trans h2 (Eq.trans (congrArg (fun K => m9_12 N x0 x1 K) h3) (by kernel_rfl)))
def m9_33 (N : Nat) (Kr : D → Option R) : Option R :=
  Kr (D.b true)
theorem e9_33 (N : Nat) (k : Kn R) : runC PHI Tb11 N vc9_33 s9_3 k = m9_33 N (fun x4 => k .ret (s9_1 x4)) := by kernel_rfl
def m9_10 (N : Nat) (x0 x1 : D) (Kr : D → Option R) : Option R :=
  (m9_11 N x0 x1 ((m9_33 N Kr)) Kr)
theorem e9_10 (N : Nat) (k : Kn R) (x0 x1 : D) : runC PHI Tb11 N vc9_10 (s9_0 x0 x1) k = m9_10 N x0 x1 (fun x4 => k .ret (s9_1 x4)) := by
  have h2 := e9_11 N (kseq PHI Tb11 N vc9_33 k) x0 x1
  have h3 := ((e9_33 N k ) : ((kseq PHI Tb11 N vc9_33 k) .normal s9_3) = _)
  refine Eq.trans (runC_seq _ _ _ k) (Eq.trans h2 (Eq.trans (congrArg (fun K => m9_11 N x0 x1 K (fun x4 => (kseq PHI Tb11 N vc9_33 k) .ret (s9_1 x4))) h3) (by kernel_rfl)))
def m9_2 (N : Nat) (x0 x1 : D) (Kr : D → Option R) : Option R :=
  (m9_3 N x0 x1 (fun y0 y1 => (m9_10 N y0 y1 Kr)) Kr)
theorem e9_2 (N : Nat) (k : Kn R) (x0 x1 : D) : runC PHI Tb11 N vc9_2 (s9_0 x0 x1) k = m9_2 N x0 x1 (fun x4 => k .ret (s9_1 x4)) := by
  have h2 := e9_3 N (kseq PHI Tb11 N vc9_10 k) x0 x1
  have h3 := (funext fun y0 => funext fun y1 => (e9_10 N k y0 y1) : (fun (y0 y1 : D) => (kseq PHI Tb11 N vc9_10 k) .normal (s9_0 y0 y1)) = _)
  refine Eq.trans (runC_seq _ _ _ k) (Eq.trans h2 (Eq.trans (congrArg (fun K => m9_3 N x0 x1 K (fun x4 => (kseq PHI Tb11 N vc9_10 k) .ret (s9_1 x4))) h3) (by kernel_rfl)))
def m9_0 (N : Nat) (x0 x1 : D) (Kr : D → Option R) : Option R :=
  (m9_1 N x0 x1 (fun y0 y1 => (m9_2 N y0 y1 Kr)))
theorem e9_0 (N : Nat) (k : Kn R) (x0 x1 : D) : runC PHI Tb11 N vc9_0 (s9_0 x0 x1) k = m9_0 N x0 x1 (fun x4 => k .ret (s9_1 x4)) := by
  have h2 := e9_1 N (kseq PHI Tb11 N vc9_2 k) x0 x1
  have h3 := (funext fun y0 => funext fun y1 => (e9_2 N k y0 y1) : (fun (y0 y1 : D) => (kseq PHI Tb11 N vc9_2 k) .normal (s9_0 y0 y1)) = _)
  refine Eq.trans (runC_seq _ _ _ k) (Eq.trans h2 (Eq.trans (congrArg (fun K => m9_1 N x0 x1 K) h3) (by kernel_rfl)))
theorem r9 (N : Nat) (x0 x1 : D) : runC PHI Tb11 N vf9.body (enterV vf9 [V.f x0, V.f x1] []) (finish vf9) = m9_0 N x0 x1 (fun x4 => finish vf9 .ret (s9_1 x4)) := 
  Eq.trans (runC_pre (s1 := (s9_0 x0 x1)) (by kernel_rfl) _ _) (Eq.trans (e9_0 N (finish vf9) x0 x1) (by kernel_rfl))
end
def Tb9 : CallF := extend Tb11 9 (fn2 pr9 fun s v => .f (.b (sp9 s v)))
theorem ok9 : FnOk Try.prog PHI Tb9 := FnOk.add2 hPHI ok11 (by kernel_rfl) fun a b ha _ => ⟨a.toL.length + 1, (r9 _ a b).trans (by
  have hl := (ha.is 0 rfl rfl).len' (e := 36) (by kernel_rfl)
  simp only [m9_0, m9_1, m9_2, m9_3, m9_10, m9_11, m9_12, m9_13, m9_14, m9_33]
  unfold sp9
  cases hq : eqb a.toL.length b.toL.length
  · rfl
  · have hq := eqb_t' hq
    simp only [Bool.not_true, cond_false, Bool.true_and]
    have h := loop_find (fun j i => l9_14 (a.toL.length + 1) j a b (.i (a.toL.length : Int)) (.i (i : Nat)) (finish vf9 .ret (s9_1 (.b true))) (fun x4 => finish vf9 .ret (s9_1 x4))) (fun i => !sp14 (a.toL.getD i .nil) (b.toL.getD i .nil)) a.toL.length (finish vf9 .ret (s9_1 (.b true))) (fun i => finish vf9 .ret (s9_1 (.b false)))
      (fun j i hi => by simp only [l9_14, m9_15, toI_i, cond_true, ltb_n hi, inb_t hi, inb_t (show i < b.toL.length by omega), at_nat, succ_n hi hl])
      (fun j => by simp only [l9_14, m9_15, toI_i, ltb_self, cond_false])
      a.toL.length 0 (a.toL.length + 1) (by omega) (by omega)
    exact h.trans (bif_not (K := fun r => finish vf9 .ret (s9_1 (.b r)))))⟩
def sp8 (q : D) : Bool := !ltb 6 (q.at 0).toL.length && (!ltb 6 (q.at 1).toL.length && (!ltb 12 (q.at 3).toL.length && (!ltb 6 (q.at 7).toL.length && !leb 0 (fst (fun i => ltb 100 (sp16 ((q.at 3).toL.getD i .nil) (.i 100))) (q.at 3).toL.length 0))))
section
variable {R : Type}
def m8_1 (N : Nat) (x0 : D) (K : D → Option R) : Option R :=
  K (D.p x0)
def s8_0 (x0 : D) : St := sts 38 [(0, V.f x0)] []
def s8_1 (x1 : D) : St := sts 38 [(1, V.f x1)] []
theorem e8_1 (N : Nat) (k : Kn R) (x0 : D) : runC PHI Tb9 N vc8_1 (s8_0 x0) k = m8_1 N x0 (fun x1 => k .normal (s8_1 x1)) := by
  refine Eq.trans (runC_post _ _ _ k) (Eq.trans (ops_run _ _ _ _) (by kernel_rfl))
def m8_3 (N : Nat) (x1 : D) (K : D → Option R) (Kr : D → Option R) : Option R :=
  (bif (isPtrD x1) then (bif (ltb 6 ((x1.deref.at 0).toL.length : Int)) then (bif true then Kr (D.b false) else K x1) else (bif (isPtrD x1) then (bif (ltb 6 ((x1.deref.at 1).toL.length : Int)) then (bif true then Kr (D.b false) else K x1) else (bif (isPtrD x1) then (bif (ltb 12 ((x1.deref.at 3).toL.length : Int)) then (bif true then Kr (D.b false) else K x1) else (bif (isPtrD x1) then (bif (ltb 6 ((x1.deref.at 7).toL.length : Int)) then Kr (D.b false) else K x1) else none)) else none)) else none)) else none)
def s8_2 (x2 : D) : St := sts 38 [(2, V.f x2)] []
theorem e8_3 (N : Nat) (k : Kn R) (x1 : D) : runC PHI Tb9 N vc8_3 (s8_1 x1) k = m8_3 N x1 (fun x1 => k .normal (s8_1 x1)) (fun x2 => k .ret (s8_2 x2)) := by kernel_rfl
def m8_12 (N : Nat) (x1 : D) (K : D → D → D → Option R) : Option R :=
  (bif (isPtrD x1) then K (x1.deref.at 3) (D.i ((x1.deref.at 3).toL.length : Int)) (D.i 0) else none)
def s8_3 (x28 x29 x30 : D) : St := sts 38 [(28, V.f x28), (29, V.f x29), (30, V.f x30)] []
theorem e8_12 (N : Nat) (k : Kn R) (x1 : D) : runC PHI Tb9 N vc8_12 (s8_1 x1) k = m8_12 N x1 (fun x28 x29 x30 => k .normal (s8_3 x28 x29 x30)) := by
  refine Eq.trans (runC_post _ _ _ k) (Eq.trans (ops_run _ _ _ _) (by kernel_rfl))
def m8_15 (N : Nat) (x28 x29 x30 : D) (K : D → D → D → Option R) (K0 : Option R) (Kr : D → Option R) : Option R :=
  (bif (ltb x30.toI x29.toI) then (bif (inb x30.toI x28.toL.length) then (bif (pr16 (x28.at (x30.toI : Int).toNat) (D.i 100)) then (bif (ltb 100 (sp16 (x28.at (x30.toI : Int).toNat) (D.i 100))) then Kr (D.b false) else K x28 x29 (D.i (IntKind.wrap IntKind.i64 (x30.toI + 1)))) else none) else none) else K0)
def s8_4 : St := sts 38 [] []
theorem e8_15 (N : Nat) (k : Kn R) (x28 x29 x30 : D) : runC PHI Tb9 N vc8_15 (s8_3 x28 x29 x30) k = m8_15 N x28 x29 x30 (fun x28 x29 x30 => k .normal (s8_3 x28 x29 x30)) (k (.exit 0) s8_4) (fun x2 => k .ret (s8_2 x2)) := by kernel_rfl
def l8_14 (N : Nat) (j : Nat) (x28 x29 x30 : D) (K0 : Option R) (Kr : D → Option R) : Option R :=
  match j with
  | 0 => none
  | j + 1 => (m8_15 N x28 x29 x30 (fun y28 y29 y30 => l8_14 N j y28 y29 y30 K0 Kr) K0 Kr)
def m8_14 (N : Nat) (x28 x29 x30 : D) (K0 : Option R) (Kr : D → Option R) : Option R :=
  l8_14 N N x28 x29 x30 K0 Kr
theorem el8_14 (N : Nat) (k : Kn R) : ∀ (j : Nat) (x28 x29 x30 : D), loopGo (runC PHI Tb9 N vc8_15) j (s8_3 x28 x29 x30) k = l8_14 N j x28 x29 x30 (k (.exit 0) s8_4) (fun x2 => k .ret (s8_2 x2))
  | 0, _, _, _ => by kernel_rfl
  | j + 1, x28, x29, x30 => by
    have h2 := e8_15 N (kloop PHI Tb9 N vc8_15 j k) x28 x29 x30
    have h3 : (fun (y28 y29 y30 : D) => (kloop PHI Tb9 N vc8_15 j k) .normal (s8_3 y28 y29 y30)) = (fun (y28 y29 y30 : D) => l8_14 N j y28 y29 y30 (k (.exit 0) s8_4) (fun x2 => k .ret (s8_2 x2))) := funext fun y28 => funext fun y29 => funext fun y30 => (el8_14 N k j y28 y29 y30)
    refine Eq.trans (loop_succ _ j _ k) (Eq.trans h2 (Eq.trans (congrArg (fun K => m8_15 N x28 x29 x30 K ((kloop PHI Tb9 N vc8_15 j k) (.exit 0) s8_4) (fun x2 => (kloop PHI Tb9 N vc8_15 j k) .ret (s8_2 x2))) h3) (by kernel_rfl)))
theorem e8_14 (N : Nat) (k : Kn R) (x28 x29 x30 : D) : runC PHI Tb9 N vc8_14 (s8_3 x28 x29 x30) k = m8_14 N x28 x29 x30 (k (.exit 0) s8_4) (fun x2 => k .ret (s8_2 x2)) := by
  refine Eq.trans (runC_loop _ _ k) (Eq.trans (el8_14 N k N x28 x29 x30) (by kernel_rfl))
def m8_13 (N : Nat) (x28 x29 x30 : D) (K : Option R) (Kr : D → Option R) : Option R :=
  (m8_14 N x28 x29 x30 (K) Kr)
theorem e8_13 (N : Nat) (k : Kn R) (x28 x29 x30 : D) : runC PHI Tb9 N vc8_13 (s8_3 x28 x29 x30) k = m8_13 N x28 x29 x30 (k .normal s8_4) (fun x2 => k .ret (s8_2 x2)) := by
  refine Eq.trans (runC_block _ _ _ k) (Eq.trans (e8_14 N (kblk 0 k) x28 x29 x30) (by kernel_rfl))
def m8_11 (N : Nat) (x1 : D) (K : Option R) (Kr : D → Option R) : Option R :=
  (m8_12 N x1 (fun y28 y29 y30 => (m8_13 N y28 y29 y30 (K) Kr)))
theorem e8_11 (N : Nat) (k : Kn R) (x1 : D) : runC PHI Tb9 N vc8_11 (s8_1 x1) k = m8_11 N x1 (k .normal s8_4) (fun x2 => k .ret (s8_2 x2)) := by
  have h2 := e8_12 N (kseq PHI Tb9 N vc8_13 k) x1
  have h3 := (funext fun y28 => funext fun y29 => funext fun y30 => (e8_13 N k y28 y29 y30) : (fun (y28 y29 y30 : D) => (kseq PHI Tb9 N vc8_13 k) .normal (s8_3 y28 y29 y30)) = _)
  refine Eq.trans (runC_seq _ _ _ k) (Eq.trans h2 (Eq.trans (congrArg (fun K => m8_12 N x1 K) h3) (by kernel_rfl)))
def m8_33 (N : Nat) (Kr : D → Option R) : Option R :=
  Kr (D.b true)
theorem e8_33 (N : Nat) (k : Kn R) : runC PHI Tb9 N vc8_33 s8_4 k = m8_33 N (fun x2 => k .ret (s8_2 x2)) := by kernel_rfl
def m8_10 (N : Nat) (x1 : D) (Kr : D → Option R) : Option R :=
  (m8_11 N x1 ((m8_33 N Kr)) Kr)
theorem e8_10 (N : Nat) (k : Kn R) (x1 : D) : runC PHI Tb9 N vc8_10 (s8_1 x1) k = m8_10 N x1 (fun x2 => k .ret (s8_2 x2)) := by
  have h2 := e8_11 N (kseq PHI Tb9 N vc8_33 k) x1
  have h3 := ((e8_33 N k ) : ((kseq PHI Tb9 N vc8_33 k) .normal s8_4) = _)
  refine Eq.trans (runC_seq _ _ _ k) (Eq.trans h2 (Eq.trans (congrArg (fun K => m8_11 N x1 K (fun x2 => (kseq PHI Tb9 N vc8_33 k) .ret (s8_2 x2))) h3) (by kernel_rfl)))
def m8_2 (N : Nat) (x1 : D) (Kr : D → Option R) : Option R :=
  (m8_3 N x1 (fun y1 => (m8_10 N y1 Kr)) Kr)
theorem e8_2 (N : Nat) (k : Kn R) (x1 : D) : runC PHI Tb9 N vc8_2 (s8_1 x1) k = m8_2 N x1 (fun x2 => k .ret (s8_2 x2)) := by
  have h2 := e8_3 N (kseq PHI Tb9 N vc8_10 k) x1
  have h3 := (funext fun y1 => (e8_10 N k y1) : (fun (y1 : D) => (kseq PHI Tb9 N vc8_10 k) .normal (s8_1 y1)) = _)
  refine Eq.trans (runC_seq _ _ _ k) (Eq.trans h2 (Eq.trans (congrArg (fun K => m8_3 N x1 K (fun x2 => (kseq PHI Tb9 N vc8_10 k) .ret (s8_2 x2))) h3) (by kernel_rfl)))
def m8_0 (N : Nat) (x0 : D) (Kr : D → Option R) : Option R :=
  (m8_1 N x0 (fun y1 => (m8_2 N y1 Kr)))
theorem e8_0 (N : Nat) (k : Kn R) (x0 : D) : runC PHI Tb9 N vc8_0 (s8_0 x0) k = m8_0 N x0 (fun x2 => k .ret (s8_2 x2)) := by
  have h2 := e8_1 N (kseq PHI Tb9 N vc8_2 k) x0
  have h3 := (funext fun y1 => (e8_2 N k y1) : (fun (y1 : D) => (kseq PHI Tb9 N vc8_2 k) .normal (s8_1 y1)) = _)
  refine Eq.trans (runC_seq _ _ _ k) (Eq.trans h2 (Eq.trans (congrArg (fun K => m8_1 N x0 K) h3) (by kernel_rfl)))
theorem r8 (N : Nat) (x0 : D) : runC PHI Tb9 N vf8.body (enterV vf8 [V.f x0] []) (finish vf8) = m8_0 N x0 (fun x2 => finish vf8 .ret (s8_2 x2)) := 
  Eq.trans (runC_pre (s1 := (s8_0 x0)) (by kernel_rfl) _ _) (Eq.trans (e8_0 N (finish vf8) x0) (by kernel_rfl))
end
def Tb8 : CallF := extend Tb9 8 (fn1 (fun _ => true) fun q => .f (.b (sp8 q)))
theorem ok8 : FnOk Try.prog PHI Tb8 := FnOk.add1 hPHI ok9 (by kernel_rfl) fun q ha _ => ⟨(q.at 3).toL.length + 1, (r8 _ q).trans (by
  have hl := ((ha.is 0 rfl rfl).fld (k := 3) (ft := 23) (off := 3) (by kernel_rfl)).len' (e := 42) (by kernel_rfl)
  simp only [m8_0, m8_1, m8_2, m8_3, m8_10, m8_11, m8_12, m8_13, m8_14, m8_33, isPtr_p, deref_p, cond_true]
  unfold sp8
  cases h1 : ltb 6 (q.at 0).toL.length
  · cases h2 : ltb 6 (q.at 1).toL.length
    · cases h3 : ltb 12 (q.at 3).toL.length
      · cases h4 : ltb 6 (q.at 7).toL.length
        · simp only [Bool.not_false, Bool.true_and, cond_false]
          have p16 : ∀ x y, pr16 x y = true := fun _ _ => rfl
          have h := loop_find (fun j i => l8_14 ((q.at 3).toL.length + 1) j (q.at 3) (.i ((q.at 3).toL.length : Int)) (.i (i : Nat)) (finish vf8 .ret (s8_2 (.b true))) (fun x2 => finish vf8 .ret (s8_2 x2))) (fun i => ltb 100 (sp16 ((q.at 3).toL.getD i .nil) (.i 100))) (q.at 3).toL.length (finish vf8 .ret (s8_2 (.b true))) (fun i => finish vf8 .ret (s8_2 (.b false)))
            (fun j i hi => by simp only [l8_14, m8_15, toI_i, cond_true, ltb_n hi, inb_t hi, at_nat, succ_n hi hl, p16])
            (fun j => by simp only [l8_14, m8_15, toI_i, ltb_self, cond_false])
            (q.at 3).toL.length 0 ((q.at 3).toL.length + 1) (by omega) (by omega)
          exact h.trans (bif_not (K := fun r => finish vf8 .ret (s8_2 (.b r))))
        · rfl
      · rfl
    · rfl
  · rfl)⟩
def sp7 : Bool := true
section
variable {R : Type}
def m7_1 (N : Nat) (K : Option R) : Option R :=
  K
def s7_0 : St := sts 51 [] []
theorem e7_1 (N : Nat) (k : Kn R) : runC PHI Tb8 N vc7_1 s7_0 k = m7_1 N (k .normal s7_0) := by
  refine Eq.trans (runC_post _ _ _ k) (Eq.trans (ops_run _ _ _ _) (by kernel_rfl))
def m7_3 (N : Nat) (K : D → Option R) : Option R :=
  K (D.p (D.ag [(D.i 1), (D.s []), (D.ag [(D.i 1), (D.i 1), (D.f 0), (D.s [])]), (D.i 0), (D.b false), (D.i 0), (D.sz [])]))
def s7_1 (x1 : D) : St := sts 51 [(1, V.f x1)] []
theorem e7_3 (N : Nat) (k : Kn R) : runC PHI Tb8 N vc7_3 s7_0 k = m7_3 N (fun x1 => k .normal (s7_1 x1)) := by
  refine Eq.trans (runC_post _ _ _ k) (Eq.trans (ops_run _ _ _ _) (by kernel_rfl))
def m7_5 (N : Nat) (x1 : D) (K : D → Option R) : Option R :=
  (bif (isPtrD x1) then (bif (isPtrD x1) then K (D.p (D.ag [(D.sl ([(D.i 0)] : List D)), (D.sl ([(D.i 0)] : List D)), (D.i 3), (D.sl ([(D.ag [(D.i 7), (D.s [61]), (D.ag [(D.i 0), (D.i 0), (D.f 0), (D.s [])]), (D.i 0), (D.b false), (D.i 0), (D.sl ([(sp15 (D.i 0)), x1.deref] : List D))]), (D.ag [(D.i 7), (D.s [60]), (D.ag [(D.i 0), (D.i 0), (D.f 0), (D.s [])]), (D.i 0), (D.b false), (D.i 0), (D.sl ([x1.deref, (sp15 (D.i 2))] : List D))])] : List D)), (D.sz []), (D.b false), (D.sz []), (D.sl ([(D.ag [(D.i 1), (D.b false)])] : List D)), (D.i (-1))])) else none) else none)
def s7_2 (x2 : D) : St := sts 51 [(2, V.f x2)] []
theorem e7_5 (N : Nat) (k : Kn R) (x1 : D) : runC PHI Tb8 N vc7_5 (s7_1 x1) k = m7_5 N x1 (fun x2 => k .normal (s7_2 x2)) := by
  refine Eq.trans (runC_post _ _ _ k) (Eq.trans (ops_run _ _ _ _) (by kernel_rfl))
def m7_6 (N : Nat) (x2 : D) (Kr : D → Option R) : Option R :=
  (bif (isPtrD x2) then (bif (pr10 x2.deref) then (bif (eqb ((sp10 x2.deref).toL.length : Int) 5) then (bif (inb 1 (sp10 x2.deref).toL.length) then (bif (eqb ((((sp10 x2.deref).at (1 : Int).toNat).at 1).toL.length : Int) 2) then (bif (inb 1 (sp10 x2.deref).toL.length) then (bif (inb 1 (((sp10 x2.deref).at (1 : Int).toNat).at 1).toL.length) then (bif (eqb ((((sp10 x2.deref).at (1 : Int).toNat).at 1).at (1 : Int).toNat).toI 2) then (bif (inb 3 (sp10 x2.deref).toL.length) then (bif (inb 0 (((sp10 x2.deref).at (3 : Int).toNat).at 1).toL.length) then Kr (D.b (eqb ((((sp10 x2.deref).at (3 : Int).toNat).at 1).at (0 : Int).toNat).toI 1)) else none) else none) else Kr (D.b false)) else none) else none) else Kr (D.b false)) else none) else Kr (D.b false)) else none) else none)
def s7_3 (x0 : D) : St := sts 51 [(0, V.f x0)] []
theorem e7_6 (N : Nat) (k : Kn R) (x2 : D) : runC PHI Tb8 N vc7_6 (s7_2 x2) k = m7_6 N x2 (fun x0 => k .ret (s7_3 x0)) := by kernel_rfl
def m7_4 (N : Nat) (x1 : D) (Kr : D → Option R) : Option R :=
  (m7_5 N x1 (fun y2 => (m7_6 N y2 Kr)))
theorem e7_4 (N : Nat) (k : Kn R) (x1 : D) : runC PHI Tb8 N vc7_4 (s7_1 x1) k = m7_4 N x1 (fun x0 => k .ret (s7_3 x0)) := by
  have h2 := e7_5 N (kseq PHI Tb8 N vc7_6 k) x1
  have h3 := (funext fun y2 => (e7_6 N k y2) : (fun (y2 : D) => (kseq PHI Tb8 N vc7_6 k) .normal (s7_2 y2)) = _)
  refine Eq.trans (runC_seq _ _ _ k) (Eq.trans h2 (Eq.trans (congrArg (fun K => m7_5 N x1 K) h3) (by kernel_rfl)))
def m7_2 (N : Nat) (Kr : D → Option R) : Option R :=
  (m7_3 N (fun y1 => (m7_4 N y1 Kr)))
theorem e7_2 (N : Nat) (k : Kn R) : runC PHI Tb8 N vc7_2 s7_0 k = m7_2 N (fun x0 => k .ret (s7_3 x0)) := by
  have h2 := e7_3 N (kseq PHI Tb8 N vc7_4 k) 
  have h3 := (funext fun y1 => (e7_4 N k y1) : (fun (y1 : D) => (kseq PHI Tb8 N vc7_4 k) .normal (s7_1 y1)) = _)
  refine Eq.trans (runC_seq _ _ _ k) (Eq.trans h2 (Eq.trans (congrArg (fun K => m7_3 N K) h3) (by kernel_rfl)))
def m7_0 (N : Nat) (Kr : D → Option R) : Option R :=
  (m7_1 N ((m7_2 N Kr)))
theorem e7_0 (N : Nat) (k : Kn R) : runC PHI Tb8 N vc7_0 s7_0 k = m7_0 N (fun x0 => k .ret (s7_3 x0)) := by
  have h2 := e7_1 N (kseq PHI Tb8 N vc7_2 k) 
  have h3 := ((e7_2 N k ) : ((kseq PHI Tb8 N vc7_2 k) .normal s7_0) = _)
  refine Eq.trans (runC_seq _ _ _ k) (Eq.trans h2 (Eq.trans (congrArg (fun K => m7_1 N K) h3) (by kernel_rfl)))
theorem r7 (N : Nat) : runC PHI Tb8 N vf7.body (enterV vf7 [] []) (finish vf7) = m7_0 N (fun x0 => finish vf7 .ret (s7_3 x0)) := 
  Eq.trans (runC_pre (s1 := s7_0) (by kernel_rfl) _ _) (Eq.trans (e7_0 N (finish vf7)) (by kernel_rfl))
end
def Tb7 : CallF := extend Tb8 7 (fn0 true (.f (.b sp7)))
theorem ok7 : FnOk Try.prog PHI Tb7 := FnOk.add0 hPHI ok8 (by kernel_rfl) fun _ => ⟨0, (r7 0).trans (by kernel_rfl)⟩
theorem small_pr {q : D} (h : sp8 q = true) : prOf q = true := by
  unfold sp8 at h
  simp only [Bool.and_eq_true, Bool.not_eq_true'] at h
  obtain ⟨h1, h2, h3, h4, _⟩ := h
  have e : ∀ {x : Int} {n : Nat}, ltb x n = false → ¬ x < (n : Int) := fun h => of_decide_eq_false h
  have e1 := e h1
  have e3 := e h3
  have e4 := e h4
  unfold prOf
  rw [leN_t (show (q.at 0).toL.length ≤ 1024 by omega), leN_t (show (q.at 3).toL.length ≤ 1024 by omega), leN_t (show (q.at 7).toL.length ≤ 1024 by omega)]; rfl
theorem eqb_self (n : Int) : eqb n n = true := eqb_t rfl
theorem fst_none {p : Nat → Bool} (h : ∀ i, p i = false) : ∀ k i, fst p k i = -1
  | 0, _ => rfl
  | k + 1, i => by rw [fst, h i]; exact fst_none h k (i + 1)
theorem sp40_self (a : D) : sp40 a a = true := by
  unfold sp40
  rw [eqb_self, fst_none (fun i => by rw [eqb_self]; rfl)]; rfl
theorem sp14_self (a : D) : sp14 a a = true := by
  unfold sp14
  rw [eqb_self, sp40_self]
  cases (a.at 2).toB <;> rfl
theorem sp9_self (a : D) : sp9 a a = true := by
  unfold sp9
  rw [eqb_self, fst_none (fun i => by rw [sp14_self]; rfl)]; rfl
section
variable {R : Type}
def m3_0 (N : Nat) (x0 : D) (Kr : D → Option R) : Option R :=
  (bif (!sp7) then (bif true then Kr (D.b sp7) else (bif (pr10 x0) then (bif (pr11 x0) then (bif (pr9 (sp10 x0) (sp11 x0)) then Kr (D.b (sp9 (sp10 x0) (sp11 x0))) else none) else none) else none)) else (bif (!(sp8 x0)) then Kr (D.b sp7) else (bif (pr10 x0) then (bif (pr11 x0) then (bif (pr9 (sp10 x0) (sp11 x0)) then Kr (D.b (sp9 (sp10 x0) (sp11 x0))) else none) else none) else none)))
def s3_0 (x0 : D) : St := sts 16 [(0, V.f x0)] []
def s3_1 (x2 : D) : St := sts 16 [(2, V.f x2)] []
theorem e3_0 (N : Nat) (k : Kn R) (x0 : D) : runC PHI Tb7 N vc3_0 (s3_0 x0) k = m3_0 N x0 (fun x2 => k .ret (s3_1 x2)) := by kernel_rfl
theorem r3 (N : Nat) (x0 : D) : runC PHI Tb7 N vf3.body (enterV vf3 [V.f x0] []) (finish vf3) = m3_0 N x0 (fun x2 => finish vf3 .ret (s3_1 x2)) := 
  Eq.trans (runC_pre (s1 := (s3_0 x0)) (by kernel_rfl) _ _) (Eq.trans (e3_0 N (finish vf3) x0) (by kernel_rfl))
end
def Tb3 : CallF := extend Tb7 3 (fn1 (fun _ => true) fun _ => .f (.b true))
theorem ok3 : FnOk Try.prog PHI Tb3 := FnOk.add1 hPHI ok7 (by kernel_rfl) fun q ha _ => ⟨0, (r3 0 q).trans (by
  unfold m3_0
  show (bif false then _ else _) = _
  cases h : sp8 q
  · rfl
  · have hp := small_pr h
    rw [show pr10 q = true from hp, show pr11 q = true from hp, show pr9 (sp10 q) (sp11 q) = true from rfl, show sp9 (sp10 q) (sp11 q) = true from sp9_self _]
    rfl)⟩

end Go.Vam.C20
