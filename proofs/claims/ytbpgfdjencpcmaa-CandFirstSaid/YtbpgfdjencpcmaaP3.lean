/- Chapter 20: what functions come to, part 3. No conditions. -/
import Derived.Test.YtbpgfdjencpcmaaP2
import Derived.KernelRfl
set_option linter.unusedVariables false
set_option maxRecDepth 100000
namespace Go.Vam.C20
open Go.Proofs
/-! ### The columns that parts of Where hold -/
/-- A place's column in a table. -/
def colOf (q a : D) (f : Int) : D := .i (IntKind.i64.wrap (a.toI - ((q.at 1).at f.toNat).toI))
theorem sp43_eq {q a : D} {f : Int} (hf : 0 ≤ f) (h : eqb (sp43 q a) f = true) : rawT q a.toI = f ∧ f < (q.at 1).toL.length ∧ f < (q.at 0).toL.length := by
  have h := eqb_t' h
  unfold sp43 at h
  have hb := lastLe_lt (q.at 1).toL a.toI (q.at 1).toL.length
  by_cases hr : 0 ≤ rawT q a.toI
  · by_cases h2 : rawT q a.toI < ((q.at 0).toL.length : Int)
    · rw [leb_t hr, ltb_t h2] at h
      simp only [Bool.and_self, cond_true] at h
      refine ⟨h, ?_, by omega⟩
      rw [← h]
      unfold rawT at hr ⊢
      cases hc : leb 0 a.toI && ltb a.toI (q.at 2).toI
      · rw [hc] at hr; exact absurd hr (show ¬ (0 : Int) ≤ -1 by decide)
      · simp only [cond_true]; omega
    · rw [ltb_f h2, Bool.and_false] at h
      simp only [cond_false] at h; omega
  · rw [leb_f hr, Bool.false_and] at h
    simp only [cond_false] at h; omega
theorem sp33_1_eq {q a : D} {f : Int} (hf : 0 ≤ f) (h : eqb (sp43 q a) f = true) : D.i (sp33_1 q a) = colOf q a f := by
  obtain ⟨h1, _⟩ := sp43_eq hf h
  unfold sp33_1 colOf
  rw [h1, leb_t hf]; rfl
def stepA (q : D) (f : Int) (sg : D → Bool) (op x o : D) (s : List D) : List D :=
  bif eqb (x.at 0).toI 2 && (eqb (sp43 q (x.at 3)) f && (sg op && !rdN o.wt q o f)) then add1 s (colOf q (x.at 3) f) else s
def stepN (q : D) (f : Int) (sg : D → Bool) (s : List D) (n : D) : List D :=
  bif eqb (n.at 0).toI 7 && eqb ((n.at 6).toL.length : Int) 2 then
    stepA q f sg (sp32 (n.at 1)) ((n.at 6).toL.getD 1 .nil) ((n.at 6).toL.getD 0 .nil) (stepA q f sg (n.at 1) ((n.at 6).toL.getD 0 .nil) ((n.at 6).toL.getD 1 .nil) s) else s
def heldL (q : D) (f : Int) (sg : D → Bool) : List D := (q.at 3).toL.foldl (stepN q f sg) []
theorem stepA_len (q : D) (f : Int) (sg : D → Bool) (op x o : D) (s : List D) : (stepA q f sg op x o s).length ≤ s.length + 1 := by
  unfold stepA
  cases eqb (x.at 0).toI 2 && (eqb (sp43 q (x.at 3)) f && (sg op && !rdN o.wt q o f))
  · simp
  · exact add1_len _ _
theorem stepN_len (q : D) (f : Int) (sg : D → Bool) (s : List D) (n : D) : (stepN q f sg s n).length ≤ s.length + 2 := by
  unfold stepN
  cases eqb (n.at 0).toI 7 && eqb ((n.at 6).toL.length : Int) 2
  · simp
  · have h1 := stepA_len q f sg (n.at 1) ((n.at 6).toL.getD 0 .nil) ((n.at 6).toL.getD 1 .nil) s
    have h2 := stepA_len q f sg (sp32 (n.at 1)) ((n.at 6).toL.getD 1 .nil) ((n.at 6).toL.getD 0 .nil) (stepA q f sg (n.at 1) ((n.at 6).toL.getD 0 .nil) ((n.at 6).toL.getD 1 .nil) s)
    simp only [cond_true]; omega
theorem foldl_len {g : List D → D → List D} {c : Nat} (h : ∀ s x, (g s x).length ≤ s.length + c) : ∀ (l : List D) (s : List D), (l.foldl g s).length ≤ s.length + c * l.length
  | [], s => by simp
  | x :: l, s => by
    have h1 := foldl_len h l (g s x)
    have h2 := h s x
    rw [List.foldl_cons, List.length_cons, Nat.mul_add]; omega
theorem heldL_len (q : D) (f : Int) (sg : D → Bool) : (heldL q f sg).length ≤ 2 * (q.at 3).toL.length := by
  have := foldl_len (stepN_len q f sg) (q.at 3).toL []
  simpa [heldL] using this
def sp17 (q f ops : D) : D := .sz (heldL q f.toI (sp34 ops))
def pr17 (q f _ : D) : Bool := leb 0 f.toI && leN (q.at 3).toL.length 1073741824
section
variable {R : Type}
def m17_1 (N : Nat) (x0 x1 x2 : D) (K : D → D → D → Option R) : Option R :=
  K x1 x2 (D.p x0)
def s17_0 (x0 x1 x2 : D) : St := sts 95 [(0, V.f x0), (1, V.f x1), (2, V.f x2)] []
def s17_1 (x1 x2 x3 : D) : St := sts 95 [(1, V.f x1), (2, V.f x2), (3, V.f x3)] []
theorem e17_1 (N : Nat) (k : Kn R) (x0 x1 x2 : D) : runC PHI Tb44 N vc17_1 (s17_0 x0 x1 x2) k = m17_1 N x0 x1 x2 (fun x1 x2 x3 => k .normal (s17_1 x1 x2 x3)) := by
  refine Eq.trans (runC_post _ _ _ k) (Eq.trans (ops_run _ _ _ _) (by kernel_rfl))
def m17_3 (N : Nat) (x1 x2 x3 : D) (K : D → D → D → List D → Option R) : Option R :=
  K x1 x2 x3 ([] : List D)
def s17_2 (x1 x2 x3 : D) (x7 : List D) : St := sts 95 [(1, V.f x1), (2, V.f x2), (3, V.f x3), (7, V.o false x7)] []
theorem e17_3 (N : Nat) (k : Kn R) (x1 x2 x3 : D) : runC PHI Tb44 N vc17_3 (s17_1 x1 x2 x3) k = m17_3 N x1 x2 x3 (fun x1 x2 x3 x7 => k .normal (s17_2 x1 x2 x3 x7)) := by
  refine Eq.trans (runC_post _ _ _ k) (Eq.trans (ops_run _ _ _ _) (by kernel_rfl))
def m17_6 (N : Nat) (x1 x2 x3 : D) (x7 : List D) (K : D → D → D → List D → D → D → D → Option R) : Option R :=
  (bif (isPtrD x3) then K x1 x2 x3 x7 (x3.deref.at 3) (D.i ((x3.deref.at 3).toL.length : Int)) (D.i 0) else none)
def s17_3 (x1 x2 x3 : D) (x7 : List D) (x17 x18 x19 : D) : St := sts 95 [(1, V.f x1), (2, V.f x2), (3, V.f x3), (7, V.o false x7), (17, V.f x17), (18, V.f x18), (19, V.f x19)] []
theorem e17_6 (N : Nat) (k : Kn R) (x1 x2 x3 : D) (x7 : List D) : runC PHI Tb44 N vc17_6 (s17_2 x1 x2 x3 x7) k = m17_6 N x1 x2 x3 x7 (fun x1 x2 x3 x7 x17 x18 x19 => k .normal (s17_3 x1 x2 x3 x7 x17 x18 x19)) := by
  refine Eq.trans (runC_post _ _ _ k) (Eq.trans (ops_run _ _ _ _) (by kernel_rfl))
def m17_10 (N : Nat) (x1 x2 x3 : D) (x7 : List D) (x17 x18 x19 : D) (K : D → D → D → List D → D → D → D → D → Option R) : Option R :=
  K x1 x2 x3 x7 x17 x18 x19 (D.b (ltb x19.toI x18.toI))
def s17_4 (x1 x2 x3 : D) (x7 : List D) (x17 x18 x19 x20 : D) : St := sts 95 [(1, V.f x1), (2, V.f x2), (3, V.f x3), (7, V.o false x7), (17, V.f x17), (18, V.f x18), (19, V.f x19), (20, V.f x20)] []
theorem e17_10 (N : Nat) (k : Kn R) (x1 x2 x3 : D) (x7 : List D) (x17 x18 x19 : D) : runC PHI Tb44 N vc17_10 (s17_3 x1 x2 x3 x7 x17 x18 x19) k = m17_10 N x1 x2 x3 x7 x17 x18 x19 (fun x1 x2 x3 x7 x17 x18 x19 x20 => k .normal (s17_4 x1 x2 x3 x7 x17 x18 x19 x20)) := by
  refine Eq.trans (runC_post _ _ _ k) (Eq.trans (ops_run _ _ _ _) (by kernel_rfl))
def m17_12 (N : Nat) (x1 x2 x3 : D) (x7 : List D) (x17 x18 x19 x20 : D) (K : D → D → D → List D → D → D → D → Option R) (K0 : List D → Option R) : Option R :=
  (bif x20.toB then K x1 x2 x3 x7 x17 x18 x19 else K0 x7)
def s17_5 (x7 : List D) : St := sts 95 [(7, V.o false x7)] []
theorem e17_12 (N : Nat) (k : Kn R) (x1 x2 x3 : D) (x7 : List D) (x17 x18 x19 x20 : D) : runC PHI Tb44 N vc17_12 (s17_4 x1 x2 x3 x7 x17 x18 x19 x20) k = m17_12 N x1 x2 x3 x7 x17 x18 x19 x20 (fun x1 x2 x3 x7 x17 x18 x19 => k .normal (s17_3 x1 x2 x3 x7 x17 x18 x19)) (fun x7 => k (.exit 0) (s17_5 x7)) := by kernel_rfl
def m17_18 (N : Nat) (x1 x2 x3 : D) (x7 : List D) (x17 x18 x19 : D) (K : D → D → D → List D → D → D → D → D → Option R) : Option R :=
  (bif (inb x19.toI x17.toL.length) then K x1 x2 x3 x7 (D.p (x17.at (x19.toI : Int).toNat)) x17 x18 x19 else none)
def s17_6 (x1 x2 x3 : D) (x7 : List D) (x9 x17 x18 x19 : D) : St := sts 95 [(1, V.f x1), (2, V.f x2), (3, V.f x3), (7, V.o false x7), (9, V.f x9), (17, V.f x17), (18, V.f x18), (19, V.f x19)] []
theorem e17_18 (N : Nat) (k : Kn R) (x1 x2 x3 : D) (x7 : List D) (x17 x18 x19 : D) : runC PHI Tb44 N vc17_18 (s17_3 x1 x2 x3 x7 x17 x18 x19) k = m17_18 N x1 x2 x3 x7 x17 x18 x19 (fun x1 x2 x3 x7 x9 x17 x18 x19 => k .normal (s17_6 x1 x2 x3 x7 x9 x17 x18 x19)) := by
  refine Eq.trans (runC_post _ _ _ k) (Eq.trans (ops_run _ _ _ _) (by kernel_rfl))
def m17_20 (N : Nat) (x1 x2 x3 : D) (x7 : List D) (x9 x17 x18 x19 : D) (K : D → D → D → List D → D → D → D → D → Option R) (K1 : D → D → D → List D → D → D → D → Option R) : Option R :=
  (bif (isPtrD x9) then (bif (!eqb (x9.deref.at 0).toI 7) then (bif true then K1 x1 x2 x3 x7 x17 x18 x19 else K x1 x2 x3 x7 x9 x17 x18 x19) else (bif (isPtrD x9) then (bif (!eqb ((x9.deref.at 6).toL.length : Int) 2) then K1 x1 x2 x3 x7 x17 x18 x19 else K x1 x2 x3 x7 x9 x17 x18 x19) else none)) else none)
theorem e17_20 (N : Nat) (k : Kn R) (x1 x2 x3 : D) (x7 : List D) (x9 x17 x18 x19 : D) : runC PHI Tb44 N vc17_20 (s17_6 x1 x2 x3 x7 x9 x17 x18 x19) k = m17_20 N x1 x2 x3 x7 x9 x17 x18 x19 (fun x1 x2 x3 x7 x9 x17 x18 x19 => k .normal (s17_6 x1 x2 x3 x7 x9 x17 x18 x19)) (fun x1 x2 x3 x7 x17 x18 x19 => k (.exit 1) (s17_3 x1 x2 x3 x7 x17 x18 x19)) := by kernel_rfl
def m17_26 (N : Nat) (x1 x2 x3 : D) (x7 : List D) (x9 x17 x18 x19 : D) (K : D → D → D → List D → D → D → D → D → D → D → D → Option R) : Option R :=
  (bif (isPtrD x9) then K x1 x2 x3 x7 x9 x17 x18 x19 (x9.deref.at 6) (D.i ((x9.deref.at 6).toL.length : Int)) (D.i 0) else none)
def s17_7 (x1 x2 x3 : D) (x7 : List D) (x9 x17 x18 x19 x33 x34 x35 : D) : St := sts 95 [(1, V.f x1), (2, V.f x2), (3, V.f x3), (7, V.o false x7), (9, V.f x9), (17, V.f x17), (18, V.f x18), (19, V.f x19), (33, V.f x33), (34, V.f x34), (35, V.f x35)] []
theorem e17_26 (N : Nat) (k : Kn R) (x1 x2 x3 : D) (x7 : List D) (x9 x17 x18 x19 : D) : runC PHI Tb44 N vc17_26 (s17_6 x1 x2 x3 x7 x9 x17 x18 x19) k = m17_26 N x1 x2 x3 x7 x9 x17 x18 x19 (fun x1 x2 x3 x7 x9 x17 x18 x19 x33 x34 x35 => k .normal (s17_7 x1 x2 x3 x7 x9 x17 x18 x19 x33 x34 x35)) := by
  refine Eq.trans (runC_post _ _ _ k) (Eq.trans (ops_run _ _ _ _) (by kernel_rfl))
def m17_30 (N : Nat) (x1 x2 x3 : D) (x7 : List D) (x9 x17 x18 x19 x33 x34 x35 : D) (K : D → D → D → List D → D → D → D → D → D → D → D → D → Option R) : Option R :=
  K x1 x2 x3 x7 x9 x17 x18 x19 x33 x34 x35 (D.b (ltb x35.toI x34.toI))
def s17_8 (x1 x2 x3 : D) (x7 : List D) (x9 x17 x18 x19 x33 x34 x35 x36 : D) : St := sts 95 [(1, V.f x1), (2, V.f x2), (3, V.f x3), (7, V.o false x7), (9, V.f x9), (17, V.f x17), (18, V.f x18), (19, V.f x19), (33, V.f x33), (34, V.f x34), (35, V.f x35), (36, V.f x36)] []
theorem e17_30 (N : Nat) (k : Kn R) (x1 x2 x3 : D) (x7 : List D) (x9 x17 x18 x19 x33 x34 x35 : D) : runC PHI Tb44 N vc17_30 (s17_7 x1 x2 x3 x7 x9 x17 x18 x19 x33 x34 x35) k = m17_30 N x1 x2 x3 x7 x9 x17 x18 x19 x33 x34 x35 (fun x1 x2 x3 x7 x9 x17 x18 x19 x33 x34 x35 x36 => k .normal (s17_8 x1 x2 x3 x7 x9 x17 x18 x19 x33 x34 x35 x36)) := by
  refine Eq.trans (runC_post _ _ _ k) (Eq.trans (ops_run _ _ _ _) (by kernel_rfl))
def m17_32 (N : Nat) (x1 x2 x3 : D) (x7 : List D) (x9 x17 x18 x19 x33 x34 x35 x36 : D) (K : D → D → D → List D → D → D → D → D → D → D → D → Option R) (K2 : D → D → D → List D → D → D → D → Option R) : Option R :=
  (bif x36.toB then K x1 x2 x3 x7 x9 x17 x18 x19 x33 x34 x35 else K2 x1 x2 x3 x7 x17 x18 x19)
theorem e17_32 (N : Nat) (k : Kn R) (x1 x2 x3 : D) (x7 : List D) (x9 x17 x18 x19 x33 x34 x35 x36 : D) : runC PHI Tb44 N vc17_32 (s17_8 x1 x2 x3 x7 x9 x17 x18 x19 x33 x34 x35 x36) k = m17_32 N x1 x2 x3 x7 x9 x17 x18 x19 x33 x34 x35 x36 (fun x1 x2 x3 x7 x9 x17 x18 x19 x33 x34 x35 => k .normal (s17_7 x1 x2 x3 x7 x9 x17 x18 x19 x33 x34 x35)) (fun x1 x2 x3 x7 x17 x18 x19 => k (.exit 2) (s17_3 x1 x2 x3 x7 x17 x18 x19)) := by kernel_rfl
def m17_38 (N : Nat) (x1 x2 x3 : D) (x7 : List D) (x9 x17 x18 x19 x33 x34 x35 : D) (K : D → D → D → List D → D → D → D → D → D → D → D → D → D → Option R) : Option R :=
  (bif (inb x35.toI x33.toL.length) then K x1 x2 x3 x7 x9 x35 (D.p (x33.at (x35.toI : Int).toNat)) x17 x18 x19 x33 x34 x35 else none)
def s17_9 (x1 x2 x3 : D) (x7 : List D) (x9 x10 x11 x17 x18 x19 x33 x34 x35 : D) : St := sts 95 [(1, V.f x1), (2, V.f x2), (3, V.f x3), (7, V.o false x7), (9, V.f x9), (10, V.f x10), (11, V.f x11), (17, V.f x17), (18, V.f x18), (19, V.f x19), (33, V.f x33), (34, V.f x34), (35, V.f x35)] []
theorem e17_38 (N : Nat) (k : Kn R) (x1 x2 x3 : D) (x7 : List D) (x9 x17 x18 x19 x33 x34 x35 : D) : runC PHI Tb44 N vc17_38 (s17_7 x1 x2 x3 x7 x9 x17 x18 x19 x33 x34 x35) k = m17_38 N x1 x2 x3 x7 x9 x17 x18 x19 x33 x34 x35 (fun x1 x2 x3 x7 x9 x10 x11 x17 x18 x19 x33 x34 x35 => k .normal (s17_9 x1 x2 x3 x7 x9 x10 x11 x17 x18 x19 x33 x34 x35)) := by
  refine Eq.trans (runC_post _ _ _ k) (Eq.trans (ops_run _ _ _ _) (by kernel_rfl))
def m17_40 (N : Nat) (x1 x2 x3 : D) (x7 : List D) (x9 x10 x11 x17 x18 x19 x33 x34 x35 : D) (K : D → D → D → List D → D → D → D → D → D → D → D → D → D → D → Option R) : Option R :=
  (bif (isPtrD x9) then K x1 x2 x3 x7 x9 x10 x11 (x9.deref.at 1) x17 x18 x19 x33 x34 x35 else none)
def s17_10 (x1 x2 x3 : D) (x7 : List D) (x9 x10 x11 x12 x17 x18 x19 x33 x34 x35 : D) : St := sts 95 [(1, V.f x1), (2, V.f x2), (3, V.f x3), (7, V.o false x7), (9, V.f x9), (10, V.f x10), (11, V.f x11), (12, V.f x12), (17, V.f x17), (18, V.f x18), (19, V.f x19), (33, V.f x33), (34, V.f x34), (35, V.f x35)] []
theorem e17_40 (N : Nat) (k : Kn R) (x1 x2 x3 : D) (x7 : List D) (x9 x10 x11 x17 x18 x19 x33 x34 x35 : D) : runC PHI Tb44 N vc17_40 (s17_9 x1 x2 x3 x7 x9 x10 x11 x17 x18 x19 x33 x34 x35) k = m17_40 N x1 x2 x3 x7 x9 x10 x11 x17 x18 x19 x33 x34 x35 (fun x1 x2 x3 x7 x9 x10 x11 x12 x17 x18 x19 x33 x34 x35 => k .normal (s17_10 x1 x2 x3 x7 x9 x10 x11 x12 x17 x18 x19 x33 x34 x35)) := by
  refine Eq.trans (runC_post _ _ _ k) (Eq.trans (ops_run _ _ _ _) (by kernel_rfl))
def m17_42 (N : Nat) (x1 x2 x3 : D) (x7 : List D) (x9 x10 x11 x12 x17 x18 x19 x33 x34 x35 : D) (K : D → D → D → List D → D → D → D → D → D → D → D → D → D → D → Option R) : Option R :=
  (bif (eqb x10.toI 1) then K x1 x2 x3 x7 x9 x10 x11 (sp32 x12) x17 x18 x19 x33 x34 x35 else K x1 x2 x3 x7 x9 x10 x11 x12 x17 x18 x19 x33 x34 x35)
theorem e17_42 (N : Nat) (k : Kn R) (x1 x2 x3 : D) (x7 : List D) (x9 x10 x11 x12 x17 x18 x19 x33 x34 x35 : D) : runC PHI Tb44 N vc17_42 (s17_10 x1 x2 x3 x7 x9 x10 x11 x12 x17 x18 x19 x33 x34 x35) k = m17_42 N x1 x2 x3 x7 x9 x10 x11 x12 x17 x18 x19 x33 x34 x35 (fun x1 x2 x3 x7 x9 x10 x11 x12 x17 x18 x19 x33 x34 x35 => k .normal (s17_10 x1 x2 x3 x7 x9 x10 x11 x12 x17 x18 x19 x33 x34 x35)) := by kernel_rfl
def m17_48 (N : Nat) (x1 x2 x3 : D) (x7 : List D) (x9 x10 x11 x12 x17 x18 x19 x33 x34 x35 : D) (K : D → D → D → List D → D → D → D → D → D → D → D → D → D → D → D → D → D → Option R) : Option R :=
  (bif (isPtrD x3) then (bif (isPtrD x11) then K x1 x2 x3 x7 x9 x10 x11 x12 (D.i (sp33_0 x3.deref (x11.deref.at 3))) (D.i (sp33_1 x3.deref (x11.deref.at 3))) (D.b (sp33_2 x3.deref (x11.deref.at 3))) x17 x18 x19 x33 x34 x35 else none) else none)
def s17_11 (x1 x2 x3 : D) (x7 : List D) (x9 x10 x11 x12 x13 x14 x15 x17 x18 x19 x33 x34 x35 : D) : St := sts 95 [(1, V.f x1), (2, V.f x2), (3, V.f x3), (7, V.o false x7), (9, V.f x9), (10, V.f x10), (11, V.f x11), (12, V.f x12), (13, V.f x13), (14, V.f x14), (15, V.f x15), (17, V.f x17), (18, V.f x18), (19, V.f x19), (33, V.f x33), (34, V.f x34), (35, V.f x35)] []
theorem e17_48 (N : Nat) (k : Kn R) (x1 x2 x3 : D) (x7 : List D) (x9 x10 x11 x12 x17 x18 x19 x33 x34 x35 : D) : runC PHI Tb44 N vc17_48 (s17_10 x1 x2 x3 x7 x9 x10 x11 x12 x17 x18 x19 x33 x34 x35) k = m17_48 N x1 x2 x3 x7 x9 x10 x11 x12 x17 x18 x19 x33 x34 x35 (fun x1 x2 x3 x7 x9 x10 x11 x12 x13 x14 x15 x17 x18 x19 x33 x34 x35 => k .normal (s17_11 x1 x2 x3 x7 x9 x10 x11 x12 x13 x14 x15 x17 x18 x19 x33 x34 x35)) := by
  refine Eq.trans (runC_post _ _ _ k) (Eq.trans (ops_run _ _ _ _) (by kernel_rfl))
def m17_50 (N : Nat) (x1 x2 x3 : D) (x7 : List D) (x9 x10 x11 x12 x13 x14 x15 x17 x18 x19 x33 x34 x35 : D) (K : D → D → D → List D → D → D → D → D → D → D → D → D → D → Option R) : Option R :=
  (bif (isPtrD x11) then (bif (eqb (x11.deref.at 0).toI 2) then (bif x15.toB then (bif (eqb x13.toI x1.toI) then (bif (sp34 x2 x12) then (bif (isPtrD x3) then (bif (isPtrD x9) then (bif (inb (IntKind.wrap IntKind.i64 (1 - x10.toI)) (x9.deref.at 6).toL.length) then (bif (pr35 x3.deref ((x9.deref.at 6).at ((IntKind.wrap IntKind.i64 (1 - x10.toI)) : Int).toNat) x1) then (bif (!(sp35 x3.deref ((x9.deref.at 6).at ((IntKind.wrap IntKind.i64 (1 - x10.toI)) : Int).toNat) x1)) then K x1 x2 x3 x7 x9 x14 x17 x18 x19 x33 x34 x35 (D.b (!(sp36 (D.sz x7) x14))) else K x1 x2 x3 x7 x9 x14 x17 x18 x19 x33 x34 x35 (D.b false)) else none) else none) else none) else none) else K x1 x2 x3 x7 x9 x14 x17 x18 x19 x33 x34 x35 (D.b false)) else K x1 x2 x3 x7 x9 x14 x17 x18 x19 x33 x34 x35 (D.b false)) else K x1 x2 x3 x7 x9 x14 x17 x18 x19 x33 x34 x35 (D.b false)) else K x1 x2 x3 x7 x9 x14 x17 x18 x19 x33 x34 x35 (D.b false)) else none)
def s17_12 (x1 x2 x3 : D) (x7 : List D) (x9 x14 x17 x18 x19 x33 x34 x35 x87 : D) : St := sts 95 [(1, V.f x1), (2, V.f x2), (3, V.f x3), (7, V.o false x7), (9, V.f x9), (14, V.f x14), (17, V.f x17), (18, V.f x18), (19, V.f x19), (33, V.f x33), (34, V.f x34), (35, V.f x35), (87, V.f x87)] []
theorem e17_50 (N : Nat) (k : Kn R) (x1 x2 x3 : D) (x7 : List D) (x9 x10 x11 x12 x13 x14 x15 x17 x18 x19 x33 x34 x35 : D) : runC PHI Tb44 N vc17_50 (s17_11 x1 x2 x3 x7 x9 x10 x11 x12 x13 x14 x15 x17 x18 x19 x33 x34 x35) k = m17_50 N x1 x2 x3 x7 x9 x10 x11 x12 x13 x14 x15 x17 x18 x19 x33 x34 x35 (fun x1 x2 x3 x7 x9 x14 x17 x18 x19 x33 x34 x35 x87 => k .normal (s17_12 x1 x2 x3 x7 x9 x14 x17 x18 x19 x33 x34 x35 x87)) := by
  refine Eq.trans (runC_post _ _ _ k) (Eq.trans (ops_run _ _ _ _) (by kernel_rfl))
def m17_51 (N : Nat) (x1 x2 x3 : D) (x7 : List D) (x9 x14 x17 x18 x19 x33 x34 x35 x87 : D) (K : D → D → D → List D → D → D → D → D → D → D → D → Option R) : Option R :=
  (bif x87.toB then (bif (leN (x7.length + ([x14] : List D).length) 17592186044416 && true) then K x1 x2 x3 (x7 ++ ([x14] : List D)) x9 x17 x18 x19 x33 x34 x35 else none) else K x1 x2 x3 x7 x9 x17 x18 x19 x33 x34 x35)
theorem e17_51 (N : Nat) (k : Kn R) (x1 x2 x3 : D) (x7 : List D) (x9 x14 x17 x18 x19 x33 x34 x35 x87 : D) : runC PHI Tb44 N vc17_51 (s17_12 x1 x2 x3 x7 x9 x14 x17 x18 x19 x33 x34 x35 x87) k = m17_51 N x1 x2 x3 x7 x9 x14 x17 x18 x19 x33 x34 x35 x87 (fun x1 x2 x3 x7 x9 x17 x18 x19 x33 x34 x35 => k .normal (s17_7 x1 x2 x3 x7 x9 x17 x18 x19 x33 x34 x35)) := by kernel_rfl
def m17_49 (N : Nat) (x1 x2 x3 : D) (x7 : List D) (x9 x10 x11 x12 x13 x14 x15 x17 x18 x19 x33 x34 x35 : D) (K : D → D → D → List D → D → D → D → D → D → D → D → Option R) : Option R :=
  (m17_50 N x1 x2 x3 x7 x9 x10 x11 x12 x13 x14 x15 x17 x18 x19 x33 x34 x35 (fun y1 y2 y3 y7 y9 y14 y17 y18 y19 y33 y34 y35 y87 => (m17_51 N y1 y2 y3 y7 y9 y14 y17 y18 y19 y33 y34 y35 y87 (fun y1 y2 y3 y7 y9 y17 y18 y19 y33 y34 y35 => K y1 y2 y3 y7 y9 y17 y18 y19 y33 y34 y35))))
theorem e17_49 (N : Nat) (k : Kn R) (x1 x2 x3 : D) (x7 : List D) (x9 x10 x11 x12 x13 x14 x15 x17 x18 x19 x33 x34 x35 : D) : runC PHI Tb44 N vc17_49 (s17_11 x1 x2 x3 x7 x9 x10 x11 x12 x13 x14 x15 x17 x18 x19 x33 x34 x35) k = m17_49 N x1 x2 x3 x7 x9 x10 x11 x12 x13 x14 x15 x17 x18 x19 x33 x34 x35 (fun x1 x2 x3 x7 x9 x17 x18 x19 x33 x34 x35 => k .normal (s17_7 x1 x2 x3 x7 x9 x17 x18 x19 x33 x34 x35)) := by
  have h2 := e17_50 N (kseq PHI Tb44 N vc17_51 k) x1 x2 x3 x7 x9 x10 x11 x12 x13 x14 x15 x17 x18 x19 x33 x34 x35
  have h3 := (funext fun y1 => funext fun y2 => funext fun y3 => funext fun y7 => funext fun y9 => funext fun y14 => funext fun y17 => funext fun y18 => funext fun y19 => funext fun y33 => funext fun y34 => funext fun y35 => funext fun y87 => (e17_51 N k y1 y2 y3 y7 y9 y14 y17 y18 y19 y33 y34 y35 y87) : (fun (y1 y2 y3 : D) (y7 : List D) (y9 y14 y17 y18 y19 y33 y34 y35 y87 : D) => (kseq PHI Tb44 N vc17_51 k) .normal (s17_12 y1 y2 y3 y7 y9 y14 y17 y18 y19 y33 y34 y35 y87)) = _)
  refine Eq.trans (runC_seq _ _ _ k) (Eq.trans h2 (Eq.trans (congrArg (fun K => m17_50 N x1 x2 x3 x7 x9 x10 x11 x12 x13 x14 x15 x17 x18 x19 x33 x34 x35 K) h3) (by kernel_rfl)))
def m17_47 (N : Nat) (x1 x2 x3 : D) (x7 : List D) (x9 x10 x11 x12 x17 x18 x19 x33 x34 x35 : D) (K : D → D → D → List D → D → D → D → D → D → D → D → Option R) : Option R :=
  (m17_48 N x1 x2 x3 x7 x9 x10 x11 x12 x17 x18 x19 x33 x34 x35 (fun y1 y2 y3 y7 y9 y10 y11 y12 y13 y14 y15 y17 y18 y19 y33 y34 y35 => (m17_49 N y1 y2 y3 y7 y9 y10 y11 y12 y13 y14 y15 y17 y18 y19 y33 y34 y35 (fun y1 y2 y3 y7 y9 y17 y18 y19 y33 y34 y35 => K y1 y2 y3 y7 y9 y17 y18 y19 y33 y34 y35))))
theorem e17_47 (N : Nat) (k : Kn R) (x1 x2 x3 : D) (x7 : List D) (x9 x10 x11 x12 x17 x18 x19 x33 x34 x35 : D) : runC PHI Tb44 N vc17_47 (s17_10 x1 x2 x3 x7 x9 x10 x11 x12 x17 x18 x19 x33 x34 x35) k = m17_47 N x1 x2 x3 x7 x9 x10 x11 x12 x17 x18 x19 x33 x34 x35 (fun x1 x2 x3 x7 x9 x17 x18 x19 x33 x34 x35 => k .normal (s17_7 x1 x2 x3 x7 x9 x17 x18 x19 x33 x34 x35)) := by
  have h2 := e17_48 N (kseq PHI Tb44 N vc17_49 k) x1 x2 x3 x7 x9 x10 x11 x12 x17 x18 x19 x33 x34 x35
  have h3 := (funext fun y1 => funext fun y2 => funext fun y3 => funext fun y7 => funext fun y9 => funext fun y10 => funext fun y11 => funext fun y12 => funext fun y13 => funext fun y14 => funext fun y15 => funext fun y17 => funext fun y18 => funext fun y19 => funext fun y33 => funext fun y34 => funext fun y35 => (e17_49 N k y1 y2 y3 y7 y9 y10 y11 y12 y13 y14 y15 y17 y18 y19 y33 y34 y35) : (fun (y1 y2 y3 : D) (y7 : List D) (y9 y10 y11 y12 y13 y14 y15 y17 y18 y19 y33 y34 y35 : D) => (kseq PHI Tb44 N vc17_49 k) .normal (s17_11 y1 y2 y3 y7 y9 y10 y11 y12 y13 y14 y15 y17 y18 y19 y33 y34 y35)) = _)
  refine Eq.trans (runC_seq _ _ _ k) (Eq.trans h2 (Eq.trans (congrArg (fun K => m17_48 N x1 x2 x3 x7 x9 x10 x11 x12 x17 x18 x19 x33 x34 x35 K) h3) (by kernel_rfl)))
def m17_41 (N : Nat) (x1 x2 x3 : D) (x7 : List D) (x9 x10 x11 x12 x17 x18 x19 x33 x34 x35 : D) (K : D → D → D → List D → D → D → D → D → D → D → D → Option R) : Option R :=
  (m17_42 N x1 x2 x3 x7 x9 x10 x11 x12 x17 x18 x19 x33 x34 x35 (fun y1 y2 y3 y7 y9 y10 y11 y12 y17 y18 y19 y33 y34 y35 => (m17_47 N y1 y2 y3 y7 y9 y10 y11 y12 y17 y18 y19 y33 y34 y35 (fun y1 y2 y3 y7 y9 y17 y18 y19 y33 y34 y35 => K y1 y2 y3 y7 y9 y17 y18 y19 y33 y34 y35))))
theorem e17_41 (N : Nat) (k : Kn R) (x1 x2 x3 : D) (x7 : List D) (x9 x10 x11 x12 x17 x18 x19 x33 x34 x35 : D) : runC PHI Tb44 N vc17_41 (s17_10 x1 x2 x3 x7 x9 x10 x11 x12 x17 x18 x19 x33 x34 x35) k = m17_41 N x1 x2 x3 x7 x9 x10 x11 x12 x17 x18 x19 x33 x34 x35 (fun x1 x2 x3 x7 x9 x17 x18 x19 x33 x34 x35 => k .normal (s17_7 x1 x2 x3 x7 x9 x17 x18 x19 x33 x34 x35)) := by
  have h2 := e17_42 N (kseq PHI Tb44 N vc17_47 k) x1 x2 x3 x7 x9 x10 x11 x12 x17 x18 x19 x33 x34 x35
  have h3 := (funext fun y1 => funext fun y2 => funext fun y3 => funext fun y7 => funext fun y9 => funext fun y10 => funext fun y11 => funext fun y12 => funext fun y17 => funext fun y18 => funext fun y19 => funext fun y33 => funext fun y34 => funext fun y35 => (e17_47 N k y1 y2 y3 y7 y9 y10 y11 y12 y17 y18 y19 y33 y34 y35) : (fun (y1 y2 y3 : D) (y7 : List D) (y9 y10 y11 y12 y17 y18 y19 y33 y34 y35 : D) => (kseq PHI Tb44 N vc17_47 k) .normal (s17_10 y1 y2 y3 y7 y9 y10 y11 y12 y17 y18 y19 y33 y34 y35)) = _)
  refine Eq.trans (runC_seq _ _ _ k) (Eq.trans h2 (Eq.trans (congrArg (fun K => m17_42 N x1 x2 x3 x7 x9 x10 x11 x12 x17 x18 x19 x33 x34 x35 K) h3) (by kernel_rfl)))
def m17_39 (N : Nat) (x1 x2 x3 : D) (x7 : List D) (x9 x10 x11 x17 x18 x19 x33 x34 x35 : D) (K : D → D → D → List D → D → D → D → D → D → D → D → Option R) : Option R :=
  (m17_40 N x1 x2 x3 x7 x9 x10 x11 x17 x18 x19 x33 x34 x35 (fun y1 y2 y3 y7 y9 y10 y11 y12 y17 y18 y19 y33 y34 y35 => (m17_41 N y1 y2 y3 y7 y9 y10 y11 y12 y17 y18 y19 y33 y34 y35 (fun y1 y2 y3 y7 y9 y17 y18 y19 y33 y34 y35 => K y1 y2 y3 y7 y9 y17 y18 y19 y33 y34 y35))))
theorem e17_39 (N : Nat) (k : Kn R) (x1 x2 x3 : D) (x7 : List D) (x9 x10 x11 x17 x18 x19 x33 x34 x35 : D) : runC PHI Tb44 N vc17_39 (s17_9 x1 x2 x3 x7 x9 x10 x11 x17 x18 x19 x33 x34 x35) k = m17_39 N x1 x2 x3 x7 x9 x10 x11 x17 x18 x19 x33 x34 x35 (fun x1 x2 x3 x7 x9 x17 x18 x19 x33 x34 x35 => k .normal (s17_7 x1 x2 x3 x7 x9 x17 x18 x19 x33 x34 x35)) := by
  have h2 := e17_40 N (kseq PHI Tb44 N vc17_41 k) x1 x2 x3 x7 x9 x10 x11 x17 x18 x19 x33 x34 x35
  have h3 := (funext fun y1 => funext fun y2 => funext fun y3 => funext fun y7 => funext fun y9 => funext fun y10 => funext fun y11 => funext fun y12 => funext fun y17 => funext fun y18 => funext fun y19 => funext fun y33 => funext fun y34 => funext fun y35 => (e17_41 N k y1 y2 y3 y7 y9 y10 y11 y12 y17 y18 y19 y33 y34 y35) : (fun (y1 y2 y3 : D) (y7 : List D) (y9 y10 y11 y12 y17 y18 y19 y33 y34 y35 : D) => (kseq PHI Tb44 N vc17_41 k) .normal (s17_10 y1 y2 y3 y7 y9 y10 y11 y12 y17 y18 y19 y33 y34 y35)) = _)
  refine Eq.trans (runC_seq _ _ _ k) (Eq.trans h2 (Eq.trans (congrArg (fun K => m17_40 N x1 x2 x3 x7 x9 x10 x11 x17 x18 x19 x33 x34 x35 K) h3) (by kernel_rfl)))
def m17_37 (N : Nat) (x1 x2 x3 : D) (x7 : List D) (x9 x17 x18 x19 x33 x34 x35 : D) (K : D → D → D → List D → D → D → D → D → D → D → D → Option R) : Option R :=
  (m17_38 N x1 x2 x3 x7 x9 x17 x18 x19 x33 x34 x35 (fun y1 y2 y3 y7 y9 y10 y11 y17 y18 y19 y33 y34 y35 => (m17_39 N y1 y2 y3 y7 y9 y10 y11 y17 y18 y19 y33 y34 y35 (fun y1 y2 y3 y7 y9 y17 y18 y19 y33 y34 y35 => K y1 y2 y3 y7 y9 y17 y18 y19 y33 y34 y35))))
theorem e17_37 (N : Nat) (k : Kn R) (x1 x2 x3 : D) (x7 : List D) (x9 x17 x18 x19 x33 x34 x35 : D) : runC PHI Tb44 N vc17_37 (s17_7 x1 x2 x3 x7 x9 x17 x18 x19 x33 x34 x35) k = m17_37 N x1 x2 x3 x7 x9 x17 x18 x19 x33 x34 x35 (fun x1 x2 x3 x7 x9 x17 x18 x19 x33 x34 x35 => k .normal (s17_7 x1 x2 x3 x7 x9 x17 x18 x19 x33 x34 x35)) := by
  have h2 := e17_38 N (kseq PHI Tb44 N vc17_39 k) x1 x2 x3 x7 x9 x17 x18 x19 x33 x34 x35
  have h3 := (funext fun y1 => funext fun y2 => funext fun y3 => funext fun y7 => funext fun y9 => funext fun y10 => funext fun y11 => funext fun y17 => funext fun y18 => funext fun y19 => funext fun y33 => funext fun y34 => funext fun y35 => (e17_39 N k y1 y2 y3 y7 y9 y10 y11 y17 y18 y19 y33 y34 y35) : (fun (y1 y2 y3 : D) (y7 : List D) (y9 y10 y11 y17 y18 y19 y33 y34 y35 : D) => (kseq PHI Tb44 N vc17_39 k) .normal (s17_9 y1 y2 y3 y7 y9 y10 y11 y17 y18 y19 y33 y34 y35)) = _)
  refine Eq.trans (runC_seq _ _ _ k) (Eq.trans h2 (Eq.trans (congrArg (fun K => m17_38 N x1 x2 x3 x7 x9 x17 x18 x19 x33 x34 x35 K) h3) (by kernel_rfl)))
def m17_36 (N : Nat) (x1 x2 x3 : D) (x7 : List D) (x9 x17 x18 x19 x33 x34 x35 : D) (K : D → D → D → List D → D → D → D → D → D → D → D → Option R) : Option R :=
  (m17_37 N x1 x2 x3 x7 x9 x17 x18 x19 x33 x34 x35 (fun y1 y2 y3 y7 y9 y17 y18 y19 y33 y34 y35 => K y1 y2 y3 y7 y9 y17 y18 y19 y33 y34 y35))
theorem e17_36 (N : Nat) (k : Kn R) (x1 x2 x3 : D) (x7 : List D) (x9 x17 x18 x19 x33 x34 x35 : D) : runC PHI Tb44 N vc17_36 (s17_7 x1 x2 x3 x7 x9 x17 x18 x19 x33 x34 x35) k = m17_36 N x1 x2 x3 x7 x9 x17 x18 x19 x33 x34 x35 (fun x1 x2 x3 x7 x9 x17 x18 x19 x33 x34 x35 => k .normal (s17_7 x1 x2 x3 x7 x9 x17 x18 x19 x33 x34 x35)) := by
  refine Eq.trans (runC_block _ _ _ k) (Eq.trans (e17_37 N (kblk 3 k) x1 x2 x3 x7 x9 x17 x18 x19 x33 x34 x35) (by kernel_rfl))
def m17_54 (N : Nat) (x1 x2 x3 : D) (x7 : List D) (x9 x17 x18 x19 x33 x34 x35 : D) (K : D → D → D → List D → D → D → D → D → D → D → D → Option R) : Option R :=
  K x1 x2 x3 x7 x9 x17 x18 x19 x33 x34 (D.i (IntKind.wrap IntKind.i64 (x35.toI + 1)))
theorem e17_54 (N : Nat) (k : Kn R) (x1 x2 x3 : D) (x7 : List D) (x9 x17 x18 x19 x33 x34 x35 : D) : runC PHI Tb44 N vc17_54 (s17_7 x1 x2 x3 x7 x9 x17 x18 x19 x33 x34 x35) k = m17_54 N x1 x2 x3 x7 x9 x17 x18 x19 x33 x34 x35 (fun x1 x2 x3 x7 x9 x17 x18 x19 x33 x34 x35 => k .normal (s17_7 x1 x2 x3 x7 x9 x17 x18 x19 x33 x34 x35)) := by
  refine Eq.trans (runC_post _ _ _ k) (Eq.trans (ops_run _ _ _ _) (by kernel_rfl))
def m17_35 (N : Nat) (x1 x2 x3 : D) (x7 : List D) (x9 x17 x18 x19 x33 x34 x35 : D) (K : D → D → D → List D → D → D → D → D → D → D → D → Option R) : Option R :=
  (m17_36 N x1 x2 x3 x7 x9 x17 x18 x19 x33 x34 x35 (fun y1 y2 y3 y7 y9 y17 y18 y19 y33 y34 y35 => (m17_54 N y1 y2 y3 y7 y9 y17 y18 y19 y33 y34 y35 (fun y1 y2 y3 y7 y9 y17 y18 y19 y33 y34 y35 => K y1 y2 y3 y7 y9 y17 y18 y19 y33 y34 y35))))
theorem e17_35 (N : Nat) (k : Kn R) (x1 x2 x3 : D) (x7 : List D) (x9 x17 x18 x19 x33 x34 x35 : D) : runC PHI Tb44 N vc17_35 (s17_7 x1 x2 x3 x7 x9 x17 x18 x19 x33 x34 x35) k = m17_35 N x1 x2 x3 x7 x9 x17 x18 x19 x33 x34 x35 (fun x1 x2 x3 x7 x9 x17 x18 x19 x33 x34 x35 => k .normal (s17_7 x1 x2 x3 x7 x9 x17 x18 x19 x33 x34 x35)) := by
  have h2 := e17_36 N (kseq PHI Tb44 N vc17_54 k) x1 x2 x3 x7 x9 x17 x18 x19 x33 x34 x35
  have h3 := (funext fun y1 => funext fun y2 => funext fun y3 => funext fun y7 => funext fun y9 => funext fun y17 => funext fun y18 => funext fun y19 => funext fun y33 => funext fun y34 => funext fun y35 => (e17_54 N k y1 y2 y3 y7 y9 y17 y18 y19 y33 y34 y35) : (fun (y1 y2 y3 : D) (y7 : List D) (y9 y17 y18 y19 y33 y34 y35 : D) => (kseq PHI Tb44 N vc17_54 k) .normal (s17_7 y1 y2 y3 y7 y9 y17 y18 y19 y33 y34 y35)) = _)
  refine Eq.trans (runC_seq _ _ _ k) (Eq.trans h2 (Eq.trans (congrArg (fun K => m17_36 N x1 x2 x3 x7 x9 x17 x18 x19 x33 x34 x35 K) h3) (by kernel_rfl)))
def m17_31 (N : Nat) (x1 x2 x3 : D) (x7 : List D) (x9 x17 x18 x19 x33 x34 x35 x36 : D) (K : D → D → D → List D → D → D → D → D → D → D → D → Option R) (K2 : D → D → D → List D → D → D → D → Option R) : Option R :=
  (m17_32 N x1 x2 x3 x7 x9 x17 x18 x19 x33 x34 x35 x36 (fun y1 y2 y3 y7 y9 y17 y18 y19 y33 y34 y35 => (m17_35 N y1 y2 y3 y7 y9 y17 y18 y19 y33 y34 y35 (fun y1 y2 y3 y7 y9 y17 y18 y19 y33 y34 y35 => K y1 y2 y3 y7 y9 y17 y18 y19 y33 y34 y35))) K2)
theorem e17_31 (N : Nat) (k : Kn R) (x1 x2 x3 : D) (x7 : List D) (x9 x17 x18 x19 x33 x34 x35 x36 : D) : runC PHI Tb44 N vc17_31 (s17_8 x1 x2 x3 x7 x9 x17 x18 x19 x33 x34 x35 x36) k = m17_31 N x1 x2 x3 x7 x9 x17 x18 x19 x33 x34 x35 x36 (fun x1 x2 x3 x7 x9 x17 x18 x19 x33 x34 x35 => k .normal (s17_7 x1 x2 x3 x7 x9 x17 x18 x19 x33 x34 x35)) (fun x1 x2 x3 x7 x17 x18 x19 => k (.exit 2) (s17_3 x1 x2 x3 x7 x17 x18 x19)) := by
  have h2 := e17_32 N (kseq PHI Tb44 N vc17_35 k) x1 x2 x3 x7 x9 x17 x18 x19 x33 x34 x35 x36
  have h3 := (funext fun y1 => funext fun y2 => funext fun y3 => funext fun y7 => funext fun y9 => funext fun y17 => funext fun y18 => funext fun y19 => funext fun y33 => funext fun y34 => funext fun y35 => (e17_35 N k y1 y2 y3 y7 y9 y17 y18 y19 y33 y34 y35) : (fun (y1 y2 y3 : D) (y7 : List D) (y9 y17 y18 y19 y33 y34 y35 : D) => (kseq PHI Tb44 N vc17_35 k) .normal (s17_7 y1 y2 y3 y7 y9 y17 y18 y19 y33 y34 y35)) = _)
  refine Eq.trans (runC_seq _ _ _ k) (Eq.trans h2 (Eq.trans (congrArg (fun K => m17_32 N x1 x2 x3 x7 x9 x17 x18 x19 x33 x34 x35 x36 K (fun x1 x2 x3 x7 x17 x18 x19 => (kseq PHI Tb44 N vc17_35 k) (.exit 2) (s17_3 x1 x2 x3 x7 x17 x18 x19))) h3) (by kernel_rfl)))
def m17_29 (N : Nat) (x1 x2 x3 : D) (x7 : List D) (x9 x17 x18 x19 x33 x34 x35 : D) (K : D → D → D → List D → D → D → D → D → D → D → D → Option R) (K2 : D → D → D → List D → D → D → D → Option R) : Option R :=
  (m17_30 N x1 x2 x3 x7 x9 x17 x18 x19 x33 x34 x35 (fun y1 y2 y3 y7 y9 y17 y18 y19 y33 y34 y35 y36 => (m17_31 N y1 y2 y3 y7 y9 y17 y18 y19 y33 y34 y35 y36 (fun y1 y2 y3 y7 y9 y17 y18 y19 y33 y34 y35 => K y1 y2 y3 y7 y9 y17 y18 y19 y33 y34 y35) K2)))
theorem e17_29 (N : Nat) (k : Kn R) (x1 x2 x3 : D) (x7 : List D) (x9 x17 x18 x19 x33 x34 x35 : D) : runC PHI Tb44 N vc17_29 (s17_7 x1 x2 x3 x7 x9 x17 x18 x19 x33 x34 x35) k = m17_29 N x1 x2 x3 x7 x9 x17 x18 x19 x33 x34 x35 (fun x1 x2 x3 x7 x9 x17 x18 x19 x33 x34 x35 => k .normal (s17_7 x1 x2 x3 x7 x9 x17 x18 x19 x33 x34 x35)) (fun x1 x2 x3 x7 x17 x18 x19 => k (.exit 2) (s17_3 x1 x2 x3 x7 x17 x18 x19)) := by
  have h2 := e17_30 N (kseq PHI Tb44 N vc17_31 k) x1 x2 x3 x7 x9 x17 x18 x19 x33 x34 x35
  have h3 := (funext fun y1 => funext fun y2 => funext fun y3 => funext fun y7 => funext fun y9 => funext fun y17 => funext fun y18 => funext fun y19 => funext fun y33 => funext fun y34 => funext fun y35 => funext fun y36 => (e17_31 N k y1 y2 y3 y7 y9 y17 y18 y19 y33 y34 y35 y36) : (fun (y1 y2 y3 : D) (y7 : List D) (y9 y17 y18 y19 y33 y34 y35 y36 : D) => (kseq PHI Tb44 N vc17_31 k) .normal (s17_8 y1 y2 y3 y7 y9 y17 y18 y19 y33 y34 y35 y36)) = _)
  refine Eq.trans (runC_seq _ _ _ k) (Eq.trans h2 (Eq.trans (congrArg (fun K => m17_30 N x1 x2 x3 x7 x9 x17 x18 x19 x33 x34 x35 K) h3) (by kernel_rfl)))
def l17_28 (N : Nat) (j : Nat) (x1 x2 x3 : D) (x7 : List D) (x9 x17 x18 x19 x33 x34 x35 : D) (K2 : D → D → D → List D → D → D → D → Option R) : Option R :=
  match j with
  | 0 => none
  | j + 1 => (m17_29 N x1 x2 x3 x7 x9 x17 x18 x19 x33 x34 x35 (fun y1 y2 y3 y7 y9 y17 y18 y19 y33 y34 y35 => l17_28 N j y1 y2 y3 y7 y9 y17 y18 y19 y33 y34 y35 K2) K2)
def m17_28 (N : Nat) (x1 x2 x3 : D) (x7 : List D) (x9 x17 x18 x19 x33 x34 x35 : D) (K2 : D → D → D → List D → D → D → D → Option R) : Option R :=
  l17_28 N N x1 x2 x3 x7 x9 x17 x18 x19 x33 x34 x35 K2
theorem el17_28 (N : Nat) (k : Kn R) : ∀ (j : Nat) (x1 x2 x3 : D) (x7 : List D) (x9 x17 x18 x19 x33 x34 x35 : D), loopGo (runC PHI Tb44 N vc17_29) j (s17_7 x1 x2 x3 x7 x9 x17 x18 x19 x33 x34 x35) k = l17_28 N j x1 x2 x3 x7 x9 x17 x18 x19 x33 x34 x35 (fun x1 x2 x3 x7 x17 x18 x19 => k (.exit 2) (s17_3 x1 x2 x3 x7 x17 x18 x19))
  | 0, _, _, _, _, _, _, _, _, _, _, _ => by kernel_rfl
  | j + 1, x1, x2, x3, x7, x9, x17, x18, x19, x33, x34, x35 => by
    have h2 := e17_29 N (kloop PHI Tb44 N vc17_29 j k) x1 x2 x3 x7 x9 x17 x18 x19 x33 x34 x35
    have h3 : (fun (y1 y2 y3 : D) (y7 : List D) (y9 y17 y18 y19 y33 y34 y35 : D) => (kloop PHI Tb44 N vc17_29 j k) .normal (s17_7 y1 y2 y3 y7 y9 y17 y18 y19 y33 y34 y35)) = (fun (y1 y2 y3 : D) (y7 : List D) (y9 y17 y18 y19 y33 y34 y35 : D) => l17_28 N j y1 y2 y3 y7 y9 y17 y18 y19 y33 y34 y35 (fun x1 x2 x3 x7 x17 x18 x19 => k (.exit 2) (s17_3 x1 x2 x3 x7 x17 x18 x19))) := funext fun y1 => funext fun y2 => funext fun y3 => funext fun y7 => funext fun y9 => funext fun y17 => funext fun y18 => funext fun y19 => funext fun y33 => funext fun y34 => funext fun y35 => (el17_28 N k j y1 y2 y3 y7 y9 y17 y18 y19 y33 y34 y35)
    refine Eq.trans (loop_succ _ j _ k) (Eq.trans h2 (Eq.trans (congrArg (fun K => m17_29 N x1 x2 x3 x7 x9 x17 x18 x19 x33 x34 x35 K (fun x1 x2 x3 x7 x17 x18 x19 => (kloop PHI Tb44 N vc17_29 j k) (.exit 2) (s17_3 x1 x2 x3 x7 x17 x18 x19))) h3) (by kernel_rfl)))
theorem e17_28 (N : Nat) (k : Kn R) (x1 x2 x3 : D) (x7 : List D) (x9 x17 x18 x19 x33 x34 x35 : D) : runC PHI Tb44 N vc17_28 (s17_7 x1 x2 x3 x7 x9 x17 x18 x19 x33 x34 x35) k = m17_28 N x1 x2 x3 x7 x9 x17 x18 x19 x33 x34 x35 (fun x1 x2 x3 x7 x17 x18 x19 => k (.exit 2) (s17_3 x1 x2 x3 x7 x17 x18 x19)) := by
  refine Eq.trans (runC_loop _ _ k) (Eq.trans (el17_28 N k N x1 x2 x3 x7 x9 x17 x18 x19 x33 x34 x35) (by kernel_rfl))
def m17_27 (N : Nat) (x1 x2 x3 : D) (x7 : List D) (x9 x17 x18 x19 x33 x34 x35 : D) (K : D → D → D → List D → D → D → D → Option R) : Option R :=
  (m17_28 N x1 x2 x3 x7 x9 x17 x18 x19 x33 x34 x35 (fun y1 y2 y3 y7 y17 y18 y19 => K y1 y2 y3 y7 y17 y18 y19))
theorem e17_27 (N : Nat) (k : Kn R) (x1 x2 x3 : D) (x7 : List D) (x9 x17 x18 x19 x33 x34 x35 : D) : runC PHI Tb44 N vc17_27 (s17_7 x1 x2 x3 x7 x9 x17 x18 x19 x33 x34 x35) k = m17_27 N x1 x2 x3 x7 x9 x17 x18 x19 x33 x34 x35 (fun x1 x2 x3 x7 x17 x18 x19 => k .normal (s17_3 x1 x2 x3 x7 x17 x18 x19)) := by
  refine Eq.trans (runC_block _ _ _ k) (Eq.trans (e17_28 N (kblk 2 k) x1 x2 x3 x7 x9 x17 x18 x19 x33 x34 x35) (by kernel_rfl))
def m17_25 (N : Nat) (x1 x2 x3 : D) (x7 : List D) (x9 x17 x18 x19 : D) (K : D → D → D → List D → D → D → D → Option R) : Option R :=
  (m17_26 N x1 x2 x3 x7 x9 x17 x18 x19 (fun y1 y2 y3 y7 y9 y17 y18 y19 y33 y34 y35 => (m17_27 N y1 y2 y3 y7 y9 y17 y18 y19 y33 y34 y35 (fun y1 y2 y3 y7 y17 y18 y19 => K y1 y2 y3 y7 y17 y18 y19))))
theorem e17_25 (N : Nat) (k : Kn R) (x1 x2 x3 : D) (x7 : List D) (x9 x17 x18 x19 : D) : runC PHI Tb44 N vc17_25 (s17_6 x1 x2 x3 x7 x9 x17 x18 x19) k = m17_25 N x1 x2 x3 x7 x9 x17 x18 x19 (fun x1 x2 x3 x7 x17 x18 x19 => k .normal (s17_3 x1 x2 x3 x7 x17 x18 x19)) := by
  have h2 := e17_26 N (kseq PHI Tb44 N vc17_27 k) x1 x2 x3 x7 x9 x17 x18 x19
  have h3 := (funext fun y1 => funext fun y2 => funext fun y3 => funext fun y7 => funext fun y9 => funext fun y17 => funext fun y18 => funext fun y19 => funext fun y33 => funext fun y34 => funext fun y35 => (e17_27 N k y1 y2 y3 y7 y9 y17 y18 y19 y33 y34 y35) : (fun (y1 y2 y3 : D) (y7 : List D) (y9 y17 y18 y19 y33 y34 y35 : D) => (kseq PHI Tb44 N vc17_27 k) .normal (s17_7 y1 y2 y3 y7 y9 y17 y18 y19 y33 y34 y35)) = _)
  refine Eq.trans (runC_seq _ _ _ k) (Eq.trans h2 (Eq.trans (congrArg (fun K => m17_26 N x1 x2 x3 x7 x9 x17 x18 x19 K) h3) (by kernel_rfl)))
def m17_19 (N : Nat) (x1 x2 x3 : D) (x7 : List D) (x9 x17 x18 x19 : D) (K : D → D → D → List D → D → D → D → Option R) (K1 : D → D → D → List D → D → D → D → Option R) : Option R :=
  (m17_20 N x1 x2 x3 x7 x9 x17 x18 x19 (fun y1 y2 y3 y7 y9 y17 y18 y19 => (m17_25 N y1 y2 y3 y7 y9 y17 y18 y19 (fun y1 y2 y3 y7 y17 y18 y19 => K y1 y2 y3 y7 y17 y18 y19))) K1)
theorem e17_19 (N : Nat) (k : Kn R) (x1 x2 x3 : D) (x7 : List D) (x9 x17 x18 x19 : D) : runC PHI Tb44 N vc17_19 (s17_6 x1 x2 x3 x7 x9 x17 x18 x19) k = m17_19 N x1 x2 x3 x7 x9 x17 x18 x19 (fun x1 x2 x3 x7 x17 x18 x19 => k .normal (s17_3 x1 x2 x3 x7 x17 x18 x19)) (fun x1 x2 x3 x7 x17 x18 x19 => k (.exit 1) (s17_3 x1 x2 x3 x7 x17 x18 x19)) := by
  have h2 := e17_20 N (kseq PHI Tb44 N vc17_25 k) x1 x2 x3 x7 x9 x17 x18 x19
  have h3 := (funext fun y1 => funext fun y2 => funext fun y3 => funext fun y7 => funext fun y9 => funext fun y17 => funext fun y18 => funext fun y19 => (e17_25 N k y1 y2 y3 y7 y9 y17 y18 y19) : (fun (y1 y2 y3 : D) (y7 : List D) (y9 y17 y18 y19 : D) => (kseq PHI Tb44 N vc17_25 k) .normal (s17_6 y1 y2 y3 y7 y9 y17 y18 y19)) = _)
  refine Eq.trans (runC_seq _ _ _ k) (Eq.trans h2 (Eq.trans (congrArg (fun K => m17_20 N x1 x2 x3 x7 x9 x17 x18 x19 K (fun x1 x2 x3 x7 x17 x18 x19 => (kseq PHI Tb44 N vc17_25 k) (.exit 1) (s17_3 x1 x2 x3 x7 x17 x18 x19))) h3) (by kernel_rfl)))
def m17_17 (N : Nat) (x1 x2 x3 : D) (x7 : List D) (x17 x18 x19 : D) (K : D → D → D → List D → D → D → D → Option R) (K1 : D → D → D → List D → D → D → D → Option R) : Option R :=
  (m17_18 N x1 x2 x3 x7 x17 x18 x19 (fun y1 y2 y3 y7 y9 y17 y18 y19 => (m17_19 N y1 y2 y3 y7 y9 y17 y18 y19 (fun y1 y2 y3 y7 y17 y18 y19 => K y1 y2 y3 y7 y17 y18 y19) K1)))
theorem e17_17 (N : Nat) (k : Kn R) (x1 x2 x3 : D) (x7 : List D) (x17 x18 x19 : D) : runC PHI Tb44 N vc17_17 (s17_3 x1 x2 x3 x7 x17 x18 x19) k = m17_17 N x1 x2 x3 x7 x17 x18 x19 (fun x1 x2 x3 x7 x17 x18 x19 => k .normal (s17_3 x1 x2 x3 x7 x17 x18 x19)) (fun x1 x2 x3 x7 x17 x18 x19 => k (.exit 1) (s17_3 x1 x2 x3 x7 x17 x18 x19)) := by
  have h2 := e17_18 N (kseq PHI Tb44 N vc17_19 k) x1 x2 x3 x7 x17 x18 x19
  have h3 := (funext fun y1 => funext fun y2 => funext fun y3 => funext fun y7 => funext fun y9 => funext fun y17 => funext fun y18 => funext fun y19 => (e17_19 N k y1 y2 y3 y7 y9 y17 y18 y19) : (fun (y1 y2 y3 : D) (y7 : List D) (y9 y17 y18 y19 : D) => (kseq PHI Tb44 N vc17_19 k) .normal (s17_6 y1 y2 y3 y7 y9 y17 y18 y19)) = _)
  refine Eq.trans (runC_seq _ _ _ k) (Eq.trans h2 (Eq.trans (congrArg (fun K => m17_18 N x1 x2 x3 x7 x17 x18 x19 K) h3) (by kernel_rfl)))
def m17_16 (N : Nat) (x1 x2 x3 : D) (x7 : List D) (x17 x18 x19 : D) (K : D → D → D → List D → D → D → D → Option R) : Option R :=
  (m17_17 N x1 x2 x3 x7 x17 x18 x19 (fun y1 y2 y3 y7 y17 y18 y19 => K y1 y2 y3 y7 y17 y18 y19) (fun y1 y2 y3 y7 y17 y18 y19 => K y1 y2 y3 y7 y17 y18 y19))
theorem e17_16 (N : Nat) (k : Kn R) (x1 x2 x3 : D) (x7 : List D) (x17 x18 x19 : D) : runC PHI Tb44 N vc17_16 (s17_3 x1 x2 x3 x7 x17 x18 x19) k = m17_16 N x1 x2 x3 x7 x17 x18 x19 (fun x1 x2 x3 x7 x17 x18 x19 => k .normal (s17_3 x1 x2 x3 x7 x17 x18 x19)) := by
  refine Eq.trans (runC_block _ _ _ k) (Eq.trans (e17_17 N (kblk 1 k) x1 x2 x3 x7 x17 x18 x19) (by kernel_rfl))
def m17_55 (N : Nat) (x1 x2 x3 : D) (x7 : List D) (x17 x18 x19 : D) (K : D → D → D → List D → D → D → D → Option R) : Option R :=
  K x1 x2 x3 x7 x17 x18 (D.i (IntKind.wrap IntKind.i64 (x19.toI + 1)))
theorem e17_55 (N : Nat) (k : Kn R) (x1 x2 x3 : D) (x7 : List D) (x17 x18 x19 : D) : runC PHI Tb44 N vc17_55 (s17_3 x1 x2 x3 x7 x17 x18 x19) k = m17_55 N x1 x2 x3 x7 x17 x18 x19 (fun x1 x2 x3 x7 x17 x18 x19 => k .normal (s17_3 x1 x2 x3 x7 x17 x18 x19)) := by
  refine Eq.trans (runC_post _ _ _ k) (Eq.trans (ops_run _ _ _ _) (by kernel_rfl))
def m17_15 (N : Nat) (x1 x2 x3 : D) (x7 : List D) (x17 x18 x19 : D) (K : D → D → D → List D → D → D → D → Option R) : Option R :=
  (m17_16 N x1 x2 x3 x7 x17 x18 x19 (fun y1 y2 y3 y7 y17 y18 y19 => (m17_55 N y1 y2 y3 y7 y17 y18 y19 (fun y1 y2 y3 y7 y17 y18 y19 => K y1 y2 y3 y7 y17 y18 y19))))
theorem e17_15 (N : Nat) (k : Kn R) (x1 x2 x3 : D) (x7 : List D) (x17 x18 x19 : D) : runC PHI Tb44 N vc17_15 (s17_3 x1 x2 x3 x7 x17 x18 x19) k = m17_15 N x1 x2 x3 x7 x17 x18 x19 (fun x1 x2 x3 x7 x17 x18 x19 => k .normal (s17_3 x1 x2 x3 x7 x17 x18 x19)) := by
  have h2 := e17_16 N (kseq PHI Tb44 N vc17_55 k) x1 x2 x3 x7 x17 x18 x19
  have h3 := (funext fun y1 => funext fun y2 => funext fun y3 => funext fun y7 => funext fun y17 => funext fun y18 => funext fun y19 => (e17_55 N k y1 y2 y3 y7 y17 y18 y19) : (fun (y1 y2 y3 : D) (y7 : List D) (y17 y18 y19 : D) => (kseq PHI Tb44 N vc17_55 k) .normal (s17_3 y1 y2 y3 y7 y17 y18 y19)) = _)
  refine Eq.trans (runC_seq _ _ _ k) (Eq.trans h2 (Eq.trans (congrArg (fun K => m17_16 N x1 x2 x3 x7 x17 x18 x19 K) h3) (by kernel_rfl)))
def m17_11 (N : Nat) (x1 x2 x3 : D) (x7 : List D) (x17 x18 x19 x20 : D) (K : D → D → D → List D → D → D → D → Option R) (K0 : List D → Option R) : Option R :=
  (m17_12 N x1 x2 x3 x7 x17 x18 x19 x20 (fun y1 y2 y3 y7 y17 y18 y19 => (m17_15 N y1 y2 y3 y7 y17 y18 y19 (fun y1 y2 y3 y7 y17 y18 y19 => K y1 y2 y3 y7 y17 y18 y19))) K0)
theorem e17_11 (N : Nat) (k : Kn R) (x1 x2 x3 : D) (x7 : List D) (x17 x18 x19 x20 : D) : runC PHI Tb44 N vc17_11 (s17_4 x1 x2 x3 x7 x17 x18 x19 x20) k = m17_11 N x1 x2 x3 x7 x17 x18 x19 x20 (fun x1 x2 x3 x7 x17 x18 x19 => k .normal (s17_3 x1 x2 x3 x7 x17 x18 x19)) (fun x7 => k (.exit 0) (s17_5 x7)) := by
  have h2 := e17_12 N (kseq PHI Tb44 N vc17_15 k) x1 x2 x3 x7 x17 x18 x19 x20
  have h3 := (funext fun y1 => funext fun y2 => funext fun y3 => funext fun y7 => funext fun y17 => funext fun y18 => funext fun y19 => (e17_15 N k y1 y2 y3 y7 y17 y18 y19) : (fun (y1 y2 y3 : D) (y7 : List D) (y17 y18 y19 : D) => (kseq PHI Tb44 N vc17_15 k) .normal (s17_3 y1 y2 y3 y7 y17 y18 y19)) = _)
  refine Eq.trans (runC_seq _ _ _ k) (Eq.trans h2 (Eq.trans (congrArg (fun K => m17_12 N x1 x2 x3 x7 x17 x18 x19 x20 K (fun x7 => (kseq PHI Tb44 N vc17_15 k) (.exit 0) (s17_5 x7))) h3) (by kernel_rfl)))
def m17_9 (N : Nat) (x1 x2 x3 : D) (x7 : List D) (x17 x18 x19 : D) (K : D → D → D → List D → D → D → D → Option R) (K0 : List D → Option R) : Option R :=
  (m17_10 N x1 x2 x3 x7 x17 x18 x19 (fun y1 y2 y3 y7 y17 y18 y19 y20 => (m17_11 N y1 y2 y3 y7 y17 y18 y19 y20 (fun y1 y2 y3 y7 y17 y18 y19 => K y1 y2 y3 y7 y17 y18 y19) K0)))
theorem e17_9 (N : Nat) (k : Kn R) (x1 x2 x3 : D) (x7 : List D) (x17 x18 x19 : D) : runC PHI Tb44 N vc17_9 (s17_3 x1 x2 x3 x7 x17 x18 x19) k = m17_9 N x1 x2 x3 x7 x17 x18 x19 (fun x1 x2 x3 x7 x17 x18 x19 => k .normal (s17_3 x1 x2 x3 x7 x17 x18 x19)) (fun x7 => k (.exit 0) (s17_5 x7)) := by
  have h2 := e17_10 N (kseq PHI Tb44 N vc17_11 k) x1 x2 x3 x7 x17 x18 x19
  have h3 := (funext fun y1 => funext fun y2 => funext fun y3 => funext fun y7 => funext fun y17 => funext fun y18 => funext fun y19 => funext fun y20 => (e17_11 N k y1 y2 y3 y7 y17 y18 y19 y20) : (fun (y1 y2 y3 : D) (y7 : List D) (y17 y18 y19 y20 : D) => (kseq PHI Tb44 N vc17_11 k) .normal (s17_4 y1 y2 y3 y7 y17 y18 y19 y20)) = _)
  refine Eq.trans (runC_seq _ _ _ k) (Eq.trans h2 (Eq.trans (congrArg (fun K => m17_10 N x1 x2 x3 x7 x17 x18 x19 K) h3) (by kernel_rfl)))
def l17_8 (N : Nat) (j : Nat) (x1 x2 x3 : D) (x7 : List D) (x17 x18 x19 : D) (K0 : List D → Option R) : Option R :=
  match j with
  | 0 => none
  | j + 1 => (m17_9 N x1 x2 x3 x7 x17 x18 x19 (fun y1 y2 y3 y7 y17 y18 y19 => l17_8 N j y1 y2 y3 y7 y17 y18 y19 K0) K0)
def m17_8 (N : Nat) (x1 x2 x3 : D) (x7 : List D) (x17 x18 x19 : D) (K0 : List D → Option R) : Option R :=
  l17_8 N N x1 x2 x3 x7 x17 x18 x19 K0
theorem el17_8 (N : Nat) (k : Kn R) : ∀ (j : Nat) (x1 x2 x3 : D) (x7 : List D) (x17 x18 x19 : D), loopGo (runC PHI Tb44 N vc17_9) j (s17_3 x1 x2 x3 x7 x17 x18 x19) k = l17_8 N j x1 x2 x3 x7 x17 x18 x19 (fun x7 => k (.exit 0) (s17_5 x7))
  | 0, _, _, _, _, _, _, _ => by kernel_rfl
  | j + 1, x1, x2, x3, x7, x17, x18, x19 => by
    have h2 := e17_9 N (kloop PHI Tb44 N vc17_9 j k) x1 x2 x3 x7 x17 x18 x19
    have h3 : (fun (y1 y2 y3 : D) (y7 : List D) (y17 y18 y19 : D) => (kloop PHI Tb44 N vc17_9 j k) .normal (s17_3 y1 y2 y3 y7 y17 y18 y19)) = (fun (y1 y2 y3 : D) (y7 : List D) (y17 y18 y19 : D) => l17_8 N j y1 y2 y3 y7 y17 y18 y19 (fun x7 => k (.exit 0) (s17_5 x7))) := funext fun y1 => funext fun y2 => funext fun y3 => funext fun y7 => funext fun y17 => funext fun y18 => funext fun y19 => (el17_8 N k j y1 y2 y3 y7 y17 y18 y19)
    refine Eq.trans (loop_succ _ j _ k) (Eq.trans h2 (Eq.trans (congrArg (fun K => m17_9 N x1 x2 x3 x7 x17 x18 x19 K (fun x7 => (kloop PHI Tb44 N vc17_9 j k) (.exit 0) (s17_5 x7))) h3) (by kernel_rfl)))
theorem e17_8 (N : Nat) (k : Kn R) (x1 x2 x3 : D) (x7 : List D) (x17 x18 x19 : D) : runC PHI Tb44 N vc17_8 (s17_3 x1 x2 x3 x7 x17 x18 x19) k = m17_8 N x1 x2 x3 x7 x17 x18 x19 (fun x7 => k (.exit 0) (s17_5 x7)) := by
  refine Eq.trans (runC_loop _ _ k) (Eq.trans (el17_8 N k N x1 x2 x3 x7 x17 x18 x19) (by kernel_rfl))
def m17_7 (N : Nat) (x1 x2 x3 : D) (x7 : List D) (x17 x18 x19 : D) (K : List D → Option R) : Option R :=
  (m17_8 N x1 x2 x3 x7 x17 x18 x19 (fun y7 => K y7))
theorem e17_7 (N : Nat) (k : Kn R) (x1 x2 x3 : D) (x7 : List D) (x17 x18 x19 : D) : runC PHI Tb44 N vc17_7 (s17_3 x1 x2 x3 x7 x17 x18 x19) k = m17_7 N x1 x2 x3 x7 x17 x18 x19 (fun x7 => k .normal (s17_5 x7)) := by
  refine Eq.trans (runC_block _ _ _ k) (Eq.trans (e17_8 N (kblk 0 k) x1 x2 x3 x7 x17 x18 x19) (by kernel_rfl))
def m17_5 (N : Nat) (x1 x2 x3 : D) (x7 : List D) (K : List D → Option R) : Option R :=
  (m17_6 N x1 x2 x3 x7 (fun y1 y2 y3 y7 y17 y18 y19 => (m17_7 N y1 y2 y3 y7 y17 y18 y19 (fun y7 => K y7))))
theorem e17_5 (N : Nat) (k : Kn R) (x1 x2 x3 : D) (x7 : List D) : runC PHI Tb44 N vc17_5 (s17_2 x1 x2 x3 x7) k = m17_5 N x1 x2 x3 x7 (fun x7 => k .normal (s17_5 x7)) := by
  have h2 := e17_6 N (kseq PHI Tb44 N vc17_7 k) x1 x2 x3 x7
  have h3 := (funext fun y1 => funext fun y2 => funext fun y3 => funext fun y7 => funext fun y17 => funext fun y18 => funext fun y19 => (e17_7 N k y1 y2 y3 y7 y17 y18 y19) : (fun (y1 y2 y3 : D) (y7 : List D) (y17 y18 y19 : D) => (kseq PHI Tb44 N vc17_7 k) .normal (s17_3 y1 y2 y3 y7 y17 y18 y19)) = _)
  refine Eq.trans (runC_seq _ _ _ k) (Eq.trans h2 (Eq.trans (congrArg (fun K => m17_6 N x1 x2 x3 x7 K) h3) (by kernel_rfl)))
def m17_56 (N : Nat) (x7 : List D) (Kr : D → Option R) : Option R :=
  Kr (D.sz x7)
def s17_13 (x6 : D) : St := sts 95 [(6, V.f x6)] []
theorem e17_56 (N : Nat) (k : Kn R) (x7 : List D) : runC PHI Tb44 N vc17_56 (s17_5 x7) k = m17_56 N x7 (fun x6 => k .ret (s17_13 x6)) := by kernel_rfl
def m17_4 (N : Nat) (x1 x2 x3 : D) (x7 : List D) (Kr : D → Option R) : Option R :=
  (m17_5 N x1 x2 x3 x7 (fun y7 => (m17_56 N y7 Kr)))
theorem e17_4 (N : Nat) (k : Kn R) (x1 x2 x3 : D) (x7 : List D) : runC PHI Tb44 N vc17_4 (s17_2 x1 x2 x3 x7) k = m17_4 N x1 x2 x3 x7 (fun x6 => k .ret (s17_13 x6)) := by
  have h2 := e17_5 N (kseq PHI Tb44 N vc17_56 k) x1 x2 x3 x7
  have h3 := (funext fun y7 => (e17_56 N k y7) : (fun (y7 : List D) => (kseq PHI Tb44 N vc17_56 k) .normal (s17_5 y7)) = _)
  refine Eq.trans (runC_seq _ _ _ k) (Eq.trans h2 (Eq.trans (congrArg (fun K => m17_5 N x1 x2 x3 x7 K) h3) (by kernel_rfl)))
def m17_2 (N : Nat) (x1 x2 x3 : D) (Kr : D → Option R) : Option R :=
  (m17_3 N x1 x2 x3 (fun y1 y2 y3 y7 => (m17_4 N y1 y2 y3 y7 Kr)))
theorem e17_2 (N : Nat) (k : Kn R) (x1 x2 x3 : D) : runC PHI Tb44 N vc17_2 (s17_1 x1 x2 x3) k = m17_2 N x1 x2 x3 (fun x6 => k .ret (s17_13 x6)) := by
  have h2 := e17_3 N (kseq PHI Tb44 N vc17_4 k) x1 x2 x3
  have h3 := (funext fun y1 => funext fun y2 => funext fun y3 => funext fun y7 => (e17_4 N k y1 y2 y3 y7) : (fun (y1 y2 y3 : D) (y7 : List D) => (kseq PHI Tb44 N vc17_4 k) .normal (s17_2 y1 y2 y3 y7)) = _)
  refine Eq.trans (runC_seq _ _ _ k) (Eq.trans h2 (Eq.trans (congrArg (fun K => m17_3 N x1 x2 x3 K) h3) (by kernel_rfl)))
def m17_0 (N : Nat) (x0 x1 x2 : D) (Kr : D → Option R) : Option R :=
  (m17_1 N x0 x1 x2 (fun y1 y2 y3 => (m17_2 N y1 y2 y3 Kr)))
theorem e17_0 (N : Nat) (k : Kn R) (x0 x1 x2 : D) : runC PHI Tb44 N vc17_0 (s17_0 x0 x1 x2) k = m17_0 N x0 x1 x2 (fun x6 => k .ret (s17_13 x6)) := by
  have h2 := e17_1 N (kseq PHI Tb44 N vc17_2 k) x0 x1 x2
  have h3 := (funext fun y1 => funext fun y2 => funext fun y3 => (e17_2 N k y1 y2 y3) : (fun (y1 y2 y3 : D) => (kseq PHI Tb44 N vc17_2 k) .normal (s17_1 y1 y2 y3)) = _)
  refine Eq.trans (runC_seq _ _ _ k) (Eq.trans h2 (Eq.trans (congrArg (fun K => m17_1 N x0 x1 x2 K) h3) (by kernel_rfl)))
theorem r17 (N : Nat) (x0 x1 x2 : D) : runC PHI Tb44 N vf17.body (enterV vf17 [V.f x0, V.f x1, V.f x2] []) (finish vf17) = m17_0 N x0 x1 x2 (fun x6 => finish vf17 .ret (s17_13 x6)) := 
  Eq.trans (runC_pre (s1 := (s17_0 x0 x1 x2)) (by kernel_rfl) _ _) (Eq.trans (e17_0 N (finish vf17) x0 x1 x2) (by kernel_rfl))
end
section
variable {R : Type}
theorem in17 (N : Nat) (f ops q n w lw iw : D) (K : D → D → D → List D → D → D → D → Option R) (hf : 0 ≤ f.toI) (h2 : (n.at 6).toL.length = 2) (s : List D) (hs : s.length ≤ 2147483648) (i : Nat) (hi : i < 2) (j : Nat) :
    l17_28 N (j + 1) f ops (.p q) s (.p n) w lw iw (n.at 6) (.i ((n.at 6).toL.length : Int)) (.i (i : Nat)) K = l17_28 N j f ops (.p q) (stepA q f.toI (sp34 ops) (bif eqb (i : Int) 1 then sp32 (n.at 1) else n.at 1) ((n.at 6).toL.getD i .nil) ((n.at 6).toL.getD (1 - i) .nil) s) (.p n) w lw iw (n.at 6) (.i ((n.at 6).toL.length : Int)) (.i ((i + 1 : Nat) : Int)) K := by
  have hw : IntKind.i64.wrap (1 - (i : Int)) = ((1 - i : Nat) : Int) := by rw [wrap64_id (by omega) (by omega)]; omega
  have hlt : ltb (i : Int) ((n.at 6).toL.length : Int) = true := ltb_t (by omega)
  have hin : inb (i : Int) (n.at 6).toL.length = true := inb_t (by omega)
  have hin2 : inb ((1 - i : Nat) : Int) (n.at 6).toL.length = true := inb_t (by omega)
  have hsc : IntKind.i64.wrap ((i : Int) + 1) = ((i + 1 : Nat) : Int) := succ_nat (by omega)
  have hpr : ∀ x, pr35 q x f = true := fun x => leb_t hf
  have hle : ∀ c : D, leN (s.length + [c].length) 17592186044416 = true := fun c => leN_t (by simp only [List.length_cons, List.length_nil]; omega)
  rw [l17_28]
  simp only [m17_29, m17_30, m17_31, m17_32, m17_35, m17_36, m17_37, m17_38, m17_39, m17_40, m17_41, m17_42, m17_47, m17_48, m17_49, m17_50, m17_51, m17_54, isPtr_p, deref_p, toI_i, toB_b, hlt, hin, cond_true, at_nat, hw, hin2, hsc, hpr, hle, Bool.and_true, sp36_has, toL_sz]
  unfold stepA
  rw [← of_eq hf (((n.at 6).toL.getD i .nil).at 3) rfl]
  have hc : eqb (sp43 q (((n.at 6).toL.getD i .nil).at 3)) f.toI = true → D.i (sp33_1 q (((n.at 6).toL.getD i .nil).at 3)) = colOf q (((n.at 6).toL.getD i .nil).at 3) f.toI := sp33_1_eq hf
  rw [← of_eq hf (((n.at 6).toL.getD i .nil).at 3) rfl] at hc
  generalize ((n.at 6).toL.getD i .nil).at 3 = a at hc ⊢
  generalize ((n.at 6).toL.getD i .nil).at 0 = b at hc ⊢
  cases eqb (i : Int) 1 <;> simp only [cond_true, cond_false]
  all_goals
    cases eqb b.toI 2
    · simp only [cond_false, Bool.false_and]
    · cases h1 : sp33_2 q a
      · simp only [cond_true, cond_false, Bool.false_and, Bool.true_and]
      · cases h3 : eqb (sp33_0 q a) f.toI
        · simp only [cond_true, cond_false, Bool.false_and, Bool.and_false, Bool.true_and]
        · rw [hc (by rw [h1, h3]; rfl)]
          simp only [cond_true, Bool.true_and]
          first
            | (cases sp34 ops (sp32 (n.at 1))
               · simp only [cond_false, Bool.false_and]
               · simp only [cond_true, Bool.true_and, sp35]
                 cases rdN ((n.at 6).toL.getD (1 - i) .nil).wt q ((n.at 6).toL.getD (1 - i) .nil) f.toI
                 · simp only [Bool.not_false, cond_true]
                   unfold add1
                   cases has s (colOf q a f.toI) <;> rfl
                 · simp only [Bool.not_true, cond_false])
            | (cases sp34 ops (n.at 1)
               · simp only [cond_false, Bool.false_and]
               · simp only [cond_true, Bool.true_and, sp35]
                 cases rdN ((n.at 6).toL.getD (1 - i) .nil).wt q ((n.at 6).toL.getD (1 - i) .nil) f.toI
                 · simp only [Bool.not_false, cond_true]
                   unfold add1
                   cases has s (colOf q a f.toI) <;> rfl
                 · simp only [Bool.not_true, cond_false])
end
def Tb17 : CallF := extend Tb44 17 (fn3 pr17 fun q f ops => .f (sp17 q f ops))
theorem ok17 : FnOk Try.prog PHI Tb17 := FnOk.add3 hPHI ok44 (by kernel_rfl) fun q f ops ha hp => ⟨(q.at 3).toL.length + 3, (r17 _ q f ops).trans (by
  simp only [pr17, Bool.and_eq_true] at hp
  have hf := of_decide_eq_true hp.1
  have hl := leN_le hp.2
  simp only [m17_0, m17_1, m17_2, m17_3, m17_4, m17_5, m17_6, m17_7, m17_8, m17_56, isPtr_p, deref_p, cond_true]
  generalize hN : (q.at 3).toL.length + 3 = N
  have h := loop_fold (fun j i s => l17_8 N j f ops (.p q) s (q.at 3) (.i ((q.at 3).toL.length : Int)) (.i (i : Nat)) fun y7 => finish vf17 .ret (s17_13 (.sz y7))) (fun s => finish vf17 .ret (s17_13 (.sz s))) (q.at 3).toL.length (fun i s => stepN q f.toI (sp34 ops) s ((q.at 3).toL.getD i .nil)) (fun i s => s.length ≤ 2 * i)
    (fun j i s hi hs => by
      simp only [l17_8, m17_9, m17_10, m17_11, m17_12, m17_15, m17_16, m17_17, m17_18, m17_19, m17_20, m17_25, m17_26, m17_27, m17_28, m17_55, isPtr_p, deref_p, toI_i, toB_b, cond_true, ltb_n hi, inb_t hi, at_nat, succ_n hi (show (q.at 3).toL.length ≤ 9223372036854775807 by omega)]
      unfold stepN
      generalize (q.at 3).toL.getD i .nil = n
      cases h7 : eqb (n.at 0).toI 7
      · rfl
      · cases h2 : eqb ((n.at 6).toL.length : Int) 2
        · rfl
        · have h2 : (n.at 6).toL.length = 2 := by have := eqb_t' h2; omega
          simp only [Bool.not_true, cond_false, Bool.and_self, cond_true]
          obtain ⟨M, rfl⟩ : ∃ M, N = M + 3 := ⟨N - 3, by omega⟩
          have e0 := in17 (R := V × List V) (M + 3) f ops q n (q.at 3) (.i ((q.at 3).toL.length : Int)) (.i (i : Nat)) (fun y1 y2 y3 y7 y17 y18 y19 => l17_8 (M + 3) j y1 y2 y3 y7 y17 y18 (.i (IntKind.i64.wrap (y19.toI + 1))) fun y7 => finish vf17 .ret (s17_13 (.sz y7))) hf h2 s (by omega) 0 (by omega) (M + 2)
          have hA := stepA_len q f.toI (sp34 ops) (n.at 1) ((n.at 6).toL.getD 0 .nil) ((n.at 6).toL.getD 1 .nil) s
          have e1 := in17 (R := V × List V) (M + 3) f ops q n (q.at 3) (.i ((q.at 3).toL.length : Int)) (.i (i : Nat)) (fun y1 y2 y3 y7 y17 y18 y19 => l17_8 (M + 3) j y1 y2 y3 y7 y17 y18 (.i (IntKind.i64.wrap (y19.toI + 1))) fun y7 => finish vf17 .ret (s17_13 (.sz y7))) hf h2 (stepA q f.toI (sp34 ops) (n.at 1) ((n.at 6).toL.getD 0 .nil) ((n.at 6).toL.getD 1 .nil) s) (by omega) 1 (by omega) (M + 1)
          refine e0.trans (e1.trans ?_)
          rw [l17_28]
          simp only [m17_29, m17_30, m17_31, m17_32, toI_i, toB_b, show ltb ((1 + 1 : Nat) : Int) ((n.at 6).toL.length : Int) = false from ltb_f (by omega), cond_false, succ_n hi (show (q.at 3).toL.length ≤ 9223372036854775807 by omega)]
          rfl)
    (fun i s hi hs => by have := stepN_len q f.toI (sp34 ops) s ((q.at 3).toL.getD i .nil); omega)
    (fun j s hs => by simp only [l17_8, m17_9, m17_10, m17_11, m17_12, toI_i, toB_b, ltb_self, cond_false])
    (q.at 3).toL.length 0 N [] (by omega) (by omega) (by simp)
  refine h.trans ?_
  rw [foldI_list (g := stepN q f.toI (sp34 ops)) (q.at 3).toL (q.at 3).toL.length 0 [] (by omega)]
  rfl)⟩

end Go.Vam.C20
namespace Go.Vam.C20
open Go.Proofs
/-! ### places -/
def plcO (q : D) (f : Int) (s : List D) (a : D) : Option (List D) := bif eqb (sp43 q a) f then some (add1 s (colOf q a f)) else none
def sp23 (q f l : D) : D := .sz ((runO (plcO q f.toI) l.toL []).getD [])
def pr23 (_ f l : D) : Bool := leb 0 f.toI && leN l.toL.length 1073741824
section
variable {R : Type}
def m23_1 (N : Nat) (x0 x1 x2 : D) (K : D → D → D → Option R) : Option R :=
  K x1 x2 (D.p x0)
def s23_0 (x0 x1 x2 : D) : St := sts 43 [(0, V.f x0), (1, V.f x1), (2, V.f x2)] []
def s23_1 (x1 x2 x3 : D) : St := sts 43 [(1, V.f x1), (2, V.f x2), (3, V.f x3)] []
theorem e23_1 (N : Nat) (k : Kn R) (x0 x1 x2 : D) : runC PHI Tb17 N vc23_1 (s23_0 x0 x1 x2) k = m23_1 N x0 x1 x2 (fun x1 x2 x3 => k .normal (s23_1 x1 x2 x3)) := by
  refine Eq.trans (runC_post _ _ _ k) (Eq.trans (ops_run _ _ _ _) (by kernel_rfl))
def m23_3 (N : Nat) (x1 x2 x3 : D) (K : D → D → D → List D → Option R) : Option R :=
  K x1 x2 x3 ([] : List D)
def s23_2 (x1 x2 x3 : D) (x7 : List D) : St := sts 43 [(1, V.f x1), (2, V.f x2), (3, V.f x3), (7, V.o false x7)] []
theorem e23_3 (N : Nat) (k : Kn R) (x1 x2 x3 : D) : runC PHI Tb17 N vc23_3 (s23_1 x1 x2 x3) k = m23_3 N x1 x2 x3 (fun x1 x2 x3 x7 => k .normal (s23_2 x1 x2 x3 x7)) := by
  refine Eq.trans (runC_post _ _ _ k) (Eq.trans (ops_run _ _ _ _) (by kernel_rfl))
def m23_6 (N : Nat) (x1 x2 x3 : D) (x7 : List D) (K : D → D → List D → D → D → D → Option R) : Option R :=
  K x1 x3 x7 x2 (D.i (x2.toL.length : Int)) (D.i 0)
def s23_3 (x1 x3 : D) (x7 : List D) (x13 x14 x15 : D) : St := sts 43 [(1, V.f x1), (3, V.f x3), (7, V.o false x7), (13, V.f x13), (14, V.f x14), (15, V.f x15)] []
theorem e23_6 (N : Nat) (k : Kn R) (x1 x2 x3 : D) (x7 : List D) : runC PHI Tb17 N vc23_6 (s23_2 x1 x2 x3 x7) k = m23_6 N x1 x2 x3 x7 (fun x1 x3 x7 x13 x14 x15 => k .normal (s23_3 x1 x3 x7 x13 x14 x15)) := by
  refine Eq.trans (runC_post _ _ _ k) (Eq.trans (ops_run _ _ _ _) (by kernel_rfl))
def m23_9 (N : Nat) (x1 x3 : D) (x7 : List D) (x13 x14 x15 : D) (K : D → D → List D → D → D → D → Option R) (K0 : List D → Option R) (Kr : D → Option R) : Option R :=
  (bif (ltb x15.toI x14.toI) then (bif (inb x15.toI x13.toL.length) then (bif (isPtrD x3) then (bif (!(sp33_2 x3.deref (x13.at (x15.toI : Int).toNat))) then (bif true then Kr (D.sz []) else (bif (!(sp36 (D.sz x7) (D.i (sp33_1 x3.deref (x13.at (x15.toI : Int).toNat))))) then (bif (leN (x7.length + ([(D.i (sp33_1 x3.deref (x13.at (x15.toI : Int).toNat)))] : List D).length) 17592186044416 && true) then K x1 x3 (x7 ++ ([(D.i (sp33_1 x3.deref (x13.at (x15.toI : Int).toNat)))] : List D)) x13 x14 (D.i (IntKind.wrap IntKind.i64 (x15.toI + 1))) else none) else K x1 x3 x7 x13 x14 (D.i (IntKind.wrap IntKind.i64 (x15.toI + 1))))) else (bif (!eqb (sp33_0 x3.deref (x13.at (x15.toI : Int).toNat)) x1.toI) then Kr (D.sz []) else (bif (!(sp36 (D.sz x7) (D.i (sp33_1 x3.deref (x13.at (x15.toI : Int).toNat))))) then (bif (leN (x7.length + ([(D.i (sp33_1 x3.deref (x13.at (x15.toI : Int).toNat)))] : List D).length) 17592186044416 && true) then K x1 x3 (x7 ++ ([(D.i (sp33_1 x3.deref (x13.at (x15.toI : Int).toNat)))] : List D)) x13 x14 (D.i (IntKind.wrap IntKind.i64 (x15.toI + 1))) else none) else K x1 x3 x7 x13 x14 (D.i (IntKind.wrap IntKind.i64 (x15.toI + 1)))))) else none) else none) else K0 x7)
def s23_4 (x7 : List D) : St := sts 43 [(7, V.o false x7)] []
def s23_5 (x6 : D) : St := sts 43 [(6, V.f x6)] []
theorem e23_9 (N : Nat) (k : Kn R) (x1 x3 : D) (x7 : List D) (x13 x14 x15 : D) : runC PHI Tb17 N vc23_9 (s23_3 x1 x3 x7 x13 x14 x15) k = m23_9 N x1 x3 x7 x13 x14 x15 (fun x1 x3 x7 x13 x14 x15 => k .normal (s23_3 x1 x3 x7 x13 x14 x15)) (fun x7 => k (.exit 0) (s23_4 x7)) (fun x6 => k .ret (s23_5 x6)) := by kernel_rfl
def l23_8 (N : Nat) (j : Nat) (x1 x3 : D) (x7 : List D) (x13 x14 x15 : D) (K0 : List D → Option R) (Kr : D → Option R) : Option R :=
  match j with
  | 0 => none
  | j + 1 => (m23_9 N x1 x3 x7 x13 x14 x15 (fun y1 y3 y7 y13 y14 y15 => l23_8 N j y1 y3 y7 y13 y14 y15 K0 Kr) K0 Kr)
def m23_8 (N : Nat) (x1 x3 : D) (x7 : List D) (x13 x14 x15 : D) (K0 : List D → Option R) (Kr : D → Option R) : Option R :=
  l23_8 N N x1 x3 x7 x13 x14 x15 K0 Kr
theorem el23_8 (N : Nat) (k : Kn R) : ∀ (j : Nat) (x1 x3 : D) (x7 : List D) (x13 x14 x15 : D), loopGo (runC PHI Tb17 N vc23_9) j (s23_3 x1 x3 x7 x13 x14 x15) k = l23_8 N j x1 x3 x7 x13 x14 x15 (fun x7 => k (.exit 0) (s23_4 x7)) (fun x6 => k .ret (s23_5 x6))
  | 0, _, _, _, _, _, _ => by kernel_rfl
  | j + 1, x1, x3, x7, x13, x14, x15 => by
    have h2 := e23_9 N (kloop PHI Tb17 N vc23_9 j k) x1 x3 x7 x13 x14 x15
    have h3 : (fun (y1 y3 : D) (y7 : List D) (y13 y14 y15 : D) => (kloop PHI Tb17 N vc23_9 j k) .normal (s23_3 y1 y3 y7 y13 y14 y15)) = (fun (y1 y3 : D) (y7 : List D) (y13 y14 y15 : D) => l23_8 N j y1 y3 y7 y13 y14 y15 (fun x7 => k (.exit 0) (s23_4 x7)) (fun x6 => k .ret (s23_5 x6))) := funext fun y1 => funext fun y3 => funext fun y7 => funext fun y13 => funext fun y14 => funext fun y15 => (el23_8 N k j y1 y3 y7 y13 y14 y15)
    refine Eq.trans (loop_succ _ j _ k) (Eq.trans h2 (Eq.trans (congrArg (fun K => m23_9 N x1 x3 x7 x13 x14 x15 K (fun x7 => (kloop PHI Tb17 N vc23_9 j k) (.exit 0) (s23_4 x7)) (fun x6 => (kloop PHI Tb17 N vc23_9 j k) .ret (s23_5 x6))) h3) (by kernel_rfl)))
theorem e23_8 (N : Nat) (k : Kn R) (x1 x3 : D) (x7 : List D) (x13 x14 x15 : D) : runC PHI Tb17 N vc23_8 (s23_3 x1 x3 x7 x13 x14 x15) k = m23_8 N x1 x3 x7 x13 x14 x15 (fun x7 => k (.exit 0) (s23_4 x7)) (fun x6 => k .ret (s23_5 x6)) := by
  refine Eq.trans (runC_loop _ _ k) (Eq.trans (el23_8 N k N x1 x3 x7 x13 x14 x15) (by kernel_rfl))
def m23_7 (N : Nat) (x1 x3 : D) (x7 : List D) (x13 x14 x15 : D) (K : List D → Option R) (Kr : D → Option R) : Option R :=
  (m23_8 N x1 x3 x7 x13 x14 x15 (fun y7 => K y7) Kr)
theorem e23_7 (N : Nat) (k : Kn R) (x1 x3 : D) (x7 : List D) (x13 x14 x15 : D) : runC PHI Tb17 N vc23_7 (s23_3 x1 x3 x7 x13 x14 x15) k = m23_7 N x1 x3 x7 x13 x14 x15 (fun x7 => k .normal (s23_4 x7)) (fun x6 => k .ret (s23_5 x6)) := by
  refine Eq.trans (runC_block _ _ _ k) (Eq.trans (e23_8 N (kblk 0 k) x1 x3 x7 x13 x14 x15) (by kernel_rfl))
def m23_5 (N : Nat) (x1 x2 x3 : D) (x7 : List D) (K : List D → Option R) (Kr : D → Option R) : Option R :=
  (m23_6 N x1 x2 x3 x7 (fun y1 y3 y7 y13 y14 y15 => (m23_7 N y1 y3 y7 y13 y14 y15 (fun y7 => K y7) Kr)))
theorem e23_5 (N : Nat) (k : Kn R) (x1 x2 x3 : D) (x7 : List D) : runC PHI Tb17 N vc23_5 (s23_2 x1 x2 x3 x7) k = m23_5 N x1 x2 x3 x7 (fun x7 => k .normal (s23_4 x7)) (fun x6 => k .ret (s23_5 x6)) := by
  have h2 := e23_6 N (kseq PHI Tb17 N vc23_7 k) x1 x2 x3 x7
  have h3 := (funext fun y1 => funext fun y3 => funext fun y7 => funext fun y13 => funext fun y14 => funext fun y15 => (e23_7 N k y1 y3 y7 y13 y14 y15) : (fun (y1 y3 : D) (y7 : List D) (y13 y14 y15 : D) => (kseq PHI Tb17 N vc23_7 k) .normal (s23_3 y1 y3 y7 y13 y14 y15)) = _)
  refine Eq.trans (runC_seq _ _ _ k) (Eq.trans h2 (Eq.trans (congrArg (fun K => m23_6 N x1 x2 x3 x7 K) h3) (by kernel_rfl)))
def m23_35 (N : Nat) (x7 : List D) (Kr : D → Option R) : Option R :=
  Kr (D.sz x7)
theorem e23_35 (N : Nat) (k : Kn R) (x7 : List D) : runC PHI Tb17 N vc23_35 (s23_4 x7) k = m23_35 N x7 (fun x6 => k .ret (s23_5 x6)) := by kernel_rfl
def m23_4 (N : Nat) (x1 x2 x3 : D) (x7 : List D) (Kr : D → Option R) : Option R :=
  (m23_5 N x1 x2 x3 x7 (fun y7 => (m23_35 N y7 Kr)) Kr)
theorem e23_4 (N : Nat) (k : Kn R) (x1 x2 x3 : D) (x7 : List D) : runC PHI Tb17 N vc23_4 (s23_2 x1 x2 x3 x7) k = m23_4 N x1 x2 x3 x7 (fun x6 => k .ret (s23_5 x6)) := by
  have h2 := e23_5 N (kseq PHI Tb17 N vc23_35 k) x1 x2 x3 x7
  have h3 := (funext fun y7 => (e23_35 N k y7) : (fun (y7 : List D) => (kseq PHI Tb17 N vc23_35 k) .normal (s23_4 y7)) = _)
  refine Eq.trans (runC_seq _ _ _ k) (Eq.trans h2 (Eq.trans (congrArg (fun K => m23_5 N x1 x2 x3 x7 K (fun x6 => (kseq PHI Tb17 N vc23_35 k) .ret (s23_5 x6))) h3) (by kernel_rfl)))
def m23_2 (N : Nat) (x1 x2 x3 : D) (Kr : D → Option R) : Option R :=
  (m23_3 N x1 x2 x3 (fun y1 y2 y3 y7 => (m23_4 N y1 y2 y3 y7 Kr)))
theorem e23_2 (N : Nat) (k : Kn R) (x1 x2 x3 : D) : runC PHI Tb17 N vc23_2 (s23_1 x1 x2 x3) k = m23_2 N x1 x2 x3 (fun x6 => k .ret (s23_5 x6)) := by
  have h2 := e23_3 N (kseq PHI Tb17 N vc23_4 k) x1 x2 x3
  have h3 := (funext fun y1 => funext fun y2 => funext fun y3 => funext fun y7 => (e23_4 N k y1 y2 y3 y7) : (fun (y1 y2 y3 : D) (y7 : List D) => (kseq PHI Tb17 N vc23_4 k) .normal (s23_2 y1 y2 y3 y7)) = _)
  refine Eq.trans (runC_seq _ _ _ k) (Eq.trans h2 (Eq.trans (congrArg (fun K => m23_3 N x1 x2 x3 K) h3) (by kernel_rfl)))
def m23_0 (N : Nat) (x0 x1 x2 : D) (Kr : D → Option R) : Option R :=
  (m23_1 N x0 x1 x2 (fun y1 y2 y3 => (m23_2 N y1 y2 y3 Kr)))
theorem e23_0 (N : Nat) (k : Kn R) (x0 x1 x2 : D) : runC PHI Tb17 N vc23_0 (s23_0 x0 x1 x2) k = m23_0 N x0 x1 x2 (fun x6 => k .ret (s23_5 x6)) := by
  have h2 := e23_1 N (kseq PHI Tb17 N vc23_2 k) x0 x1 x2
  have h3 := (funext fun y1 => funext fun y2 => funext fun y3 => (e23_2 N k y1 y2 y3) : (fun (y1 y2 y3 : D) => (kseq PHI Tb17 N vc23_2 k) .normal (s23_1 y1 y2 y3)) = _)
  refine Eq.trans (runC_seq _ _ _ k) (Eq.trans h2 (Eq.trans (congrArg (fun K => m23_1 N x0 x1 x2 K) h3) (by kernel_rfl)))
theorem r23 (N : Nat) (x0 x1 x2 : D) : runC PHI Tb17 N vf23.body (enterV vf23 [V.f x0, V.f x1, V.f x2] []) (finish vf23) = m23_0 N x0 x1 x2 (fun x6 => finish vf23 .ret (s23_5 x6)) := 
  Eq.trans (runC_pre (s1 := (s23_0 x0 x1 x2)) (by kernel_rfl) _ _) (Eq.trans (e23_0 N (finish vf23) x0 x1 x2) (by kernel_rfl))
end
def Tb23 : CallF := extend Tb17 23 (fn3 pr23 fun q f l => .f (sp23 q f l))
theorem ok23 : FnOk Try.prog PHI Tb23 := FnOk.add3 hPHI ok17 (by kernel_rfl) fun q f l ha hp => ⟨l.toL.length + 1, (r23 _ q f l).trans (by
  simp only [pr23, Bool.and_eq_true] at hp
  have hf := of_decide_eq_true hp.1
  have hl := leN_le hp.2
  simp only [m23_0, m23_1, m23_2, m23_3, m23_4, m23_5, m23_6, m23_7, m23_8, m23_35]
  have h := loop_opt (fun j i s => l23_8 (l.toL.length + 1) j f (.p q) s l (.i (l.toL.length : Int)) (.i (i : Nat)) (fun y7 => finish vf23 .ret (s23_5 (.sz y7))) (fun x6 => finish vf23 .ret (s23_5 x6))) (fun s => finish vf23 .ret (s23_5 (.sz (s.getD [])))) l.toL.length (fun i s => plcO q f.toI s (l.toL.getD i .nil)) (fun i s => s.length ≤ i)
    (fun j i s hi hs => by
      simp only [l23_8, m23_9, isPtr_p, deref_p, toI_i, toB_b, cond_true, ltb_n hi, inb_t hi, at_nat, succ_n hi (show l.toL.length ≤ 9223372036854775807 by omega), sp36_has, toL_sz, Bool.and_true]
      unfold plcO
      generalize l.toL.getD i .nil = a
      have hc : eqb (sp43 q a) f.toI = true → D.i (sp33_1 q a) = colOf q a f.toI := sp33_1_eq hf
      have hle : ∀ c : D, leN (s.length + [c].length) 17592186044416 = true := fun c => leN_t (by simp only [List.length_cons, List.length_nil]; omega)
      rw [← of_eq hf a rfl] at hc ⊢
      cases h1 : sp33_2 q a
      · rfl
      · cases h3 : eqb (sp33_0 q a) f.toI
        · rfl
        · rw [hc (by rw [h1, h3]; rfl)]
          simp only [hle, Bool.not_true, cond_false, Bool.and_self, cond_true, Option.elim_some]
          unfold add1
          cases has s (colOf q a f.toI) <;> rfl)
    (fun i s s' hi hs hss => by
      unfold plcO at hss
      cases hq : eqb (sp43 q (l.toL.getD i .nil)) f.toI
      · rw [hq] at hss; cases hss
      · rw [hq] at hss; simp only [cond_true, Option.some.injEq] at hss; subst hss
        have := add1_len s (colOf q (l.toL.getD i .nil) f.toI); omega)
    (fun j s hs => by simp only [l23_8, m23_9, toI_i, ltb_self, cond_false]; rfl)
    l.toL.length 0 (l.toL.length + 1) [] (by omega) (by omega) (by simp)
  refine h.trans ?_
  rw [foldO_list (g := plcO q f.toI) l.toL l.toL.length 0 [] (by omega)]
  rfl)⟩
/-! ### once, first, together -/
def has' (xs : List D) (c : D) : Bool := xs.any fun x => eqb x.toI c.toI
theorem eqb_symm (x y : Int) : eqb x y = eqb y x := by
  unfold eqb; by_cases h : x = y <;> simp [h, eq_comm]
theorem has'_has (xs : List D) (c : D) : has' xs c = has xs c := any_fun fun x => eqb_symm _ _
def sp26 (l c : D) : D := bif has l.toL c then l else .sl (l.toL ++ [c])
def pr26 (l _ : D) : Bool := leN l.toL.length 1099511627776
theorem toL_26 (l c : D) : (sp26 l c).toL = add1 l.toL c := by
  unfold sp26 add1; cases has l.toL c <;> rfl
section
variable {R : Type}
def m26_1 (N : Nat) (x0 x1 : D) (K : D → D → Option R) : Option R :=
  K x0 x1
def s26_0 (x0 x1 : D) : St := sts 27 [(0, V.f x0), (1, V.f x1)] []
theorem e26_1 (N : Nat) (k : Kn R) (x0 x1 : D) : runC PHI Tb23 N vc26_1 (s26_0 x0 x1) k = m26_1 N x0 x1 (fun x0 x1 => k .normal (s26_0 x0 x1)) := by
  refine Eq.trans (runC_post _ _ _ k) (Eq.trans (ops_run _ _ _ _) (by kernel_rfl))
def m26_4 (N : Nat) (x0 x1 : D) (K : D → D → D → Option R) : Option R :=
  K x0 x1 (D.i 0)
def s26_1 (x0 x1 x5 : D) : St := sts 27 [(0, V.f x0), (1, V.f x1), (5, V.f x5)] []
theorem e26_4 (N : Nat) (k : Kn R) (x0 x1 : D) : runC PHI Tb23 N vc26_4 (s26_0 x0 x1) k = m26_4 N x0 x1 (fun x0 x1 x5 => k .normal (s26_1 x0 x1 x5)) := by
  refine Eq.trans (runC_post _ _ _ k) (Eq.trans (ops_run _ _ _ _) (by kernel_rfl))
def m26_7 (N : Nat) (x0 x1 x5 : D) (K : D → D → D → Option R) (K0 : D → D → Option R) (Kr : D → Option R) : Option R :=
  (bif (ltb x5.toI (x0.toL.length : Int)) then (bif (inb x5.toI x0.toL.length) then (bif (eqb (x0.at (x5.toI : Int).toNat).toI x1.toI) then Kr x0 else K x0 x1 (D.i (IntKind.wrap IntKind.i64 (x5.toI + 1)))) else none) else K0 x0 x1)
def s26_2 (x4 : D) : St := sts 27 [(4, V.f x4)] []
theorem e26_7 (N : Nat) (k : Kn R) (x0 x1 x5 : D) : runC PHI Tb23 N vc26_7 (s26_1 x0 x1 x5) k = m26_7 N x0 x1 x5 (fun x0 x1 x5 => k .normal (s26_1 x0 x1 x5)) (fun x0 x1 => k (.exit 0) (s26_0 x0 x1)) (fun x4 => k .ret (s26_2 x4)) := by kernel_rfl
def l26_6 (N : Nat) (j : Nat) (x0 x1 x5 : D) (K0 : D → D → Option R) (Kr : D → Option R) : Option R :=
  match j with
  | 0 => none
  | j + 1 => (m26_7 N x0 x1 x5 (fun y0 y1 y5 => l26_6 N j y0 y1 y5 K0 Kr) K0 Kr)
def m26_6 (N : Nat) (x0 x1 x5 : D) (K0 : D → D → Option R) (Kr : D → Option R) : Option R :=
  l26_6 N N x0 x1 x5 K0 Kr
theorem el26_6 (N : Nat) (k : Kn R) : ∀ (j : Nat) (x0 x1 x5 : D), loopGo (runC PHI Tb23 N vc26_7) j (s26_1 x0 x1 x5) k = l26_6 N j x0 x1 x5 (fun x0 x1 => k (.exit 0) (s26_0 x0 x1)) (fun x4 => k .ret (s26_2 x4))
  | 0, _, _, _ => by kernel_rfl
  | j + 1, x0, x1, x5 => by
    have h2 := e26_7 N (kloop PHI Tb23 N vc26_7 j k) x0 x1 x5
    have h3 : (fun (y0 y1 y5 : D) => (kloop PHI Tb23 N vc26_7 j k) .normal (s26_1 y0 y1 y5)) = (fun (y0 y1 y5 : D) => l26_6 N j y0 y1 y5 (fun x0 x1 => k (.exit 0) (s26_0 x0 x1)) (fun x4 => k .ret (s26_2 x4))) := funext fun y0 => funext fun y1 => funext fun y5 => (el26_6 N k j y0 y1 y5)
    refine Eq.trans (loop_succ _ j _ k) (Eq.trans h2 (Eq.trans (congrArg (fun K => m26_7 N x0 x1 x5 K (fun x0 x1 => (kloop PHI Tb23 N vc26_7 j k) (.exit 0) (s26_0 x0 x1)) (fun x4 => (kloop PHI Tb23 N vc26_7 j k) .ret (s26_2 x4))) h3) (by kernel_rfl)))
theorem e26_6 (N : Nat) (k : Kn R) (x0 x1 x5 : D) : runC PHI Tb23 N vc26_6 (s26_1 x0 x1 x5) k = m26_6 N x0 x1 x5 (fun x0 x1 => k (.exit 0) (s26_0 x0 x1)) (fun x4 => k .ret (s26_2 x4)) := by
  refine Eq.trans (runC_loop _ _ k) (Eq.trans (el26_6 N k N x0 x1 x5) (by kernel_rfl))
def m26_5 (N : Nat) (x0 x1 x5 : D) (K : D → D → Option R) (Kr : D → Option R) : Option R :=
  (m26_6 N x0 x1 x5 (fun y0 y1 => K y0 y1) Kr)
theorem e26_5 (N : Nat) (k : Kn R) (x0 x1 x5 : D) : runC PHI Tb23 N vc26_5 (s26_1 x0 x1 x5) k = m26_5 N x0 x1 x5 (fun x0 x1 => k .normal (s26_0 x0 x1)) (fun x4 => k .ret (s26_2 x4)) := by
  refine Eq.trans (runC_block _ _ _ k) (Eq.trans (e26_6 N (kblk 0 k) x0 x1 x5) (by kernel_rfl))
def m26_3 (N : Nat) (x0 x1 : D) (K : D → D → Option R) (Kr : D → Option R) : Option R :=
  (m26_4 N x0 x1 (fun y0 y1 y5 => (m26_5 N y0 y1 y5 (fun y0 y1 => K y0 y1) Kr)))
theorem e26_3 (N : Nat) (k : Kn R) (x0 x1 : D) : runC PHI Tb23 N vc26_3 (s26_0 x0 x1) k = m26_3 N x0 x1 (fun x0 x1 => k .normal (s26_0 x0 x1)) (fun x4 => k .ret (s26_2 x4)) := by
  have h2 := e26_4 N (kseq PHI Tb23 N vc26_5 k) x0 x1
  have h3 := (funext fun y0 => funext fun y1 => funext fun y5 => (e26_5 N k y0 y1 y5) : (fun (y0 y1 y5 : D) => (kseq PHI Tb23 N vc26_5 k) .normal (s26_1 y0 y1 y5)) = _)
  refine Eq.trans (runC_seq _ _ _ k) (Eq.trans h2 (Eq.trans (congrArg (fun K => m26_4 N x0 x1 K) h3) (by kernel_rfl)))
def m26_23 (N : Nat) (x0 x1 : D) (Kr : D → Option R) : Option R :=
  (bif (leN (([] : List D).length + x0.toL.length) 17592186044416 && true) then (bif (leN ((([] : List D) ++ x0.toL).length + ([x1] : List D).length) 17592186044416 && true) then Kr (D.sl ((([] : List D) ++ x0.toL) ++ ([x1] : List D))) else none) else none)
theorem e26_23 (N : Nat) (k : Kn R) (x0 x1 : D) : runC PHI Tb23 N vc26_23 (s26_0 x0 x1) k = m26_23 N x0 x1 (fun x4 => k .ret (s26_2 x4)) := by kernel_rfl
def m26_2 (N : Nat) (x0 x1 : D) (Kr : D → Option R) : Option R :=
  (m26_3 N x0 x1 (fun y0 y1 => (m26_23 N y0 y1 Kr)) Kr)
theorem e26_2 (N : Nat) (k : Kn R) (x0 x1 : D) : runC PHI Tb23 N vc26_2 (s26_0 x0 x1) k = m26_2 N x0 x1 (fun x4 => k .ret (s26_2 x4)) := by
  have h2 := e26_3 N (kseq PHI Tb23 N vc26_23 k) x0 x1
  have h3 := (funext fun y0 => funext fun y1 => (e26_23 N k y0 y1) : (fun (y0 y1 : D) => (kseq PHI Tb23 N vc26_23 k) .normal (s26_0 y0 y1)) = _)
  refine Eq.trans (runC_seq _ _ _ k) (Eq.trans h2 (Eq.trans (congrArg (fun K => m26_3 N x0 x1 K (fun x4 => (kseq PHI Tb23 N vc26_23 k) .ret (s26_2 x4))) h3) (by kernel_rfl)))
def m26_0 (N : Nat) (x0 x1 : D) (Kr : D → Option R) : Option R :=
  (m26_1 N x0 x1 (fun y0 y1 => (m26_2 N y0 y1 Kr)))
theorem e26_0 (N : Nat) (k : Kn R) (x0 x1 : D) : runC PHI Tb23 N vc26_0 (s26_0 x0 x1) k = m26_0 N x0 x1 (fun x4 => k .ret (s26_2 x4)) := by
  have h2 := e26_1 N (kseq PHI Tb23 N vc26_2 k) x0 x1
  have h3 := (funext fun y0 => funext fun y1 => (e26_2 N k y0 y1) : (fun (y0 y1 : D) => (kseq PHI Tb23 N vc26_2 k) .normal (s26_0 y0 y1)) = _)
  refine Eq.trans (runC_seq _ _ _ k) (Eq.trans h2 (Eq.trans (congrArg (fun K => m26_1 N x0 x1 K) h3) (by kernel_rfl)))
theorem r26 (N : Nat) (x0 x1 : D) : runC PHI Tb23 N vf26.body (enterV vf26 [V.f x0, V.f x1] []) (finish vf26) = m26_0 N x0 x1 (fun x4 => finish vf26 .ret (s26_2 x4)) := 
  Eq.trans (runC_pre (s1 := (s26_0 x0 x1)) (by kernel_rfl) _ _) (Eq.trans (e26_0 N (finish vf26) x0 x1) (by kernel_rfl))
end
def Tb26 : CallF := extend Tb23 26 (fn2 pr26 fun l c => .f (sp26 l c))
theorem ok26 : FnOk Try.prog PHI Tb26 := FnOk.add2 hPHI ok23 (by kernel_rfl) fun l c ha hp => ⟨l.toL.length + 1, (r26 _ l c).trans (by
  have hl := leN_le (show leN l.toL.length 1099511627776 = true from hp)
  have e1 : leN (([] : List D).length + l.toL.length) 17592186044416 = true := leN_t (by simp only [List.length_nil]; omega)
  have e2 : leN ((([] : List D) ++ l.toL).length + [c].length) 17592186044416 = true := leN_t (by simp only [List.length_append, List.length_cons, List.length_nil]; omega)
  simp only [m26_0, m26_1, m26_2, m26_3, m26_4, m26_5, m26_6, m26_23, e1, e2, Bool.and_true, cond_true]
  have h := loop_find (fun j i => l26_6 (l.toL.length + 1) j l c (.i (i : Nat)) (fun y0 y1 => bif leN (([] : List D).length + y0.toL.length) 17592186044416 then bif leN ((([] : List D) ++ y0.toL).length + [y1].length) 17592186044416 then finish vf26 .ret (s26_2 (.sl (([] ++ y0.toL) ++ [y1]))) else none else none) (fun x4 => finish vf26 .ret (s26_2 x4))) (fun i => eqb (l.toL.getD i .nil).toI c.toI) l.toL.length (finish vf26 .ret (s26_2 (.sl (([] ++ l.toL) ++ [c])))) (fun i => finish vf26 .ret (s26_2 l))
    (fun j i hi => by simp only [l26_6, m26_7, toI_i, cond_true, ltb_n hi, inb_t hi, at_nat, succ_n hi (show l.toL.length ≤ 9223372036854775807 by omega)])
    (fun j => by simp only [l26_6, m26_7, toI_i, ltb_self, cond_false, e1, e2, cond_true])
    l.toL.length 0 (l.toL.length + 1) (by omega) (by omega)
  refine h.trans ?_
  rw [fst_any0 (fun x => eqb x.toI c.toI), show (l.toL.any fun x => eqb x.toI c.toI) = has l.toL c from has'_has _ _]
  unfold sp26
  cases has l.toL c <;> rfl)⟩
def sp27 (l n : D) : D := cutD l (mmI false (l.toL.length : Int) [n.toI]).toNat (0 : Int).toNat
def pr27 (_ n : D) : Bool := leb 0 n.toI
section
variable {R : Type}
def m27_0 (N : Nat) (x0 x1 : D) (Kr : D → Option R) : Option R :=
  (bif (leb 0 0 && leb 0 (mmI false (x0.toL.length : Int) [x1.toI]) && leb (mmI false (x0.toL.length : Int) [x1.toI]) (x0.toL.length : Int)) then Kr (cutD x0 ((mmI false (x0.toL.length : Int) [x1.toI]) : Int).toNat (0 : Int).toNat) else none)
def s27_0 (x0 x1 : D) : St := sts 11 [(0, V.f x0), (1, V.f x1)] []
def s27_1 (x4 : D) : St := sts 11 [(4, V.f x4)] []
theorem e27_0 (N : Nat) (k : Kn R) (x0 x1 : D) : runC PHI Tb26 N vc27_0 (s27_0 x0 x1) k = m27_0 N x0 x1 (fun x4 => k .ret (s27_1 x4)) := by kernel_rfl
theorem r27 (N : Nat) (x0 x1 : D) : runC PHI Tb26 N vf27.body (enterV vf27 [V.f x0, V.f x1] []) (finish vf27) = m27_0 N x0 x1 (fun x4 => finish vf27 .ret (s27_1 x4)) := 
  Eq.trans (runC_pre (s1 := (s27_0 x0 x1)) (by kernel_rfl) _ _) (Eq.trans (e27_0 N (finish vf27) x0 x1) (by kernel_rfl))
end
def Tb27 : CallF := extend Tb26 27 (fn2 pr27 fun l n => .f (sp27 l n))
theorem mm_guard' (n : Nat) {m : Int} (hm : 0 ≤ m) : (leb 0 0 && leb 0 (mmI false (n : Int) [m]) && leb (mmI false (n : Int) [m]) (n : Int)) = true := by
  simp only [mmI, cond_false]
  by_cases h : m < n
  · simp only [h, if_true]; rw [leb_t hm, leb_t (show m ≤ n by omega)]; rfl
  · simp only [h, if_false]; rw [leb_t (show (0 : Int) ≤ n by omega), leb_t (show (n : Int) ≤ n by omega)]; rfl
theorem ok27 : FnOk Try.prog PHI Tb27 := FnOk.add2 hPHI ok26 (by kernel_rfl) fun l n ha hp => ⟨0, (r27 0 l n).trans (by
  unfold m27_0
  rw [mm_guard' _ (of_decide_eq_true hp)]; rfl)⟩
theorem toL_27 (l n : D) (hn : 0 ≤ n.toI) : (sp27 l n).toL = l.toL.take n.toI.toNat := by
  unfold sp27
  rw [toL_cut, show (0 : Int).toNat = 0 from rfl, List.drop_zero]
  simp only [mmI, cond_false]
  by_cases h : n.toI < l.toL.length
  · simp [h]
  · simp only [h, if_false]
    rw [Int.toNat_natCast, List.take_length, List.take_of_length_le (by omega)]
/-- A list with others behind it, each once, as once leaves it. -/
def onces (a : D) (l : List D) : D := l.foldl sp26 a
theorem toL_onces : ∀ (l : List D) (a : D), (onces a l).toL = uni a.toL l
  | [], a => rfl
  | x :: l, a => by
    show (onces (sp26 a x) l).toL = uni (add1 a.toL x) l
    rw [toL_onces l, toL_26]
def sp28 (a b : D) : D := onces a b.toL
def pr28 (a b : D) : Bool := leN a.toL.length 549755813888 && leN b.toL.length 549755813888
section
variable {R : Type}
def m28_1 (N : Nat) (x0 x1 : D) (K : D → D → Option R) : Option R :=
  K x0 x1
def s28_0 (x0 x1 : D) : St := sts 19 [(0, V.f x0), (1, V.f x1)] []
theorem e28_1 (N : Nat) (k : Kn R) (x0 x1 : D) : runC PHI Tb27 N vc28_1 (s28_0 x0 x1) k = m28_1 N x0 x1 (fun x0 x1 => k .normal (s28_0 x0 x1)) := by
  refine Eq.trans (runC_post _ _ _ k) (Eq.trans (ops_run _ _ _ _) (by kernel_rfl))
def m28_4 (N : Nat) (x0 x1 : D) (K : D → D → D → Option R) : Option R :=
  K x0 x1 (D.i 0)
def s28_1 (x0 x1 x5 : D) : St := sts 19 [(0, V.f x0), (1, V.f x1), (5, V.f x5)] []
theorem e28_4 (N : Nat) (k : Kn R) (x0 x1 : D) : runC PHI Tb27 N vc28_4 (s28_0 x0 x1) k = m28_4 N x0 x1 (fun x0 x1 x5 => k .normal (s28_1 x0 x1 x5)) := by
  refine Eq.trans (runC_post _ _ _ k) (Eq.trans (ops_run _ _ _ _) (by kernel_rfl))
def m28_7 (N : Nat) (x0 x1 x5 : D) (K : D → D → D → Option R) (K0 : D → Option R) : Option R :=
  (bif (ltb x5.toI (x1.toL.length : Int)) then (bif (inb x5.toI x1.toL.length) then (bif (pr26 x0 (x1.at (x5.toI : Int).toNat)) then K (sp26 x0 (x1.at (x5.toI : Int).toNat)) x1 (D.i (IntKind.wrap IntKind.i64 (x5.toI + 1))) else none) else none) else K0 x0)
def s28_2 (x0 : D) : St := sts 19 [(0, V.f x0)] []
theorem e28_7 (N : Nat) (k : Kn R) (x0 x1 x5 : D) : runC PHI Tb27 N vc28_7 (s28_1 x0 x1 x5) k = m28_7 N x0 x1 x5 (fun x0 x1 x5 => k .normal (s28_1 x0 x1 x5)) (fun x0 => k (.exit 0) (s28_2 x0)) := by kernel_rfl
def l28_6 (N : Nat) (j : Nat) (x0 x1 x5 : D) (K0 : D → Option R) : Option R :=
  match j with
  | 0 => none
  | j + 1 => (m28_7 N x0 x1 x5 (fun y0 y1 y5 => l28_6 N j y0 y1 y5 K0) K0)
def m28_6 (N : Nat) (x0 x1 x5 : D) (K0 : D → Option R) : Option R :=
  l28_6 N N x0 x1 x5 K0
theorem el28_6 (N : Nat) (k : Kn R) : ∀ (j : Nat) (x0 x1 x5 : D), loopGo (runC PHI Tb27 N vc28_7) j (s28_1 x0 x1 x5) k = l28_6 N j x0 x1 x5 (fun x0 => k (.exit 0) (s28_2 x0))
  | 0, _, _, _ => by kernel_rfl
  | j + 1, x0, x1, x5 => by
    have h2 := e28_7 N (kloop PHI Tb27 N vc28_7 j k) x0 x1 x5
    have h3 : (fun (y0 y1 y5 : D) => (kloop PHI Tb27 N vc28_7 j k) .normal (s28_1 y0 y1 y5)) = (fun (y0 y1 y5 : D) => l28_6 N j y0 y1 y5 (fun x0 => k (.exit 0) (s28_2 x0))) := funext fun y0 => funext fun y1 => funext fun y5 => (el28_6 N k j y0 y1 y5)
    refine Eq.trans (loop_succ _ j _ k) (Eq.trans h2 (Eq.trans (congrArg (fun K => m28_7 N x0 x1 x5 K (fun x0 => (kloop PHI Tb27 N vc28_7 j k) (.exit 0) (s28_2 x0))) h3) (by kernel_rfl)))
theorem e28_6 (N : Nat) (k : Kn R) (x0 x1 x5 : D) : runC PHI Tb27 N vc28_6 (s28_1 x0 x1 x5) k = m28_6 N x0 x1 x5 (fun x0 => k (.exit 0) (s28_2 x0)) := by
  refine Eq.trans (runC_loop _ _ k) (Eq.trans (el28_6 N k N x0 x1 x5) (by kernel_rfl))
def m28_5 (N : Nat) (x0 x1 x5 : D) (K : D → Option R) : Option R :=
  (m28_6 N x0 x1 x5 (fun y0 => K y0))
theorem e28_5 (N : Nat) (k : Kn R) (x0 x1 x5 : D) : runC PHI Tb27 N vc28_5 (s28_1 x0 x1 x5) k = m28_5 N x0 x1 x5 (fun x0 => k .normal (s28_2 x0)) := by
  refine Eq.trans (runC_block _ _ _ k) (Eq.trans (e28_6 N (kblk 0 k) x0 x1 x5) (by kernel_rfl))
def m28_3 (N : Nat) (x0 x1 : D) (K : D → Option R) : Option R :=
  (m28_4 N x0 x1 (fun y0 y1 y5 => (m28_5 N y0 y1 y5 (fun y0 => K y0))))
theorem e28_3 (N : Nat) (k : Kn R) (x0 x1 : D) : runC PHI Tb27 N vc28_3 (s28_0 x0 x1) k = m28_3 N x0 x1 (fun x0 => k .normal (s28_2 x0)) := by
  have h2 := e28_4 N (kseq PHI Tb27 N vc28_5 k) x0 x1
  have h3 := (funext fun y0 => funext fun y1 => funext fun y5 => (e28_5 N k y0 y1 y5) : (fun (y0 y1 y5 : D) => (kseq PHI Tb27 N vc28_5 k) .normal (s28_1 y0 y1 y5)) = _)
  refine Eq.trans (runC_seq _ _ _ k) (Eq.trans h2 (Eq.trans (congrArg (fun K => m28_4 N x0 x1 K) h3) (by kernel_rfl)))
def m28_17 (N : Nat) (x0 : D) (Kr : D → Option R) : Option R :=
  Kr x0
def s28_3 (x4 : D) : St := sts 19 [(4, V.f x4)] []
theorem e28_17 (N : Nat) (k : Kn R) (x0 : D) : runC PHI Tb27 N vc28_17 (s28_2 x0) k = m28_17 N x0 (fun x4 => k .ret (s28_3 x4)) := by kernel_rfl
def m28_2 (N : Nat) (x0 x1 : D) (Kr : D → Option R) : Option R :=
  (m28_3 N x0 x1 (fun y0 => (m28_17 N y0 Kr)))
theorem e28_2 (N : Nat) (k : Kn R) (x0 x1 : D) : runC PHI Tb27 N vc28_2 (s28_0 x0 x1) k = m28_2 N x0 x1 (fun x4 => k .ret (s28_3 x4)) := by
  have h2 := e28_3 N (kseq PHI Tb27 N vc28_17 k) x0 x1
  have h3 := (funext fun y0 => (e28_17 N k y0) : (fun (y0 : D) => (kseq PHI Tb27 N vc28_17 k) .normal (s28_2 y0)) = _)
  refine Eq.trans (runC_seq _ _ _ k) (Eq.trans h2 (Eq.trans (congrArg (fun K => m28_3 N x0 x1 K) h3) (by kernel_rfl)))
def m28_0 (N : Nat) (x0 x1 : D) (Kr : D → Option R) : Option R :=
  (m28_1 N x0 x1 (fun y0 y1 => (m28_2 N y0 y1 Kr)))
theorem e28_0 (N : Nat) (k : Kn R) (x0 x1 : D) : runC PHI Tb27 N vc28_0 (s28_0 x0 x1) k = m28_0 N x0 x1 (fun x4 => k .ret (s28_3 x4)) := by
  have h2 := e28_1 N (kseq PHI Tb27 N vc28_2 k) x0 x1
  have h3 := (funext fun y0 => funext fun y1 => (e28_2 N k y0 y1) : (fun (y0 y1 : D) => (kseq PHI Tb27 N vc28_2 k) .normal (s28_0 y0 y1)) = _)
  refine Eq.trans (runC_seq _ _ _ k) (Eq.trans h2 (Eq.trans (congrArg (fun K => m28_1 N x0 x1 K) h3) (by kernel_rfl)))
theorem r28 (N : Nat) (x0 x1 : D) : runC PHI Tb27 N vf28.body (enterV vf28 [V.f x0, V.f x1] []) (finish vf28) = m28_0 N x0 x1 (fun x4 => finish vf28 .ret (s28_3 x4)) := 
  Eq.trans (runC_pre (s1 := (s28_0 x0 x1)) (by kernel_rfl) _ _) (Eq.trans (e28_0 N (finish vf28) x0 x1) (by kernel_rfl))
end
def Tb28 : CallF := extend Tb27 28 (fn2 pr28 fun a b => .f (sp28 a b))
theorem ok28 : FnOk Try.prog PHI Tb28 := FnOk.add2 hPHI ok27 (by kernel_rfl) fun a b ha hp => ⟨b.toL.length + 1, (r28 _ a b).trans (by
  simp only [pr28, Bool.and_eq_true] at hp
  have h1 := leN_le hp.1
  have h2 := leN_le hp.2
  simp only [m28_0, m28_1, m28_2, m28_3, m28_4, m28_5, m28_6, m28_17]
  have h := loop_fold (fun j i s => l28_6 (b.toL.length + 1) j s b (.i (i : Nat)) fun y0 => finish vf28 .ret (s28_3 y0)) (fun s => finish vf28 .ret (s28_3 s)) b.toL.length (fun i s => sp26 s (b.toL.getD i .nil)) (fun i s => s.toL.length ≤ a.toL.length + i)
    (fun j i s hi hs => by
      have e : pr26 s (b.toL.getD i .nil) = true := leN_t (by omega)
      simp only [l28_6, m28_7, toI_i, cond_true, ltb_n hi, inb_t hi, at_nat, succ_n hi (show b.toL.length ≤ 9223372036854775807 by omega), e])
    (fun i s hi hs => by rw [toL_26]; have := add1_len s.toL (b.toL.getD i .nil); omega)
    (fun j s hs => by simp only [l28_6, m28_7, toI_i, ltb_self, cond_false])
    b.toL.length 0 (b.toL.length + 1) a (by omega) (by omega) (by omega)
  refine h.trans ?_
  rw [foldI_list (g := sp26) b.toL b.toL.length 0 a (by omega)]
  rfl)⟩

end Go.Vam.C20
namespace Go.Vam.C20
open Go.Proofs
/-! ### held, the document's -/
def nsl (xs : List D) : D := bif xs.isEmpty then .sz [] else .sl xs
theorem toL_nsl (xs : List D) : (nsl xs).toL = xs := by cases xs <;> rfl
theorem nsl_26 (xs : List D) (c : D) : sp26 (nsl xs) c = nsl (add1 xs c) := by
  unfold sp26 add1
  rw [toL_nsl]
  cases has xs c
  · cases xs <;> rfl
  · rfl
def sgn (e : Bool) (op : D) : Bool := (eqL op.toS [61] && e) || (!e && (eqL op.toS [60] || (eqL op.toS [60, 61] || (eqL op.toS [62] || eqL op.toS [62, 61]))))
def sp24 (q f e : D) : D := nsl (heldL q f.toI (sgn e.toB))
def pr24 (q f _ : D) : Bool := leb 0 f.toI && leN (q.at 3).toL.length 1073741824
section
variable {R : Type}
def m24_1 (N : Nat) (x0 x1 x2 : D) (K : D → D → D → Option R) : Option R :=
  K x1 x2 (D.p x0)
def s24_0 (x0 x1 x2 : D) : St := sts 110 [(0, V.f x0), (1, V.f x1), (2, V.f x2)] []
def s24_1 (x1 x2 x3 : D) : St := sts 110 [(1, V.f x1), (2, V.f x2), (3, V.f x3)] []
theorem e24_1 (N : Nat) (k : Kn R) (x0 x1 x2 : D) : runC PHI Tb28 N vc24_1 (s24_0 x0 x1 x2) k = m24_1 N x0 x1 x2 (fun x1 x2 x3 => k .normal (s24_1 x1 x2 x3)) := by
  refine Eq.trans (runC_post _ _ _ k) (Eq.trans (ops_run _ _ _ _) (by kernel_rfl))
def m24_3 (N : Nat) (x1 x2 x3 : D) (K : D → D → D → D → Option R) : Option R :=
  K x1 x2 x3 (D.sz [])
def s24_2 (x1 x2 x3 x7 : D) : St := sts 110 [(1, V.f x1), (2, V.f x2), (3, V.f x3), (7, V.f x7)] []
theorem e24_3 (N : Nat) (k : Kn R) (x1 x2 x3 : D) : runC PHI Tb28 N vc24_3 (s24_1 x1 x2 x3) k = m24_3 N x1 x2 x3 (fun x1 x2 x3 x7 => k .normal (s24_2 x1 x2 x3 x7)) := by
  refine Eq.trans (runC_post _ _ _ k) (Eq.trans (ops_run _ _ _ _) (by kernel_rfl))
def m24_6 (N : Nat) (x1 x2 x3 x7 : D) (K : D → D → D → D → D → Option R) : Option R :=
  K x1 x2 x3 x7 (D.i 0)
def s24_3 (x1 x2 x3 x7 x8 : D) : St := sts 110 [(1, V.f x1), (2, V.f x2), (3, V.f x3), (7, V.f x7), (8, V.f x8)] []
theorem e24_6 (N : Nat) (k : Kn R) (x1 x2 x3 x7 : D) : runC PHI Tb28 N vc24_6 (s24_2 x1 x2 x3 x7) k = m24_6 N x1 x2 x3 x7 (fun x1 x2 x3 x7 x8 => k .normal (s24_3 x1 x2 x3 x7 x8)) := by
  refine Eq.trans (runC_post _ _ _ k) (Eq.trans (ops_run _ _ _ _) (by kernel_rfl))
def m24_10 (N : Nat) (x1 x2 x3 x7 x8 : D) (K : D → D → D → D → D → Option R) (K0 : D → Option R) : Option R :=
  (bif (isPtrD x3) then (bif (ltb x8.toI ((x3.deref.at 3).toL.length : Int)) then K x1 x2 x3 x7 x8 else K0 x7) else none)
def s24_4 (x7 : D) : St := sts 110 [(7, V.f x7)] []
theorem e24_10 (N : Nat) (k : Kn R) (x1 x2 x3 x7 x8 : D) : runC PHI Tb28 N vc24_10 (s24_3 x1 x2 x3 x7 x8) k = m24_10 N x1 x2 x3 x7 x8 (fun x1 x2 x3 x7 x8 => k .normal (s24_3 x1 x2 x3 x7 x8)) (fun x7 => k (.exit 0) (s24_4 x7)) := by kernel_rfl
def m24_18 (N : Nat) (x1 x2 x3 x7 x8 : D) (K : D → D → D → D → D → D → Option R) : Option R :=
  (bif (isPtrD x3) then (bif (inb x8.toI (x3.deref.at 3).toL.length) then K x1 x2 x3 x7 x8 (D.p ((x3.deref.at 3).at (x8.toI : Int).toNat)) else none) else none)
def s24_5 (x1 x2 x3 x7 x8 x9 : D) : St := sts 110 [(1, V.f x1), (2, V.f x2), (3, V.f x3), (7, V.f x7), (8, V.f x8), (9, V.f x9)] []
theorem e24_18 (N : Nat) (k : Kn R) (x1 x2 x3 x7 x8 : D) : runC PHI Tb28 N vc24_18 (s24_3 x1 x2 x3 x7 x8) k = m24_18 N x1 x2 x3 x7 x8 (fun x1 x2 x3 x7 x8 x9 => k .normal (s24_5 x1 x2 x3 x7 x8 x9)) := by
  refine Eq.trans (runC_post _ _ _ k) (Eq.trans (ops_run _ _ _ _) (by kernel_rfl))
def m24_20 (N : Nat) (x1 x2 x3 x7 x8 x9 : D) (K : D → D → D → D → D → D → Option R) (K1 : D → D → D → D → D → Option R) : Option R :=
  (bif (isPtrD x9) then (bif (!eqb (x9.deref.at 0).toI 7) then (bif true then K1 x1 x2 x3 x7 x8 else K x1 x2 x3 x7 x8 x9) else (bif (isPtrD x9) then (bif (!eqb ((x9.deref.at 6).toL.length : Int) 2) then K1 x1 x2 x3 x7 x8 else K x1 x2 x3 x7 x8 x9) else none)) else none)
theorem e24_20 (N : Nat) (k : Kn R) (x1 x2 x3 x7 x8 x9 : D) : runC PHI Tb28 N vc24_20 (s24_5 x1 x2 x3 x7 x8 x9) k = m24_20 N x1 x2 x3 x7 x8 x9 (fun x1 x2 x3 x7 x8 x9 => k .normal (s24_5 x1 x2 x3 x7 x8 x9)) (fun x1 x2 x3 x7 x8 => k (.exit 1) (s24_3 x1 x2 x3 x7 x8)) := by kernel_rfl
def m24_26 (N : Nat) (x1 x2 x3 x7 x8 x9 : D) (K : D → D → D → D → D → D → D → Option R) : Option R :=
  (bif (isPtrD x9) then K x1 x2 x3 x7 x8 x9 (x9.deref.at 1) else none)
def s24_6 (x1 x2 x3 x7 x8 x9 x10 : D) : St := sts 110 [(1, V.f x1), (2, V.f x2), (3, V.f x3), (7, V.f x7), (8, V.f x8), (9, V.f x9), (10, V.f x10)] []
theorem e24_26 (N : Nat) (k : Kn R) (x1 x2 x3 x7 x8 x9 : D) : runC PHI Tb28 N vc24_26 (s24_5 x1 x2 x3 x7 x8 x9) k = m24_26 N x1 x2 x3 x7 x8 x9 (fun x1 x2 x3 x7 x8 x9 x10 => k .normal (s24_6 x1 x2 x3 x7 x8 x9 x10)) := by
  refine Eq.trans (runC_post _ _ _ k) (Eq.trans (ops_run _ _ _ _) (by kernel_rfl))
def m24_28 (N : Nat) (x1 x2 x3 x7 x8 x9 x10 : D) (K : D → D → D → D → D → D → D → D → Option R) : Option R :=
  K x1 x2 x3 x7 x8 x9 x10 (D.i 0)
def s24_7 (x1 x2 x3 x7 x8 x9 x10 x11 : D) : St := sts 110 [(1, V.f x1), (2, V.f x2), (3, V.f x3), (7, V.f x7), (8, V.f x8), (9, V.f x9), (10, V.f x10), (11, V.f x11)] []
theorem e24_28 (N : Nat) (k : Kn R) (x1 x2 x3 x7 x8 x9 x10 : D) : runC PHI Tb28 N vc24_28 (s24_6 x1 x2 x3 x7 x8 x9 x10) k = m24_28 N x1 x2 x3 x7 x8 x9 x10 (fun x1 x2 x3 x7 x8 x9 x10 x11 => k .normal (s24_7 x1 x2 x3 x7 x8 x9 x10 x11)) := by
  refine Eq.trans (runC_post _ _ _ k) (Eq.trans (ops_run _ _ _ _) (by kernel_rfl))
def m24_32 (N : Nat) (x1 x2 x3 x7 x8 x9 x10 x11 : D) (K : D → D → D → D → D → D → D → D → Option R) (K2 : D → D → D → D → D → Option R) : Option R :=
  (bif (ltb x11.toI 2) then K x1 x2 x3 x7 x8 x9 x10 x11 else K2 x1 x2 x3 x7 x8)
theorem e24_32 (N : Nat) (k : Kn R) (x1 x2 x3 x7 x8 x9 x10 x11 : D) : runC PHI Tb28 N vc24_32 (s24_7 x1 x2 x3 x7 x8 x9 x10 x11) k = m24_32 N x1 x2 x3 x7 x8 x9 x10 x11 (fun x1 x2 x3 x7 x8 x9 x10 x11 => k .normal (s24_7 x1 x2 x3 x7 x8 x9 x10 x11)) (fun x1 x2 x3 x7 x8 => k (.exit 2) (s24_3 x1 x2 x3 x7 x8)) := by kernel_rfl
def m24_40 (N : Nat) (x1 x2 x3 x7 x8 x9 x10 x11 : D) (K : D → D → D → D → D → D → D → D → D → Option R) : Option R :=
  (bif (isPtrD x9) then (bif (inb x11.toI (x9.deref.at 6).toL.length) then K x1 x2 x3 x7 x8 x9 x10 x11 (D.p ((x9.deref.at 6).at (x11.toI : Int).toNat)) else none) else none)
def s24_8 (x1 x2 x3 x7 x8 x9 x10 x11 x12 : D) : St := sts 110 [(1, V.f x1), (2, V.f x2), (3, V.f x3), (7, V.f x7), (8, V.f x8), (9, V.f x9), (10, V.f x10), (11, V.f x11), (12, V.f x12)] []
theorem e24_40 (N : Nat) (k : Kn R) (x1 x2 x3 x7 x8 x9 x10 x11 : D) : runC PHI Tb28 N vc24_40 (s24_7 x1 x2 x3 x7 x8 x9 x10 x11) k = m24_40 N x1 x2 x3 x7 x8 x9 x10 x11 (fun x1 x2 x3 x7 x8 x9 x10 x11 x12 => k .normal (s24_8 x1 x2 x3 x7 x8 x9 x10 x11 x12)) := by
  refine Eq.trans (runC_post _ _ _ k) (Eq.trans (ops_run _ _ _ _) (by kernel_rfl))
def m24_42 (N : Nat) (x1 x2 x3 x7 x8 x9 x10 x11 x12 : D) (K : D → D → D → D → D → D → D → D → D → D → Option R) : Option R :=
  (bif (eqL x10.toS [61]) then (bif x2.toB then K x1 x2 x3 x7 x8 x9 x10 x11 x12 (D.b true) else (bif (!x2.toB) then (bif (eqL x10.toS [60]) then K x1 x2 x3 x7 x8 x9 x10 x11 x12 (D.b true) else (bif (eqL x10.toS [60, 61]) then K x1 x2 x3 x7 x8 x9 x10 x11 x12 (D.b true) else (bif (eqL x10.toS [62]) then K x1 x2 x3 x7 x8 x9 x10 x11 x12 (D.b true) else K x1 x2 x3 x7 x8 x9 x10 x11 x12 (D.b (eqL x10.toS [62, 61]))))) else K x1 x2 x3 x7 x8 x9 x10 x11 x12 (D.b false))) else (bif (!x2.toB) then (bif (eqL x10.toS [60]) then K x1 x2 x3 x7 x8 x9 x10 x11 x12 (D.b true) else (bif (eqL x10.toS [60, 61]) then K x1 x2 x3 x7 x8 x9 x10 x11 x12 (D.b true) else (bif (eqL x10.toS [62]) then K x1 x2 x3 x7 x8 x9 x10 x11 x12 (D.b true) else K x1 x2 x3 x7 x8 x9 x10 x11 x12 (D.b (eqL x10.toS [62, 61]))))) else K x1 x2 x3 x7 x8 x9 x10 x11 x12 (D.b false)))
def s24_9 (x1 x2 x3 x7 x8 x9 x10 x11 x12 x13 : D) : St := sts 110 [(1, V.f x1), (2, V.f x2), (3, V.f x3), (7, V.f x7), (8, V.f x8), (9, V.f x9), (10, V.f x10), (11, V.f x11), (12, V.f x12), (13, V.f x13)] []
theorem e24_42 (N : Nat) (k : Kn R) (x1 x2 x3 x7 x8 x9 x10 x11 x12 : D) : runC PHI Tb28 N vc24_42 (s24_8 x1 x2 x3 x7 x8 x9 x10 x11 x12) k = m24_42 N x1 x2 x3 x7 x8 x9 x10 x11 x12 (fun x1 x2 x3 x7 x8 x9 x10 x11 x12 x13 => k .normal (s24_9 x1 x2 x3 x7 x8 x9 x10 x11 x12 x13)) := by
  refine Eq.trans (runC_post _ _ _ k) (Eq.trans (ops_run _ _ _ _) (by kernel_rfl))
def m24_43 (N : Nat) (x1 x2 x3 x7 x8 x9 x10 x11 x12 x13 : D) (K : D → D → D → D → D → D → D → D → Option R) : Option R :=
  (bif (isPtrD x12) then (bif (eqb (x12.deref.at 0).toI 2) then (bif (isPtrD x3) then (bif (isPtrD x12) then (bif (eqb (sp43 x3.deref (x12.deref.at 3)) x1.toI) then (bif x13.toB then (bif (isPtrD x3) then (bif (isPtrD x9) then (bif (inb (IntKind.wrap IntKind.i64 (1 - x11.toI)) (x9.deref.at 6).toL.length) then (bif (pr44 x3.deref ((x9.deref.at 6).at ((IntKind.wrap IntKind.i64 (1 - x11.toI)) : Int).toNat) x1) then (bif (!(sp44 x3.deref ((x9.deref.at 6).at ((IntKind.wrap IntKind.i64 (1 - x11.toI)) : Int).toNat) x1)) then (bif (isPtrD x12) then (bif (isPtrD x3) then (bif (inb x1.toI (x3.deref.at 1).toL.length) then (bif (pr26 x7 (D.i (IntKind.wrap IntKind.i64 ((x12.deref.at 3).toI - ((x3.deref.at 1).at (x1.toI : Int).toNat).toI)))) then K x1 x2 x3 (sp26 x7 (D.i (IntKind.wrap IntKind.i64 ((x12.deref.at 3).toI - ((x3.deref.at 1).at (x1.toI : Int).toNat).toI)))) x8 x9 (sp45 x10) x11 else none) else none) else none) else none) else K x1 x2 x3 x7 x8 x9 (sp45 x10) x11) else none) else none) else none) else none) else (bif false then (bif (isPtrD x12) then (bif (isPtrD x3) then (bif (inb x1.toI (x3.deref.at 1).toL.length) then (bif (pr26 x7 (D.i (IntKind.wrap IntKind.i64 ((x12.deref.at 3).toI - ((x3.deref.at 1).at (x1.toI : Int).toNat).toI)))) then K x1 x2 x3 (sp26 x7 (D.i (IntKind.wrap IntKind.i64 ((x12.deref.at 3).toI - ((x3.deref.at 1).at (x1.toI : Int).toNat).toI)))) x8 x9 (sp45 x10) x11 else none) else none) else none) else none) else K x1 x2 x3 x7 x8 x9 (sp45 x10) x11)) else (bif false then (bif (isPtrD x12) then (bif (isPtrD x3) then (bif (inb x1.toI (x3.deref.at 1).toL.length) then (bif (pr26 x7 (D.i (IntKind.wrap IntKind.i64 ((x12.deref.at 3).toI - ((x3.deref.at 1).at (x1.toI : Int).toNat).toI)))) then K x1 x2 x3 (sp26 x7 (D.i (IntKind.wrap IntKind.i64 ((x12.deref.at 3).toI - ((x3.deref.at 1).at (x1.toI : Int).toNat).toI)))) x8 x9 (sp45 x10) x11 else none) else none) else none) else none) else K x1 x2 x3 x7 x8 x9 (sp45 x10) x11)) else none) else none) else (bif false then (bif (isPtrD x12) then (bif (isPtrD x3) then (bif (inb x1.toI (x3.deref.at 1).toL.length) then (bif (pr26 x7 (D.i (IntKind.wrap IntKind.i64 ((x12.deref.at 3).toI - ((x3.deref.at 1).at (x1.toI : Int).toNat).toI)))) then K x1 x2 x3 (sp26 x7 (D.i (IntKind.wrap IntKind.i64 ((x12.deref.at 3).toI - ((x3.deref.at 1).at (x1.toI : Int).toNat).toI)))) x8 x9 (sp45 x10) x11 else none) else none) else none) else none) else K x1 x2 x3 x7 x8 x9 (sp45 x10) x11)) else none)
theorem e24_43 (N : Nat) (k : Kn R) (x1 x2 x3 x7 x8 x9 x10 x11 x12 x13 : D) : runC PHI Tb28 N vc24_43 (s24_9 x1 x2 x3 x7 x8 x9 x10 x11 x12 x13) k = m24_43 N x1 x2 x3 x7 x8 x9 x10 x11 x12 x13 (fun x1 x2 x3 x7 x8 x9 x10 x11 => k .normal (s24_7 x1 x2 x3 x7 x8 x9 x10 x11)) := by kernel_rfl
def m24_41 (N : Nat) (x1 x2 x3 x7 x8 x9 x10 x11 x12 : D) (K : D → D → D → D → D → D → D → D → Option R) : Option R :=
  (m24_42 N x1 x2 x3 x7 x8 x9 x10 x11 x12 (fun y1 y2 y3 y7 y8 y9 y10 y11 y12 y13 => (m24_43 N y1 y2 y3 y7 y8 y9 y10 y11 y12 y13 (fun y1 y2 y3 y7 y8 y9 y10 y11 => K y1 y2 y3 y7 y8 y9 y10 y11))))
theorem e24_41 (N : Nat) (k : Kn R) (x1 x2 x3 x7 x8 x9 x10 x11 x12 : D) : runC PHI Tb28 N vc24_41 (s24_8 x1 x2 x3 x7 x8 x9 x10 x11 x12) k = m24_41 N x1 x2 x3 x7 x8 x9 x10 x11 x12 (fun x1 x2 x3 x7 x8 x9 x10 x11 => k .normal (s24_7 x1 x2 x3 x7 x8 x9 x10 x11)) := by
  have h2 := e24_42 N (kseq PHI Tb28 N vc24_43 k) x1 x2 x3 x7 x8 x9 x10 x11 x12
  have h3 := (funext fun y1 => funext fun y2 => funext fun y3 => funext fun y7 => funext fun y8 => funext fun y9 => funext fun y10 => funext fun y11 => funext fun y12 => funext fun y13 => (e24_43 N k y1 y2 y3 y7 y8 y9 y10 y11 y12 y13) : (fun (y1 y2 y3 y7 y8 y9 y10 y11 y12 y13 : D) => (kseq PHI Tb28 N vc24_43 k) .normal (s24_9 y1 y2 y3 y7 y8 y9 y10 y11 y12 y13)) = _)
  refine Eq.trans (runC_seq _ _ _ k) (Eq.trans h2 (Eq.trans (congrArg (fun K => m24_42 N x1 x2 x3 x7 x8 x9 x10 x11 x12 K) h3) (by kernel_rfl)))
def m24_39 (N : Nat) (x1 x2 x3 x7 x8 x9 x10 x11 : D) (K : D → D → D → D → D → D → D → D → Option R) : Option R :=
  (m24_40 N x1 x2 x3 x7 x8 x9 x10 x11 (fun y1 y2 y3 y7 y8 y9 y10 y11 y12 => (m24_41 N y1 y2 y3 y7 y8 y9 y10 y11 y12 (fun y1 y2 y3 y7 y8 y9 y10 y11 => K y1 y2 y3 y7 y8 y9 y10 y11))))
theorem e24_39 (N : Nat) (k : Kn R) (x1 x2 x3 x7 x8 x9 x10 x11 : D) : runC PHI Tb28 N vc24_39 (s24_7 x1 x2 x3 x7 x8 x9 x10 x11) k = m24_39 N x1 x2 x3 x7 x8 x9 x10 x11 (fun x1 x2 x3 x7 x8 x9 x10 x11 => k .normal (s24_7 x1 x2 x3 x7 x8 x9 x10 x11)) := by
  have h2 := e24_40 N (kseq PHI Tb28 N vc24_41 k) x1 x2 x3 x7 x8 x9 x10 x11
  have h3 := (funext fun y1 => funext fun y2 => funext fun y3 => funext fun y7 => funext fun y8 => funext fun y9 => funext fun y10 => funext fun y11 => funext fun y12 => (e24_41 N k y1 y2 y3 y7 y8 y9 y10 y11 y12) : (fun (y1 y2 y3 y7 y8 y9 y10 y11 y12 : D) => (kseq PHI Tb28 N vc24_41 k) .normal (s24_8 y1 y2 y3 y7 y8 y9 y10 y11 y12)) = _)
  refine Eq.trans (runC_seq _ _ _ k) (Eq.trans h2 (Eq.trans (congrArg (fun K => m24_40 N x1 x2 x3 x7 x8 x9 x10 x11 K) h3) (by kernel_rfl)))
def m24_38 (N : Nat) (x1 x2 x3 x7 x8 x9 x10 x11 : D) (K : D → D → D → D → D → D → D → D → Option R) : Option R :=
  (m24_39 N x1 x2 x3 x7 x8 x9 x10 x11 (fun y1 y2 y3 y7 y8 y9 y10 y11 => K y1 y2 y3 y7 y8 y9 y10 y11))
theorem e24_38 (N : Nat) (k : Kn R) (x1 x2 x3 x7 x8 x9 x10 x11 : D) : runC PHI Tb28 N vc24_38 (s24_7 x1 x2 x3 x7 x8 x9 x10 x11) k = m24_38 N x1 x2 x3 x7 x8 x9 x10 x11 (fun x1 x2 x3 x7 x8 x9 x10 x11 => k .normal (s24_7 x1 x2 x3 x7 x8 x9 x10 x11)) := by
  refine Eq.trans (runC_block _ _ _ k) (Eq.trans (e24_39 N (kblk 3 k) x1 x2 x3 x7 x8 x9 x10 x11) (by kernel_rfl))
def m24_50 (N : Nat) (x1 x2 x3 x7 x8 x9 x10 x11 : D) (K : D → D → D → D → D → D → D → D → Option R) : Option R :=
  K x1 x2 x3 x7 x8 x9 x10 (D.i (IntKind.wrap IntKind.i64 (x11.toI + 1)))
theorem e24_50 (N : Nat) (k : Kn R) (x1 x2 x3 x7 x8 x9 x10 x11 : D) : runC PHI Tb28 N vc24_50 (s24_7 x1 x2 x3 x7 x8 x9 x10 x11) k = m24_50 N x1 x2 x3 x7 x8 x9 x10 x11 (fun x1 x2 x3 x7 x8 x9 x10 x11 => k .normal (s24_7 x1 x2 x3 x7 x8 x9 x10 x11)) := by
  refine Eq.trans (runC_post _ _ _ k) (Eq.trans (ops_run _ _ _ _) (by kernel_rfl))
def m24_37 (N : Nat) (x1 x2 x3 x7 x8 x9 x10 x11 : D) (K : D → D → D → D → D → D → D → D → Option R) : Option R :=
  (m24_38 N x1 x2 x3 x7 x8 x9 x10 x11 (fun y1 y2 y3 y7 y8 y9 y10 y11 => (m24_50 N y1 y2 y3 y7 y8 y9 y10 y11 (fun y1 y2 y3 y7 y8 y9 y10 y11 => K y1 y2 y3 y7 y8 y9 y10 y11))))
theorem e24_37 (N : Nat) (k : Kn R) (x1 x2 x3 x7 x8 x9 x10 x11 : D) : runC PHI Tb28 N vc24_37 (s24_7 x1 x2 x3 x7 x8 x9 x10 x11) k = m24_37 N x1 x2 x3 x7 x8 x9 x10 x11 (fun x1 x2 x3 x7 x8 x9 x10 x11 => k .normal (s24_7 x1 x2 x3 x7 x8 x9 x10 x11)) := by
  have h2 := e24_38 N (kseq PHI Tb28 N vc24_50 k) x1 x2 x3 x7 x8 x9 x10 x11
  have h3 := (funext fun y1 => funext fun y2 => funext fun y3 => funext fun y7 => funext fun y8 => funext fun y9 => funext fun y10 => funext fun y11 => (e24_50 N k y1 y2 y3 y7 y8 y9 y10 y11) : (fun (y1 y2 y3 y7 y8 y9 y10 y11 : D) => (kseq PHI Tb28 N vc24_50 k) .normal (s24_7 y1 y2 y3 y7 y8 y9 y10 y11)) = _)
  refine Eq.trans (runC_seq _ _ _ k) (Eq.trans h2 (Eq.trans (congrArg (fun K => m24_38 N x1 x2 x3 x7 x8 x9 x10 x11 K) h3) (by kernel_rfl)))
def m24_31 (N : Nat) (x1 x2 x3 x7 x8 x9 x10 x11 : D) (K : D → D → D → D → D → D → D → D → Option R) (K2 : D → D → D → D → D → Option R) : Option R :=
  (m24_32 N x1 x2 x3 x7 x8 x9 x10 x11 (fun y1 y2 y3 y7 y8 y9 y10 y11 => (m24_37 N y1 y2 y3 y7 y8 y9 y10 y11 (fun y1 y2 y3 y7 y8 y9 y10 y11 => K y1 y2 y3 y7 y8 y9 y10 y11))) K2)
theorem e24_31 (N : Nat) (k : Kn R) (x1 x2 x3 x7 x8 x9 x10 x11 : D) : runC PHI Tb28 N vc24_31 (s24_7 x1 x2 x3 x7 x8 x9 x10 x11) k = m24_31 N x1 x2 x3 x7 x8 x9 x10 x11 (fun x1 x2 x3 x7 x8 x9 x10 x11 => k .normal (s24_7 x1 x2 x3 x7 x8 x9 x10 x11)) (fun x1 x2 x3 x7 x8 => k (.exit 2) (s24_3 x1 x2 x3 x7 x8)) := by
  have h2 := e24_32 N (kseq PHI Tb28 N vc24_37 k) x1 x2 x3 x7 x8 x9 x10 x11
  have h3 := (funext fun y1 => funext fun y2 => funext fun y3 => funext fun y7 => funext fun y8 => funext fun y9 => funext fun y10 => funext fun y11 => (e24_37 N k y1 y2 y3 y7 y8 y9 y10 y11) : (fun (y1 y2 y3 y7 y8 y9 y10 y11 : D) => (kseq PHI Tb28 N vc24_37 k) .normal (s24_7 y1 y2 y3 y7 y8 y9 y10 y11)) = _)
  refine Eq.trans (runC_seq _ _ _ k) (Eq.trans h2 (Eq.trans (congrArg (fun K => m24_32 N x1 x2 x3 x7 x8 x9 x10 x11 K (fun x1 x2 x3 x7 x8 => (kseq PHI Tb28 N vc24_37 k) (.exit 2) (s24_3 x1 x2 x3 x7 x8))) h3) (by kernel_rfl)))
def l24_30 (N : Nat) (j : Nat) (x1 x2 x3 x7 x8 x9 x10 x11 : D) (K2 : D → D → D → D → D → Option R) : Option R :=
  match j with
  | 0 => none
  | j + 1 => (m24_31 N x1 x2 x3 x7 x8 x9 x10 x11 (fun y1 y2 y3 y7 y8 y9 y10 y11 => l24_30 N j y1 y2 y3 y7 y8 y9 y10 y11 K2) K2)
def m24_30 (N : Nat) (x1 x2 x3 x7 x8 x9 x10 x11 : D) (K2 : D → D → D → D → D → Option R) : Option R :=
  l24_30 N N x1 x2 x3 x7 x8 x9 x10 x11 K2
theorem el24_30 (N : Nat) (k : Kn R) : ∀ (j : Nat) (x1 x2 x3 x7 x8 x9 x10 x11 : D), loopGo (runC PHI Tb28 N vc24_31) j (s24_7 x1 x2 x3 x7 x8 x9 x10 x11) k = l24_30 N j x1 x2 x3 x7 x8 x9 x10 x11 (fun x1 x2 x3 x7 x8 => k (.exit 2) (s24_3 x1 x2 x3 x7 x8))
  | 0, _, _, _, _, _, _, _, _ => by kernel_rfl
  | j + 1, x1, x2, x3, x7, x8, x9, x10, x11 => by
    have h2 := e24_31 N (kloop PHI Tb28 N vc24_31 j k) x1 x2 x3 x7 x8 x9 x10 x11
    have h3 : (fun (y1 y2 y3 y7 y8 y9 y10 y11 : D) => (kloop PHI Tb28 N vc24_31 j k) .normal (s24_7 y1 y2 y3 y7 y8 y9 y10 y11)) = (fun (y1 y2 y3 y7 y8 y9 y10 y11 : D) => l24_30 N j y1 y2 y3 y7 y8 y9 y10 y11 (fun x1 x2 x3 x7 x8 => k (.exit 2) (s24_3 x1 x2 x3 x7 x8))) := funext fun y1 => funext fun y2 => funext fun y3 => funext fun y7 => funext fun y8 => funext fun y9 => funext fun y10 => funext fun y11 => (el24_30 N k j y1 y2 y3 y7 y8 y9 y10 y11)
    refine Eq.trans (loop_succ _ j _ k) (Eq.trans h2 (Eq.trans (congrArg (fun K => m24_31 N x1 x2 x3 x7 x8 x9 x10 x11 K (fun x1 x2 x3 x7 x8 => (kloop PHI Tb28 N vc24_31 j k) (.exit 2) (s24_3 x1 x2 x3 x7 x8))) h3) (by kernel_rfl)))
theorem e24_30 (N : Nat) (k : Kn R) (x1 x2 x3 x7 x8 x9 x10 x11 : D) : runC PHI Tb28 N vc24_30 (s24_7 x1 x2 x3 x7 x8 x9 x10 x11) k = m24_30 N x1 x2 x3 x7 x8 x9 x10 x11 (fun x1 x2 x3 x7 x8 => k (.exit 2) (s24_3 x1 x2 x3 x7 x8)) := by
  refine Eq.trans (runC_loop _ _ k) (Eq.trans (el24_30 N k N x1 x2 x3 x7 x8 x9 x10 x11) (by kernel_rfl))
def m24_29 (N : Nat) (x1 x2 x3 x7 x8 x9 x10 x11 : D) (K : D → D → D → D → D → Option R) : Option R :=
  (m24_30 N x1 x2 x3 x7 x8 x9 x10 x11 (fun y1 y2 y3 y7 y8 => K y1 y2 y3 y7 y8))
theorem e24_29 (N : Nat) (k : Kn R) (x1 x2 x3 x7 x8 x9 x10 x11 : D) : runC PHI Tb28 N vc24_29 (s24_7 x1 x2 x3 x7 x8 x9 x10 x11) k = m24_29 N x1 x2 x3 x7 x8 x9 x10 x11 (fun x1 x2 x3 x7 x8 => k .normal (s24_3 x1 x2 x3 x7 x8)) := by
  refine Eq.trans (runC_block _ _ _ k) (Eq.trans (e24_30 N (kblk 2 k) x1 x2 x3 x7 x8 x9 x10 x11) (by kernel_rfl))
def m24_27 (N : Nat) (x1 x2 x3 x7 x8 x9 x10 : D) (K : D → D → D → D → D → Option R) : Option R :=
  (m24_28 N x1 x2 x3 x7 x8 x9 x10 (fun y1 y2 y3 y7 y8 y9 y10 y11 => (m24_29 N y1 y2 y3 y7 y8 y9 y10 y11 (fun y1 y2 y3 y7 y8 => K y1 y2 y3 y7 y8))))
theorem e24_27 (N : Nat) (k : Kn R) (x1 x2 x3 x7 x8 x9 x10 : D) : runC PHI Tb28 N vc24_27 (s24_6 x1 x2 x3 x7 x8 x9 x10) k = m24_27 N x1 x2 x3 x7 x8 x9 x10 (fun x1 x2 x3 x7 x8 => k .normal (s24_3 x1 x2 x3 x7 x8)) := by
  have h2 := e24_28 N (kseq PHI Tb28 N vc24_29 k) x1 x2 x3 x7 x8 x9 x10
  have h3 := (funext fun y1 => funext fun y2 => funext fun y3 => funext fun y7 => funext fun y8 => funext fun y9 => funext fun y10 => funext fun y11 => (e24_29 N k y1 y2 y3 y7 y8 y9 y10 y11) : (fun (y1 y2 y3 y7 y8 y9 y10 y11 : D) => (kseq PHI Tb28 N vc24_29 k) .normal (s24_7 y1 y2 y3 y7 y8 y9 y10 y11)) = _)
  refine Eq.trans (runC_seq _ _ _ k) (Eq.trans h2 (Eq.trans (congrArg (fun K => m24_28 N x1 x2 x3 x7 x8 x9 x10 K) h3) (by kernel_rfl)))
def m24_25 (N : Nat) (x1 x2 x3 x7 x8 x9 : D) (K : D → D → D → D → D → Option R) : Option R :=
  (m24_26 N x1 x2 x3 x7 x8 x9 (fun y1 y2 y3 y7 y8 y9 y10 => (m24_27 N y1 y2 y3 y7 y8 y9 y10 (fun y1 y2 y3 y7 y8 => K y1 y2 y3 y7 y8))))
theorem e24_25 (N : Nat) (k : Kn R) (x1 x2 x3 x7 x8 x9 : D) : runC PHI Tb28 N vc24_25 (s24_5 x1 x2 x3 x7 x8 x9) k = m24_25 N x1 x2 x3 x7 x8 x9 (fun x1 x2 x3 x7 x8 => k .normal (s24_3 x1 x2 x3 x7 x8)) := by
  have h2 := e24_26 N (kseq PHI Tb28 N vc24_27 k) x1 x2 x3 x7 x8 x9
  have h3 := (funext fun y1 => funext fun y2 => funext fun y3 => funext fun y7 => funext fun y8 => funext fun y9 => funext fun y10 => (e24_27 N k y1 y2 y3 y7 y8 y9 y10) : (fun (y1 y2 y3 y7 y8 y9 y10 : D) => (kseq PHI Tb28 N vc24_27 k) .normal (s24_6 y1 y2 y3 y7 y8 y9 y10)) = _)
  refine Eq.trans (runC_seq _ _ _ k) (Eq.trans h2 (Eq.trans (congrArg (fun K => m24_26 N x1 x2 x3 x7 x8 x9 K) h3) (by kernel_rfl)))
def m24_19 (N : Nat) (x1 x2 x3 x7 x8 x9 : D) (K : D → D → D → D → D → Option R) (K1 : D → D → D → D → D → Option R) : Option R :=
  (m24_20 N x1 x2 x3 x7 x8 x9 (fun y1 y2 y3 y7 y8 y9 => (m24_25 N y1 y2 y3 y7 y8 y9 (fun y1 y2 y3 y7 y8 => K y1 y2 y3 y7 y8))) K1)
theorem e24_19 (N : Nat) (k : Kn R) (x1 x2 x3 x7 x8 x9 : D) : runC PHI Tb28 N vc24_19 (s24_5 x1 x2 x3 x7 x8 x9) k = m24_19 N x1 x2 x3 x7 x8 x9 (fun x1 x2 x3 x7 x8 => k .normal (s24_3 x1 x2 x3 x7 x8)) (fun x1 x2 x3 x7 x8 => k (.exit 1) (s24_3 x1 x2 x3 x7 x8)) := by
  have h2 := e24_20 N (kseq PHI Tb28 N vc24_25 k) x1 x2 x3 x7 x8 x9
  have h3 := (funext fun y1 => funext fun y2 => funext fun y3 => funext fun y7 => funext fun y8 => funext fun y9 => (e24_25 N k y1 y2 y3 y7 y8 y9) : (fun (y1 y2 y3 y7 y8 y9 : D) => (kseq PHI Tb28 N vc24_25 k) .normal (s24_5 y1 y2 y3 y7 y8 y9)) = _)
  refine Eq.trans (runC_seq _ _ _ k) (Eq.trans h2 (Eq.trans (congrArg (fun K => m24_20 N x1 x2 x3 x7 x8 x9 K (fun x1 x2 x3 x7 x8 => (kseq PHI Tb28 N vc24_25 k) (.exit 1) (s24_3 x1 x2 x3 x7 x8))) h3) (by kernel_rfl)))
def m24_17 (N : Nat) (x1 x2 x3 x7 x8 : D) (K : D → D → D → D → D → Option R) (K1 : D → D → D → D → D → Option R) : Option R :=
  (m24_18 N x1 x2 x3 x7 x8 (fun y1 y2 y3 y7 y8 y9 => (m24_19 N y1 y2 y3 y7 y8 y9 (fun y1 y2 y3 y7 y8 => K y1 y2 y3 y7 y8) K1)))
theorem e24_17 (N : Nat) (k : Kn R) (x1 x2 x3 x7 x8 : D) : runC PHI Tb28 N vc24_17 (s24_3 x1 x2 x3 x7 x8) k = m24_17 N x1 x2 x3 x7 x8 (fun x1 x2 x3 x7 x8 => k .normal (s24_3 x1 x2 x3 x7 x8)) (fun x1 x2 x3 x7 x8 => k (.exit 1) (s24_3 x1 x2 x3 x7 x8)) := by
  have h2 := e24_18 N (kseq PHI Tb28 N vc24_19 k) x1 x2 x3 x7 x8
  have h3 := (funext fun y1 => funext fun y2 => funext fun y3 => funext fun y7 => funext fun y8 => funext fun y9 => (e24_19 N k y1 y2 y3 y7 y8 y9) : (fun (y1 y2 y3 y7 y8 y9 : D) => (kseq PHI Tb28 N vc24_19 k) .normal (s24_5 y1 y2 y3 y7 y8 y9)) = _)
  refine Eq.trans (runC_seq _ _ _ k) (Eq.trans h2 (Eq.trans (congrArg (fun K => m24_18 N x1 x2 x3 x7 x8 K) h3) (by kernel_rfl)))
def m24_16 (N : Nat) (x1 x2 x3 x7 x8 : D) (K : D → D → D → D → D → Option R) : Option R :=
  (m24_17 N x1 x2 x3 x7 x8 (fun y1 y2 y3 y7 y8 => K y1 y2 y3 y7 y8) (fun y1 y2 y3 y7 y8 => K y1 y2 y3 y7 y8))
theorem e24_16 (N : Nat) (k : Kn R) (x1 x2 x3 x7 x8 : D) : runC PHI Tb28 N vc24_16 (s24_3 x1 x2 x3 x7 x8) k = m24_16 N x1 x2 x3 x7 x8 (fun x1 x2 x3 x7 x8 => k .normal (s24_3 x1 x2 x3 x7 x8)) := by
  refine Eq.trans (runC_block _ _ _ k) (Eq.trans (e24_17 N (kblk 1 k) x1 x2 x3 x7 x8) (by kernel_rfl))
def m24_51 (N : Nat) (x1 x2 x3 x7 x8 : D) (K : D → D → D → D → D → Option R) : Option R :=
  K x1 x2 x3 x7 (D.i (IntKind.wrap IntKind.i64 (x8.toI + 1)))
theorem e24_51 (N : Nat) (k : Kn R) (x1 x2 x3 x7 x8 : D) : runC PHI Tb28 N vc24_51 (s24_3 x1 x2 x3 x7 x8) k = m24_51 N x1 x2 x3 x7 x8 (fun x1 x2 x3 x7 x8 => k .normal (s24_3 x1 x2 x3 x7 x8)) := by
  refine Eq.trans (runC_post _ _ _ k) (Eq.trans (ops_run _ _ _ _) (by kernel_rfl))
def m24_15 (N : Nat) (x1 x2 x3 x7 x8 : D) (K : D → D → D → D → D → Option R) : Option R :=
  (m24_16 N x1 x2 x3 x7 x8 (fun y1 y2 y3 y7 y8 => (m24_51 N y1 y2 y3 y7 y8 (fun y1 y2 y3 y7 y8 => K y1 y2 y3 y7 y8))))
theorem e24_15 (N : Nat) (k : Kn R) (x1 x2 x3 x7 x8 : D) : runC PHI Tb28 N vc24_15 (s24_3 x1 x2 x3 x7 x8) k = m24_15 N x1 x2 x3 x7 x8 (fun x1 x2 x3 x7 x8 => k .normal (s24_3 x1 x2 x3 x7 x8)) := by
  have h2 := e24_16 N (kseq PHI Tb28 N vc24_51 k) x1 x2 x3 x7 x8
  have h3 := (funext fun y1 => funext fun y2 => funext fun y3 => funext fun y7 => funext fun y8 => (e24_51 N k y1 y2 y3 y7 y8) : (fun (y1 y2 y3 y7 y8 : D) => (kseq PHI Tb28 N vc24_51 k) .normal (s24_3 y1 y2 y3 y7 y8)) = _)
  refine Eq.trans (runC_seq _ _ _ k) (Eq.trans h2 (Eq.trans (congrArg (fun K => m24_16 N x1 x2 x3 x7 x8 K) h3) (by kernel_rfl)))
def m24_9 (N : Nat) (x1 x2 x3 x7 x8 : D) (K : D → D → D → D → D → Option R) (K0 : D → Option R) : Option R :=
  (m24_10 N x1 x2 x3 x7 x8 (fun y1 y2 y3 y7 y8 => (m24_15 N y1 y2 y3 y7 y8 (fun y1 y2 y3 y7 y8 => K y1 y2 y3 y7 y8))) K0)
theorem e24_9 (N : Nat) (k : Kn R) (x1 x2 x3 x7 x8 : D) : runC PHI Tb28 N vc24_9 (s24_3 x1 x2 x3 x7 x8) k = m24_9 N x1 x2 x3 x7 x8 (fun x1 x2 x3 x7 x8 => k .normal (s24_3 x1 x2 x3 x7 x8)) (fun x7 => k (.exit 0) (s24_4 x7)) := by
  have h2 := e24_10 N (kseq PHI Tb28 N vc24_15 k) x1 x2 x3 x7 x8
  have h3 := (funext fun y1 => funext fun y2 => funext fun y3 => funext fun y7 => funext fun y8 => (e24_15 N k y1 y2 y3 y7 y8) : (fun (y1 y2 y3 y7 y8 : D) => (kseq PHI Tb28 N vc24_15 k) .normal (s24_3 y1 y2 y3 y7 y8)) = _)
  refine Eq.trans (runC_seq _ _ _ k) (Eq.trans h2 (Eq.trans (congrArg (fun K => m24_10 N x1 x2 x3 x7 x8 K (fun x7 => (kseq PHI Tb28 N vc24_15 k) (.exit 0) (s24_4 x7))) h3) (by kernel_rfl)))
def l24_8 (N : Nat) (j : Nat) (x1 x2 x3 x7 x8 : D) (K0 : D → Option R) : Option R :=
  match j with
  | 0 => none
  | j + 1 => (m24_9 N x1 x2 x3 x7 x8 (fun y1 y2 y3 y7 y8 => l24_8 N j y1 y2 y3 y7 y8 K0) K0)
def m24_8 (N : Nat) (x1 x2 x3 x7 x8 : D) (K0 : D → Option R) : Option R :=
  l24_8 N N x1 x2 x3 x7 x8 K0
theorem el24_8 (N : Nat) (k : Kn R) : ∀ (j : Nat) (x1 x2 x3 x7 x8 : D), loopGo (runC PHI Tb28 N vc24_9) j (s24_3 x1 x2 x3 x7 x8) k = l24_8 N j x1 x2 x3 x7 x8 (fun x7 => k (.exit 0) (s24_4 x7))
  | 0, _, _, _, _, _ => by kernel_rfl
  | j + 1, x1, x2, x3, x7, x8 => by
    have h2 := e24_9 N (kloop PHI Tb28 N vc24_9 j k) x1 x2 x3 x7 x8
    have h3 : (fun (y1 y2 y3 y7 y8 : D) => (kloop PHI Tb28 N vc24_9 j k) .normal (s24_3 y1 y2 y3 y7 y8)) = (fun (y1 y2 y3 y7 y8 : D) => l24_8 N j y1 y2 y3 y7 y8 (fun x7 => k (.exit 0) (s24_4 x7))) := funext fun y1 => funext fun y2 => funext fun y3 => funext fun y7 => funext fun y8 => (el24_8 N k j y1 y2 y3 y7 y8)
    refine Eq.trans (loop_succ _ j _ k) (Eq.trans h2 (Eq.trans (congrArg (fun K => m24_9 N x1 x2 x3 x7 x8 K (fun x7 => (kloop PHI Tb28 N vc24_9 j k) (.exit 0) (s24_4 x7))) h3) (by kernel_rfl)))
theorem e24_8 (N : Nat) (k : Kn R) (x1 x2 x3 x7 x8 : D) : runC PHI Tb28 N vc24_8 (s24_3 x1 x2 x3 x7 x8) k = m24_8 N x1 x2 x3 x7 x8 (fun x7 => k (.exit 0) (s24_4 x7)) := by
  refine Eq.trans (runC_loop _ _ k) (Eq.trans (el24_8 N k N x1 x2 x3 x7 x8) (by kernel_rfl))
def m24_7 (N : Nat) (x1 x2 x3 x7 x8 : D) (K : D → Option R) : Option R :=
  (m24_8 N x1 x2 x3 x7 x8 (fun y7 => K y7))
theorem e24_7 (N : Nat) (k : Kn R) (x1 x2 x3 x7 x8 : D) : runC PHI Tb28 N vc24_7 (s24_3 x1 x2 x3 x7 x8) k = m24_7 N x1 x2 x3 x7 x8 (fun x7 => k .normal (s24_4 x7)) := by
  refine Eq.trans (runC_block _ _ _ k) (Eq.trans (e24_8 N (kblk 0 k) x1 x2 x3 x7 x8) (by kernel_rfl))
def m24_5 (N : Nat) (x1 x2 x3 x7 : D) (K : D → Option R) : Option R :=
  (m24_6 N x1 x2 x3 x7 (fun y1 y2 y3 y7 y8 => (m24_7 N y1 y2 y3 y7 y8 (fun y7 => K y7))))
theorem e24_5 (N : Nat) (k : Kn R) (x1 x2 x3 x7 : D) : runC PHI Tb28 N vc24_5 (s24_2 x1 x2 x3 x7) k = m24_5 N x1 x2 x3 x7 (fun x7 => k .normal (s24_4 x7)) := by
  have h2 := e24_6 N (kseq PHI Tb28 N vc24_7 k) x1 x2 x3 x7
  have h3 := (funext fun y1 => funext fun y2 => funext fun y3 => funext fun y7 => funext fun y8 => (e24_7 N k y1 y2 y3 y7 y8) : (fun (y1 y2 y3 y7 y8 : D) => (kseq PHI Tb28 N vc24_7 k) .normal (s24_3 y1 y2 y3 y7 y8)) = _)
  refine Eq.trans (runC_seq _ _ _ k) (Eq.trans h2 (Eq.trans (congrArg (fun K => m24_6 N x1 x2 x3 x7 K) h3) (by kernel_rfl)))
def m24_52 (N : Nat) (x7 : D) (Kr : D → Option R) : Option R :=
  Kr x7
def s24_10 (x6 : D) : St := sts 110 [(6, V.f x6)] []
theorem e24_52 (N : Nat) (k : Kn R) (x7 : D) : runC PHI Tb28 N vc24_52 (s24_4 x7) k = m24_52 N x7 (fun x6 => k .ret (s24_10 x6)) := by kernel_rfl
def m24_4 (N : Nat) (x1 x2 x3 x7 : D) (Kr : D → Option R) : Option R :=
  (m24_5 N x1 x2 x3 x7 (fun y7 => (m24_52 N y7 Kr)))
theorem e24_4 (N : Nat) (k : Kn R) (x1 x2 x3 x7 : D) : runC PHI Tb28 N vc24_4 (s24_2 x1 x2 x3 x7) k = m24_4 N x1 x2 x3 x7 (fun x6 => k .ret (s24_10 x6)) := by
  have h2 := e24_5 N (kseq PHI Tb28 N vc24_52 k) x1 x2 x3 x7
  have h3 := (funext fun y7 => (e24_52 N k y7) : (fun (y7 : D) => (kseq PHI Tb28 N vc24_52 k) .normal (s24_4 y7)) = _)
  refine Eq.trans (runC_seq _ _ _ k) (Eq.trans h2 (Eq.trans (congrArg (fun K => m24_5 N x1 x2 x3 x7 K) h3) (by kernel_rfl)))
def m24_2 (N : Nat) (x1 x2 x3 : D) (Kr : D → Option R) : Option R :=
  (m24_3 N x1 x2 x3 (fun y1 y2 y3 y7 => (m24_4 N y1 y2 y3 y7 Kr)))
theorem e24_2 (N : Nat) (k : Kn R) (x1 x2 x3 : D) : runC PHI Tb28 N vc24_2 (s24_1 x1 x2 x3) k = m24_2 N x1 x2 x3 (fun x6 => k .ret (s24_10 x6)) := by
  have h2 := e24_3 N (kseq PHI Tb28 N vc24_4 k) x1 x2 x3
  have h3 := (funext fun y1 => funext fun y2 => funext fun y3 => funext fun y7 => (e24_4 N k y1 y2 y3 y7) : (fun (y1 y2 y3 y7 : D) => (kseq PHI Tb28 N vc24_4 k) .normal (s24_2 y1 y2 y3 y7)) = _)
  refine Eq.trans (runC_seq _ _ _ k) (Eq.trans h2 (Eq.trans (congrArg (fun K => m24_3 N x1 x2 x3 K) h3) (by kernel_rfl)))
def m24_0 (N : Nat) (x0 x1 x2 : D) (Kr : D → Option R) : Option R :=
  (m24_1 N x0 x1 x2 (fun y1 y2 y3 => (m24_2 N y1 y2 y3 Kr)))
theorem e24_0 (N : Nat) (k : Kn R) (x0 x1 x2 : D) : runC PHI Tb28 N vc24_0 (s24_0 x0 x1 x2) k = m24_0 N x0 x1 x2 (fun x6 => k .ret (s24_10 x6)) := by
  have h2 := e24_1 N (kseq PHI Tb28 N vc24_2 k) x0 x1 x2
  have h3 := (funext fun y1 => funext fun y2 => funext fun y3 => (e24_2 N k y1 y2 y3) : (fun (y1 y2 y3 : D) => (kseq PHI Tb28 N vc24_2 k) .normal (s24_1 y1 y2 y3)) = _)
  refine Eq.trans (runC_seq _ _ _ k) (Eq.trans h2 (Eq.trans (congrArg (fun K => m24_1 N x0 x1 x2 K) h3) (by kernel_rfl)))
theorem r24 (N : Nat) (x0 x1 x2 : D) : runC PHI Tb28 N vf24.body (enterV vf24 [V.f x0, V.f x1, V.f x2] []) (finish vf24) = m24_0 N x0 x1 x2 (fun x6 => finish vf24 .ret (s24_10 x6)) := 
  Eq.trans (runC_pre (s1 := (s24_0 x0 x1 x2)) (by kernel_rfl) _ _) (Eq.trans (e24_0 N (finish vf24) x0 x1 x2) (by kernel_rfl))
end
section
variable {R : Type}
theorem m42_24 (N : Nat) (x1 x2 x3 x7 x8 x9 x10 x11 x12 : D) (K : D → D → D → D → D → D → D → D → D → D → Option R) : m24_42 N x1 x2 x3 x7 x8 x9 x10 x11 x12 K = K x1 x2 x3 x7 x8 x9 x10 x11 x12 (.b (sgn x2.toB x10)) := by
  unfold m24_42 sgn
  cases eqL x10.toS [61] <;> cases x2.toB <;> cases eqL x10.toS [60] <;> cases eqL x10.toS [60, 61] <;> cases eqL x10.toS [62] <;> rfl
theorem in24 (N : Nat) (f e q n iw op : D) (K : D → D → D → D → D → Option R) (hf : 0 ≤ f.toI) (h2 : (n.at 6).toL.length = 2) (s : List D) (hs : s.length ≤ 2147483648) (i : Nat) (hi : i < 2) (j : Nat) :
    l24_30 N (j + 1) f e (.p q) (nsl s) iw (.p n) op (.i (i : Nat)) K = l24_30 N j f e (.p q) (nsl (stepA q f.toI (sgn e.toB) op ((n.at 6).toL.getD i .nil) ((n.at 6).toL.getD (1 - i) .nil) s)) iw (.p n) (sp45 op) (.i ((i + 1 : Nat) : Int)) K := by
  have hw : IntKind.i64.wrap (1 - (i : Int)) = ((1 - i : Nat) : Int) := by rw [wrap64_id (by omega) (by omega)]; omega
  have hlt : ltb (i : Int) 2 = true := ltb_t (by omega)
  have hin : inb (i : Int) (n.at 6).toL.length = true := inb_t (by omega)
  have hin2 : inb ((1 - i : Nat) : Int) (n.at 6).toL.length = true := inb_t (by omega)
  have hsc : IntKind.i64.wrap ((i : Int) + 1) = ((i + 1 : Nat) : Int) := succ_nat (by omega)
  have hpr : ∀ x y z, pr44 x y z = true := fun _ _ _ => rfl
  have hle : ∀ c : D, pr26 (nsl s) c = true := fun c => leN_t (by rw [toL_nsl]; omega)
  rw [l24_30]
  simp only [m24_31, m24_32, m24_37, m24_38, m24_39, m24_40, m24_41, m24_50, m42_24, m24_43, isPtr_p, deref_p, toI_i, toB_b, hlt, hin, cond_true, at_nat, hw, hin2, hsc, hpr, hle, nsl_26]
  unfold stepA
  have hc : eqb (sp43 q (((n.at 6).toL.getD i .nil).at 3)) f.toI = true → inb f.toI (q.at 1).toL.length = true := fun h => inb_of hf (sp43_eq hf h).2.1
  generalize (n.at 6).toL.getD i .nil = x at hc ⊢
  cases eqb (x.at 0).toI 2
  · rfl
  · cases h3 : eqb (sp43 q (x.at 3)) f.toI
    · rfl
    · cases sgn e.toB op
      · rfl
      · rw [hc h3]
        simp only [sp44, cond_true, Bool.true_and]
        cases rdN ((n.at 6).toL.getD (1 - i) .nil).wt q ((n.at 6).toL.getD (1 - i) .nil) f.toI <;> rfl
end
def Tb24 : CallF := extend Tb28 24 (fn3 pr24 fun q f e => .f (sp24 q f e))
theorem ok24 : FnOk Try.prog PHI Tb24 := FnOk.add3 hPHI ok28 (by kernel_rfl) fun q f e ha hp => ⟨(q.at 3).toL.length + 3, (r24 _ q f e).trans (by
  simp only [pr24, Bool.and_eq_true] at hp
  have hf := of_decide_eq_true hp.1
  have hl := leN_le hp.2
  simp only [m24_0, m24_1, m24_2, m24_3, m24_4, m24_5, m24_6, m24_7, m24_8, m24_52]
  generalize hN : (q.at 3).toL.length + 3 = N
  have h := loop_fold (fun j i s => l24_8 N j f e (.p q) (nsl s) (.i (i : Nat)) fun y7 => finish vf24 .ret (s24_10 y7)) (fun s => finish vf24 .ret (s24_10 (nsl s))) (q.at 3).toL.length (fun i s => stepN q f.toI (sgn e.toB) s ((q.at 3).toL.getD i .nil)) (fun i s => s.length ≤ 2 * i)
    (fun j i s hi hs => by
      simp only [l24_8, m24_9, m24_10, m24_15, m24_16, m24_17, m24_18, m24_19, m24_20, m24_25, m24_26, m24_27, m24_28, m24_29, m24_30, m24_51, isPtr_p, deref_p, toI_i, cond_true, ltb_n hi, inb_t hi, at_nat, succ_n hi (show (q.at 3).toL.length ≤ 9223372036854775807 by omega)]
      unfold stepN
      generalize (q.at 3).toL.getD i .nil = n
      cases h7 : eqb (n.at 0).toI 7
      · rfl
      · cases h2 : eqb ((n.at 6).toL.length : Int) 2
        · rfl
        · have h2 : (n.at 6).toL.length = 2 := by have := eqb_t' h2; omega
          simp only [Bool.not_true, cond_false, Bool.and_self, cond_true]
          obtain ⟨M, rfl⟩ : ∃ M, N = M + 3 := ⟨N - 3, by omega⟩
          have e0 := in24 (R := V × List V) (M + 3) f e q n (.i (i : Nat)) (n.at 1) (fun y1 y2 y3 y7 y8 => l24_8 (M + 3) j y1 y2 y3 y7 (.i (IntKind.i64.wrap (y8.toI + 1))) fun y7 => finish vf24 .ret (s24_10 y7)) hf h2 s (by omega) 0 (by omega) (M + 2)
          have hA := stepA_len q f.toI (sgn e.toB) (n.at 1) ((n.at 6).toL.getD 0 .nil) ((n.at 6).toL.getD 1 .nil) s
          have e1 := in24 (R := V × List V) (M + 3) f e q n (.i (i : Nat)) (sp45 (n.at 1)) (fun y1 y2 y3 y7 y8 => l24_8 (M + 3) j y1 y2 y3 y7 (.i (IntKind.i64.wrap (y8.toI + 1))) fun y7 => finish vf24 .ret (s24_10 y7)) hf h2 (stepA q f.toI (sgn e.toB) (n.at 1) ((n.at 6).toL.getD 0 .nil) ((n.at 6).toL.getD 1 .nil) s) (by omega) 1 (by omega) (M + 1)
          refine e0.trans (e1.trans ?_)
          rw [l24_30]
          simp only [m24_31, m24_32, toI_i, show ltb ((1 + 1 : Nat) : Int) 2 = false from rfl, cond_false, succ_n hi (show (q.at 3).toL.length ≤ 9223372036854775807 by omega)]
          rfl)
    (fun i s hi hs => by have := stepN_len q f.toI (sgn e.toB) s ((q.at 3).toL.getD i .nil); omega)
    (fun j s hs => by simp only [l24_8, m24_9, m24_10, isPtr_p, deref_p, cond_true, toI_i, ltb_self, cond_false])
    (q.at 3).toL.length 0 N [] (by omega) (by omega) (by simp)
  refine h.trans ?_
  rw [foldI_list (g := stepN q f.toI (sgn e.toB)) (q.at 3).toL (q.at 3).toL.length 0 [] (by omega)]
  rfl)⟩
/-! ### add, order, the document's -/
def sp25 (l t c : D) : D := bif (c.toL.take 3).isEmpty || l.toL.any (fun x => sp14 x (.ag [t, sp27 c (.i 3), .b false])) then l else .sl (l.toL ++ [.ag [t, sp27 c (.i 3), .b false]])
def pr25 (l _ _ : D) : Bool := leN l.toL.length 1099511627776
section
variable {R : Type}
def m25_1 (N : Nat) (x0 x1 x2 : D) (K : D → D → D → Option R) : Option R :=
  K x0 x1 x2
def s25_0 (x0 x1 x2 : D) : St := sts 39 [(0, V.f x0), (1, V.f x1), (2, V.f x2)] []
theorem e25_1 (N : Nat) (k : Kn R) (x0 x1 x2 : D) : runC PHI Tb24 N vc25_1 (s25_0 x0 x1 x2) k = m25_1 N x0 x1 x2 (fun x0 x1 x2 => k .normal (s25_0 x0 x1 x2)) := by
  refine Eq.trans (runC_post _ _ _ k) (Eq.trans (ops_run _ _ _ _) (by kernel_rfl))
def m25_3 (N : Nat) (x0 x1 x2 : D) (K : D → D → Option R) : Option R :=
  (bif (pr27 x2 (D.i 3)) then K x0 (D.p (D.ag [x1, (sp27 x2 (D.i 3)), (D.b false)])) else none)
def s25_1 (x0 x7 : D) : St := sts 39 [(0, V.f x0), (7, V.f x7)] []
theorem e25_3 (N : Nat) (k : Kn R) (x0 x1 x2 : D) : runC PHI Tb24 N vc25_3 (s25_0 x0 x1 x2) k = m25_3 N x0 x1 x2 (fun x0 x7 => k .normal (s25_1 x0 x7)) := by
  refine Eq.trans (runC_post _ _ _ k) (Eq.trans (ops_run _ _ _ _) (by kernel_rfl))
def m25_5 (N : Nat) (x0 x7 : D) (K : D → D → Option R) (Kr : D → Option R) : Option R :=
  (bif (isPtrD x7) then (bif (eqb ((x7.deref.at 1).toL.length : Int) 0) then Kr x0 else K x0 x7) else none)
def s25_2 (x6 : D) : St := sts 39 [(6, V.f x6)] []
theorem e25_5 (N : Nat) (k : Kn R) (x0 x7 : D) : runC PHI Tb24 N vc25_5 (s25_1 x0 x7) k = m25_5 N x0 x7 (fun x0 x7 => k .normal (s25_1 x0 x7)) (fun x6 => k .ret (s25_2 x6)) := by kernel_rfl
def m25_14 (N : Nat) (x0 x7 : D) (K : D → D → D → Option R) : Option R :=
  K x0 x7 (D.i 0)
def s25_3 (x0 x7 x8 : D) : St := sts 39 [(0, V.f x0), (7, V.f x7), (8, V.f x8)] []
theorem e25_14 (N : Nat) (k : Kn R) (x0 x7 : D) : runC PHI Tb24 N vc25_14 (s25_1 x0 x7) k = m25_14 N x0 x7 (fun x0 x7 x8 => k .normal (s25_3 x0 x7 x8)) := by
  refine Eq.trans (runC_post _ _ _ k) (Eq.trans (ops_run _ _ _ _) (by kernel_rfl))
def m25_17 (N : Nat) (x0 x7 x8 : D) (K : D → D → D → Option R) (K0 : D → D → Option R) (Kr : D → Option R) : Option R :=
  (bif (ltb x8.toI (x0.toL.length : Int)) then (bif (inb x8.toI x0.toL.length) then (bif (isPtrD x7) then (bif (sp14 (x0.at (x8.toI : Int).toNat) x7.deref) then Kr x0 else K x0 x7 (D.i (IntKind.wrap IntKind.i64 (x8.toI + 1)))) else none) else none) else K0 x0 x7)
theorem e25_17 (N : Nat) (k : Kn R) (x0 x7 x8 : D) : runC PHI Tb24 N vc25_17 (s25_3 x0 x7 x8) k = m25_17 N x0 x7 x8 (fun x0 x7 x8 => k .normal (s25_3 x0 x7 x8)) (fun x0 x7 => k (.exit 0) (s25_1 x0 x7)) (fun x6 => k .ret (s25_2 x6)) := by kernel_rfl
def l25_16 (N : Nat) (j : Nat) (x0 x7 x8 : D) (K0 : D → D → Option R) (Kr : D → Option R) : Option R :=
  match j with
  | 0 => none
  | j + 1 => (m25_17 N x0 x7 x8 (fun y0 y7 y8 => l25_16 N j y0 y7 y8 K0 Kr) K0 Kr)
def m25_16 (N : Nat) (x0 x7 x8 : D) (K0 : D → D → Option R) (Kr : D → Option R) : Option R :=
  l25_16 N N x0 x7 x8 K0 Kr
theorem el25_16 (N : Nat) (k : Kn R) : ∀ (j : Nat) (x0 x7 x8 : D), loopGo (runC PHI Tb24 N vc25_17) j (s25_3 x0 x7 x8) k = l25_16 N j x0 x7 x8 (fun x0 x7 => k (.exit 0) (s25_1 x0 x7)) (fun x6 => k .ret (s25_2 x6))
  | 0, _, _, _ => by kernel_rfl
  | j + 1, x0, x7, x8 => by
    have h2 := e25_17 N (kloop PHI Tb24 N vc25_17 j k) x0 x7 x8
    have h3 : (fun (y0 y7 y8 : D) => (kloop PHI Tb24 N vc25_17 j k) .normal (s25_3 y0 y7 y8)) = (fun (y0 y7 y8 : D) => l25_16 N j y0 y7 y8 (fun x0 x7 => k (.exit 0) (s25_1 x0 x7)) (fun x6 => k .ret (s25_2 x6))) := funext fun y0 => funext fun y7 => funext fun y8 => (el25_16 N k j y0 y7 y8)
    refine Eq.trans (loop_succ _ j _ k) (Eq.trans h2 (Eq.trans (congrArg (fun K => m25_17 N x0 x7 x8 K (fun x0 x7 => (kloop PHI Tb24 N vc25_17 j k) (.exit 0) (s25_1 x0 x7)) (fun x6 => (kloop PHI Tb24 N vc25_17 j k) .ret (s25_2 x6))) h3) (by kernel_rfl)))
theorem e25_16 (N : Nat) (k : Kn R) (x0 x7 x8 : D) : runC PHI Tb24 N vc25_16 (s25_3 x0 x7 x8) k = m25_16 N x0 x7 x8 (fun x0 x7 => k (.exit 0) (s25_1 x0 x7)) (fun x6 => k .ret (s25_2 x6)) := by
  refine Eq.trans (runC_loop _ _ k) (Eq.trans (el25_16 N k N x0 x7 x8) (by kernel_rfl))
def m25_15 (N : Nat) (x0 x7 x8 : D) (K : D → D → Option R) (Kr : D → Option R) : Option R :=
  (m25_16 N x0 x7 x8 (fun y0 y7 => K y0 y7) Kr)
theorem e25_15 (N : Nat) (k : Kn R) (x0 x7 x8 : D) : runC PHI Tb24 N vc25_15 (s25_3 x0 x7 x8) k = m25_15 N x0 x7 x8 (fun x0 x7 => k .normal (s25_1 x0 x7)) (fun x6 => k .ret (s25_2 x6)) := by
  refine Eq.trans (runC_block _ _ _ k) (Eq.trans (e25_16 N (kblk 0 k) x0 x7 x8) (by kernel_rfl))
def m25_13 (N : Nat) (x0 x7 : D) (K : D → D → Option R) (Kr : D → Option R) : Option R :=
  (m25_14 N x0 x7 (fun y0 y7 y8 => (m25_15 N y0 y7 y8 (fun y0 y7 => K y0 y7) Kr)))
theorem e25_13 (N : Nat) (k : Kn R) (x0 x7 : D) : runC PHI Tb24 N vc25_13 (s25_1 x0 x7) k = m25_13 N x0 x7 (fun x0 x7 => k .normal (s25_1 x0 x7)) (fun x6 => k .ret (s25_2 x6)) := by
  have h2 := e25_14 N (kseq PHI Tb24 N vc25_15 k) x0 x7
  have h3 := (funext fun y0 => funext fun y7 => funext fun y8 => (e25_15 N k y0 y7 y8) : (fun (y0 y7 y8 : D) => (kseq PHI Tb24 N vc25_15 k) .normal (s25_3 y0 y7 y8)) = _)
  refine Eq.trans (runC_seq _ _ _ k) (Eq.trans h2 (Eq.trans (congrArg (fun K => m25_14 N x0 x7 K) h3) (by kernel_rfl)))
def m25_33 (N : Nat) (x0 x7 : D) (Kr : D → Option R) : Option R :=
  (bif (leN (([] : List D).length + x0.toL.length) 3518437208883 && true) then (bif (isPtrD x7) then (bif (leN ((([] : List D) ++ x0.toL).length + ([x7.deref] : List D).length) 3518437208883 && true) then Kr (D.sl ((([] : List D) ++ x0.toL) ++ ([x7.deref] : List D))) else none) else none) else none)
theorem e25_33 (N : Nat) (k : Kn R) (x0 x7 : D) : runC PHI Tb24 N vc25_33 (s25_1 x0 x7) k = m25_33 N x0 x7 (fun x6 => k .ret (s25_2 x6)) := by kernel_rfl
def m25_12 (N : Nat) (x0 x7 : D) (Kr : D → Option R) : Option R :=
  (m25_13 N x0 x7 (fun y0 y7 => (m25_33 N y0 y7 Kr)) Kr)
theorem e25_12 (N : Nat) (k : Kn R) (x0 x7 : D) : runC PHI Tb24 N vc25_12 (s25_1 x0 x7) k = m25_12 N x0 x7 (fun x6 => k .ret (s25_2 x6)) := by
  have h2 := e25_13 N (kseq PHI Tb24 N vc25_33 k) x0 x7
  have h3 := (funext fun y0 => funext fun y7 => (e25_33 N k y0 y7) : (fun (y0 y7 : D) => (kseq PHI Tb24 N vc25_33 k) .normal (s25_1 y0 y7)) = _)
  refine Eq.trans (runC_seq _ _ _ k) (Eq.trans h2 (Eq.trans (congrArg (fun K => m25_13 N x0 x7 K (fun x6 => (kseq PHI Tb24 N vc25_33 k) .ret (s25_2 x6))) h3) (by kernel_rfl)))
def m25_4 (N : Nat) (x0 x7 : D) (Kr : D → Option R) : Option R :=
  (m25_5 N x0 x7 (fun y0 y7 => (m25_12 N y0 y7 Kr)) Kr)
theorem e25_4 (N : Nat) (k : Kn R) (x0 x7 : D) : runC PHI Tb24 N vc25_4 (s25_1 x0 x7) k = m25_4 N x0 x7 (fun x6 => k .ret (s25_2 x6)) := by
  have h2 := e25_5 N (kseq PHI Tb24 N vc25_12 k) x0 x7
  have h3 := (funext fun y0 => funext fun y7 => (e25_12 N k y0 y7) : (fun (y0 y7 : D) => (kseq PHI Tb24 N vc25_12 k) .normal (s25_1 y0 y7)) = _)
  refine Eq.trans (runC_seq _ _ _ k) (Eq.trans h2 (Eq.trans (congrArg (fun K => m25_5 N x0 x7 K (fun x6 => (kseq PHI Tb24 N vc25_12 k) .ret (s25_2 x6))) h3) (by kernel_rfl)))
def m25_2 (N : Nat) (x0 x1 x2 : D) (Kr : D → Option R) : Option R :=
  (m25_3 N x0 x1 x2 (fun y0 y7 => (m25_4 N y0 y7 Kr)))
theorem e25_2 (N : Nat) (k : Kn R) (x0 x1 x2 : D) : runC PHI Tb24 N vc25_2 (s25_0 x0 x1 x2) k = m25_2 N x0 x1 x2 (fun x6 => k .ret (s25_2 x6)) := by
  have h2 := e25_3 N (kseq PHI Tb24 N vc25_4 k) x0 x1 x2
  have h3 := (funext fun y0 => funext fun y7 => (e25_4 N k y0 y7) : (fun (y0 y7 : D) => (kseq PHI Tb24 N vc25_4 k) .normal (s25_1 y0 y7)) = _)
  refine Eq.trans (runC_seq _ _ _ k) (Eq.trans h2 (Eq.trans (congrArg (fun K => m25_3 N x0 x1 x2 K) h3) (by kernel_rfl)))
def m25_0 (N : Nat) (x0 x1 x2 : D) (Kr : D → Option R) : Option R :=
  (m25_1 N x0 x1 x2 (fun y0 y1 y2 => (m25_2 N y0 y1 y2 Kr)))
theorem e25_0 (N : Nat) (k : Kn R) (x0 x1 x2 : D) : runC PHI Tb24 N vc25_0 (s25_0 x0 x1 x2) k = m25_0 N x0 x1 x2 (fun x6 => k .ret (s25_2 x6)) := by
  have h2 := e25_1 N (kseq PHI Tb24 N vc25_2 k) x0 x1 x2
  have h3 := (funext fun y0 => funext fun y1 => funext fun y2 => (e25_2 N k y0 y1 y2) : (fun (y0 y1 y2 : D) => (kseq PHI Tb24 N vc25_2 k) .normal (s25_0 y0 y1 y2)) = _)
  refine Eq.trans (runC_seq _ _ _ k) (Eq.trans h2 (Eq.trans (congrArg (fun K => m25_1 N x0 x1 x2 K) h3) (by kernel_rfl)))
theorem r25 (N : Nat) (x0 x1 x2 : D) : runC PHI Tb24 N vf25.body (enterV vf25 [V.f x0, V.f x1, V.f x2] []) (finish vf25) = m25_0 N x0 x1 x2 (fun x6 => finish vf25 .ret (s25_2 x6)) := 
  Eq.trans (runC_pre (s1 := (s25_0 x0 x1 x2)) (by kernel_rfl) _ _) (Eq.trans (e25_0 N (finish vf25) x0 x1 x2) (by kernel_rfl))
end
def Tb25 : CallF := extend Tb24 25 (fn3 pr25 fun l t c => .f (sp25 l t c))
theorem ok25 : FnOk Try.prog PHI Tb25 := FnOk.add3 hPHI ok24 (by kernel_rfl) fun l t c ha hp => ⟨l.toL.length + 1, (r25 _ l t c).trans (by
  have hl := leN_le (show leN l.toL.length 1099511627776 = true from hp)
  have e1 : leN (([] : List D).length + l.toL.length) 3518437208883 = true := leN_t (by simp only [List.length_nil]; omega)
  have e2 : ∀ d : D, leN ((([] : List D) ++ l.toL).length + [d].length) 3518437208883 = true := fun d => leN_t (by simp only [List.length_append, List.length_cons, List.length_nil]; omega)
  have e3 : pr27 c (.i 3) = true := rfl
  have e4 : ((D.ag [t, sp27 c (.i 3), .b false]).at 1).toL = c.toL.take 3 := toL_27 c (.i 3) (show (0 : Int) ≤ 3 by decide)
  unfold sp25
  simp only [m25_0, m25_1, m25_2, m25_3, m25_4, m25_5, m25_12, m25_13, m25_14, m25_15, m25_16, m25_33, e1, e2, e3, e4, isPtr_p, deref_p, Bool.and_true, cond_true]
  generalize D.ag [t, sp27 c (.i 3), .b false] = d
  cases hY : c.toL.take 3 with
  | nil => rfl
  | cons y ys =>
    rw [eqb_f (show ¬ (((y :: ys).length : Nat) : Int) = 0 by simp only [List.length_cons]; omega)]
    simp only [cond_false, List.isEmpty_cons, Bool.false_or]
    have h := loop_find (fun j i => l25_16 (l.toL.length + 1) j l (.p d) (.i (i : Nat)) (fun y0 y7 => bif leN (([] : List D).length + y0.toL.length) 3518437208883 then bif isPtrD y7 then bif leN ((([] : List D) ++ y0.toL).length + [y7.deref].length) 3518437208883 then finish vf25 .ret (s25_2 (.sl (([] ++ y0.toL) ++ [y7.deref]))) else none else none else none) (fun x6 => finish vf25 .ret (s25_2 x6))) (fun i => sp14 (l.toL.getD i .nil) d) l.toL.length (finish vf25 .ret (s25_2 (.sl (([] ++ l.toL) ++ [d])))) (fun i => finish vf25 .ret (s25_2 l))
      (fun j i hi => by simp only [l25_16, m25_17, isPtr_p, deref_p, toI_i, cond_true, ltb_n hi, inb_t hi, at_nat, succ_n hi (show l.toL.length ≤ 9223372036854775807 by omega)])
      (fun j => by simp only [l25_16, m25_17, isPtr_p, deref_p, toI_i, ltb_self, cond_false, e1, e2, cond_true])
      l.toL.length 0 (l.toL.length + 1) (by omega) (by omega)
    refine h.trans ?_
    rw [fst_any0 (fun x => sp14 x d)]
    cases l.toL.any fun x => sp14 x d <;> rfl)⟩
def ordO (q : D) (f : Int) (s : List D) (x : D) : Option (List D) := bif (x.at 1).toB then none else bif eqb (sp43 q (x.at 0)) f then some (add1 s (colOf q (x.at 0) f)) else none
def sp29 (q f : D) : D := (runO (ordO q f.toI) (q.at 7).toL []).elim (.sz []) fun xs => bif sp20 q then nsl xs else .sz []
def pr29 (q f : D) : Bool := leb 0 f.toI && leN (q.at 7).toL.length 1073741824
section
variable {R : Type}
def m29_1 (N : Nat) (x0 x1 : D) (K : D → D → Option R) : Option R :=
  K x1 (D.p x0)
def s29_0 (x0 x1 : D) : St := sts 50 [(0, V.f x0), (1, V.f x1)] []
def s29_1 (x1 x2 : D) : St := sts 50 [(1, V.f x1), (2, V.f x2)] []
theorem e29_1 (N : Nat) (k : Kn R) (x0 x1 : D) : runC PHI Tb25 N vc29_1 (s29_0 x0 x1) k = m29_1 N x0 x1 (fun x1 x2 => k .normal (s29_1 x1 x2)) := by
  refine Eq.trans (runC_post _ _ _ k) (Eq.trans (ops_run _ _ _ _) (by kernel_rfl))
def m29_3 (N : Nat) (x1 x2 : D) (K : D → D → D → Option R) : Option R :=
  K x1 x2 (D.sz [])
def s29_2 (x1 x2 x5 : D) : St := sts 50 [(1, V.f x1), (2, V.f x2), (5, V.f x5)] []
theorem e29_3 (N : Nat) (k : Kn R) (x1 x2 : D) : runC PHI Tb25 N vc29_3 (s29_1 x1 x2) k = m29_3 N x1 x2 (fun x1 x2 x5 => k .normal (s29_2 x1 x2 x5)) := by
  refine Eq.trans (runC_post _ _ _ k) (Eq.trans (ops_run _ _ _ _) (by kernel_rfl))
def m29_6 (N : Nat) (x1 x2 x5 : D) (K : D → D → D → D → Option R) : Option R :=
  K x1 x2 x5 (D.i 0)
def s29_3 (x1 x2 x5 x6 : D) : St := sts 50 [(1, V.f x1), (2, V.f x2), (5, V.f x5), (6, V.f x6)] []
theorem e29_6 (N : Nat) (k : Kn R) (x1 x2 x5 : D) : runC PHI Tb25 N vc29_6 (s29_2 x1 x2 x5) k = m29_6 N x1 x2 x5 (fun x1 x2 x5 x6 => k .normal (s29_3 x1 x2 x5 x6)) := by
  refine Eq.trans (runC_post _ _ _ k) (Eq.trans (ops_run _ _ _ _) (by kernel_rfl))
def m29_9 (N : Nat) (x1 x2 x5 x6 : D) (K : D → D → D → D → Option R) (K0 : D → D → Option R) (Kr : D → Option R) : Option R :=
  (bif (isPtrD x2) then (bif (ltb x6.toI ((x2.deref.at 7).toL.length : Int)) then (bif (isPtrD x2) then (bif (inb x6.toI (x2.deref.at 7).toL.length) then (bif (((x2.deref.at 7).at (x6.toI : Int).toNat).at 1).toB then (bif true then Kr (D.sz []) else (bif (isPtrD x2) then (bif (inb x6.toI (x2.deref.at 7).toL.length) then (bif (isPtrD x2) then (bif (inb x1.toI (x2.deref.at 1).toL.length) then (bif (pr26 x5 (D.i (IntKind.wrap IntKind.i64 ((((x2.deref.at 7).at (x6.toI : Int).toNat).at 0).toI - ((x2.deref.at 1).at (x1.toI : Int).toNat).toI)))) then K x1 x2 (sp26 x5 (D.i (IntKind.wrap IntKind.i64 ((((x2.deref.at 7).at (x6.toI : Int).toNat).at 0).toI - ((x2.deref.at 1).at (x1.toI : Int).toNat).toI)))) (D.i (IntKind.wrap IntKind.i64 (x6.toI + 1))) else none) else none) else none) else none) else none)) else (bif (isPtrD x2) then (bif (isPtrD x2) then (bif (inb x6.toI (x2.deref.at 7).toL.length) then (bif (!eqb (sp43 x2.deref (((x2.deref.at 7).at (x6.toI : Int).toNat).at 0)) x1.toI) then Kr (D.sz []) else (bif (isPtrD x2) then (bif (inb x6.toI (x2.deref.at 7).toL.length) then (bif (isPtrD x2) then (bif (inb x1.toI (x2.deref.at 1).toL.length) then (bif (pr26 x5 (D.i (IntKind.wrap IntKind.i64 ((((x2.deref.at 7).at (x6.toI : Int).toNat).at 0).toI - ((x2.deref.at 1).at (x1.toI : Int).toNat).toI)))) then K x1 x2 (sp26 x5 (D.i (IntKind.wrap IntKind.i64 ((((x2.deref.at 7).at (x6.toI : Int).toNat).at 0).toI - ((x2.deref.at 1).at (x1.toI : Int).toNat).toI)))) (D.i (IntKind.wrap IntKind.i64 (x6.toI + 1))) else none) else none) else none) else none) else none)) else none) else none) else none)) else none) else none) else K0 x2 x5) else none)
def s29_4 (x2 x5 : D) : St := sts 50 [(2, V.f x2), (5, V.f x5)] []
def s29_5 (x4 : D) : St := sts 50 [(4, V.f x4)] []
theorem e29_9 (N : Nat) (k : Kn R) (x1 x2 x5 x6 : D) : runC PHI Tb25 N vc29_9 (s29_3 x1 x2 x5 x6) k = m29_9 N x1 x2 x5 x6 (fun x1 x2 x5 x6 => k .normal (s29_3 x1 x2 x5 x6)) (fun x2 x5 => k (.exit 0) (s29_4 x2 x5)) (fun x4 => k .ret (s29_5 x4)) := by kernel_rfl
def l29_8 (N : Nat) (j : Nat) (x1 x2 x5 x6 : D) (K0 : D → D → Option R) (Kr : D → Option R) : Option R :=
  match j with
  | 0 => none
  | j + 1 => (m29_9 N x1 x2 x5 x6 (fun y1 y2 y5 y6 => l29_8 N j y1 y2 y5 y6 K0 Kr) K0 Kr)
def m29_8 (N : Nat) (x1 x2 x5 x6 : D) (K0 : D → D → Option R) (Kr : D → Option R) : Option R :=
  l29_8 N N x1 x2 x5 x6 K0 Kr
theorem el29_8 (N : Nat) (k : Kn R) : ∀ (j : Nat) (x1 x2 x5 x6 : D), loopGo (runC PHI Tb25 N vc29_9) j (s29_3 x1 x2 x5 x6) k = l29_8 N j x1 x2 x5 x6 (fun x2 x5 => k (.exit 0) (s29_4 x2 x5)) (fun x4 => k .ret (s29_5 x4))
  | 0, _, _, _, _ => by kernel_rfl
  | j + 1, x1, x2, x5, x6 => by
    have h2 := e29_9 N (kloop PHI Tb25 N vc29_9 j k) x1 x2 x5 x6
    have h3 : (fun (y1 y2 y5 y6 : D) => (kloop PHI Tb25 N vc29_9 j k) .normal (s29_3 y1 y2 y5 y6)) = (fun (y1 y2 y5 y6 : D) => l29_8 N j y1 y2 y5 y6 (fun x2 x5 => k (.exit 0) (s29_4 x2 x5)) (fun x4 => k .ret (s29_5 x4))) := funext fun y1 => funext fun y2 => funext fun y5 => funext fun y6 => (el29_8 N k j y1 y2 y5 y6)
    refine Eq.trans (loop_succ _ j _ k) (Eq.trans h2 (Eq.trans (congrArg (fun K => m29_9 N x1 x2 x5 x6 K (fun x2 x5 => (kloop PHI Tb25 N vc29_9 j k) (.exit 0) (s29_4 x2 x5)) (fun x4 => (kloop PHI Tb25 N vc29_9 j k) .ret (s29_5 x4))) h3) (by kernel_rfl)))
theorem e29_8 (N : Nat) (k : Kn R) (x1 x2 x5 x6 : D) : runC PHI Tb25 N vc29_8 (s29_3 x1 x2 x5 x6) k = m29_8 N x1 x2 x5 x6 (fun x2 x5 => k (.exit 0) (s29_4 x2 x5)) (fun x4 => k .ret (s29_5 x4)) := by
  refine Eq.trans (runC_loop _ _ k) (Eq.trans (el29_8 N k N x1 x2 x5 x6) (by kernel_rfl))
def m29_7 (N : Nat) (x1 x2 x5 x6 : D) (K : D → D → Option R) (Kr : D → Option R) : Option R :=
  (m29_8 N x1 x2 x5 x6 (fun y2 y5 => K y2 y5) Kr)
theorem e29_7 (N : Nat) (k : Kn R) (x1 x2 x5 x6 : D) : runC PHI Tb25 N vc29_7 (s29_3 x1 x2 x5 x6) k = m29_7 N x1 x2 x5 x6 (fun x2 x5 => k .normal (s29_4 x2 x5)) (fun x4 => k .ret (s29_5 x4)) := by
  refine Eq.trans (runC_block _ _ _ k) (Eq.trans (e29_8 N (kblk 0 k) x1 x2 x5 x6) (by kernel_rfl))
def m29_5 (N : Nat) (x1 x2 x5 : D) (K : D → D → Option R) (Kr : D → Option R) : Option R :=
  (m29_6 N x1 x2 x5 (fun y1 y2 y5 y6 => (m29_7 N y1 y2 y5 y6 (fun y2 y5 => K y2 y5) Kr)))
theorem e29_5 (N : Nat) (k : Kn R) (x1 x2 x5 : D) : runC PHI Tb25 N vc29_5 (s29_2 x1 x2 x5) k = m29_5 N x1 x2 x5 (fun x2 x5 => k .normal (s29_4 x2 x5)) (fun x4 => k .ret (s29_5 x4)) := by
  have h2 := e29_6 N (kseq PHI Tb25 N vc29_7 k) x1 x2 x5
  have h3 := (funext fun y1 => funext fun y2 => funext fun y5 => funext fun y6 => (e29_7 N k y1 y2 y5 y6) : (fun (y1 y2 y5 y6 : D) => (kseq PHI Tb25 N vc29_7 k) .normal (s29_3 y1 y2 y5 y6)) = _)
  refine Eq.trans (runC_seq _ _ _ k) (Eq.trans h2 (Eq.trans (congrArg (fun K => m29_6 N x1 x2 x5 K) h3) (by kernel_rfl)))
def m29_27 (N : Nat) (x2 x5 : D) (Kr : D → Option R) : Option R :=
  (bif (isPtrD x2) then (bif (!(sp46 x2.deref)) then Kr (D.sz []) else Kr x5) else none)
theorem e29_27 (N : Nat) (k : Kn R) (x2 x5 : D) : runC PHI Tb25 N vc29_27 (s29_4 x2 x5) k = m29_27 N x2 x5 (fun x4 => k .ret (s29_5 x4)) := by kernel_rfl
def m29_4 (N : Nat) (x1 x2 x5 : D) (Kr : D → Option R) : Option R :=
  (m29_5 N x1 x2 x5 (fun y2 y5 => (m29_27 N y2 y5 Kr)) Kr)
theorem e29_4 (N : Nat) (k : Kn R) (x1 x2 x5 : D) : runC PHI Tb25 N vc29_4 (s29_2 x1 x2 x5) k = m29_4 N x1 x2 x5 (fun x4 => k .ret (s29_5 x4)) := by
  have h2 := e29_5 N (kseq PHI Tb25 N vc29_27 k) x1 x2 x5
  have h3 := (funext fun y2 => funext fun y5 => (e29_27 N k y2 y5) : (fun (y2 y5 : D) => (kseq PHI Tb25 N vc29_27 k) .normal (s29_4 y2 y5)) = _)
  refine Eq.trans (runC_seq _ _ _ k) (Eq.trans h2 (Eq.trans (congrArg (fun K => m29_5 N x1 x2 x5 K (fun x4 => (kseq PHI Tb25 N vc29_27 k) .ret (s29_5 x4))) h3) (by kernel_rfl)))
def m29_2 (N : Nat) (x1 x2 : D) (Kr : D → Option R) : Option R :=
  (m29_3 N x1 x2 (fun y1 y2 y5 => (m29_4 N y1 y2 y5 Kr)))
theorem e29_2 (N : Nat) (k : Kn R) (x1 x2 : D) : runC PHI Tb25 N vc29_2 (s29_1 x1 x2) k = m29_2 N x1 x2 (fun x4 => k .ret (s29_5 x4)) := by
  have h2 := e29_3 N (kseq PHI Tb25 N vc29_4 k) x1 x2
  have h3 := (funext fun y1 => funext fun y2 => funext fun y5 => (e29_4 N k y1 y2 y5) : (fun (y1 y2 y5 : D) => (kseq PHI Tb25 N vc29_4 k) .normal (s29_2 y1 y2 y5)) = _)
  refine Eq.trans (runC_seq _ _ _ k) (Eq.trans h2 (Eq.trans (congrArg (fun K => m29_3 N x1 x2 K) h3) (by kernel_rfl)))
def m29_0 (N : Nat) (x0 x1 : D) (Kr : D → Option R) : Option R :=
  (m29_1 N x0 x1 (fun y1 y2 => (m29_2 N y1 y2 Kr)))
theorem e29_0 (N : Nat) (k : Kn R) (x0 x1 : D) : runC PHI Tb25 N vc29_0 (s29_0 x0 x1) k = m29_0 N x0 x1 (fun x4 => k .ret (s29_5 x4)) := by
  have h2 := e29_1 N (kseq PHI Tb25 N vc29_2 k) x0 x1
  have h3 := (funext fun y1 => funext fun y2 => (e29_2 N k y1 y2) : (fun (y1 y2 : D) => (kseq PHI Tb25 N vc29_2 k) .normal (s29_1 y1 y2)) = _)
  refine Eq.trans (runC_seq _ _ _ k) (Eq.trans h2 (Eq.trans (congrArg (fun K => m29_1 N x0 x1 K) h3) (by kernel_rfl)))
theorem r29 (N : Nat) (x0 x1 : D) : runC PHI Tb25 N vf29.body (enterV vf29 [V.f x0, V.f x1] []) (finish vf29) = m29_0 N x0 x1 (fun x4 => finish vf29 .ret (s29_5 x4)) := 
  Eq.trans (runC_pre (s1 := (s29_0 x0 x1)) (by kernel_rfl) _ _) (Eq.trans (e29_0 N (finish vf29) x0 x1) (by kernel_rfl))
end
def Tb29 : CallF := extend Tb25 29 (fn2 pr29 fun q f => .f (sp29 q f))
theorem ok29 : FnOk Try.prog PHI Tb29 := FnOk.add2 hPHI ok25 (by kernel_rfl) fun q f ha hp => ⟨(q.at 7).toL.length + 1, (r29 _ q f).trans (by
  simp only [pr29, Bool.and_eq_true] at hp
  have hf := of_decide_eq_true hp.1
  have hl := leN_le hp.2
  simp only [m29_0, m29_1, m29_2, m29_3, m29_4, m29_5, m29_6, m29_7, m29_8, m29_27]
  have h := loop_opt (fun j i s => l29_8 ((q.at 7).toL.length + 1) j f (.p q) (nsl s) (.i (i : Nat)) (fun y2 y5 => bif isPtrD y2 then bif !sp46 y2.deref then finish vf29 .ret (s29_5 (.sz [])) else finish vf29 .ret (s29_5 y5) else none) (fun x4 => finish vf29 .ret (s29_5 x4))) (fun s => finish vf29 .ret (s29_5 (s.elim (.sz []) fun xs => bif sp20 q then nsl xs else .sz []))) (q.at 7).toL.length (fun i s => ordO q f.toI s ((q.at 7).toL.getD i .nil)) (fun i s => s.length ≤ i)
    (fun j i s hi hs => by
      have hle : ∀ c : D, pr26 (nsl s) c = true := fun c => leN_t (by rw [toL_nsl]; omega)
      simp only [l29_8, m29_9, isPtr_p, deref_p, toI_i, cond_true, ltb_n hi, inb_t hi, at_nat, succ_n hi (show (q.at 7).toL.length ≤ 9223372036854775807 by omega), hle, nsl_26]
      unfold ordO
      generalize (q.at 7).toL.getD i .nil = x
      cases (x.at 1).toB
      · have hc : eqb (sp43 q (x.at 0)) f.toI = true → inb f.toI (q.at 1).toL.length = true := fun h => inb_of hf (sp43_eq hf h).2.1
        cases h3 : eqb (sp43 q (x.at 0)) f.toI
        · rfl
        · rw [hc h3]; rfl
      · rfl)
    (fun i s s' hi hs hss => by
      unfold ordO at hss
      cases hb : (((q.at 7).toL.getD i .nil).at 1).toB
      · cases hq : eqb (sp43 q (((q.at 7).toL.getD i .nil).at 0)) f.toI
        · rw [hq, hb] at hss; cases hss
        · rw [hq, hb] at hss; simp only [cond_true, cond_false, Option.some.injEq] at hss; subst hss
          have := add1_len s (colOf q (((q.at 7).toL.getD i .nil).at 0) f.toI); omega
      · rw [hb] at hss; cases hss)
    (fun j s hs => by
      simp only [l29_8, m29_9, isPtr_p, deref_p, cond_true, toI_i, ltb_self, cond_false, sp46, Option.elim_some]
      cases sp20 q <;> rfl)
    (q.at 7).toL.length 0 ((q.at 7).toL.length + 1) [] (by omega) (by omega) (by simp)
  refine h.trans ?_
  rw [foldO_list (g := ordO q f.toI) (q.at 7).toL (q.at 7).toL.length 0 [] (by omega)]
  rfl)⟩

end Go.Vam.C20
