/- Chapter 14: what functions come to, part 3. No conditions. -/
import Derived.Test.YtcpbgimpopcfoaaP2
import Derived.KernelRfl
set_option linter.unusedVariables false
set_option linter.unusedSimpArgs false
set_option maxRecDepth 100000
namespace Go.Vam.C14
open Go.Proofs
/-! ### Which of two values comes first -/
def kd (v : D) : Int := bif leb 1 (v.at 0).toI && leb (v.at 0).toI 4 then (v.at 0).toI else 0
def num (v : D) : Int := bif eqb (v.at 0).toI 1 then (v.at 1).toI else bif eqb (v.at 0).toI 4 && !eqb (v.at 1).toI 0 then 1 else 0
def T (u v : D) : Int := bif eqb (kd u) (kd v) then (bif eqb (kd u) 3 then cmpL (u.at 3).toS (v.at 3).toS else bif eqb (kd u) 2 then G (u.at 2) (v.at 2) else cmpI (num u) (num v)) else cmpI (kd u) (kd v)
/-- What a cleaned value is. -/
structure Cl (c v : D) : Prop where
  k : (c.at 0).toI = kd v
  n : kd v ≠ 2 → kd v ≠ 3 → (c.at 1).toI = num v
  f : kd v = 2 → Fe (c.at 2) (v.at 2)
  s : kd v = 3 → (c.at 3) = (v.at 3)
theorem five (v : D) : ((v.at 0).toI = 1 ∨ (v.at 0).toI = 2 ∨ (v.at 0).toI = 3 ∨ (v.at 0).toI = 4) ∨ ((v.at 0).toI ≠ 1 ∧ (v.at 0).toI ≠ 2 ∧ (v.at 0).toI ≠ 3 ∧ (v.at 0).toI ≠ 4) := by omega
theorem kd_eq {v : D} {n : Int} (h : (v.at 0).toI = n) (h1 : 1 ≤ n) (h2 : n ≤ 4) : kd v = n := by
  unfold kd; rw [h, leb_t h1, leb_t h2]; rfl
theorem kd_0 {v : D} (h : (v.at 0).toI ≠ 1 ∧ (v.at 0).toI ≠ 2 ∧ (v.at 0).toI ≠ 3 ∧ (v.at 0).toI ≠ 4) : kd v = 0 := by
  unfold kd
  by_cases h1 : 1 ≤ (v.at 0).toI
  · rw [leb_t h1, leb_f (show ¬ (v.at 0).toI ≤ 4 by omega)]; rfl
  · rw [leb_f h1]; rfl
theorem cl46 (v : D) : Cl (sp46 v) v := by
  rcases five v with (h | h | h | h) | h
  · have hk := kd_eq h (by decide) (by decide)
    have e : sp46 v = sp74 (v.at 1) := by unfold sp46; rw [h]; rfl
    exact ⟨by rw [e, hk]; rfl, fun _ _ => by rw [e]; unfold num; rw [h]; rfl, fun h2 => by omega, fun h2 => by omega⟩
  · have hk := kd_eq h (by decide) (by decide)
    have e : sp46 v = sp81 (v.at 2) := by unfold sp46; rw [h]; rfl
    exact ⟨by rw [e, hk]; rfl, fun h2 => by omega, fun _ => by rw [e]; exact fe_canon _, fun h2 => by omega⟩
  · have hk := kd_eq h (by decide) (by decide)
    have e : sp46 v = sp82 (v.at 3) := by unfold sp46; rw [h]; rfl
    exact ⟨by rw [e, hk]; rfl, fun h2 h3 => by omega, fun h2 => by omega, fun _ => by rw [e]; rfl⟩
  · have hk := kd_eq h (by decide) (by decide)
    have e : sp46 v = sp53 (.b (!eqb (v.at 1).toI 0)) := by unfold sp46; rw [h]; rfl
    exact ⟨by rw [e, hk]; rfl, fun _ _ => by rw [e]; unfold num; rw [h]; cases eqb (v.at 1).toI 0 <;> rfl, fun h2 => by omega, fun h2 => by omega⟩
  · have hk := kd_0 h
    have e : sp46 v = z0 := by unfold sp46; rw [eqb_f h.1, eqb_f h.2.1, eqb_f h.2.2.1, eqb_f h.2.2.2]; rfl
    exact ⟨by rw [e, hk]; rfl, fun _ _ => by rw [e]; unfold num; rw [eqb_f h.1, eqb_f h.2.2.2]; rfl, fun h2 => by omega, fun h2 => by omega⟩
theorem cl30 (v : D) : Cl (sp30 v) v := by
  rcases five v with (h | h | h | h) | h
  · have hk := kd_eq h (by decide) (by decide)
    have e : sp30 v = .ag [v.at 0, v.at 1, .f 0, .s []] := by unfold sp30; rw [h]; rfl
    exact ⟨by rw [e, hk]; exact h, fun _ _ => by rw [e]; unfold num; rw [h]; rfl, fun h2 => by omega, fun h2 => by omega⟩
  · have hk := kd_eq h (by decide) (by decide)
    have e : sp30 v = .ag [v.at 0, .i 0, cl (v.at 2), .s []] := by
      unfold sp30 cl; rw [h]; rfl
    exact ⟨by rw [e, hk]; exact h, fun h2 => by omega, fun _ => by rw [e]; exact fe_cl _, fun h2 => by omega⟩
  · have hk := kd_eq h (by decide) (by decide)
    have e : sp30 v = .ag [v.at 0, .i 0, .f 0, v.at 3] := by unfold sp30; rw [h]; rfl
    exact ⟨by rw [e, hk]; exact h, fun h2 h3 => by omega, fun h2 => by omega, fun _ => by rw [e]; rfl⟩
  · have hk := kd_eq h (by decide) (by decide)
    have e : sp30 v = .ag [v.at 0, .i (bif !eqb (v.at 1).toI 0 then 1 else 0), .f 0, .s []] := by unfold sp30; rw [h]; rfl
    exact ⟨by rw [e, hk]; exact h, fun _ _ => by rw [e]; unfold num; rw [h]; cases eqb (v.at 1).toI 0 <;> rfl, fun h2 => by omega, fun h2 => by omega⟩
  · have hk := kd_0 h
    have hn : num v = 0 := by unfold num; rw [eqb_f h.1, eqb_f h.2.2.2]; rfl
    have : ((sp30 v).at 0).toI = 0 ∧ ((sp30 v).at 1).toI = 0 := by
      unfold sp30
      rw [eqb_f h.1, eqb_f h.2.1, eqb_f h.2.2.1, eqb_f h.2.2.2]
      by_cases h0 : (v.at 0).toI < 0
      · rw [ltb_t h0]; exact ⟨rfl, rfl⟩
      · by_cases h4 : 4 < (v.at 0).toI
        · rw [ltb_f h0, ltb_t h4]; exact ⟨rfl, rfl⟩
        · rw [ltb_f h0, ltb_f h4]
          exact ⟨show (v.at 0).toI = 0 by omega, rfl⟩
    exact ⟨by rw [hk]; exact this.1, fun _ _ => by rw [hn]; exact this.2, fun h2 => by omega, fun h2 => by omega⟩
theorem T27 {a b u v : D} (hu : Cl a u) (hv : Cl b v) : (bif !eqb (a.at 0).toI (b.at 0).toI then sp35 (a.at 0) (b.at 0) else
  bif eqb (a.at 0).toI 2 then (bif sp64 (a.at 2) then (bif sp64 (b.at 2) then 0 else 1) else bif sp64 (b.at 2) then -1 else sp65 (a.at 2) (b.at 2)) else
  bif eqb (a.at 0).toI 3 then sp66 (a.at 3) (b.at 3) else sp67 (a.at 1) (b.at 1)) = T u v := by
  unfold T sp35 sp67 sp66 sp90
  rw [hu.k, hv.k, G27]
  by_cases hk : kd u = kd v
  · rw [hk, eqb_t rfl]
    simp only [Bool.not_true, cond_false, cond_true]
    by_cases h2 : kd v = 2
    · rw [h2]
      exact G_fe (hu.f (by omega)) (hv.f h2)
    · by_cases h3 : kd v = 3
      · rw [h3, hu.s (by omega), hv.s h3]; rfl
      · rw [eqb_f h2, eqb_f h3, hu.n (by omega) (by omega), hv.n h2 h3]; rfl
  · rw [eqb_f hk]; rfl
theorem T29 {a b u v : D} (hu : Cl a u) (hv : Cl b v) : (bif less a b then -1 else bif more a b then 1 else 0) = T u v := by
  unfold T less more
  rw [hu.k, hv.k]
  by_cases hk : kd u = kd v
  · rw [hk, eqb_t rfl]
    simp only [cond_true]
    by_cases h3 : kd v = 3
    · rw [h3, hu.s (by omega), hv.s h3]
      simp only [eqb_t rfl, cond_true]
      exact cmpL_less _ _
    · by_cases h2 : kd v = 2
      · rw [h2]
        have e3 : eqb 2 3 = false := rfl
        rw [e3, eqb_t rfl]
        simp only [cond_true, cond_false]
        rw [G29]
        exact G_fe (hu.f (by omega)) (hv.f h2)
      · rw [eqb_f h2, eqb_f h3, hu.n (by omega) (by omega), hv.n h2 h3]; rfl
  · rw [eqb_f hk]; rfl
theorem T_swap (u v : D) : T v u = - T u v := by
  unfold T
  by_cases hk : kd u = kd v
  · rw [hk, eqb_t rfl]
    simp only [cond_true]
    cases eqb (kd v) 3
    · cases eqb (kd v) 2
      · exact cmpI_swap _ _
      · exact G_swap _ _
    · exact cmpL_swap _ _
  · rw [eqb_f hk, eqb_f (Ne.symm hk)]
    exact cmpI_swap _ _
theorem T_range (u v : D) : -1 ≤ T u v ∧ T u v ≤ 1 := by
  unfold T
  cases eqb (kd u) (kd v)
  · exact cmpI_range _ _
  · cases eqb (kd u) 3
    · cases eqb (kd u) 2
      · exact cmpI_range _ _
      · exact G_range _ _
    · exact cmpL_range _ _
theorem cl_cl {c d v : D} (h : Cl c v) (h' : Cl d c) (hk : kd c = kd v) (hn : num c = num v) : Cl d v := ⟨h'.k.trans hk, fun a b => (h'.n (hk ▸ a) (hk ▸ b)).trans hn, fun a => by
  have h1 := h'.f (hk ▸ a)
  have h2 := h.f a
  exact ⟨h1.n.trans h2.n, fun c => (h1.l c).trans (h2.l c), fun c => (h1.r c).trans (h2.r c)⟩, fun a => (h'.s (hk ▸ a)).trans (h.s a)⟩
theorem kd_46 (v : D) : kd (sp46 v) = kd v := by
  have h := (cl46 v).k
  have : kd (sp46 v) = bif leb 1 (kd v) && leb (kd v) 4 then kd v else 0 := by rw [← h]; rfl
  rw [this]
  unfold kd
  cases h1 : leb 1 (v.at 0).toI && leb (v.at 0).toI 4
  · rfl
  · simp only [cond_true, h1]
theorem kd_30 (v : D) : kd (sp30 v) = kd v := by
  have h := (cl30 v).k
  have : kd (sp30 v) = bif leb 1 (kd v) && leb (kd v) 4 then kd v else 0 := by rw [← h]; rfl
  rw [this]
  unfold kd
  cases h1 : leb 1 (v.at 0).toI && leb (v.at 0).toI 4
  · rfl
  · simp only [cond_true, h1]
theorem num_46 (v : D) : num (sp46 v) = num v := by
  rcases five v with (h | h | h | h) | h
  · have e : sp46 v = sp74 (v.at 1) := by unfold sp46; rw [h]; rfl
    rw [e]; unfold num; rw [h]; rfl
  · have e : sp46 v = sp81 (v.at 2) := by unfold sp46; rw [h]; rfl
    rw [e]; unfold num; rw [h]; rfl
  · have e : sp46 v = sp82 (v.at 3) := by unfold sp46; rw [h]; rfl
    rw [e]; unfold num; rw [h]; rfl
  · have e : sp46 v = sp53 (.b (!eqb (v.at 1).toI 0)) := by unfold sp46; rw [h]; rfl
    rw [e]; unfold num; rw [h]; cases eqb (v.at 1).toI 0 <;> rfl
  · have e : sp46 v = z0 := by unfold sp46; rw [eqb_f h.1, eqb_f h.2.1, eqb_f h.2.2.1, eqb_f h.2.2.2]; rfl
    rw [e]; unfold num; rw [eqb_f h.1, eqb_f h.2.2.2]; rfl
theorem num_30 (v : D) : num (sp30 v) = num v := by
  rcases five v with (h | h | h | h) | h
  · have e : sp30 v = .ag [v.at 0, v.at 1, .f 0, .s []] := by unfold sp30; rw [h]; rfl
    rw [e]
    show (bif eqb (v.at 0).toI 1 then _ else _) = _
    unfold num; rw [h]; rfl
  · have e : sp30 v = .ag [v.at 0, .i 0, cl (v.at 2), .s []] := by unfold sp30 cl; rw [h]; rfl
    rw [e]
    show (bif eqb (v.at 0).toI 1 then _ else (bif eqb (v.at 0).toI 4 && _ then _ else _)) = _
    unfold num; rw [h]; rfl
  · have e : sp30 v = .ag [v.at 0, .i 0, .f 0, v.at 3] := by unfold sp30; rw [h]; rfl
    rw [e]
    show (bif eqb (v.at 0).toI 1 then _ else (bif eqb (v.at 0).toI 4 && _ then _ else _)) = _
    unfold num; rw [h]; rfl
  · have e : sp30 v = .ag [v.at 0, .i (bif !eqb (v.at 1).toI 0 then 1 else 0), .f 0, .s []] := by unfold sp30; rw [h]; rfl
    rw [e]
    show (bif eqb (v.at 0).toI 1 then _ else (bif eqb (v.at 0).toI 4 && !eqb (bif !eqb (v.at 1).toI 0 then 1 else 0) 0 then _ else _)) = _
    unfold num; rw [h]; cases eqb (v.at 1).toI 0 <;> rfl
  · have hn : num v = 0 := by unfold num; rw [eqb_f h.1, eqb_f h.2.2.2]; rfl
    rw [hn]
    unfold sp30
    rw [eqb_f h.1, eqb_f h.2.1, eqb_f h.2.2.1, eqb_f h.2.2.2]
    cases ltb (v.at 0).toI 0 || ltb 4 (v.at 0).toI
    · show (bif eqb (v.at 0).toI 1 then _ else (bif eqb (v.at 0).toI 4 && _ then _ else _)) = _
      rw [eqb_f h.1, eqb_f h.2.2.2]; rfl
    · rfl
/-- The two orders are one, of values that are clean. -/
theorem t27 (u v : D) : sp27 (sp46 u) (sp46 v) = T u v := T27 (cl_cl (cl46 u) (cl46 _) (kd_46 u) (num_46 u)) (cl_cl (cl46 v) (cl46 _) (kd_46 v) (num_46 v))
theorem t29 (u v : D) : sp29 (sp30 u) (sp30 v) = T u v := T29 (cl_cl (cl30 u) (cl30 _) (kd_30 u) (num_30 u)) (cl_cl (cl30 v) (cl30 _) (kd_30 v) (num_30 v))

end Go.Vam.C14
namespace Go.Vam.C14
open Go.Proofs
/-! ### Rows -/
def rowat (r : D) (i : Int) : D := bif leb 0 i && ltb i (r.toL.length : Int) then r.at i.toNat else z0
theorem inb_lt {i : Int} {n : Nat} : inb i n = (leb 0 i && ltb i (n : Int)) := rfl
def sp45 (_ _ _ : D) : D := .nil
def pr45 (_ _ _ : D) : Bool := false
def sp47 (_ : D) : D := .nil
def pr47 (_ : D) : Bool := false
def sp48 (_ : D) : D := .nil
def pr48 (_ : D) : Bool := false
def sp49 (_ _ : D) : D := .nil
def pr49 (_ _ : D) : Bool := false
def sp50 (_ _ : D) : D := .nil
def pr50 (_ _ : D) : Bool := false
def sp51 (_ _ _ : D) : D := .nil
def pr51 (_ _ _ : D) : Bool := false
def sp52 (_ _ _ : D) : D := .nil
def pr52 (_ _ _ : D) : Bool := false
def sp23 (n r : D) : D := sp46 (rowat r (n.at 3).toI)
def pr23 (n _ : D) : Bool := eqb (n.at 0).toI 2
section
variable {R : Type}
def m23_1 (N : Nat) (x0 x1 : D) (K : D → D → Option R) : Option R :=
  K (D.p x0) (D.p x1)
def s23_0 (x0 x1 : D) : St := sts 85 [(0, V.f x0), (1, V.f x1)] []
def s23_1 (x2 x3 : D) : St := sts 85 [(2, V.f x2), (3, V.f x3), (4, V.a)] []
theorem e23_1 (N : Nat) (k : Kn R) (x0 x1 : D) : runC PHI Tb29 N vc23_1 (s23_0 x0 x1) k = m23_1 N x0 x1 (fun x2 x3 => k .normal (s23_1 x2 x3)) := by
  refine Eq.trans (runC_post _ _ _ k) (Eq.trans (ops_run _ _ _ _) (by kernel_rfl))
def m23_3 (N : Nat) (x2 x3 : D) (K : D → D → D → D → Option R) : Option R :=
  K x2 x3 x2 x3
def s23_2 (x2 x3 x5_0 x5_1 : D) : St := sts 85 [(2, V.f x2), (3, V.f x3), (4, V.a), (5, V.fn 45 [V.f x5_0, V.f x5_1] [Ty.p 35, Ty.p 23])] []
theorem e23_3 (N : Nat) (k : Kn R) (x2 x3 : D) : runC PHI Tb29 N vc23_3 (s23_1 x2 x3) k = m23_3 N x2 x3 (fun x2 x3 x5_0 x5_1 => k .normal (s23_2 x2 x3 x5_0 x5_1)) := by
  refine Eq.trans (runC_post _ _ _ k) (Eq.trans (ops_run _ _ _ _) (by kernel_rfl))
def m23_6 (N : Nat) (x2 x3 x5_0 x5_1 : D) (K : D → D → D → D → D → Option R) : Option R :=
  (bif (isPtrD x2) then K x2 x3 x5_0 x5_1 (x2.deref.at 0) else none)
def s23_3 (x2 x3 x5_0 x5_1 x8 : D) : St := sts 85 [(2, V.f x2), (3, V.f x3), (4, V.a), (5, V.fn 45 [V.f x5_0, V.f x5_1] [Ty.p 35, Ty.p 23]), (8, V.f x8)] []
theorem e23_6 (N : Nat) (k : Kn R) (x2 x3 x5_0 x5_1 : D) : runC PHI Tb29 N vc23_6 (s23_2 x2 x3 x5_0 x5_1) k = m23_6 N x2 x3 x5_0 x5_1 (fun x2 x3 x5_0 x5_1 x8 => k .normal (s23_3 x2 x3 x5_0 x5_1 x8)) := by
  refine Eq.trans (runC_post _ _ _ k) (Eq.trans (ops_run _ _ _ _) (by kernel_rfl))
def m23_9 (N : Nat) (x2 x3 x5_0 x5_1 x8 : D) (K : D → D → D → D → D → D → Option R) : Option R :=
  K x2 x3 x5_0 x5_1 x8 (D.b (eqb x8.toI 1))
def s23_4 (x2 x3 x5_0 x5_1 x8 x9 : D) : St := sts 85 [(2, V.f x2), (3, V.f x3), (4, V.a), (5, V.fn 45 [V.f x5_0, V.f x5_1] [Ty.p 35, Ty.p 23]), (8, V.f x8), (9, V.f x9)] []
theorem e23_9 (N : Nat) (k : Kn R) (x2 x3 x5_0 x5_1 x8 : D) : runC PHI Tb29 N vc23_9 (s23_3 x2 x3 x5_0 x5_1 x8) k = m23_9 N x2 x3 x5_0 x5_1 x8 (fun x2 x3 x5_0 x5_1 x8 x9 => k .normal (s23_4 x2 x3 x5_0 x5_1 x8 x9)) := by
  refine Eq.trans (runC_post _ _ _ k) (Eq.trans (ops_run _ _ _ _) (by kernel_rfl))
def m23_11 (N : Nat) (x2 : D) (Kr : D → Option R) : Option R :=
  (bif (isPtrD x2) then Kr (D.p (sp46 (x2.deref.at 2))) else none)
def s23_5 (x2 : D) : St := sts 85 [(2, V.f x2), (4, V.a)] []
def s23_6 (x4 : D) : St := sts 85 [(4, V.f x4)] []
theorem e23_11 (N : Nat) (k : Kn R) (x2 : D) : runC PHI Tb29 N vc23_11 (s23_5 x2) k = m23_11 N x2 (fun x4 => k .ret (s23_6 x4)) := by kernel_rfl
def m23_15 (N : Nat) (x2 x3 x5_0 x5_1 x8 : D) (K : D → D → D → D → D → D → Option R) : Option R :=
  K x2 x3 x5_0 x5_1 x8 (D.b (eqb x8.toI 2))
def s23_7 (x2 x3 x5_0 x5_1 x8 x14 : D) : St := sts 85 [(2, V.f x2), (3, V.f x3), (4, V.a), (5, V.fn 45 [V.f x5_0, V.f x5_1] [Ty.p 35, Ty.p 23]), (8, V.f x8), (14, V.f x14)] []
theorem e23_15 (N : Nat) (k : Kn R) (x2 x3 x5_0 x5_1 x8 : D) : runC PHI Tb29 N vc23_15 (s23_3 x2 x3 x5_0 x5_1 x8) k = m23_15 N x2 x3 x5_0 x5_1 x8 (fun x2 x3 x5_0 x5_1 x8 x14 => k .normal (s23_7 x2 x3 x5_0 x5_1 x8 x14)) := by
  refine Eq.trans (runC_post _ _ _ k) (Eq.trans (ops_run _ _ _ _) (by kernel_rfl))
def m23_17 (N : Nat) (x2 x3 : D) (K : Option R) (Kr : D → Option R) : Option R :=
  (bif (isPtrD x2) then (bif (leb 0 (x2.deref.at 3).toI) then (bif (isPtrD x2) then (bif (isPtrD x3) then (bif (ltb (x2.deref.at 3).toI (x3.deref.toL.length : Int)) then (bif (isPtrD x3) then (bif (isPtrD x2) then (bif (inb (x2.deref.at 3).toI x3.deref.toL.length) then Kr (D.p (sp46 (x3.deref.at ((x2.deref.at 3).toI : Int).toNat))) else none) else none) else none) else K) else none) else none) else (bif false then (bif (isPtrD x3) then (bif (isPtrD x2) then (bif (inb (x2.deref.at 3).toI x3.deref.toL.length) then Kr (D.p (sp46 (x3.deref.at ((x2.deref.at 3).toI : Int).toNat))) else none) else none) else none) else K)) else none)
def s23_8 : St := sts 85 [(4, V.a)] []
theorem e23_17 (N : Nat) (k : Kn R) (x2 x3 : D) : runC PHI Tb29 N vc23_17 (s23_1 x2 x3) k = m23_17 N x2 x3 (k .normal s23_8) (fun x4 => k .ret (s23_6 x4)) := by kernel_rfl
def m23_24 (N : Nat) (x2 x5_0 x5_1 x8 : D) (K : Option R) (Kr : D → Option R) : Option R :=
  (bif (eqb x8.toI 3) then (bif (pr45 (D.i 0) x5_0 x5_1) then (bif (pr47 (sp45 (D.i 0) x5_0 x5_1)) then Kr (D.p (sp47 (sp45 (D.i 0) x5_0 x5_1))) else none) else none) else (bif (eqb x8.toI 4) then (bif (pr45 (D.i 0) x5_0 x5_1) then (bif (pr48 (sp45 (D.i 0) x5_0 x5_1)) then Kr (D.p (sp48 (sp45 (D.i 0) x5_0 x5_1))) else none) else none) else (bif (eqb x8.toI 5) then (bif (pr45 (D.i 0) x5_0 x5_1) then (bif (pr45 (D.i 1) x5_0 x5_1) then (bif (pr49 (sp45 (D.i 0) x5_0 x5_1) (sp45 (D.i 1) x5_0 x5_1)) then Kr (D.p (sp49 (sp45 (D.i 0) x5_0 x5_1) (sp45 (D.i 1) x5_0 x5_1))) else none) else none) else none) else (bif (eqb x8.toI 6) then (bif (pr45 (D.i 0) x5_0 x5_1) then (bif (pr45 (D.i 1) x5_0 x5_1) then (bif (pr50 (sp45 (D.i 0) x5_0 x5_1) (sp45 (D.i 1) x5_0 x5_1)) then Kr (D.p (sp50 (sp45 (D.i 0) x5_0 x5_1) (sp45 (D.i 1) x5_0 x5_1))) else none) else none) else none) else (bif (eqb x8.toI 7) then (bif (isPtrD x2) then (bif (pr45 (D.i 0) x5_0 x5_1) then (bif (pr45 (D.i 1) x5_0 x5_1) then (bif (pr51 (x2.deref.at 1) (sp45 (D.i 0) x5_0 x5_1) (sp45 (D.i 1) x5_0 x5_1)) then Kr (D.p (sp51 (x2.deref.at 1) (sp45 (D.i 0) x5_0 x5_1) (sp45 (D.i 1) x5_0 x5_1))) else none) else none) else none) else none) else (bif (eqb x8.toI 8) then (bif (isPtrD x2) then (bif (pr45 (D.i 0) x5_0 x5_1) then (bif (pr45 (D.i 1) x5_0 x5_1) then (bif (pr52 (x2.deref.at 1) (sp45 (D.i 0) x5_0 x5_1) (sp45 (D.i 1) x5_0 x5_1)) then Kr (D.p (sp52 (x2.deref.at 1) (sp45 (D.i 0) x5_0 x5_1) (sp45 (D.i 1) x5_0 x5_1))) else none) else none) else none) else none) else (bif (eqb x8.toI 9) then (bif (pr45 (D.i 0) x5_0 x5_1) then (bif (isPtrD x2) then Kr (D.p (sp53 (D.b ((eqb ((sp45 (D.i 0) x5_0 x5_1).at 0).toI 0) != (x2.deref.at 4).toB)))) else none) else none) else K)))))))
def s23_9 (x2 x5_0 x5_1 x8 : D) : St := sts 85 [(2, V.f x2), (4, V.a), (5, V.fn 45 [V.f x5_0, V.f x5_1] [Ty.p 35, Ty.p 23]), (8, V.f x8)] []
theorem e23_24 (N : Nat) (k : Kn R) (x2 x5_0 x5_1 x8 : D) : runC PHI Tb29 N vc23_24 (s23_9 x2 x5_0 x5_1 x8) k = m23_24 N x2 x5_0 x5_1 x8 (k .normal s23_8) (fun x4 => k .ret (s23_6 x4)) := by kernel_rfl
def m23_16 (N : Nat) (x2 x3 x5_0 x5_1 x8 x14 : D) (K : Option R) (Kr : D → Option R) : Option R :=
  (bif x14.toB then (m23_17 N x2 x3 (K) Kr) else (m23_24 N x2 x5_0 x5_1 x8 (K) Kr))
theorem e23_16 (N : Nat) (k : Kn R) (x2 x3 x5_0 x5_1 x8 x14 : D) : runC PHI Tb29 N vc23_16 (s23_7 x2 x3 x5_0 x5_1 x8 x14) k = m23_16 N x2 x3 x5_0 x5_1 x8 x14 (k .normal s23_8) (fun x4 => k .ret (s23_6 x4)) := by
  refine Eq.trans (runC_cond (s1 := (s23_1 x2 x3)) (s2 := (s23_9 x2 x5_0 x5_1 x8)) (d := x14) _ _ k (by kernel_rfl) (by kernel_rfl) (by kernel_rfl)) (Eq.trans (congr (congrArg (cond x14.toB) ((e23_17 N k x2 x3))) ((e23_24 N k x2 x5_0 x5_1 x8))) (by kernel_rfl))
def m23_14 (N : Nat) (x2 x3 x5_0 x5_1 x8 : D) (K : Option R) (Kr : D → Option R) : Option R :=
  (m23_15 N x2 x3 x5_0 x5_1 x8 (fun y2 y3 y5_0 y5_1 y8 y14 => (m23_16 N y2 y3 y5_0 y5_1 y8 y14 (K) Kr)))
theorem e23_14 (N : Nat) (k : Kn R) (x2 x3 x5_0 x5_1 x8 : D) : runC PHI Tb29 N vc23_14 (s23_3 x2 x3 x5_0 x5_1 x8) k = m23_14 N x2 x3 x5_0 x5_1 x8 (k .normal s23_8) (fun x4 => k .ret (s23_6 x4)) := by
  have h2 := e23_15 N (kseq PHI Tb29 N vc23_16 k) x2 x3 x5_0 x5_1 x8
  have h3 := (funext fun y2 => funext fun y3 => funext fun y5_0 => funext fun y5_1 => funext fun y8 => funext fun y14 => (e23_16 N k y2 y3 y5_0 y5_1 y8 y14) : (fun (y2 y3 y5_0 y5_1 y8 y14 : D) => (kseq PHI Tb29 N vc23_16 k) .normal (s23_7 y2 y3 y5_0 y5_1 y8 y14)) = _)
  refine Eq.trans (runC_seq _ _ _ k) (Eq.trans h2 (Eq.trans (congrArg (fun K => m23_15 N x2 x3 x5_0 x5_1 x8 K) h3) (by kernel_rfl)))
def m23_10 (N : Nat) (x2 x3 x5_0 x5_1 x8 x9 : D) (K : Option R) (Kr : D → Option R) : Option R :=
  (bif x9.toB then (m23_11 N x2 Kr) else (m23_14 N x2 x3 x5_0 x5_1 x8 (K) Kr))
theorem e23_10 (N : Nat) (k : Kn R) (x2 x3 x5_0 x5_1 x8 x9 : D) : runC PHI Tb29 N vc23_10 (s23_4 x2 x3 x5_0 x5_1 x8 x9) k = m23_10 N x2 x3 x5_0 x5_1 x8 x9 (k .normal s23_8) (fun x4 => k .ret (s23_6 x4)) := by
  refine Eq.trans (runC_cond (s1 := (s23_5 x2)) (s2 := (s23_3 x2 x3 x5_0 x5_1 x8)) (d := x9) _ _ k (by kernel_rfl) (by kernel_rfl) (by kernel_rfl)) (Eq.trans (congr (congrArg (cond x9.toB) ((e23_11 N k x2))) ((e23_14 N k x2 x3 x5_0 x5_1 x8))) (by kernel_rfl))
def m23_8 (N : Nat) (x2 x3 x5_0 x5_1 x8 : D) (K : Option R) (Kr : D → Option R) : Option R :=
  (m23_9 N x2 x3 x5_0 x5_1 x8 (fun y2 y3 y5_0 y5_1 y8 y9 => (m23_10 N y2 y3 y5_0 y5_1 y8 y9 (K) Kr)))
theorem e23_8 (N : Nat) (k : Kn R) (x2 x3 x5_0 x5_1 x8 : D) : runC PHI Tb29 N vc23_8 (s23_3 x2 x3 x5_0 x5_1 x8) k = m23_8 N x2 x3 x5_0 x5_1 x8 (k .normal s23_8) (fun x4 => k .ret (s23_6 x4)) := by
  have h2 := e23_9 N (kseq PHI Tb29 N vc23_10 k) x2 x3 x5_0 x5_1 x8
  have h3 := (funext fun y2 => funext fun y3 => funext fun y5_0 => funext fun y5_1 => funext fun y8 => funext fun y9 => (e23_10 N k y2 y3 y5_0 y5_1 y8 y9) : (fun (y2 y3 y5_0 y5_1 y8 y9 : D) => (kseq PHI Tb29 N vc23_10 k) .normal (s23_4 y2 y3 y5_0 y5_1 y8 y9)) = _)
  refine Eq.trans (runC_seq _ _ _ k) (Eq.trans h2 (Eq.trans (congrArg (fun K => m23_9 N x2 x3 x5_0 x5_1 x8 K) h3) (by kernel_rfl)))
def m23_7 (N : Nat) (x2 x3 x5_0 x5_1 x8 : D) (K : Option R) (Kr : D → Option R) : Option R :=
  (m23_8 N x2 x3 x5_0 x5_1 x8 (K) Kr)
theorem e23_7 (N : Nat) (k : Kn R) (x2 x3 x5_0 x5_1 x8 : D) : runC PHI Tb29 N vc23_7 (s23_3 x2 x3 x5_0 x5_1 x8) k = m23_7 N x2 x3 x5_0 x5_1 x8 (k .normal s23_8) (fun x4 => k .ret (s23_6 x4)) := by
  refine Eq.trans (runC_block _ _ _ k) (Eq.trans (e23_8 N (kblk 0 k) x2 x3 x5_0 x5_1 x8) (by kernel_rfl))
def m23_5 (N : Nat) (x2 x3 x5_0 x5_1 : D) (K : Option R) (Kr : D → Option R) : Option R :=
  (m23_6 N x2 x3 x5_0 x5_1 (fun y2 y3 y5_0 y5_1 y8 => (m23_7 N y2 y3 y5_0 y5_1 y8 (K) Kr)))
theorem e23_5 (N : Nat) (k : Kn R) (x2 x3 x5_0 x5_1 : D) : runC PHI Tb29 N vc23_5 (s23_2 x2 x3 x5_0 x5_1) k = m23_5 N x2 x3 x5_0 x5_1 (k .normal s23_8) (fun x4 => k .ret (s23_6 x4)) := by
  have h2 := e23_6 N (kseq PHI Tb29 N vc23_7 k) x2 x3 x5_0 x5_1
  have h3 := (funext fun y2 => funext fun y3 => funext fun y5_0 => funext fun y5_1 => funext fun y8 => (e23_7 N k y2 y3 y5_0 y5_1 y8) : (fun (y2 y3 y5_0 y5_1 y8 : D) => (kseq PHI Tb29 N vc23_7 k) .normal (s23_3 y2 y3 y5_0 y5_1 y8)) = _)
  refine Eq.trans (runC_seq _ _ _ k) (Eq.trans h2 (Eq.trans (congrArg (fun K => m23_6 N x2 x3 x5_0 x5_1 K) h3) (by kernel_rfl)))
def m23_67 (N : Nat) (Kr : D → Option R) : Option R :=
  Kr (D.p (D.ag [(D.i 0), (D.i 0), (D.f 0), (D.s [])]))
theorem e23_67 (N : Nat) (k : Kn R) : runC PHI Tb29 N vc23_67 s23_8 k = m23_67 N (fun x4 => k .ret (s23_6 x4)) := by kernel_rfl
def m23_4 (N : Nat) (x2 x3 x5_0 x5_1 : D) (Kr : D → Option R) : Option R :=
  (m23_5 N x2 x3 x5_0 x5_1 ((m23_67 N Kr)) Kr)
theorem e23_4 (N : Nat) (k : Kn R) (x2 x3 x5_0 x5_1 : D) : runC PHI Tb29 N vc23_4 (s23_2 x2 x3 x5_0 x5_1) k = m23_4 N x2 x3 x5_0 x5_1 (fun x4 => k .ret (s23_6 x4)) := by
  have h2 := e23_5 N (kseq PHI Tb29 N vc23_67 k) x2 x3 x5_0 x5_1
  have h3 := ((e23_67 N k ) : ((kseq PHI Tb29 N vc23_67 k) .normal s23_8) = _)
  refine Eq.trans (runC_seq _ _ _ k) (Eq.trans h2 (Eq.trans (congrArg (fun K => m23_5 N x2 x3 x5_0 x5_1 K (fun x4 => (kseq PHI Tb29 N vc23_67 k) .ret (s23_6 x4))) h3) (by kernel_rfl)))
def m23_2 (N : Nat) (x2 x3 : D) (Kr : D → Option R) : Option R :=
  (m23_3 N x2 x3 (fun y2 y3 y5_0 y5_1 => (m23_4 N y2 y3 y5_0 y5_1 Kr)))
theorem e23_2 (N : Nat) (k : Kn R) (x2 x3 : D) : runC PHI Tb29 N vc23_2 (s23_1 x2 x3) k = m23_2 N x2 x3 (fun x4 => k .ret (s23_6 x4)) := by
  have h2 := e23_3 N (kseq PHI Tb29 N vc23_4 k) x2 x3
  have h3 := (funext fun y2 => funext fun y3 => funext fun y5_0 => funext fun y5_1 => (e23_4 N k y2 y3 y5_0 y5_1) : (fun (y2 y3 y5_0 y5_1 : D) => (kseq PHI Tb29 N vc23_4 k) .normal (s23_2 y2 y3 y5_0 y5_1)) = _)
  refine Eq.trans (runC_seq _ _ _ k) (Eq.trans h2 (Eq.trans (congrArg (fun K => m23_3 N x2 x3 K) h3) (by kernel_rfl)))
def m23_0 (N : Nat) (x0 x1 : D) (Kr : D → Option R) : Option R :=
  (m23_1 N x0 x1 (fun y2 y3 => (m23_2 N y2 y3 Kr)))
theorem e23_0 (N : Nat) (k : Kn R) (x0 x1 : D) : runC PHI Tb29 N vc23_0 (s23_0 x0 x1) k = m23_0 N x0 x1 (fun x4 => k .ret (s23_6 x4)) := by
  have h2 := e23_1 N (kseq PHI Tb29 N vc23_2 k) x0 x1
  have h3 := (funext fun y2 => funext fun y3 => (e23_2 N k y2 y3) : (fun (y2 y3 : D) => (kseq PHI Tb29 N vc23_2 k) .normal (s23_1 y2 y3)) = _)
  refine Eq.trans (runC_seq _ _ _ k) (Eq.trans h2 (Eq.trans (congrArg (fun K => m23_1 N x0 x1 K) h3) (by kernel_rfl)))
theorem r23 (N : Nat) (x0 x1 : D) : runC PHI Tb29 N vf23.body (enterV vf23 [V.f x0, V.f x1] []) (finish vf23) = m23_0 N x0 x1 (fun x4 => finish vf23 .ret (s23_6 x4)) := 
  Eq.trans (runC_pre (s1 := (s23_0 x0 x1)) (by kernel_rfl) _ _) (Eq.trans (e23_0 N (finish vf23) x0 x1) (by kernel_rfl))
end
def Tb23 : CallF := extend Tb29 23 (fn2 pr23 fun n r => .f (sp23 n r))
theorem ok23 : FnOk Try.prog PHI Tb23 := FnOk.add2 hPHI ok29 (by kernel_rfl) fun n r _ hp => ⟨0, (r23 0 n r).trans (by
  have hk : (n.at 0).toI = 2 := of_decide_eq_true hp
  simp only [m23_1, m23_3, m23_6, m23_9, m23_11, m23_15, m23_17, m23_24, m23_16, m23_14, m23_10, m23_8, m23_7, m23_5, m23_67, m23_4, m23_2, m23_0, isPtr_p, deref_p, toB_b, cond_true, hk, inb_lt, sp23, rowat]
  rw [show eqb 2 1 = false from rfl, show eqb 2 2 = true from rfl]
  cases leb 0 (n.at 3).toI <;> cases ltb (n.at 3).toI (r.toL.length : Int) <;> rfl)⟩
def sp28 (r i : D) : D := sp46 (rowat r i.toI)
section
variable {R : Type}
def m28_0 (N : Nat) (x0 x1 : D) (Kr : D → Option R) : Option R :=
  (bif (pr23 (D.ag [(D.i 2), (D.s []), (D.ag [(D.i 0), (D.i 0), (D.f 0), (D.s [])]), x1, (D.b false), (D.i 0), (D.sz [])]) x0) then Kr (D.p (sp23 (D.ag [(D.i 2), (D.s []), (D.ag [(D.i 0), (D.i 0), (D.f 0), (D.s [])]), x1, (D.b false), (D.i 0), (D.sz [])]) x0)) else none)
def s28_0 (x0 x1 : D) : St := sts 9 [(0, V.f x0), (1, V.f x1)] []
def s28_1 (x4 : D) : St := sts 9 [(4, V.f x4)] []
theorem e28_0 (N : Nat) (k : Kn R) (x0 x1 : D) : runC PHI Tb23 N vc28_0 (s28_0 x0 x1) k = m28_0 N x0 x1 (fun x4 => k .ret (s28_1 x4)) := by kernel_rfl
theorem r28 (N : Nat) (x0 x1 : D) : runC PHI Tb23 N vf28.body (enterV vf28 [V.f x0, V.f x1] []) (finish vf28) = m28_0 N x0 x1 (fun x4 => finish vf28 .ret (s28_1 x4)) := 
  Eq.trans (runC_pre (s1 := (s28_0 x0 x1)) (by kernel_rfl) _ _) (Eq.trans (e28_0 N (finish vf28) x0 x1) (by kernel_rfl))
end
def Tb28 : CallF := extend Tb23 28 (fn2 (fun _ _ => true) fun r i => .f (sp28 r i))
theorem ok28 : FnOk Try.prog PHI Tb28 := FnOk.add2 hPHI ok23 (by kernel_rfl) fun r i _ _ => ⟨0, (r28 0 r i).trans rfl⟩
def sp14 (r i : D) : D := sp30 (rowat r i.toI)
section
variable {R : Type}
def m14_0 (N : Nat) (x0 x1 : D) (Kr : D → Option R) : Option R :=
  (bif (ltb x1.toI 0) then (bif true then Kr (D.p (D.ag [(D.i 0), (D.i 0), (D.f 0), (D.s [])])) else (bif (inb x1.toI x0.toL.length) then Kr (D.p (sp30 (x0.at (x1.toI : Int).toNat))) else none)) else (bif (leb (x0.toL.length : Int) x1.toI) then Kr (D.p (D.ag [(D.i 0), (D.i 0), (D.f 0), (D.s [])])) else (bif (inb x1.toI x0.toL.length) then Kr (D.p (sp30 (x0.at (x1.toI : Int).toNat))) else none)))
def s14_0 (x0 x1 : D) : St := sts 19 [(0, V.f x0), (1, V.f x1)] []
def s14_1 (x4 : D) : St := sts 19 [(4, V.f x4)] []
theorem e14_0 (N : Nat) (k : Kn R) (x0 x1 : D) : runC PHI Tb28 N vc14_0 (s14_0 x0 x1) k = m14_0 N x0 x1 (fun x4 => k .ret (s14_1 x4)) := by kernel_rfl
theorem r14 (N : Nat) (x0 x1 : D) : runC PHI Tb28 N vf14.body (enterV vf14 [V.f x0, V.f x1] []) (finish vf14) = m14_0 N x0 x1 (fun x4 => finish vf14 .ret (s14_1 x4)) := 
  Eq.trans (runC_pre (s1 := (s14_0 x0 x1)) (by kernel_rfl) _ _) (Eq.trans (e14_0 N (finish vf14) x0 x1) (by kernel_rfl))
end
def Tb14 : CallF := extend Tb28 14 (fn2 (fun _ _ => true) fun r i => .f (sp14 r i))
theorem ok14 : FnOk Try.prog PHI Tb14 := FnOk.add2 hPHI ok28 (by kernel_rfl) fun r i _ _ => ⟨0, (r14 0 r i).trans (by
  simp only [m14_0, inb_lt, sp14, rowat]
  by_cases h0 : 0 ≤ i.toI
  · by_cases h1 : i.toI < (r.toL.length : Int)
    · rw [leb_t h0, ltb_t h1, ltb_f (show ¬ i.toI < 0 by omega), leb_f (show ¬ (r.toL.length : Int) ≤ i.toI by omega)]; rfl
    · rw [leb_t h0, ltb_f h1, ltb_f (show ¬ i.toI < 0 by omega), leb_t (show (r.toL.length : Int) ≤ i.toI by omega)]; rfl
  · rw [leb_f h0, ltb_t (show i.toI < 0 by omega)]; rfl)⟩
/-! ### Which of two rows comes first -/
def co (l a b : D) (i : Nat) : Int := T (rowat a ((l.toL.getD i .nil).at 0).toI) (rowat b ((l.toL.getD i .nil).at 0).toI)
def foundO (l a b : D) : Int := fst (fun i => !eqb (co l a b i) 0) l.toL.length 0
def resO (l a b : D) (i : Nat) : Int := bif ((l.toL.getD i .nil).at 1).toB then - co l a b i else co l a b i
def ordO (l a b : D) : Int := bif leb 0 (foundO l a b) then resO l a b (foundO l a b).toNat else 0
theorem neg_w {c : Int} (h : -1 ≤ c ∧ c ≤ 1) : IntKind.wrap IntKind.i64 (0 - c) = -c := by
  rw [wrap64_id (by omega) (by omega)]; omega
theorem eqb_neg (c : Int) : eqb (-c) 0 = eqb c 0 := by
  by_cases h : c = 0
  · subst h; rfl
  · rw [eqb_f h, eqb_f (show ¬ -c = 0 by omega)]
theorem co_r (l a b : D) (i : Nat) : -1 ≤ co l a b i ∧ co l a b i ≤ 1 := T_range _ _
def sp11 (l a b : D) : Int := ordO l a b
section
variable {R : Type}
def m11_1 (N : Nat) (x0 x1 x2 : D) (K : D → D → D → Option R) : Option R :=
  K x0 x1 x2
def s11_0 (x0 x1 x2 : D) : St := sts 33 [(0, V.f x0), (1, V.f x1), (2, V.f x2)] []
theorem e11_1 (N : Nat) (k : Kn R) (x0 x1 x2 : D) : runC PHI Tb14 N vc11_1 (s11_0 x0 x1 x2) k = m11_1 N x0 x1 x2 (fun x0 x1 x2 => k .normal (s11_0 x0 x1 x2)) := by
  refine Eq.trans (runC_post _ _ _ k) (Eq.trans (ops_run _ _ _ _) (by kernel_rfl))
def m11_4 (N : Nat) (x0 x1 x2 : D) (K : D → D → D → D → D → Option R) : Option R :=
  K x1 x2 x0 (D.i (x0.toL.length : Int)) (D.i 0)
def s11_1 (x1 x2 x10 x11 x12 : D) : St := sts 33 [(1, V.f x1), (2, V.f x2), (10, V.f x10), (11, V.f x11), (12, V.f x12)] []
theorem e11_4 (N : Nat) (k : Kn R) (x0 x1 x2 : D) : runC PHI Tb14 N vc11_4 (s11_0 x0 x1 x2) k = m11_4 N x0 x1 x2 (fun x1 x2 x10 x11 x12 => k .normal (s11_1 x1 x2 x10 x11 x12)) := by
  refine Eq.trans (runC_post _ _ _ k) (Eq.trans (ops_run _ _ _ _) (by kernel_rfl))
def m11_7 (N : Nat) (x1 x2 x10 x11 x12 : D) (K : D → D → D → D → D → Option R) (K0 : Option R) (Kr : D → Option R) : Option R :=
  (bif (ltb x12.toI x11.toI) then (bif (inb x12.toI x10.toL.length) then (bif ((x10.at (x12.toI : Int).toNat).at 1).toB then (bif (!eqb (IntKind.wrap IntKind.i64 (0 - (sp27 (sp28 x1 ((x10.at (x12.toI : Int).toNat).at 0)) (sp28 x2 ((x10.at (x12.toI : Int).toNat).at 0))))) 0) then Kr (D.i (IntKind.wrap IntKind.i64 (0 - (sp27 (sp28 x1 ((x10.at (x12.toI : Int).toNat).at 0)) (sp28 x2 ((x10.at (x12.toI : Int).toNat).at 0)))))) else K x1 x2 x10 x11 (D.i (IntKind.wrap IntKind.i64 (x12.toI + 1)))) else (bif (!eqb (sp27 (sp28 x1 ((x10.at (x12.toI : Int).toNat).at 0)) (sp28 x2 ((x10.at (x12.toI : Int).toNat).at 0))) 0) then Kr (D.i (sp27 (sp28 x1 ((x10.at (x12.toI : Int).toNat).at 0)) (sp28 x2 ((x10.at (x12.toI : Int).toNat).at 0)))) else K x1 x2 x10 x11 (D.i (IntKind.wrap IntKind.i64 (x12.toI + 1))))) else none) else K0)
def s11_2 : St := sts 33 [] []
def s11_3 (x6 : D) : St := sts 33 [(6, V.f x6)] []
theorem e11_7 (N : Nat) (k : Kn R) (x1 x2 x10 x11 x12 : D) : runC PHI Tb14 N vc11_7 (s11_1 x1 x2 x10 x11 x12) k = m11_7 N x1 x2 x10 x11 x12 (fun x1 x2 x10 x11 x12 => k .normal (s11_1 x1 x2 x10 x11 x12)) (k (.exit 0) s11_2) (fun x6 => k .ret (s11_3 x6)) := by kernel_rfl
def l11_6 (N : Nat) (j : Nat) (x1 x2 x10 x11 x12 : D) (K0 : Option R) (Kr : D → Option R) : Option R :=
  match j with
  | 0 => none
  | j + 1 => (m11_7 N x1 x2 x10 x11 x12 (fun y1 y2 y10 y11 y12 => l11_6 N j y1 y2 y10 y11 y12 K0 Kr) K0 Kr)
def m11_6 (N : Nat) (x1 x2 x10 x11 x12 : D) (K0 : Option R) (Kr : D → Option R) : Option R :=
  l11_6 N N x1 x2 x10 x11 x12 K0 Kr
theorem el11_6 (N : Nat) (k : Kn R) : ∀ (j : Nat) (x1 x2 x10 x11 x12 : D), loopGo (runC PHI Tb14 N vc11_7) j (s11_1 x1 x2 x10 x11 x12) k = l11_6 N j x1 x2 x10 x11 x12 (k (.exit 0) s11_2) (fun x6 => k .ret (s11_3 x6))
  | 0, _, _, _, _, _ => by kernel_rfl
  | j + 1, x1, x2, x10, x11, x12 => by
    have h2 := e11_7 N (kloop PHI Tb14 N vc11_7 j k) x1 x2 x10 x11 x12
    have h3 : (fun (y1 y2 y10 y11 y12 : D) => (kloop PHI Tb14 N vc11_7 j k) .normal (s11_1 y1 y2 y10 y11 y12)) = (fun (y1 y2 y10 y11 y12 : D) => l11_6 N j y1 y2 y10 y11 y12 (k (.exit 0) s11_2) (fun x6 => k .ret (s11_3 x6))) := funext fun y1 => funext fun y2 => funext fun y10 => funext fun y11 => funext fun y12 => (el11_6 N k j y1 y2 y10 y11 y12)
    refine Eq.trans (loop_succ _ j _ k) (Eq.trans h2 (Eq.trans (congrArg (fun K => m11_7 N x1 x2 x10 x11 x12 K ((kloop PHI Tb14 N vc11_7 j k) (.exit 0) s11_2) (fun x6 => (kloop PHI Tb14 N vc11_7 j k) .ret (s11_3 x6))) h3) (by kernel_rfl)))
theorem e11_6 (N : Nat) (k : Kn R) (x1 x2 x10 x11 x12 : D) : runC PHI Tb14 N vc11_6 (s11_1 x1 x2 x10 x11 x12) k = m11_6 N x1 x2 x10 x11 x12 (k (.exit 0) s11_2) (fun x6 => k .ret (s11_3 x6)) := by
  refine Eq.trans (runC_loop _ _ k) (Eq.trans (el11_6 N k N x1 x2 x10 x11 x12) (by kernel_rfl))
def m11_5 (N : Nat) (x1 x2 x10 x11 x12 : D) (K : Option R) (Kr : D → Option R) : Option R :=
  (m11_6 N x1 x2 x10 x11 x12 (K) Kr)
theorem e11_5 (N : Nat) (k : Kn R) (x1 x2 x10 x11 x12 : D) : runC PHI Tb14 N vc11_5 (s11_1 x1 x2 x10 x11 x12) k = m11_5 N x1 x2 x10 x11 x12 (k .normal s11_2) (fun x6 => k .ret (s11_3 x6)) := by
  refine Eq.trans (runC_block _ _ _ k) (Eq.trans (e11_6 N (kblk 0 k) x1 x2 x10 x11 x12) (by kernel_rfl))
def m11_3 (N : Nat) (x0 x1 x2 : D) (K : Option R) (Kr : D → Option R) : Option R :=
  (m11_4 N x0 x1 x2 (fun y1 y2 y10 y11 y12 => (m11_5 N y1 y2 y10 y11 y12 (K) Kr)))
theorem e11_3 (N : Nat) (k : Kn R) (x0 x1 x2 : D) : runC PHI Tb14 N vc11_3 (s11_0 x0 x1 x2) k = m11_3 N x0 x1 x2 (k .normal s11_2) (fun x6 => k .ret (s11_3 x6)) := by
  have h2 := e11_4 N (kseq PHI Tb14 N vc11_5 k) x0 x1 x2
  have h3 := (funext fun y1 => funext fun y2 => funext fun y10 => funext fun y11 => funext fun y12 => (e11_5 N k y1 y2 y10 y11 y12) : (fun (y1 y2 y10 y11 y12 : D) => (kseq PHI Tb14 N vc11_5 k) .normal (s11_1 y1 y2 y10 y11 y12)) = _)
  refine Eq.trans (runC_seq _ _ _ k) (Eq.trans h2 (Eq.trans (congrArg (fun K => m11_4 N x0 x1 x2 K) h3) (by kernel_rfl)))
def m11_33 (N : Nat) (Kr : D → Option R) : Option R :=
  Kr (D.i 0)
theorem e11_33 (N : Nat) (k : Kn R) : runC PHI Tb14 N vc11_33 s11_2 k = m11_33 N (fun x6 => k .ret (s11_3 x6)) := by kernel_rfl
def m11_2 (N : Nat) (x0 x1 x2 : D) (Kr : D → Option R) : Option R :=
  (m11_3 N x0 x1 x2 ((m11_33 N Kr)) Kr)
theorem e11_2 (N : Nat) (k : Kn R) (x0 x1 x2 : D) : runC PHI Tb14 N vc11_2 (s11_0 x0 x1 x2) k = m11_2 N x0 x1 x2 (fun x6 => k .ret (s11_3 x6)) := by
  have h2 := e11_3 N (kseq PHI Tb14 N vc11_33 k) x0 x1 x2
  have h3 := ((e11_33 N k ) : ((kseq PHI Tb14 N vc11_33 k) .normal s11_2) = _)
  refine Eq.trans (runC_seq _ _ _ k) (Eq.trans h2 (Eq.trans (congrArg (fun K => m11_3 N x0 x1 x2 K (fun x6 => (kseq PHI Tb14 N vc11_33 k) .ret (s11_3 x6))) h3) (by kernel_rfl)))
def m11_0 (N : Nat) (x0 x1 x2 : D) (Kr : D → Option R) : Option R :=
  (m11_1 N x0 x1 x2 (fun y0 y1 y2 => (m11_2 N y0 y1 y2 Kr)))
theorem e11_0 (N : Nat) (k : Kn R) (x0 x1 x2 : D) : runC PHI Tb14 N vc11_0 (s11_0 x0 x1 x2) k = m11_0 N x0 x1 x2 (fun x6 => k .ret (s11_3 x6)) := by
  have h2 := e11_1 N (kseq PHI Tb14 N vc11_2 k) x0 x1 x2
  have h3 := (funext fun y0 => funext fun y1 => funext fun y2 => (e11_2 N k y0 y1 y2) : (fun (y0 y1 y2 : D) => (kseq PHI Tb14 N vc11_2 k) .normal (s11_0 y0 y1 y2)) = _)
  refine Eq.trans (runC_seq _ _ _ k) (Eq.trans h2 (Eq.trans (congrArg (fun K => m11_1 N x0 x1 x2 K) h3) (by kernel_rfl)))
theorem r11 (N : Nat) (x0 x1 x2 : D) : runC PHI Tb14 N vf11.body (enterV vf11 [V.f x0, V.f x1, V.f x2] []) (finish vf11) = m11_0 N x0 x1 x2 (fun x6 => finish vf11 .ret (s11_3 x6)) := 
  Eq.trans (runC_pre (s1 := (s11_0 x0 x1 x2)) (by kernel_rfl) _ _) (Eq.trans (e11_0 N (finish vf11) x0 x1 x2) (by kernel_rfl))
end
def Tb11 : CallF := extend Tb14 11 (fn3 (fun _ _ _ => true) fun l a b => .f (.i (sp11 l a b)))
theorem ok11 : FnOk Try.prog PHI Tb11 := FnOk.add3 hPHI ok14 (by kernel_rfl) fun l a b ha _ => ⟨l.toL.length + 1, (r11 _ l a b).trans (by
  have hl := (ha.is 0 rfl rfl).len' (e := 53) (by kernel_rfl)
  simp only [m11_0, m11_1, m11_2, m11_3, m11_4, m11_5, m11_6, m11_33]
  have h := loop_find (fun j i => l11_6 (l.toL.length + 1) j a b l (.i (l.toL.length : Int)) (.i (i : Nat)) (finish vf11 .ret (s11_3 (.i 0))) (fun x6 => finish vf11 .ret (s11_3 x6))) (fun i => !eqb (co l a b i) 0) l.toL.length (finish vf11 .ret (s11_3 (.i 0))) (fun i => finish vf11 .ret (s11_3 (.i (resO l a b i))))
    (fun j i hi => by
      have e1 : ∀ u v : D, sp27 (sp28 a u) (sp28 b v) = T (rowat a u.toI) (rowat b v.toI) := fun u v => t27 _ _
      have e2 : T (rowat a ((l.toL.getD i .nil).at 0).toI) (rowat b ((l.toL.getD i .nil).at 0).toI) = co l a b i := rfl
      simp only [l11_6, m11_7, toI_i, cond_true, ltb_n hi, inb_t hi, at_nat, succ_n hi hl, e1, e2, neg_w (co_r l a b i), resO, eqb_neg]
      cases eqb (co l a b i) 0 <;> cases ((l.toL.getD i .nil).at 1).toB <;> rfl)
    (fun j => by simp only [l11_6, m11_7, toI_i, ltb_self, cond_false])
    l.toL.length 0 (l.toL.length + 1) (by omega) (by omega)
  refine h.trans ?_
  unfold sp11 ordO
  rw [show fst (fun i => !eqb (co l a b i) 0) l.toL.length 0 = foundO l a b from rfl]
  cases leb 0 (foundO l a b) <;> rfl)⟩
def sp12 (l a b : D) : Int := ordO l a b
section
variable {R : Type}
def m12_1 (N : Nat) (x0 x1 x2 : D) (K : D → D → D → Option R) : Option R :=
  K x0 x1 x2
def s12_0 (x0 x1 x2 : D) : St := sts 44 [(0, V.f x0), (1, V.f x1), (2, V.f x2)] []
theorem e12_1 (N : Nat) (k : Kn R) (x0 x1 x2 : D) : runC PHI Tb11 N vc12_1 (s12_0 x0 x1 x2) k = m12_1 N x0 x1 x2 (fun x0 x1 x2 => k .normal (s12_0 x0 x1 x2)) := by
  refine Eq.trans (runC_post _ _ _ k) (Eq.trans (ops_run _ _ _ _) (by kernel_rfl))
def m12_4 (N : Nat) (x0 x1 x2 : D) (K : D → D → D → D → Option R) : Option R :=
  K x0 x1 x2 (D.i 0)
def s12_1 (x0 x1 x2 x7 : D) : St := sts 44 [(0, V.f x0), (1, V.f x1), (2, V.f x2), (7, V.f x7)] []
theorem e12_4 (N : Nat) (k : Kn R) (x0 x1 x2 : D) : runC PHI Tb11 N vc12_4 (s12_0 x0 x1 x2) k = m12_4 N x0 x1 x2 (fun x0 x1 x2 x7 => k .normal (s12_1 x0 x1 x2 x7)) := by
  refine Eq.trans (runC_post _ _ _ k) (Eq.trans (ops_run _ _ _ _) (by kernel_rfl))
def m12_7 (N : Nat) (x0 x1 x2 x7 : D) (K : D → D → D → D → Option R) (K0 : Option R) (Kr : D → Option R) : Option R :=
  (bif (ltb x7.toI (x0.toL.length : Int)) then (bif (inb x7.toI x0.toL.length) then (bif (inb x7.toI x0.toL.length) then (bif (!eqb (sp29 (sp14 x1 ((x0.at (x7.toI : Int).toNat).at 0)) (sp14 x2 ((x0.at (x7.toI : Int).toNat).at 0))) 0) then (bif (inb x7.toI x0.toL.length) then (bif ((x0.at (x7.toI : Int).toNat).at 1).toB then Kr (D.i (IntKind.wrap IntKind.i64 (0 - (sp29 (sp14 x1 ((x0.at (x7.toI : Int).toNat).at 0)) (sp14 x2 ((x0.at (x7.toI : Int).toNat).at 0)))))) else (bif (!eqb (sp29 (sp14 x1 ((x0.at (x7.toI : Int).toNat).at 0)) (sp14 x2 ((x0.at (x7.toI : Int).toNat).at 0))) 0) then Kr (D.i (sp29 (sp14 x1 ((x0.at (x7.toI : Int).toNat).at 0)) (sp14 x2 ((x0.at (x7.toI : Int).toNat).at 0)))) else K x0 x1 x2 (D.i (IntKind.wrap IntKind.i64 (x7.toI + 1))))) else none) else (bif false then Kr (D.i (IntKind.wrap IntKind.i64 (0 - (sp29 (sp14 x1 ((x0.at (x7.toI : Int).toNat).at 0)) (sp14 x2 ((x0.at (x7.toI : Int).toNat).at 0)))))) else (bif (!eqb (sp29 (sp14 x1 ((x0.at (x7.toI : Int).toNat).at 0)) (sp14 x2 ((x0.at (x7.toI : Int).toNat).at 0))) 0) then Kr (D.i (sp29 (sp14 x1 ((x0.at (x7.toI : Int).toNat).at 0)) (sp14 x2 ((x0.at (x7.toI : Int).toNat).at 0)))) else K x0 x1 x2 (D.i (IntKind.wrap IntKind.i64 (x7.toI + 1)))))) else none) else none) else K0)
def s12_2 : St := sts 44 [] []
def s12_3 (x6 : D) : St := sts 44 [(6, V.f x6)] []
theorem e12_7 (N : Nat) (k : Kn R) (x0 x1 x2 x7 : D) : runC PHI Tb11 N vc12_7 (s12_1 x0 x1 x2 x7) k = m12_7 N x0 x1 x2 x7 (fun x0 x1 x2 x7 => k .normal (s12_1 x0 x1 x2 x7)) (k (.exit 0) s12_2) (fun x6 => k .ret (s12_3 x6)) := by kernel_rfl
def l12_6 (N : Nat) (j : Nat) (x0 x1 x2 x7 : D) (K0 : Option R) (Kr : D → Option R) : Option R :=
  match j with
  | 0 => none
  | j + 1 => (m12_7 N x0 x1 x2 x7 (fun y0 y1 y2 y7 => l12_6 N j y0 y1 y2 y7 K0 Kr) K0 Kr)
def m12_6 (N : Nat) (x0 x1 x2 x7 : D) (K0 : Option R) (Kr : D → Option R) : Option R :=
  l12_6 N N x0 x1 x2 x7 K0 Kr
theorem el12_6 (N : Nat) (k : Kn R) : ∀ (j : Nat) (x0 x1 x2 x7 : D), loopGo (runC PHI Tb11 N vc12_7) j (s12_1 x0 x1 x2 x7) k = l12_6 N j x0 x1 x2 x7 (k (.exit 0) s12_2) (fun x6 => k .ret (s12_3 x6))
  | 0, _, _, _, _ => by kernel_rfl
  | j + 1, x0, x1, x2, x7 => by
    have h2 := e12_7 N (kloop PHI Tb11 N vc12_7 j k) x0 x1 x2 x7
    have h3 : (fun (y0 y1 y2 y7 : D) => (kloop PHI Tb11 N vc12_7 j k) .normal (s12_1 y0 y1 y2 y7)) = (fun (y0 y1 y2 y7 : D) => l12_6 N j y0 y1 y2 y7 (k (.exit 0) s12_2) (fun x6 => k .ret (s12_3 x6))) := funext fun y0 => funext fun y1 => funext fun y2 => funext fun y7 => (el12_6 N k j y0 y1 y2 y7)
    refine Eq.trans (loop_succ _ j _ k) (Eq.trans h2 (Eq.trans (congrArg (fun K => m12_7 N x0 x1 x2 x7 K ((kloop PHI Tb11 N vc12_7 j k) (.exit 0) s12_2) (fun x6 => (kloop PHI Tb11 N vc12_7 j k) .ret (s12_3 x6))) h3) (by kernel_rfl)))
theorem e12_6 (N : Nat) (k : Kn R) (x0 x1 x2 x7 : D) : runC PHI Tb11 N vc12_6 (s12_1 x0 x1 x2 x7) k = m12_6 N x0 x1 x2 x7 (k (.exit 0) s12_2) (fun x6 => k .ret (s12_3 x6)) := by
  refine Eq.trans (runC_loop _ _ k) (Eq.trans (el12_6 N k N x0 x1 x2 x7) (by kernel_rfl))
def m12_5 (N : Nat) (x0 x1 x2 x7 : D) (K : Option R) (Kr : D → Option R) : Option R :=
  (m12_6 N x0 x1 x2 x7 (K) Kr)
theorem e12_5 (N : Nat) (k : Kn R) (x0 x1 x2 x7 : D) : runC PHI Tb11 N vc12_5 (s12_1 x0 x1 x2 x7) k = m12_5 N x0 x1 x2 x7 (k .normal s12_2) (fun x6 => k .ret (s12_3 x6)) := by
  refine Eq.trans (runC_block _ _ _ k) (Eq.trans (e12_6 N (kblk 0 k) x0 x1 x2 x7) (by kernel_rfl))
def m12_3 (N : Nat) (x0 x1 x2 : D) (K : Option R) (Kr : D → Option R) : Option R :=
  (m12_4 N x0 x1 x2 (fun y0 y1 y2 y7 => (m12_5 N y0 y1 y2 y7 (K) Kr)))
theorem e12_3 (N : Nat) (k : Kn R) (x0 x1 x2 : D) : runC PHI Tb11 N vc12_3 (s12_0 x0 x1 x2) k = m12_3 N x0 x1 x2 (k .normal s12_2) (fun x6 => k .ret (s12_3 x6)) := by
  have h2 := e12_4 N (kseq PHI Tb11 N vc12_5 k) x0 x1 x2
  have h3 := (funext fun y0 => funext fun y1 => funext fun y2 => funext fun y7 => (e12_5 N k y0 y1 y2 y7) : (fun (y0 y1 y2 y7 : D) => (kseq PHI Tb11 N vc12_5 k) .normal (s12_1 y0 y1 y2 y7)) = _)
  refine Eq.trans (runC_seq _ _ _ k) (Eq.trans h2 (Eq.trans (congrArg (fun K => m12_4 N x0 x1 x2 K) h3) (by kernel_rfl)))
def m12_33 (N : Nat) (Kr : D → Option R) : Option R :=
  Kr (D.i 0)
theorem e12_33 (N : Nat) (k : Kn R) : runC PHI Tb11 N vc12_33 s12_2 k = m12_33 N (fun x6 => k .ret (s12_3 x6)) := by kernel_rfl
def m12_2 (N : Nat) (x0 x1 x2 : D) (Kr : D → Option R) : Option R :=
  (m12_3 N x0 x1 x2 ((m12_33 N Kr)) Kr)
theorem e12_2 (N : Nat) (k : Kn R) (x0 x1 x2 : D) : runC PHI Tb11 N vc12_2 (s12_0 x0 x1 x2) k = m12_2 N x0 x1 x2 (fun x6 => k .ret (s12_3 x6)) := by
  have h2 := e12_3 N (kseq PHI Tb11 N vc12_33 k) x0 x1 x2
  have h3 := ((e12_33 N k ) : ((kseq PHI Tb11 N vc12_33 k) .normal s12_2) = _)
  refine Eq.trans (runC_seq _ _ _ k) (Eq.trans h2 (Eq.trans (congrArg (fun K => m12_3 N x0 x1 x2 K (fun x6 => (kseq PHI Tb11 N vc12_33 k) .ret (s12_3 x6))) h3) (by kernel_rfl)))
def m12_0 (N : Nat) (x0 x1 x2 : D) (Kr : D → Option R) : Option R :=
  (m12_1 N x0 x1 x2 (fun y0 y1 y2 => (m12_2 N y0 y1 y2 Kr)))
theorem e12_0 (N : Nat) (k : Kn R) (x0 x1 x2 : D) : runC PHI Tb11 N vc12_0 (s12_0 x0 x1 x2) k = m12_0 N x0 x1 x2 (fun x6 => k .ret (s12_3 x6)) := by
  have h2 := e12_1 N (kseq PHI Tb11 N vc12_2 k) x0 x1 x2
  have h3 := (funext fun y0 => funext fun y1 => funext fun y2 => (e12_2 N k y0 y1 y2) : (fun (y0 y1 y2 : D) => (kseq PHI Tb11 N vc12_2 k) .normal (s12_0 y0 y1 y2)) = _)
  refine Eq.trans (runC_seq _ _ _ k) (Eq.trans h2 (Eq.trans (congrArg (fun K => m12_1 N x0 x1 x2 K) h3) (by kernel_rfl)))
theorem r12 (N : Nat) (x0 x1 x2 : D) : runC PHI Tb11 N vf12.body (enterV vf12 [V.f x0, V.f x1, V.f x2] []) (finish vf12) = m12_0 N x0 x1 x2 (fun x6 => finish vf12 .ret (s12_3 x6)) := 
  Eq.trans (runC_pre (s1 := (s12_0 x0 x1 x2)) (by kernel_rfl) _ _) (Eq.trans (e12_0 N (finish vf12) x0 x1 x2) (by kernel_rfl))
end
def Tb12 : CallF := extend Tb11 12 (fn3 (fun _ _ _ => true) fun l a b => .f (.i (sp12 l a b)))
theorem ok12 : FnOk Try.prog PHI Tb12 := FnOk.add3 hPHI ok11 (by kernel_rfl) fun l a b ha _ => ⟨l.toL.length + 1, (r12 _ l a b).trans (by
  have hl := (ha.is 0 rfl rfl).len' (e := 53) (by kernel_rfl)
  simp only [m12_0, m12_1, m12_2, m12_3, m12_4, m12_5, m12_6, m12_33]
  have h := loop_find (fun j i => l12_6 (l.toL.length + 1) j l a b (.i (i : Nat)) (finish vf12 .ret (s12_3 (.i 0))) (fun x6 => finish vf12 .ret (s12_3 x6))) (fun i => !eqb (co l a b i) 0) l.toL.length (finish vf12 .ret (s12_3 (.i 0))) (fun i => finish vf12 .ret (s12_3 (.i (resO l a b i))))
    (fun j i hi => by
      have e1 : ∀ u v : D, sp29 (sp14 a u) (sp14 b v) = T (rowat a u.toI) (rowat b v.toI) := fun u v => t29 _ _
      have e2 : T (rowat a ((l.toL.getD i .nil).at 0).toI) (rowat b ((l.toL.getD i .nil).at 0).toI) = co l a b i := rfl
      simp only [l12_6, m12_7, toI_i, cond_true, ltb_n hi, inb_t hi, at_nat, succ_n hi hl, e1, e2, neg_w (co_r l a b i), resO]
      cases eqb (co l a b i) 0 <;> cases ((l.toL.getD i .nil).at 1).toB <;> rfl)
    (fun j => by simp only [l12_6, m12_7, toI_i, ltb_self, cond_false])
    l.toL.length 0 (l.toL.length + 1) (by omega) (by omega)
  refine h.trans ?_
  unfold sp12 ordO
  rw [show fst (fun i => !eqb (co l a b i) 0) l.toL.length 0 = foundO l a b from rfl]
  cases leb 0 (foundO l a b) <;> rfl)⟩
theorem fst_cong {p q : Nat → Bool} (h : ∀ i, p i = q i) : ∀ k i, fst p k i = fst q k i := by
  have : p = q := funext h
  subst this
  intros; rfl
theorem ord_neg (l a b : D) : ordO l b a = - ordO l a b := by
  have hc : ∀ i, co l b a i = - co l a b i := fun i => T_swap _ _
  have hf : foundO l b a = foundO l a b := fst_cong (fun i => by rw [hc, eqb_neg]) _ _
  unfold ordO
  rw [hf]
  cases leb 0 (foundO l a b)
  · rfl
  · unfold resO
    rw [hc]
    cases ((l.toL.getD (foundO l a b).toNat .nil).at 1).toB <;> simp
theorem ord_range (l a b : D) : -1 ≤ ordO l a b ∧ ordO l a b ≤ 1 := by
  unfold ordO
  cases leb 0 (foundO l a b)
  · simp
  · unfold resO
    have := co_r l a b (foundO l a b).toNat
    cases ((l.toL.getD (foundO l a b).toNat .nil).at 1).toB <;> simp only [cond_true, cond_false] <;> omega

end Go.Vam.C14
