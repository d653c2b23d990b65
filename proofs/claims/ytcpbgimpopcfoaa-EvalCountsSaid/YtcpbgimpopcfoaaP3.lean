/- Chapter 14: what functions come to, part 3. No conditions. -/
import Derived.Test.YtcpbgimpopcfoaaP2
import Derived.KernelRfl
set_option linter.unusedVariables false
set_option linter.unusedSimpArgs false
set_option maxRecDepth 100000
namespace Go.Vam.C14
open Go.Proofs
structure Q (x y : D) : Prop where
  k : (x.at 0).toI = (y.at 0).toI
  n : (x.at 1).toI = (y.at 1).toI
  f : FEq (x.at 2).toF (y.at 2).toF
  s : (x.at 3).toS = (y.at 3).toS
  r : -9223372036854775808 ≤ (x.at 1).toI ∧ (x.at 1).toI ≤ 9223372036854775807
theorem Q_z : Q z0 z0 := ⟨rfl, rfl, .inl rfl, rfl, by decide⟩
theorem nan_feq {x y : D} (h : FEq x.toF y.toF) : nan x = nan y := by
  unfold nan
  rcases h with h | ⟨h1, h2⟩
  · rw [h]
  · rw [h1, h2]
theorem fe_feq {x y : D} (h : FEq x.toF y.toF) : Fe x y := ⟨nan_feq h, fun c => (FEq.order h (.inl rfl)).symm, fun c => (FEq.order (.inl rfl) h).symm⟩
theorem canon_cl {x y : D} (h : FEq x.toF y.toF) : FEq (canon x).toF (cl y).toF := by
  have hf := fe_feq h
  unfold canon cl
  rw [s64, feq_o, fne_o, ← hf.l]
  cases hn : nan x
  · simp only [cond_false]
    cases (oo x (.f 0) == some .eq)
    · exact h
    · exact .inl rfl
  · simp only [cond_true]
    rw [(oo_none x (.f 0)).2 (.inl hn)]
    exact .inr ⟨nan98, (hf.n ▸ hn : nan y = true)⟩
theorem Q.clean {x y : D} (h : Q x y) : Q (sp46 x) (sp30 y) := by
  rcases five x with (hk | hk | hk | hk) | hk
  · have e : sp46 x = sp74 (x.at 1) := by unfold sp46; rw [hk]; rfl
    have hk' : (y.at 0).toI = 1 := h.k ▸ hk
    have e' : sp30 y = .ag [y.at 0, y.at 1, .f 0, .s []] := by unfold sp30; rw [hk']; rfl
    rw [e, e']
    exact ⟨hk'.symm, h.n, .inl rfl, rfl, h.r⟩
  · have e : sp46 x = sp81 (x.at 2) := by unfold sp46; rw [hk]; rfl
    have hk' : (y.at 0).toI = 2 := h.k ▸ hk
    have e' : sp30 y = .ag [y.at 0, .i 0, cl (y.at 2), .s []] := by unfold sp30 cl; rw [hk']; rfl
    rw [e, e']
    exact ⟨hk'.symm, rfl, canon_cl h.f, rfl, show (-9223372036854775808 : Int) ≤ 0 ∧ (0 : Int) ≤ 9223372036854775807 by decide⟩
  · have e : sp46 x = sp82 (x.at 3) := by unfold sp46; rw [hk]; rfl
    have hk' : (y.at 0).toI = 3 := h.k ▸ hk
    have e' : sp30 y = .ag [y.at 0, .i 0, .f 0, y.at 3] := by unfold sp30; rw [hk']; rfl
    rw [e, e']
    exact ⟨hk'.symm, rfl, .inl rfl, h.s, show (-9223372036854775808 : Int) ≤ 0 ∧ (0 : Int) ≤ 9223372036854775807 by decide⟩
  · have e : sp46 x = sp53 (.b (!eqb (x.at 1).toI 0)) := by unfold sp46; rw [hk]; rfl
    have hk' : (y.at 0).toI = 4 := h.k ▸ hk
    have e' : sp30 y = .ag [y.at 0, .i (bif !eqb (y.at 1).toI 0 then 1 else 0), .f 0, .s []] := by unfold sp30; rw [hk']; rfl
    rw [e, e', h.n]
    exact ⟨hk'.symm, rfl, .inl rfl, rfl, by
      show -9223372036854775808 ≤ (bif !eqb (y.at 1).toI 0 then (1 : Int) else 0) ∧ (bif !eqb (y.at 1).toI 0 then (1 : Int) else 0) ≤ 9223372036854775807
      cases eqb (y.at 1).toI 0 <;> decide⟩
  · have e : sp46 x = z0 := by unfold sp46; rw [eqb_f hk.1, eqb_f hk.2.1, eqb_f hk.2.2.1, eqb_f hk.2.2.2]; rfl
    rw [e]
    have hk2 := hk
    rw [h.k] at hk2
    by_cases h0 : (y.at 0).toI = 0
    · have e' : sp30 y = .ag [y.at 0, .i 0, .f 0, .s []] := by unfold sp30; rw [h0]; rfl
      rw [e']
      exact ⟨h0.symm, rfl, .inl rfl, rfl, by decide⟩
    · have e' : sp30 y = z0 := by
        unfold sp30
        by_cases h1 : (y.at 0).toI < 0
        · rw [ltb_t h1]; rfl
        · rw [ltb_f h1, ltb_t (show 4 < (y.at 0).toI by omega)]; rfl
      rw [e']
      exact Q_z
def inR (z : Int) : Bool := leb (-9223372036854775808) z && leb z 9223372036854775807
def rs (z : Int) : D := bif inR z then sp74 (.i z) else z0
theorem Q_lit {v : D} (h : Is Try.prog 32 v) : Q (sp46 v) (sp30 v) :=
  Q.clean ⟨rfl, rfl, .inl rfl, rfl, ((h.fld (k := 1) (ft := 2) (off := 1) (by kernel_rfl)).i64 (by kernel_rfl)).2⟩
end Go.Vam.C14
namespace Go.Vam.C14
open Go.Proofs
def rowat (r : D) (i : Int) : D := bif leb 0 i && ltb i (r.toL.length : Int) then r.at i.toNat else z0
theorem inb_lt {i : Int} {n : Nat} : inb i n = (leb 0 i && ltb i (n : Int)) := rfl
def sp14 (r i : D) : D := sp30 (rowat r i.toI)
section
variable {R : Type}
def m14_0 (N : Nat) (x0 x1 : D) (Kr : D → Option R) : Option R :=
  (bif (ltb x1.toI 0) then (bif true then Kr (D.p (D.ag [(D.i 0), (D.i 0), (D.f 0), (D.s [])])) else (bif (inb x1.toI x0.toL.length) then Kr (D.p (sp30 (x0.at (x1.toI : Int).toNat))) else none)) else (bif (leb (x0.toL.length : Int) x1.toI) then Kr (D.p (D.ag [(D.i 0), (D.i 0), (D.f 0), (D.s [])])) else (bif (inb x1.toI x0.toL.length) then Kr (D.p (sp30 (x0.at (x1.toI : Int).toNat))) else none)))
def s14_0 (x0 x1 : D) : St := sts 19 [(0, V.f x0), (1, V.f x1)] []
def s14_1 (x4 : D) : St := sts 19 [(4, V.f x4)] []
theorem e14_0 (N : Nat) (k : Kn R) (x0 x1 : D) : runC PHI Tb51 N vc14_0 (s14_0 x0 x1) k = m14_0 N x0 x1 (fun x4 => k .ret (s14_1 x4)) := by kernel_rfl
theorem r14 (N : Nat) (x0 x1 : D) : runC PHI Tb51 N vf14.body (enterV vf14 [V.f x0, V.f x1] []) (finish vf14) = m14_0 N x0 x1 (fun x4 => finish vf14 .ret (s14_1 x4)) := 
  Eq.trans (runC_pre (s1 := (s14_0 x0 x1)) (by kernel_rfl) _ _) (Eq.trans (e14_0 N (finish vf14) x0 x1) (by kernel_rfl))
end
def Tb14 : CallF := extend Tb51 14 (fn2 (fun _ _ => true) fun r i => .f (sp14 r i))
theorem ok14 : FnOk Try.prog PHI Tb14 := FnOk.add2 hPHI ok51 (by kernel_rfl) fun r i _ _ => ⟨0, (r14 0 r i).trans (by
  simp only [m14_0, inb_lt, sp14, rowat]
  by_cases h0 : 0 ≤ i.toI
  · by_cases h1 : i.toI < (r.toL.length : Int)
    · rw [leb_t h0, ltb_t h1, ltb_f (show ¬ i.toI < 0 by omega), leb_f (show ¬ (r.toL.length : Int) ≤ i.toI by omega)]; rfl
    · rw [leb_t h0, ltb_f h1, ltb_f (show ¬ i.toI < 0 by omega), leb_t (show (r.toL.length : Int) ≤ i.toI by omega)]; rfl
  · rw [leb_f h0, ltb_t (show i.toI < 0 by omega)]; rfl)⟩
def depOk : Nat → D → Bool
  | 0, _ => false
  | n + 1, d => (d.at 6).toL.all (depOk n)
theorem depOk_size : ∀ (n : Nat) (d : D), d.wt ≤ n → depOk n d = true
  | 0, d, h => by have := D.wt_pos d; omega
  | n + 1, d, h => by
    rw [depOk, List.all_eq_true]
    intro x hx
    have h1 := D.wt_mem hx
    have h2 := D.wt_at d 6
    exact depOk_size n x (by omega)
def argO (f : D → D) (n : D) (i : Nat) : D := bif ltb (i : Int) ((n.at 6).toL.length : Int) then f ((n.at 6).toL.getD i .nil) else z0
def evA : Nat → D → D → D
  | 0, _, _ => z0
  | m + 1, n, r =>
    bif eqb (n.at 0).toI 1 then sp46 (n.at 2) else bif eqb (n.at 0).toI 2 then sp46 (rowat r (n.at 3).toI) else
    bif eqb (n.at 0).toI 3 then sp47 (argO (fun x => evA m x r) n 0) else bif eqb (n.at 0).toI 4 then sp48 (argO (fun x => evA m x r) n 0) else
    bif eqb (n.at 0).toI 5 then sp49 (argO (fun x => evA m x r) n 0) (argO (fun x => evA m x r) n 1) else bif eqb (n.at 0).toI 6 then sp50 (argO (fun x => evA m x r) n 0) (argO (fun x => evA m x r) n 1) else
    bif eqb (n.at 0).toI 7 then sp51 (n.at 1) (argO (fun x => evA m x r) n 0) (argO (fun x => evA m x r) n 1) else bif eqb (n.at 0).toI 8 then sp52 (n.at 1) (argO (fun x => evA m x r) n 0) (argO (fun x => evA m x r) n 1) else
    bif eqb (n.at 0).toI 9 then sp53 (.b (eqb ((argO (fun x => evA m x r) n 0).at 0).toI 0 != (n.at 4).toB)) else z0
def spx23 (m : Nat) (n r : D) : D := evA m n r
def prx23 (m : Nat) (n _ : D) : Bool := depOk m n
def Tx23 (m : Nat) : CallF := extend Tb14 23 (fn2 (prx23 m) fun n r => .f (spx23 m n r))
def spx45 (m : Nat) (i n r : D) : D := argO (fun x => evA m x r.deref) n.deref i.toI.toNat
def prx45 (m : Nat) (i n r : D) : Bool := leb 0 i.toI && (isPtrD n && (isPtrD r && (n.deref.at 6).toL.all (depOk m)))
section
variable {R : Type}
def m45_0 (n N : Nat) (x0 x1 x2 : D) (Kr : D → Option R) : Option R :=
  (bif (isPtrD x1) then (bif (ltb x0.toI ((x1.deref.at 6).toL.length : Int)) then (bif (isPtrD x1) then (bif (inb x0.toI (x1.deref.at 6).toL.length) then (bif (isPtrD x2) then (bif (prx23 n ((x1.deref.at 6).at (x0.toI : Int).toNat) x2.deref) then Kr (D.p (spx23 n ((x1.deref.at 6).at (x0.toI : Int).toNat) x2.deref)) else none) else none) else none) else none) else Kr (D.p (D.ag [(D.i 0), (D.i 0), (D.f 0), (D.s [])]))) else none)
def s45_0 (x0 x1 x2 : D) : St := sts 18 [(0, V.f x0), (1, V.f x1), (2, V.f x2)] []
def s45_1 (x4 : D) : St := sts 18 [(4, V.f x4)] []
theorem e45_0 (n N : Nat) (k : Kn R) (x0 x1 x2 : D) : runC PHI (Tx23 n) N vc45_0 (s45_0 x0 x1 x2) k = m45_0 n N x0 x1 x2 (fun x4 => k .ret (s45_1 x4)) := by kernel_rfl
theorem r45 (n N : Nat) (x0 x1 x2 : D) : runC PHI (Tx23 n) N vf45.body (enterV vf45 [V.f x0, V.f x1, V.f x2] []) (finish vf45) = m45_0 n N x0 x1 x2 (fun x4 => finish vf45 .ret (s45_1 x4)) := 
  Eq.trans (runC_pre (s1 := (s45_0 x0 x1 x2)) (by kernel_rfl) _ _) (Eq.trans (e45_0 n N (finish vf45) x0 x1 x2) (by kernel_rfl))
end
def Tx45 (m : Nat) : CallF := extend (Tx23 m) 45 (fn3 (prx45 m) fun i n r => .f (spx45 m i n r))
theorem okx45 (m : Nat) (h : FnOk Try.prog PHI (Tx23 m)) : FnOk Try.prog PHI (Tx45 m) := FnOk.add3 hPHI h (by kernel_rfl) fun i n r ha hp => ⟨0, (r45 m 0 i n r).trans (by
  simp only [prx45, Bool.and_eq_true, List.all_eq_true] at hp
  obtain ⟨h0, h1, h2, h3⟩ := hp
  have h0' : 0 ≤ i.toI := of_decide_eq_true h0
  obtain ⟨k, hk⟩ := Int.eq_ofNat_of_zero_le h0'
  unfold m45_0 spx45 argO
  rw [h1, h2, hk]
  simp only [cond_true, Int.toNat_natCast]
  by_cases hlt : k < (n.deref.at 6).toL.length
  · rw [ltb_n hlt, inb_t hlt, show (n.deref.at 6).at k = (n.deref.at 6).toL.getD k .nil from rfl]
    have e : (n.deref.at 6).toL.getD k .nil = (n.deref.at 6).toL[k] := by rw [List.getD_eq_getElem?_getD, List.getElem?_eq_getElem hlt]; rfl
    have hd := h3 _ (List.getElem_mem hlt)
    have : prx23 m ((n.deref.at 6).toL.getD k .nil) r.deref = true := by rw [e]; exact hd
    rw [this]; rfl
  · rw [ltb_f (show ¬ (k : Int) < ((n.deref.at 6).toL.length : Int) by omega)]; rfl)⟩
section
variable {R : Type}
def m23_1 (n N : Nat) (x0 x1 : D) (K : D → D → Option R) : Option R :=
  K (D.p x0) (D.p x1)
def s23_0 (x0 x1 : D) : St := sts 85 [(0, V.f x0), (1, V.f x1)] []
def s23_1 (x2 x3 : D) : St := sts 85 [(2, V.f x2), (3, V.f x3), (4, V.a)] []
theorem e23_1 (n N : Nat) (k : Kn R) (x0 x1 : D) : runC PHI (Tx45 n) N vc23_1 (s23_0 x0 x1) k = m23_1 n N x0 x1 (fun x2 x3 => k .normal (s23_1 x2 x3)) := by
  refine Eq.trans (runC_post _ _ _ k) (Eq.trans (ops_run _ _ _ _) (by kernel_rfl))
def m23_3 (n N : Nat) (x2 x3 : D) (K : D → D → D → D → Option R) : Option R :=
  K x2 x3 x2 x3
def s23_2 (x2 x3 x5_0 x5_1 : D) : St := sts 85 [(2, V.f x2), (3, V.f x3), (4, V.a), (5, V.fn 45 [V.f x5_0, V.f x5_1] [Ty.p 35, Ty.p 23])] []
theorem e23_3 (n N : Nat) (k : Kn R) (x2 x3 : D) : runC PHI (Tx45 n) N vc23_3 (s23_1 x2 x3) k = m23_3 n N x2 x3 (fun x2 x3 x5_0 x5_1 => k .normal (s23_2 x2 x3 x5_0 x5_1)) := by
  refine Eq.trans (runC_post _ _ _ k) (Eq.trans (ops_run _ _ _ _) (by kernel_rfl))
def m23_6 (n N : Nat) (x2 x3 x5_0 x5_1 : D) (K : D → D → D → D → D → Option R) : Option R :=
  (bif (isPtrD x2) then K x2 x3 x5_0 x5_1 (x2.deref.at 0) else none)
def s23_3 (x2 x3 x5_0 x5_1 x8 : D) : St := sts 85 [(2, V.f x2), (3, V.f x3), (4, V.a), (5, V.fn 45 [V.f x5_0, V.f x5_1] [Ty.p 35, Ty.p 23]), (8, V.f x8)] []
theorem e23_6 (n N : Nat) (k : Kn R) (x2 x3 x5_0 x5_1 : D) : runC PHI (Tx45 n) N vc23_6 (s23_2 x2 x3 x5_0 x5_1) k = m23_6 n N x2 x3 x5_0 x5_1 (fun x2 x3 x5_0 x5_1 x8 => k .normal (s23_3 x2 x3 x5_0 x5_1 x8)) := by
  refine Eq.trans (runC_post _ _ _ k) (Eq.trans (ops_run _ _ _ _) (by kernel_rfl))
def m23_9 (n N : Nat) (x2 x3 x5_0 x5_1 x8 : D) (K : D → D → D → D → D → D → Option R) : Option R :=
  K x2 x3 x5_0 x5_1 x8 (D.b (eqb x8.toI 1))
def s23_4 (x2 x3 x5_0 x5_1 x8 x9 : D) : St := sts 85 [(2, V.f x2), (3, V.f x3), (4, V.a), (5, V.fn 45 [V.f x5_0, V.f x5_1] [Ty.p 35, Ty.p 23]), (8, V.f x8), (9, V.f x9)] []
theorem e23_9 (n N : Nat) (k : Kn R) (x2 x3 x5_0 x5_1 x8 : D) : runC PHI (Tx45 n) N vc23_9 (s23_3 x2 x3 x5_0 x5_1 x8) k = m23_9 n N x2 x3 x5_0 x5_1 x8 (fun x2 x3 x5_0 x5_1 x8 x9 => k .normal (s23_4 x2 x3 x5_0 x5_1 x8 x9)) := by
  refine Eq.trans (runC_post _ _ _ k) (Eq.trans (ops_run _ _ _ _) (by kernel_rfl))
def m23_11 (n N : Nat) (x2 : D) (Kr : D → Option R) : Option R :=
  (bif (isPtrD x2) then Kr (D.p (sp46 (x2.deref.at 2))) else none)
def s23_5 (x2 : D) : St := sts 85 [(2, V.f x2), (4, V.a)] []
def s23_6 (x4 : D) : St := sts 85 [(4, V.f x4)] []
theorem e23_11 (n N : Nat) (k : Kn R) (x2 : D) : runC PHI (Tx45 n) N vc23_11 (s23_5 x2) k = m23_11 n N x2 (fun x4 => k .ret (s23_6 x4)) := by kernel_rfl
def m23_15 (n N : Nat) (x2 x3 x5_0 x5_1 x8 : D) (K : D → D → D → D → D → D → Option R) : Option R :=
  K x2 x3 x5_0 x5_1 x8 (D.b (eqb x8.toI 2))
def s23_7 (x2 x3 x5_0 x5_1 x8 x14 : D) : St := sts 85 [(2, V.f x2), (3, V.f x3), (4, V.a), (5, V.fn 45 [V.f x5_0, V.f x5_1] [Ty.p 35, Ty.p 23]), (8, V.f x8), (14, V.f x14)] []
theorem e23_15 (n N : Nat) (k : Kn R) (x2 x3 x5_0 x5_1 x8 : D) : runC PHI (Tx45 n) N vc23_15 (s23_3 x2 x3 x5_0 x5_1 x8) k = m23_15 n N x2 x3 x5_0 x5_1 x8 (fun x2 x3 x5_0 x5_1 x8 x14 => k .normal (s23_7 x2 x3 x5_0 x5_1 x8 x14)) := by
  refine Eq.trans (runC_post _ _ _ k) (Eq.trans (ops_run _ _ _ _) (by kernel_rfl))
def m23_17 (n N : Nat) (x2 x3 : D) (K : Option R) (Kr : D → Option R) : Option R :=
  (bif (isPtrD x2) then (bif (leb 0 (x2.deref.at 3).toI) then (bif (isPtrD x2) then (bif (isPtrD x3) then (bif (ltb (x2.deref.at 3).toI (x3.deref.toL.length : Int)) then (bif (isPtrD x3) then (bif (isPtrD x2) then (bif (inb (x2.deref.at 3).toI x3.deref.toL.length) then Kr (D.p (sp46 (x3.deref.at ((x2.deref.at 3).toI : Int).toNat))) else none) else none) else none) else K) else none) else none) else (bif false then (bif (isPtrD x3) then (bif (isPtrD x2) then (bif (inb (x2.deref.at 3).toI x3.deref.toL.length) then Kr (D.p (sp46 (x3.deref.at ((x2.deref.at 3).toI : Int).toNat))) else none) else none) else none) else K)) else none)
def s23_8 : St := sts 85 [(4, V.a)] []
theorem e23_17 (n N : Nat) (k : Kn R) (x2 x3 : D) : runC PHI (Tx45 n) N vc23_17 (s23_1 x2 x3) k = m23_17 n N x2 x3 (k .normal s23_8) (fun x4 => k .ret (s23_6 x4)) := by kernel_rfl
def m23_24 (n N : Nat) (x2 x5_0 x5_1 x8 : D) (K : Option R) (Kr : D → Option R) : Option R :=
  (bif (eqb x8.toI 3) then (bif (prx45 n (D.i 0) x5_0 x5_1) then Kr (D.p (sp47 (spx45 n (D.i 0) x5_0 x5_1))) else none) else (bif (eqb x8.toI 4) then (bif (prx45 n (D.i 0) x5_0 x5_1) then Kr (D.p (sp48 (spx45 n (D.i 0) x5_0 x5_1))) else none) else (bif (eqb x8.toI 5) then (bif (prx45 n (D.i 0) x5_0 x5_1) then (bif (prx45 n (D.i 1) x5_0 x5_1) then Kr (D.p (sp49 (spx45 n (D.i 0) x5_0 x5_1) (spx45 n (D.i 1) x5_0 x5_1))) else none) else none) else (bif (eqb x8.toI 6) then (bif (prx45 n (D.i 0) x5_0 x5_1) then (bif (prx45 n (D.i 1) x5_0 x5_1) then Kr (D.p (sp50 (spx45 n (D.i 0) x5_0 x5_1) (spx45 n (D.i 1) x5_0 x5_1))) else none) else none) else (bif (eqb x8.toI 7) then (bif (isPtrD x2) then (bif (prx45 n (D.i 0) x5_0 x5_1) then (bif (prx45 n (D.i 1) x5_0 x5_1) then Kr (D.p (sp51 (x2.deref.at 1) (spx45 n (D.i 0) x5_0 x5_1) (spx45 n (D.i 1) x5_0 x5_1))) else none) else none) else none) else (bif (eqb x8.toI 8) then (bif (isPtrD x2) then (bif (prx45 n (D.i 0) x5_0 x5_1) then (bif (prx45 n (D.i 1) x5_0 x5_1) then Kr (D.p (sp52 (x2.deref.at 1) (spx45 n (D.i 0) x5_0 x5_1) (spx45 n (D.i 1) x5_0 x5_1))) else none) else none) else none) else (bif (eqb x8.toI 9) then (bif (prx45 n (D.i 0) x5_0 x5_1) then (bif (isPtrD x2) then Kr (D.p (sp53 (D.b ((eqb ((spx45 n (D.i 0) x5_0 x5_1).at 0).toI 0) != (x2.deref.at 4).toB)))) else none) else none) else K)))))))
def s23_9 (x2 x5_0 x5_1 x8 : D) : St := sts 85 [(2, V.f x2), (4, V.a), (5, V.fn 45 [V.f x5_0, V.f x5_1] [Ty.p 35, Ty.p 23]), (8, V.f x8)] []
theorem e23_24 (n N : Nat) (k : Kn R) (x2 x5_0 x5_1 x8 : D) : runC PHI (Tx45 n) N vc23_24 (s23_9 x2 x5_0 x5_1 x8) k = m23_24 n N x2 x5_0 x5_1 x8 (k .normal s23_8) (fun x4 => k .ret (s23_6 x4)) := by kernel_rfl
def m23_16 (n N : Nat) (x2 x3 x5_0 x5_1 x8 x14 : D) (K : Option R) (Kr : D → Option R) : Option R :=
  (bif x14.toB then (m23_17 n N x2 x3 (K) Kr) else (m23_24 n N x2 x5_0 x5_1 x8 (K) Kr))
theorem e23_16 (n N : Nat) (k : Kn R) (x2 x3 x5_0 x5_1 x8 x14 : D) : runC PHI (Tx45 n) N vc23_16 (s23_7 x2 x3 x5_0 x5_1 x8 x14) k = m23_16 n N x2 x3 x5_0 x5_1 x8 x14 (k .normal s23_8) (fun x4 => k .ret (s23_6 x4)) := by
  refine Eq.trans (runC_cond (s1 := (s23_1 x2 x3)) (s2 := (s23_9 x2 x5_0 x5_1 x8)) (d := x14) _ _ k (by kernel_rfl) (by kernel_rfl) (by kernel_rfl)) (Eq.trans (congr (congrArg (cond x14.toB) ((e23_17 n N k x2 x3))) ((e23_24 n N k x2 x5_0 x5_1 x8))) (by kernel_rfl))
def m23_14 (n N : Nat) (x2 x3 x5_0 x5_1 x8 : D) (K : Option R) (Kr : D → Option R) : Option R :=
  (m23_15 n N x2 x3 x5_0 x5_1 x8 (fun y2 y3 y5_0 y5_1 y8 y14 => (m23_16 n N y2 y3 y5_0 y5_1 y8 y14 (K) Kr)))
theorem e23_14 (n N : Nat) (k : Kn R) (x2 x3 x5_0 x5_1 x8 : D) : runC PHI (Tx45 n) N vc23_14 (s23_3 x2 x3 x5_0 x5_1 x8) k = m23_14 n N x2 x3 x5_0 x5_1 x8 (k .normal s23_8) (fun x4 => k .ret (s23_6 x4)) := by
  have h2 := e23_15 n N (kseq PHI (Tx45 n) N vc23_16 k) x2 x3 x5_0 x5_1 x8
  have h3 := (funext fun y2 => funext fun y3 => funext fun y5_0 => funext fun y5_1 => funext fun y8 => funext fun y14 => (e23_16 n N k y2 y3 y5_0 y5_1 y8 y14) : (fun (y2 y3 y5_0 y5_1 y8 y14 : D) => (kseq PHI (Tx45 n) N vc23_16 k) .normal (s23_7 y2 y3 y5_0 y5_1 y8 y14)) = _)
  refine Eq.trans (runC_seq _ _ _ k) (Eq.trans h2 (Eq.trans (congrArg (fun K => m23_15 n N x2 x3 x5_0 x5_1 x8 K) h3) (by kernel_rfl)))
def m23_10 (n N : Nat) (x2 x3 x5_0 x5_1 x8 x9 : D) (K : Option R) (Kr : D → Option R) : Option R :=
  (bif x9.toB then (m23_11 n N x2 Kr) else (m23_14 n N x2 x3 x5_0 x5_1 x8 (K) Kr))
theorem e23_10 (n N : Nat) (k : Kn R) (x2 x3 x5_0 x5_1 x8 x9 : D) : runC PHI (Tx45 n) N vc23_10 (s23_4 x2 x3 x5_0 x5_1 x8 x9) k = m23_10 n N x2 x3 x5_0 x5_1 x8 x9 (k .normal s23_8) (fun x4 => k .ret (s23_6 x4)) := by
  refine Eq.trans (runC_cond (s1 := (s23_5 x2)) (s2 := (s23_3 x2 x3 x5_0 x5_1 x8)) (d := x9) _ _ k (by kernel_rfl) (by kernel_rfl) (by kernel_rfl)) (Eq.trans (congr (congrArg (cond x9.toB) ((e23_11 n N k x2))) ((e23_14 n N k x2 x3 x5_0 x5_1 x8))) (by kernel_rfl))
def m23_8 (n N : Nat) (x2 x3 x5_0 x5_1 x8 : D) (K : Option R) (Kr : D → Option R) : Option R :=
  (m23_9 n N x2 x3 x5_0 x5_1 x8 (fun y2 y3 y5_0 y5_1 y8 y9 => (m23_10 n N y2 y3 y5_0 y5_1 y8 y9 (K) Kr)))
theorem e23_8 (n N : Nat) (k : Kn R) (x2 x3 x5_0 x5_1 x8 : D) : runC PHI (Tx45 n) N vc23_8 (s23_3 x2 x3 x5_0 x5_1 x8) k = m23_8 n N x2 x3 x5_0 x5_1 x8 (k .normal s23_8) (fun x4 => k .ret (s23_6 x4)) := by
  have h2 := e23_9 n N (kseq PHI (Tx45 n) N vc23_10 k) x2 x3 x5_0 x5_1 x8
  have h3 := (funext fun y2 => funext fun y3 => funext fun y5_0 => funext fun y5_1 => funext fun y8 => funext fun y9 => (e23_10 n N k y2 y3 y5_0 y5_1 y8 y9) : (fun (y2 y3 y5_0 y5_1 y8 y9 : D) => (kseq PHI (Tx45 n) N vc23_10 k) .normal (s23_4 y2 y3 y5_0 y5_1 y8 y9)) = _)
  refine Eq.trans (runC_seq _ _ _ k) (Eq.trans h2 (Eq.trans (congrArg (fun K => m23_9 n N x2 x3 x5_0 x5_1 x8 K) h3) (by kernel_rfl)))
def m23_7 (n N : Nat) (x2 x3 x5_0 x5_1 x8 : D) (K : Option R) (Kr : D → Option R) : Option R :=
  (m23_8 n N x2 x3 x5_0 x5_1 x8 (K) Kr)
theorem e23_7 (n N : Nat) (k : Kn R) (x2 x3 x5_0 x5_1 x8 : D) : runC PHI (Tx45 n) N vc23_7 (s23_3 x2 x3 x5_0 x5_1 x8) k = m23_7 n N x2 x3 x5_0 x5_1 x8 (k .normal s23_8) (fun x4 => k .ret (s23_6 x4)) := by
  refine Eq.trans (runC_block _ _ _ k) (Eq.trans (e23_8 n N (kblk 0 k) x2 x3 x5_0 x5_1 x8) (by kernel_rfl))
def m23_5 (n N : Nat) (x2 x3 x5_0 x5_1 : D) (K : Option R) (Kr : D → Option R) : Option R :=
  (m23_6 n N x2 x3 x5_0 x5_1 (fun y2 y3 y5_0 y5_1 y8 => (m23_7 n N y2 y3 y5_0 y5_1 y8 (K) Kr)))
theorem e23_5 (n N : Nat) (k : Kn R) (x2 x3 x5_0 x5_1 : D) : runC PHI (Tx45 n) N vc23_5 (s23_2 x2 x3 x5_0 x5_1) k = m23_5 n N x2 x3 x5_0 x5_1 (k .normal s23_8) (fun x4 => k .ret (s23_6 x4)) := by
  have h2 := e23_6 n N (kseq PHI (Tx45 n) N vc23_7 k) x2 x3 x5_0 x5_1
  have h3 := (funext fun y2 => funext fun y3 => funext fun y5_0 => funext fun y5_1 => funext fun y8 => (e23_7 n N k y2 y3 y5_0 y5_1 y8) : (fun (y2 y3 y5_0 y5_1 y8 : D) => (kseq PHI (Tx45 n) N vc23_7 k) .normal (s23_3 y2 y3 y5_0 y5_1 y8)) = _)
  refine Eq.trans (runC_seq _ _ _ k) (Eq.trans h2 (Eq.trans (congrArg (fun K => m23_6 n N x2 x3 x5_0 x5_1 K) h3) (by kernel_rfl)))
def m23_67 (n N : Nat) (Kr : D → Option R) : Option R :=
  Kr (D.p (D.ag [(D.i 0), (D.i 0), (D.f 0), (D.s [])]))
theorem e23_67 (n N : Nat) (k : Kn R) : runC PHI (Tx45 n) N vc23_67 s23_8 k = m23_67 n N (fun x4 => k .ret (s23_6 x4)) := by kernel_rfl
def m23_4 (n N : Nat) (x2 x3 x5_0 x5_1 : D) (Kr : D → Option R) : Option R :=
  (m23_5 n N x2 x3 x5_0 x5_1 ((m23_67 n N Kr)) Kr)
theorem e23_4 (n N : Nat) (k : Kn R) (x2 x3 x5_0 x5_1 : D) : runC PHI (Tx45 n) N vc23_4 (s23_2 x2 x3 x5_0 x5_1) k = m23_4 n N x2 x3 x5_0 x5_1 (fun x4 => k .ret (s23_6 x4)) := by
  have h2 := e23_5 n N (kseq PHI (Tx45 n) N vc23_67 k) x2 x3 x5_0 x5_1
  have h3 := ((e23_67 n N k ) : ((kseq PHI (Tx45 n) N vc23_67 k) .normal s23_8) = _)
  refine Eq.trans (runC_seq _ _ _ k) (Eq.trans h2 (Eq.trans (congrArg (fun K => m23_5 n N x2 x3 x5_0 x5_1 K (fun x4 => (kseq PHI (Tx45 n) N vc23_67 k) .ret (s23_6 x4))) h3) (by kernel_rfl)))
def m23_2 (n N : Nat) (x2 x3 : D) (Kr : D → Option R) : Option R :=
  (m23_3 n N x2 x3 (fun y2 y3 y5_0 y5_1 => (m23_4 n N y2 y3 y5_0 y5_1 Kr)))
theorem e23_2 (n N : Nat) (k : Kn R) (x2 x3 : D) : runC PHI (Tx45 n) N vc23_2 (s23_1 x2 x3) k = m23_2 n N x2 x3 (fun x4 => k .ret (s23_6 x4)) := by
  have h2 := e23_3 n N (kseq PHI (Tx45 n) N vc23_4 k) x2 x3
  have h3 := (funext fun y2 => funext fun y3 => funext fun y5_0 => funext fun y5_1 => (e23_4 n N k y2 y3 y5_0 y5_1) : (fun (y2 y3 y5_0 y5_1 : D) => (kseq PHI (Tx45 n) N vc23_4 k) .normal (s23_2 y2 y3 y5_0 y5_1)) = _)
  refine Eq.trans (runC_seq _ _ _ k) (Eq.trans h2 (Eq.trans (congrArg (fun K => m23_3 n N x2 x3 K) h3) (by kernel_rfl)))
def m23_0 (n N : Nat) (x0 x1 : D) (Kr : D → Option R) : Option R :=
  (m23_1 n N x0 x1 (fun y2 y3 => (m23_2 n N y2 y3 Kr)))
theorem e23_0 (n N : Nat) (k : Kn R) (x0 x1 : D) : runC PHI (Tx45 n) N vc23_0 (s23_0 x0 x1) k = m23_0 n N x0 x1 (fun x4 => k .ret (s23_6 x4)) := by
  have h2 := e23_1 n N (kseq PHI (Tx45 n) N vc23_2 k) x0 x1
  have h3 := (funext fun y2 => funext fun y3 => (e23_2 n N k y2 y3) : (fun (y2 y3 : D) => (kseq PHI (Tx45 n) N vc23_2 k) .normal (s23_1 y2 y3)) = _)
  refine Eq.trans (runC_seq _ _ _ k) (Eq.trans h2 (Eq.trans (congrArg (fun K => m23_1 n N x0 x1 K) h3) (by kernel_rfl)))
theorem r23 (n N : Nat) (x0 x1 : D) : runC PHI (Tx45 n) N vf23.body (enterV vf23 [V.f x0, V.f x1] []) (finish vf23) = m23_0 n N x0 x1 (fun x4 => finish vf23 .ret (s23_6 x4)) := 
  Eq.trans (runC_pre (s1 := (s23_0 x0 x1)) (by kernel_rfl) _ _) (Eq.trans (e23_0 n N (finish vf23) x0 x1) (by kernel_rfl))
end
theorem okx23 : ∀ m, FnOk Try.prog PHI (Tx23 m) := by
  refine FnOk.rec2 Try.prog PHI hPHI ok14 (vf := vf23) (by kernel_rfl) (fun m => fn2 (prx23 m) fun n r => .f (spx23 m n r)) (fun args => ?_) (fun m hm => ⟨Tx45 m, okx45 m hm, fun args r H' ha hr => ?_⟩)
  · unfold fn2; split <;> rfl
  · unfold fn2 at hr
    split at hr
    · rename_i n r
      obtain ⟨h1, h2⟩ := toO_some hr
      injection h2 with h2 h3; subst h2; subst h3
      refine ⟨0, (r23 m 0 n r).trans ?_⟩
      have p : ∀ i, 0 ≤ i → prx45 m (.i i) (.p n) (.p r) = true := fun i hi => by
        simp only [prx45, toI_i, leb_t hi, isPtr_p, deref_p, Bool.true_and]
        exact h1
      have s : ∀ i : Nat, spx45 m (.i (i : Int)) (.p n) (.p r) = argO (fun x => evA m x r) n i := fun i => rfl
      simp only [m23_1, m23_3, m23_6, m23_9, m23_11, m23_15, m23_17, m23_24, m23_16, m23_14, m23_10, m23_8, m23_7, m23_5, m23_67, m23_4, m23_2, m23_0, isPtr_p, deref_p, toB_b, cond_true, p 0 (by omega), p 1 (by omega), s 0, s 1, show spx45 m (.i 0) (.p n) (.p r) = argO (fun x => evA m x r) n 0 from rfl, show spx45 m (.i 1) (.p n) (.p r) = argO (fun x => evA m x r) n 1 from rfl, inb_lt]
      show _ = some (V.f (evA (m + 1) n r), [])
      rw [evA]
      cases eqb (n.at 0).toI 1
      · cases eqb (n.at 0).toI 2
        · cases eqb (n.at 0).toI 3
          · cases eqb (n.at 0).toI 4
            · cases eqb (n.at 0).toI 5
              · cases eqb (n.at 0).toI 6
                · cases eqb (n.at 0).toI 7
                  · cases eqb (n.at 0).toI 8
                    · cases eqb (n.at 0).toI 9 <;> rfl
                    · rfl
                  · rfl
                · rfl
              · rfl
            · rfl
          · rfl
        · unfold rowat
          cases leb 0 (n.at 3).toI <;> cases ltb (n.at 3).toI (r.toL.length : Int) <;> rfl
      · rfl
    · cases hr
def sp23 (n r : D) : D := evA n.wt n r
def pr23 (_ _ : D) : Bool := true
def Tb23 : CallF := extend Tb14 23 (fn2 pr23 fun n r => .f (sp23 n r))
theorem ok23 : FnOk Try.prog PHI Tb23 := FnOk.lim okx23 fun args r hr => by
  unfold fn2 at hr
  split at hr
  · rename_i n r
    refine ⟨n.wt, ?_⟩
    show toO (prx23 n.wt n r, _, _) = _
    rw [show prx23 n.wt n r = true from depOk_size _ _ (Nat.le_refl _)]
    exact hr
  · cases hr
theorem Q_row {r : D} (h : Is Try.prog 23 r) (i : Int) : Q (sp46 (rowat r i)) (sp30 (rowat r i)) := by
  unfold rowat
  cases hc : leb 0 i && ltb i (r.toL.length : Int)
  · exact Q_z.clean
  · simp only [cond_true]
    rw [Bool.and_eq_true] at hc
    have h0 : 0 ≤ i := of_decide_eq_true hc.1
    have h1 : i < (r.toL.length : Int) := of_decide_eq_true hc.2
    have hi : i.toNat < r.toL.length := by omega
    have e : r.at i.toNat = r.toL[i.toNat] := by
      unfold D.at; rw [List.getD_eq_getElem?_getD, List.getElem?_eq_getElem hi]; rfl
    rw [e]
    exact Q_lit (h.elem (e := 32) (by kernel_rfl) _ (List.getElem_mem hi))
end Go.Vam.C14
