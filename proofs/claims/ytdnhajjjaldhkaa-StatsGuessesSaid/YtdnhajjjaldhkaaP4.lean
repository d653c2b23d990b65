/- Chapter 15: what functions come to, part 4. No conditions. -/
import Derived.Test.YtdnhajjjaldhkaaP3
import Derived.KernelRfl
set_option linter.unusedVariables false
set_option linter.unusedSimpArgs false
set_option maxRecDepth 100000
namespace Go.Vam.C15
open Go.Proofs
def rowat (r : D) (i : Int) : D := bif leb 0 i && ltb i (r.toL.length : Int) then r.at i.toNat else z0
theorem inb_lt {i : Int} {n : Nat} : inb i n = (leb 0 i && ltb i (n : Int)) := rfl
def sp65 (r i : D) : D := sp10 (rowat r i.toI)
section
variable {R : Type}
def m65_0 (N : Nat) (x0 x1 : D) (Kr : D → Option R) : Option R :=
  (bif (ltb x1.toI 0) then (bif true then Kr (D.p (D.ag [(D.i 0), (D.i 0), (D.f 0), (D.s [])])) else (bif (inb x1.toI x0.toL.length) then Kr (D.p (sp10 (x0.at (x1.toI : Int).toNat))) else none)) else (bif (leb (x0.toL.length : Int) x1.toI) then Kr (D.p (D.ag [(D.i 0), (D.i 0), (D.f 0), (D.s [])])) else (bif (inb x1.toI x0.toL.length) then Kr (D.p (sp10 (x0.at (x1.toI : Int).toNat))) else none)))
def s65_0 (x0 x1 : D) : St := sts 19 [(0, V.f x0), (1, V.f x1)] []
def s65_1 (x4 : D) : St := sts 19 [(4, V.f x4)] []
theorem e65_0 (N : Nat) (k : Kn R) (x0 x1 : D) : runC PHI Tb71 N vc65_0 (s65_0 x0 x1) k = m65_0 N x0 x1 (fun x4 => k .ret (s65_1 x4)) := by kernel_rfl
theorem r65 (N : Nat) (x0 x1 : D) : runC PHI Tb71 N vf65.body (enterV vf65 [V.f x0, V.f x1] []) (finish vf65) = m65_0 N x0 x1 (fun x4 => finish vf65 .ret (s65_1 x4)) := 
  Eq.trans (runC_pre (s1 := (s65_0 x0 x1)) (by kernel_rfl) _ _) (Eq.trans (e65_0 N (finish vf65) x0 x1) (by kernel_rfl))
end
def Tb65 : CallF := extend Tb71 65 (fn2 (fun _ _ => true) fun r i => .f (sp65 r i))
theorem ok65 : FnOk Try.prog PHI Tb65 := FnOk.add2 hPHI ok71 (by kernel_rfl) fun r i _ _ => ⟨0, (r65 0 r i).trans (by
  simp only [m65_0, inb_lt, sp65, rowat]
  by_cases h0 : 0 ≤ i.toI
  · by_cases h1 : i.toI < (r.toL.length : Int)
    · rw [leb_t h0, ltb_t h1, ltb_f (show ¬ i.toI < 0 by omega), leb_f (show ¬ (r.toL.length : Int) ≤ i.toI by omega)]; rfl
    · rw [leb_t h0, ltb_f h1, ltb_f (show ¬ i.toI < 0 by omega), leb_t (show (r.toL.length : Int) ≤ i.toI by omega)]; rfl
  · rw [leb_f h0, ltb_t (show i.toI < 0 by omega)]; rfl)⟩
/-- Are so many steps enough for all parts of a node? -/
def depOk : Nat → D → Bool
  | 0, _ => false
  | n + 1, d => (d.at 6).toL.all (depOk n)
theorem depOk_size : ∀ (n : Nat) (d : D), d.wt ≤ n → depOk n d = true
  | 0, d, h => by have := D.wt_pos d; omega
  | n + 1, d, h => by
    rw [depOk, List.all_eq_true]
    intro x hx
    have h1 := D.wt_mem hx
    have h2 := D.wt_at d 6
    exact depOk_size n x (by omega)
/-! ### What a node comes to: the program -/
def argO (f : D → D) (n : D) (i : Nat) : D := bif ltb (i : Int) ((n.at 6).toL.length : Int) then f ((n.at 6).toL.getD i .nil) else z0
def evA : Nat → D → D → D
  | 0, _, _ => z0
  | m + 1, n, r =>
    bif eqb (n.at 0).toI 1 then sp30 (n.at 2) else bif eqb (n.at 0).toI 2 then sp30 (rowat r (n.at 3).toI) else
    bif eqb (n.at 0).toI 3 then sp45 (argO (fun x => evA m x r) n 0) else bif eqb (n.at 0).toI 4 then sp46 (argO (fun x => evA m x r) n 0) else
    bif eqb (n.at 0).toI 5 then sp47 (argO (fun x => evA m x r) n 0) (argO (fun x => evA m x r) n 1) else bif eqb (n.at 0).toI 6 then sp48 (argO (fun x => evA m x r) n 0) (argO (fun x => evA m x r) n 1) else
    bif eqb (n.at 0).toI 7 then sp49 (n.at 1) (argO (fun x => evA m x r) n 0) (argO (fun x => evA m x r) n 1) else bif eqb (n.at 0).toI 8 then sp50 (n.at 1) (argO (fun x => evA m x r) n 0) (argO (fun x => evA m x r) n 1) else
    bif eqb (n.at 0).toI 9 then sp51 (.b (eqb ((argO (fun x => evA m x r) n 0).at 0).toI 0 != (n.at 4).toB)) else z0
def spx25 (m : Nat) (n r : D) : D := evA m n r
def prx25 (m : Nat) (n _ : D) : Bool := depOk m n
def Tx25 (m : Nat) : CallF := extend Tb65 25 (fn2 (prx25 m) fun n r => .f (spx25 m n r))
def spx44 (m : Nat) (i n r : D) : D := argO (fun x => evA m x r.deref) n.deref i.toI.toNat
def prx44 (m : Nat) (i n r : D) : Bool := leb 0 i.toI && (isPtrD n && (isPtrD r && (n.deref.at 6).toL.all (depOk m)))
section
variable {R : Type}
def m44_0 (n N : Nat) (x0 x1 x2 : D) (Kr : D → Option R) : Option R :=
  (bif (isPtrD x1) then (bif (ltb x0.toI ((x1.deref.at 6).toL.length : Int)) then (bif (isPtrD x1) then (bif (inb x0.toI (x1.deref.at 6).toL.length) then (bif (isPtrD x2) then (bif (prx25 n ((x1.deref.at 6).at (x0.toI : Int).toNat) x2.deref) then Kr (D.p (spx25 n ((x1.deref.at 6).at (x0.toI : Int).toNat) x2.deref)) else none) else none) else none) else none) else Kr (D.p (D.ag [(D.i 0), (D.i 0), (D.f 0), (D.s [])]))) else none)
def s44_0 (x0 x1 x2 : D) : St := sts 18 [(0, V.f x0), (1, V.f x1), (2, V.f x2)] []
def s44_1 (x4 : D) : St := sts 18 [(4, V.f x4)] []
theorem e44_0 (n N : Nat) (k : Kn R) (x0 x1 x2 : D) : runC PHI (Tx25 n) N vc44_0 (s44_0 x0 x1 x2) k = m44_0 n N x0 x1 x2 (fun x4 => k .ret (s44_1 x4)) := by kernel_rfl
theorem r44 (n N : Nat) (x0 x1 x2 : D) : runC PHI (Tx25 n) N vf44.body (enterV vf44 [V.f x0, V.f x1, V.f x2] []) (finish vf44) = m44_0 n N x0 x1 x2 (fun x4 => finish vf44 .ret (s44_1 x4)) := 
  Eq.trans (runC_pre (s1 := (s44_0 x0 x1 x2)) (by kernel_rfl) _ _) (Eq.trans (e44_0 n N (finish vf44) x0 x1 x2) (by kernel_rfl))
end
def Tx44 (m : Nat) : CallF := extend (Tx25 m) 44 (fn3 (prx44 m) fun i n r => .f (spx44 m i n r))
theorem okx44 (m : Nat) (h : FnOk Try.prog PHI (Tx25 m)) : FnOk Try.prog PHI (Tx44 m) := FnOk.add3 hPHI h (by kernel_rfl) fun i n r ha hp => ⟨0, (r44 m 0 i n r).trans (by
  simp only [prx44, Bool.and_eq_true, List.all_eq_true] at hp
  obtain ⟨h0, h1, h2, h3⟩ := hp
  have h0' : 0 ≤ i.toI := of_decide_eq_true h0
  obtain ⟨k, hk⟩ := Int.eq_ofNat_of_zero_le h0'
  unfold m44_0 spx44 argO
  rw [h1, h2, hk]
  simp only [cond_true, Int.toNat_natCast]
  by_cases hlt : k < (n.deref.at 6).toL.length
  · rw [ltb_n hlt, inb_t hlt, show (n.deref.at 6).at k = (n.deref.at 6).toL.getD k .nil from rfl]
    have e : (n.deref.at 6).toL.getD k .nil = (n.deref.at 6).toL[k] := by rw [List.getD_eq_getElem?_getD, List.getElem?_eq_getElem hlt]; rfl
    have hd := h3 _ (List.getElem_mem hlt)
    have : prx25 m ((n.deref.at 6).toL.getD k .nil) r.deref = true := by rw [e]; exact hd
    rw [this]; rfl
  · rw [ltb_f (show ¬ (k : Int) < ((n.deref.at 6).toL.length : Int) by omega)]; rfl)⟩
section
variable {R : Type}
def m25_1 (n N : Nat) (x0 x1 : D) (K : D → D → Option R) : Option R :=
  K (D.p x0) (D.p x1)
def s25_0 (x0 x1 : D) : St := sts 85 [(0, V.f x0), (1, V.f x1)] []
def s25_1 (x2 x3 : D) : St := sts 85 [(2, V.f x2), (3, V.f x3), (4, V.a)] []
theorem e25_1 (n N : Nat) (k : Kn R) (x0 x1 : D) : runC PHI (Tx44 n) N vc25_1 (s25_0 x0 x1) k = m25_1 n N x0 x1 (fun x2 x3 => k .normal (s25_1 x2 x3)) := by
  refine Eq.trans (runC_post _ _ _ k) (Eq.trans (ops_run _ _ _ _) (by kernel_rfl))
def m25_3 (n N : Nat) (x2 x3 : D) (K : D → D → D → D → Option R) : Option R :=
  K x2 x3 x2 x3
def s25_2 (x2 x3 x5_0 x5_1 : D) : St := sts 85 [(2, V.f x2), (3, V.f x3), (4, V.a), (5, V.fn 44 [V.f x5_0, V.f x5_1] [Ty.p 48, Ty.p 32])] []
theorem e25_3 (n N : Nat) (k : Kn R) (x2 x3 : D) : runC PHI (Tx44 n) N vc25_3 (s25_1 x2 x3) k = m25_3 n N x2 x3 (fun x2 x3 x5_0 x5_1 => k .normal (s25_2 x2 x3 x5_0 x5_1)) := by
  refine Eq.trans (runC_post _ _ _ k) (Eq.trans (ops_run _ _ _ _) (by kernel_rfl))
def m25_6 (n N : Nat) (x2 x3 x5_0 x5_1 : D) (K : D → D → D → D → D → Option R) : Option R :=
  (bif (isPtrD x2) then K x2 x3 x5_0 x5_1 (x2.deref.at 0) else none)
def s25_3 (x2 x3 x5_0 x5_1 x8 : D) : St := sts 85 [(2, V.f x2), (3, V.f x3), (4, V.a), (5, V.fn 44 [V.f x5_0, V.f x5_1] [Ty.p 48, Ty.p 32]), (8, V.f x8)] []
theorem e25_6 (n N : Nat) (k : Kn R) (x2 x3 x5_0 x5_1 : D) : runC PHI (Tx44 n) N vc25_6 (s25_2 x2 x3 x5_0 x5_1) k = m25_6 n N x2 x3 x5_0 x5_1 (fun x2 x3 x5_0 x5_1 x8 => k .normal (s25_3 x2 x3 x5_0 x5_1 x8)) := by
  refine Eq.trans (runC_post _ _ _ k) (Eq.trans (ops_run _ _ _ _) (by kernel_rfl))
def m25_9 (n N : Nat) (x2 x3 x5_0 x5_1 x8 : D) (K : D → D → D → D → D → D → Option R) : Option R :=
  K x2 x3 x5_0 x5_1 x8 (D.b (eqb x8.toI 1))
def s25_4 (x2 x3 x5_0 x5_1 x8 x9 : D) : St := sts 85 [(2, V.f x2), (3, V.f x3), (4, V.a), (5, V.fn 44 [V.f x5_0, V.f x5_1] [Ty.p 48, Ty.p 32]), (8, V.f x8), (9, V.f x9)] []
theorem e25_9 (n N : Nat) (k : Kn R) (x2 x3 x5_0 x5_1 x8 : D) : runC PHI (Tx44 n) N vc25_9 (s25_3 x2 x3 x5_0 x5_1 x8) k = m25_9 n N x2 x3 x5_0 x5_1 x8 (fun x2 x3 x5_0 x5_1 x8 x9 => k .normal (s25_4 x2 x3 x5_0 x5_1 x8 x9)) := by
  refine Eq.trans (runC_post _ _ _ k) (Eq.trans (ops_run _ _ _ _) (by kernel_rfl))
def m25_11 (n N : Nat) (x2 : D) (Kr : D → Option R) : Option R :=
  (bif (isPtrD x2) then Kr (D.p (sp30 (x2.deref.at 2))) else none)
def s25_5 (x2 : D) : St := sts 85 [(2, V.f x2), (4, V.a)] []
def s25_6 (x4 : D) : St := sts 85 [(4, V.f x4)] []
theorem e25_11 (n N : Nat) (k : Kn R) (x2 : D) : runC PHI (Tx44 n) N vc25_11 (s25_5 x2) k = m25_11 n N x2 (fun x4 => k .ret (s25_6 x4)) := by kernel_rfl
def m25_15 (n N : Nat) (x2 x3 x5_0 x5_1 x8 : D) (K : D → D → D → D → D → D → Option R) : Option R :=
  K x2 x3 x5_0 x5_1 x8 (D.b (eqb x8.toI 2))
def s25_7 (x2 x3 x5_0 x5_1 x8 x14 : D) : St := sts 85 [(2, V.f x2), (3, V.f x3), (4, V.a), (5, V.fn 44 [V.f x5_0, V.f x5_1] [Ty.p 48, Ty.p 32]), (8, V.f x8), (14, V.f x14)] []
theorem e25_15 (n N : Nat) (k : Kn R) (x2 x3 x5_0 x5_1 x8 : D) : runC PHI (Tx44 n) N vc25_15 (s25_3 x2 x3 x5_0 x5_1 x8) k = m25_15 n N x2 x3 x5_0 x5_1 x8 (fun x2 x3 x5_0 x5_1 x8 x14 => k .normal (s25_7 x2 x3 x5_0 x5_1 x8 x14)) := by
  refine Eq.trans (runC_post _ _ _ k) (Eq.trans (ops_run _ _ _ _) (by kernel_rfl))
def m25_17 (n N : Nat) (x2 x3 : D) (K : Option R) (Kr : D → Option R) : Option R :=
  (bif (isPtrD x2) then (bif (leb 0 (x2.deref.at 3).toI) then (bif (isPtrD x2) then (bif (isPtrD x3) then (bif (ltb (x2.deref.at 3).toI (x3.deref.toL.length : Int)) then (bif (isPtrD x3) then (bif (isPtrD x2) then (bif (inb (x2.deref.at 3).toI x3.deref.toL.length) then Kr (D.p (sp30 (x3.deref.at ((x2.deref.at 3).toI : Int).toNat))) else none) else none) else none) else K) else none) else none) else (bif false then (bif (isPtrD x3) then (bif (isPtrD x2) then (bif (inb (x2.deref.at 3).toI x3.deref.toL.length) then Kr (D.p (sp30 (x3.deref.at ((x2.deref.at 3).toI : Int).toNat))) else none) else none) else none) else K)) else none)
def s25_8 : St := sts 85 [(4, V.a)] []
theorem e25_17 (n N : Nat) (k : Kn R) (x2 x3 : D) : runC PHI (Tx44 n) N vc25_17 (s25_1 x2 x3) k = m25_17 n N x2 x3 (k .normal s25_8) (fun x4 => k .ret (s25_6 x4)) := by kernel_rfl
def m25_24 (n N : Nat) (x2 x5_0 x5_1 x8 : D) (K : Option R) (Kr : D → Option R) : Option R :=
  (bif (eqb x8.toI 3) then (bif (prx44 n (D.i 0) x5_0 x5_1) then Kr (D.p (sp45 (spx44 n (D.i 0) x5_0 x5_1))) else none) else (bif (eqb x8.toI 4) then (bif (prx44 n (D.i 0) x5_0 x5_1) then Kr (D.p (sp46 (spx44 n (D.i 0) x5_0 x5_1))) else none) else (bif (eqb x8.toI 5) then (bif (prx44 n (D.i 0) x5_0 x5_1) then (bif (prx44 n (D.i 1) x5_0 x5_1) then Kr (D.p (sp47 (spx44 n (D.i 0) x5_0 x5_1) (spx44 n (D.i 1) x5_0 x5_1))) else none) else none) else (bif (eqb x8.toI 6) then (bif (prx44 n (D.i 0) x5_0 x5_1) then (bif (prx44 n (D.i 1) x5_0 x5_1) then Kr (D.p (sp48 (spx44 n (D.i 0) x5_0 x5_1) (spx44 n (D.i 1) x5_0 x5_1))) else none) else none) else (bif (eqb x8.toI 7) then (bif (isPtrD x2) then (bif (prx44 n (D.i 0) x5_0 x5_1) then (bif (prx44 n (D.i 1) x5_0 x5_1) then Kr (D.p (sp49 (x2.deref.at 1) (spx44 n (D.i 0) x5_0 x5_1) (spx44 n (D.i 1) x5_0 x5_1))) else none) else none) else none) else (bif (eqb x8.toI 8) then (bif (isPtrD x2) then (bif (prx44 n (D.i 0) x5_0 x5_1) then (bif (prx44 n (D.i 1) x5_0 x5_1) then Kr (D.p (sp50 (x2.deref.at 1) (spx44 n (D.i 0) x5_0 x5_1) (spx44 n (D.i 1) x5_0 x5_1))) else none) else none) else none) else (bif (eqb x8.toI 9) then (bif (prx44 n (D.i 0) x5_0 x5_1) then (bif (isPtrD x2) then Kr (D.p (sp51 (D.b ((eqb ((spx44 n (D.i 0) x5_0 x5_1).at 0).toI 0) != (x2.deref.at 4).toB)))) else none) else none) else K)))))))
def s25_9 (x2 x5_0 x5_1 x8 : D) : St := sts 85 [(2, V.f x2), (4, V.a), (5, V.fn 44 [V.f x5_0, V.f x5_1] [Ty.p 48, Ty.p 32]), (8, V.f x8)] []
theorem e25_24 (n N : Nat) (k : Kn R) (x2 x5_0 x5_1 x8 : D) : runC PHI (Tx44 n) N vc25_24 (s25_9 x2 x5_0 x5_1 x8) k = m25_24 n N x2 x5_0 x5_1 x8 (k .normal s25_8) (fun x4 => k .ret (s25_6 x4)) := by kernel_rfl
def m25_16 (n N : Nat) (x2 x3 x5_0 x5_1 x8 x14 : D) (K : Option R) (Kr : D → Option R) : Option R :=
  (bif x14.toB then (m25_17 n N x2 x3 (K) Kr) else (m25_24 n N x2 x5_0 x5_1 x8 (K) Kr))
theorem e25_16 (n N : Nat) (k : Kn R) (x2 x3 x5_0 x5_1 x8 x14 : D) : runC PHI (Tx44 n) N vc25_16 (s25_7 x2 x3 x5_0 x5_1 x8 x14) k = m25_16 n N x2 x3 x5_0 x5_1 x8 x14 (k .normal s25_8) (fun x4 => k .ret (s25_6 x4)) := by
  refine Eq.trans (runC_cond (s1 := (s25_1 x2 x3)) (s2 := (s25_9 x2 x5_0 x5_1 x8)) (d := x14) _ _ k (by kernel_rfl) (by kernel_rfl) (by kernel_rfl)) (Eq.trans (congr (congrArg (cond x14.toB) ((e25_17 n N k x2 x3))) ((e25_24 n N k x2 x5_0 x5_1 x8))) (by kernel_rfl))
def m25_14 (n N : Nat) (x2 x3 x5_0 x5_1 x8 : D) (K : Option R) (Kr : D → Option R) : Option R :=
  (m25_15 n N x2 x3 x5_0 x5_1 x8 (fun y2 y3 y5_0 y5_1 y8 y14 => (m25_16 n N y2 y3 y5_0 y5_1 y8 y14 (K) Kr)))
theorem e25_14 (n N : Nat) (k : Kn R) (x2 x3 x5_0 x5_1 x8 : D) : runC PHI (Tx44 n) N vc25_14 (s25_3 x2 x3 x5_0 x5_1 x8) k = m25_14 n N x2 x3 x5_0 x5_1 x8 (k .normal s25_8) (fun x4 => k .ret (s25_6 x4)) := by
  have h2 := e25_15 n N (kseq PHI (Tx44 n) N vc25_16 k) x2 x3 x5_0 x5_1 x8
  have h3 := (funext fun y2 => funext fun y3 => funext fun y5_0 => funext fun y5_1 => funext fun y8 => funext fun y14 => (e25_16 n N k y2 y3 y5_0 y5_1 y8 y14) : (fun (y2 y3 y5_0 y5_1 y8 y14 : D) => (kseq PHI (Tx44 n) N vc25_16 k) .normal (s25_7 y2 y3 y5_0 y5_1 y8 y14)) = _)
  refine Eq.trans (runC_seq _ _ _ k) (Eq.trans h2 (Eq.trans (congrArg (fun K => m25_15 n N x2 x3 x5_0 x5_1 x8 K) h3) (by kernel_rfl)))
def m25_10 (n N : Nat) (x2 x3 x5_0 x5_1 x8 x9 : D) (K : Option R) (Kr : D → Option R) : Option R :=
  (bif x9.toB then (m25_11 n N x2 Kr) else (m25_14 n N x2 x3 x5_0 x5_1 x8 (K) Kr))
theorem e25_10 (n N : Nat) (k : Kn R) (x2 x3 x5_0 x5_1 x8 x9 : D) : runC PHI (Tx44 n) N vc25_10 (s25_4 x2 x3 x5_0 x5_1 x8 x9) k = m25_10 n N x2 x3 x5_0 x5_1 x8 x9 (k .normal s25_8) (fun x4 => k .ret (s25_6 x4)) := by
  refine Eq.trans (runC_cond (s1 := (s25_5 x2)) (s2 := (s25_3 x2 x3 x5_0 x5_1 x8)) (d := x9) _ _ k (by kernel_rfl) (by kernel_rfl) (by kernel_rfl)) (Eq.trans (congr (congrArg (cond x9.toB) ((e25_11 n N k x2))) ((e25_14 n N k x2 x3 x5_0 x5_1 x8))) (by kernel_rfl))
def m25_8 (n N : Nat) (x2 x3 x5_0 x5_1 x8 : D) (K : Option R) (Kr : D → Option R) : Option R :=
  (m25_9 n N x2 x3 x5_0 x5_1 x8 (fun y2 y3 y5_0 y5_1 y8 y9 => (m25_10 n N y2 y3 y5_0 y5_1 y8 y9 (K) Kr)))
theorem e25_8 (n N : Nat) (k : Kn R) (x2 x3 x5_0 x5_1 x8 : D) : runC PHI (Tx44 n) N vc25_8 (s25_3 x2 x3 x5_0 x5_1 x8) k = m25_8 n N x2 x3 x5_0 x5_1 x8 (k .normal s25_8) (fun x4 => k .ret (s25_6 x4)) := by
  have h2 := e25_9 n N (kseq PHI (Tx44 n) N vc25_10 k) x2 x3 x5_0 x5_1 x8
  have h3 := (funext fun y2 => funext fun y3 => funext fun y5_0 => funext fun y5_1 => funext fun y8 => funext fun y9 => (e25_10 n N k y2 y3 y5_0 y5_1 y8 y9) : (fun (y2 y3 y5_0 y5_1 y8 y9 : D) => (kseq PHI (Tx44 n) N vc25_10 k) .normal (s25_4 y2 y3 y5_0 y5_1 y8 y9)) = _)
  refine Eq.trans (runC_seq _ _ _ k) (Eq.trans h2 (Eq.trans (congrArg (fun K => m25_9 n N x2 x3 x5_0 x5_1 x8 K) h3) (by kernel_rfl)))
def m25_7 (n N : Nat) (x2 x3 x5_0 x5_1 x8 : D) (K : Option R) (Kr : D → Option R) : Option R :=
  (m25_8 n N x2 x3 x5_0 x5_1 x8 (K) Kr)
theorem e25_7 (n N : Nat) (k : Kn R) (x2 x3 x5_0 x5_1 x8 : D) : runC PHI (Tx44 n) N vc25_7 (s25_3 x2 x3 x5_0 x5_1 x8) k = m25_7 n N x2 x3 x5_0 x5_1 x8 (k .normal s25_8) (fun x4 => k .ret (s25_6 x4)) := by
  refine Eq.trans (runC_block _ _ _ k) (Eq.trans (e25_8 n N (kblk 0 k) x2 x3 x5_0 x5_1 x8) (by kernel_rfl))
def m25_5 (n N : Nat) (x2 x3 x5_0 x5_1 : D) (K : Option R) (Kr : D → Option R) : Option R :=
  (m25_6 n N x2 x3 x5_0 x5_1 (fun y2 y3 y5_0 y5_1 y8 => (m25_7 n N y2 y3 y5_0 y5_1 y8 (K) Kr)))
theorem e25_5 (n N : Nat) (k : Kn R) (x2 x3 x5_0 x5_1 : D) : runC PHI (Tx44 n) N vc25_5 (s25_2 x2 x3 x5_0 x5_1) k = m25_5 n N x2 x3 x5_0 x5_1 (k .normal s25_8) (fun x4 => k .ret (s25_6 x4)) := by
  have h2 := e25_6 n N (kseq PHI (Tx44 n) N vc25_7 k) x2 x3 x5_0 x5_1
  have h3 := (funext fun y2 => funext fun y3 => funext fun y5_0 => funext fun y5_1 => funext fun y8 => (e25_7 n N k y2 y3 y5_0 y5_1 y8) : (fun (y2 y3 y5_0 y5_1 y8 : D) => (kseq PHI (Tx44 n) N vc25_7 k) .normal (s25_3 y2 y3 y5_0 y5_1 y8)) = _)
  refine Eq.trans (runC_seq _ _ _ k) (Eq.trans h2 (Eq.trans (congrArg (fun K => m25_6 n N x2 x3 x5_0 x5_1 K) h3) (by kernel_rfl)))
def m25_67 (n N : Nat) (Kr : D → Option R) : Option R :=
  Kr (D.p (D.ag [(D.i 0), (D.i 0), (D.f 0), (D.s [])]))
theorem e25_67 (n N : Nat) (k : Kn R) : runC PHI (Tx44 n) N vc25_67 s25_8 k = m25_67 n N (fun x4 => k .ret (s25_6 x4)) := by kernel_rfl
def m25_4 (n N : Nat) (x2 x3 x5_0 x5_1 : D) (Kr : D → Option R) : Option R :=
  (m25_5 n N x2 x3 x5_0 x5_1 ((m25_67 n N Kr)) Kr)
theorem e25_4 (n N : Nat) (k : Kn R) (x2 x3 x5_0 x5_1 : D) : runC PHI (Tx44 n) N vc25_4 (s25_2 x2 x3 x5_0 x5_1) k = m25_4 n N x2 x3 x5_0 x5_1 (fun x4 => k .ret (s25_6 x4)) := by
  have h2 := e25_5 n N (kseq PHI (Tx44 n) N vc25_67 k) x2 x3 x5_0 x5_1
  have h3 := ((e25_67 n N k ) : ((kseq PHI (Tx44 n) N vc25_67 k) .normal s25_8) = _)
  refine Eq.trans (runC_seq _ _ _ k) (Eq.trans h2 (Eq.trans (congrArg (fun K => m25_5 n N x2 x3 x5_0 x5_1 K (fun x4 => (kseq PHI (Tx44 n) N vc25_67 k) .ret (s25_6 x4))) h3) (by kernel_rfl)))
def m25_2 (n N : Nat) (x2 x3 : D) (Kr : D → Option R) : Option R :=
  (m25_3 n N x2 x3 (fun y2 y3 y5_0 y5_1 => (m25_4 n N y2 y3 y5_0 y5_1 Kr)))
theorem e25_2 (n N : Nat) (k : Kn R) (x2 x3 : D) : runC PHI (Tx44 n) N vc25_2 (s25_1 x2 x3) k = m25_2 n N x2 x3 (fun x4 => k .ret (s25_6 x4)) := by
  have h2 := e25_3 n N (kseq PHI (Tx44 n) N vc25_4 k) x2 x3
  have h3 := (funext fun y2 => funext fun y3 => funext fun y5_0 => funext fun y5_1 => (e25_4 n N k y2 y3 y5_0 y5_1) : (fun (y2 y3 y5_0 y5_1 : D) => (kseq PHI (Tx44 n) N vc25_4 k) .normal (s25_2 y2 y3 y5_0 y5_1)) = _)
  refine Eq.trans (runC_seq _ _ _ k) (Eq.trans h2 (Eq.trans (congrArg (fun K => m25_3 n N x2 x3 K) h3) (by kernel_rfl)))
def m25_0 (n N : Nat) (x0 x1 : D) (Kr : D → Option R) : Option R :=
  (m25_1 n N x0 x1 (fun y2 y3 => (m25_2 n N y2 y3 Kr)))
theorem e25_0 (n N : Nat) (k : Kn R) (x0 x1 : D) : runC PHI (Tx44 n) N vc25_0 (s25_0 x0 x1) k = m25_0 n N x0 x1 (fun x4 => k .ret (s25_6 x4)) := by
  have h2 := e25_1 n N (kseq PHI (Tx44 n) N vc25_2 k) x0 x1
  have h3 := (funext fun y2 => funext fun y3 => (e25_2 n N k y2 y3) : (fun (y2 y3 : D) => (kseq PHI (Tx44 n) N vc25_2 k) .normal (s25_1 y2 y3)) = _)
  refine Eq.trans (runC_seq _ _ _ k) (Eq.trans h2 (Eq.trans (congrArg (fun K => m25_1 n N x0 x1 K) h3) (by kernel_rfl)))
theorem r25 (n N : Nat) (x0 x1 : D) : runC PHI (Tx44 n) N vf25.body (enterV vf25 [V.f x0, V.f x1] []) (finish vf25) = m25_0 n N x0 x1 (fun x4 => finish vf25 .ret (s25_6 x4)) := 
  Eq.trans (runC_pre (s1 := (s25_0 x0 x1)) (by kernel_rfl) _ _) (Eq.trans (e25_0 n N (finish vf25) x0 x1) (by kernel_rfl))
end
theorem okx25 : ∀ m, FnOk Try.prog PHI (Tx25 m) := by
  refine FnOk.rec2 Try.prog PHI hPHI ok65 (vf := vf25) (by kernel_rfl) (fun m => fn2 (prx25 m) fun n r => .f (spx25 m n r)) (fun args => ?_) (fun m hm => ⟨Tx44 m, okx44 m hm, fun args r H' ha hr => ?_⟩)
  · unfold fn2; split <;> rfl
  · unfold fn2 at hr
    split at hr
    · rename_i n r
      obtain ⟨h1, h2⟩ := toO_some hr
      injection h2 with h2 h3; subst h2; subst h3
      refine ⟨0, (r25 m 0 n r).trans ?_⟩
      have p : ∀ i, 0 ≤ i → prx44 m (.i i) (.p n) (.p r) = true := fun i hi => by
        simp only [prx44, toI_i, leb_t hi, isPtr_p, deref_p, Bool.true_and]
        exact h1
      have s : ∀ i : Nat, spx44 m (.i (i : Int)) (.p n) (.p r) = argO (fun x => evA m x r) n i := fun i => rfl
      simp only [m25_1, m25_3, m25_6, m25_9, m25_11, m25_15, m25_17, m25_24, m25_16, m25_14, m25_10, m25_8, m25_7, m25_5, m25_67, m25_4, m25_2, m25_0, isPtr_p, deref_p, toB_b, cond_true, p 0 (by omega), p 1 (by omega), s 0, s 1, show spx44 m (.i 0) (.p n) (.p r) = argO (fun x => evA m x r) n 0 from rfl, show spx44 m (.i 1) (.p n) (.p r) = argO (fun x => evA m x r) n 1 from rfl, inb_lt]
      show _ = some (V.f (evA (m + 1) n r), [])
      rw [evA]
      cases eqb (n.at 0).toI 1
      · cases eqb (n.at 0).toI 2
        · cases eqb (n.at 0).toI 3
          · cases eqb (n.at 0).toI 4
            · cases eqb (n.at 0).toI 5
              · cases eqb (n.at 0).toI 6
                · cases eqb (n.at 0).toI 7
                  · cases eqb (n.at 0).toI 8
                    · cases eqb (n.at 0).toI 9 <;> rfl
                    · rfl
                  · rfl
                · rfl
              · rfl
            · rfl
          · rfl
        · unfold rowat
          cases leb 0 (n.at 3).toI <;> cases ltb (n.at 3).toI (r.toL.length : Int) <;> rfl
      · rfl
    · cases hr
def sp25 (n r : D) : D := evA n.wt n r
def pr25 (_ _ : D) : Bool := true
def Tb25 : CallF := extend Tb65 25 (fn2 pr25 fun n r => .f (sp25 n r))
theorem ok25 : FnOk Try.prog PHI Tb25 := FnOk.lim okx25 fun args r hr => by
  unfold fn2 at hr
  split at hr
  · rename_i n r
    refine ⟨n.wt, ?_⟩
    show toO (prx25 n.wt n r, _, _) = _
    rw [show prx25 n.wt n r = true from depOk_size _ _ (Nat.le_refl _)]
    exact hr
  · cases hr
/-! ### .. the document -/
def evB : Nat → D → D → D
  | 0, _, _ => z0
  | m + 1, n, r =>
    bif eqb (n.at 0).toI 1 then sp10 (n.at 2) else bif eqb (n.at 0).toI 2 then sp10 (rowat r (n.at 3).toI) else
    bif eqb (n.at 0).toI 3 then sp66 (argO (fun x => evB m x r) n 0) else bif eqb (n.at 0).toI 4 then sp68 (argO (fun x => evB m x r) n 0) else
    bif eqb (n.at 0).toI 5 then sp69 (argO (fun x => evB m x r) n 0) (argO (fun x => evB m x r) n 1) else bif eqb (n.at 0).toI 6 then sp70 (argO (fun x => evB m x r) n 0) (argO (fun x => evB m x r) n 1) else
    bif eqb (n.at 0).toI 7 then sp37 (n.at 1) (argO (fun x => evB m x r) n 0) (argO (fun x => evB m x r) n 1) else bif eqb (n.at 0).toI 8 then sp71 (n.at 1) (argO (fun x => evB m x r) n 0) (argO (fun x => evB m x r) n 1) else
    bif eqb (n.at 0).toI 9 then (bif (n.at 4).toB then sp63 (.b (!eqb ((argO (fun x => evB m x r) n 0).at 0).toI 0)) else sp63 (.b (eqb ((argO (fun x => evB m x r) n 0).at 0).toI 0))) else z0
def spx38 (m : Nat) (n r : D) : D := evB m n r
def prx38 (m : Nat) (n _ : D) : Bool := depOk m n
def Tx38 (m : Nat) : CallF := extend Tb25 38 (fn2 (prx38 m) fun n r => .f (spx38 m n r))
def spx67 (m : Nat) (n i r : D) : D := argO (fun x => evB m x r) n i.toI.toNat
def prx67 (m : Nat) (n i _ : D) : Bool := leb 0 i.toI && (n.at 6).toL.all (depOk m)
section
variable {R : Type}
def m67_0 (n N : Nat) (x0 x1 x2 : D) (Kr : D → Option R) : Option R :=
  (bif (leb ((x0.at 6).toL.length : Int) x1.toI) then Kr (D.p (D.ag [(D.i 0), (D.i 0), (D.f 0), (D.s [])])) else (bif (inb x1.toI (x0.at 6).toL.length) then (bif (prx38 n ((x0.at 6).at (x1.toI : Int).toNat) x2) then Kr (D.p (spx38 n ((x0.at 6).at (x1.toI : Int).toNat) x2)) else none) else none))
def s67_0 (x0 x1 x2 : D) : St := sts 20 [(0, V.f x0), (1, V.f x1), (2, V.f x2)] []
def s67_1 (x6 : D) : St := sts 20 [(6, V.f x6)] []
theorem e67_0 (n N : Nat) (k : Kn R) (x0 x1 x2 : D) : runC PHI (Tx38 n) N vc67_0 (s67_0 x0 x1 x2) k = m67_0 n N x0 x1 x2 (fun x6 => k .ret (s67_1 x6)) := by kernel_rfl
theorem r67 (n N : Nat) (x0 x1 x2 : D) : runC PHI (Tx38 n) N vf67.body (enterV vf67 [V.f x0, V.f x1, V.f x2] []) (finish vf67) = m67_0 n N x0 x1 x2 (fun x6 => finish vf67 .ret (s67_1 x6)) := 
  Eq.trans (runC_pre (s1 := (s67_0 x0 x1 x2)) (by kernel_rfl) _ _) (Eq.trans (e67_0 n N (finish vf67) x0 x1 x2) (by kernel_rfl))
end
def Tx67 (m : Nat) : CallF := extend (Tx38 m) 67 (fn3 (prx67 m) fun n i r => .f (spx67 m n i r))
theorem okx67 (m : Nat) (h : FnOk Try.prog PHI (Tx38 m)) : FnOk Try.prog PHI (Tx67 m) := FnOk.add3 hPHI h (by kernel_rfl) fun n i r ha hp => ⟨0, (r67 m 0 n i r).trans (by
  simp only [prx67, Bool.and_eq_true, List.all_eq_true] at hp
  obtain ⟨h0, h3⟩ := hp
  have h0' : 0 ≤ i.toI := of_decide_eq_true h0
  obtain ⟨k, hk⟩ := Int.eq_ofNat_of_zero_le h0'
  unfold m67_0 spx67 argO
  rw [hk]
  simp only [Int.toNat_natCast]
  by_cases hlt : k < (n.at 6).toL.length
  · rw [ltb_n hlt, inb_t hlt, show (n.at 6).at k = (n.at 6).toL.getD k .nil from rfl, leb_f (show ¬ ((n.at 6).toL.length : Int) ≤ (k : Int) by omega)]
    have e : (n.at 6).toL.getD k .nil = (n.at 6).toL[k] := by rw [List.getD_eq_getElem?_getD, List.getElem?_eq_getElem hlt]; rfl
    have : prx38 m ((n.at 6).toL.getD k .nil) r = true := by rw [e]; exact h3 _ (List.getElem_mem hlt)
    rw [this]; rfl
  · rw [ltb_f (show ¬ (k : Int) < ((n.at 6).toL.length : Int) by omega), leb_t (show ((n.at 6).toL.length : Int) ≤ (k : Int) by omega)]; rfl)⟩
section
variable {R : Type}
def m38_1 (n N : Nat) (x0 x1 : D) (K : D → D → Option R) : Option R :=
  K x1 (D.p x0)
def s38_0 (x0 x1 : D) : St := sts 87 [(0, V.f x0), (1, V.f x1)] []
def s38_1 (x1 x2 : D) : St := sts 87 [(1, V.f x1), (2, V.f x2), (4, V.a)] []
theorem e38_1 (n N : Nat) (k : Kn R) (x0 x1 : D) : runC PHI (Tx67 n) N vc38_1 (s38_0 x0 x1) k = m38_1 n N x0 x1 (fun x1 x2 => k .normal (s38_1 x1 x2)) := by
  refine Eq.trans (runC_post _ _ _ k) (Eq.trans (ops_run _ _ _ _) (by kernel_rfl))
def m38_4 (n N : Nat) (x1 x2 : D) (K : D → D → D → Option R) : Option R :=
  (bif (isPtrD x2) then K x1 x2 (x2.deref.at 0) else none)
def s38_2 (x1 x2 x7 : D) : St := sts 87 [(1, V.f x1), (2, V.f x2), (4, V.a), (7, V.f x7)] []
theorem e38_4 (n N : Nat) (k : Kn R) (x1 x2 : D) : runC PHI (Tx67 n) N vc38_4 (s38_1 x1 x2) k = m38_4 n N x1 x2 (fun x1 x2 x7 => k .normal (s38_2 x1 x2 x7)) := by
  refine Eq.trans (runC_post _ _ _ k) (Eq.trans (ops_run _ _ _ _) (by kernel_rfl))
def m38_7 (n N : Nat) (x1 x2 x7 : D) (K : D → D → D → D → Option R) : Option R :=
  K x1 x2 x7 (D.b (eqb x7.toI 1))
def s38_3 (x1 x2 x7 x8 : D) : St := sts 87 [(1, V.f x1), (2, V.f x2), (4, V.a), (7, V.f x7), (8, V.f x8)] []
theorem e38_7 (n N : Nat) (k : Kn R) (x1 x2 x7 : D) : runC PHI (Tx67 n) N vc38_7 (s38_2 x1 x2 x7) k = m38_7 n N x1 x2 x7 (fun x1 x2 x7 x8 => k .normal (s38_3 x1 x2 x7 x8)) := by
  refine Eq.trans (runC_post _ _ _ k) (Eq.trans (ops_run _ _ _ _) (by kernel_rfl))
def m38_9 (n N : Nat) (x2 : D) (Kr : D → Option R) : Option R :=
  (bif (isPtrD x2) then Kr (D.p (sp10 (x2.deref.at 2))) else none)
def s38_4 (x2 : D) : St := sts 87 [(2, V.f x2), (4, V.a)] []
def s38_5 (x4 : D) : St := sts 87 [(4, V.f x4)] []
theorem e38_9 (n N : Nat) (k : Kn R) (x2 : D) : runC PHI (Tx67 n) N vc38_9 (s38_4 x2) k = m38_9 n N x2 (fun x4 => k .ret (s38_5 x4)) := by kernel_rfl
def m38_13 (n N : Nat) (x1 x2 x7 : D) (K : D → D → D → D → Option R) : Option R :=
  K x1 x2 x7 (D.b (eqb x7.toI 2))
def s38_6 (x1 x2 x7 x13 : D) : St := sts 87 [(1, V.f x1), (2, V.f x2), (4, V.a), (7, V.f x7), (13, V.f x13)] []
theorem e38_13 (n N : Nat) (k : Kn R) (x1 x2 x7 : D) : runC PHI (Tx67 n) N vc38_13 (s38_2 x1 x2 x7) k = m38_13 n N x1 x2 x7 (fun x1 x2 x7 x13 => k .normal (s38_6 x1 x2 x7 x13)) := by
  refine Eq.trans (runC_post _ _ _ k) (Eq.trans (ops_run _ _ _ _) (by kernel_rfl))
def m38_15 (n N : Nat) (x1 x2 : D) (Kr : D → Option R) : Option R :=
  (bif (isPtrD x2) then Kr (D.p (sp65 x1 (x2.deref.at 3))) else none)
theorem e38_15 (n N : Nat) (k : Kn R) (x1 x2 : D) : runC PHI (Tx67 n) N vc38_15 (s38_1 x1 x2) k = m38_15 n N x1 x2 (fun x4 => k .ret (s38_5 x4)) := by kernel_rfl
def m38_19 (n N : Nat) (x1 x2 x7 : D) (K : D → D → D → D → Option R) : Option R :=
  K x1 x2 x7 (D.b (eqb x7.toI 3))
def s38_7 (x1 x2 x7 x19 : D) : St := sts 87 [(1, V.f x1), (2, V.f x2), (4, V.a), (7, V.f x7), (19, V.f x19)] []
theorem e38_19 (n N : Nat) (k : Kn R) (x1 x2 x7 : D) : runC PHI (Tx67 n) N vc38_19 (s38_2 x1 x2 x7) k = m38_19 n N x1 x2 x7 (fun x1 x2 x7 x19 => k .normal (s38_7 x1 x2 x7 x19)) := by
  refine Eq.trans (runC_post _ _ _ k) (Eq.trans (ops_run _ _ _ _) (by kernel_rfl))
def m38_21 (n N : Nat) (x1 x2 : D) (Kr : D → Option R) : Option R :=
  (bif (isPtrD x2) then (bif (prx67 n x2.deref (D.i 0) x1) then Kr (D.p (sp66 (spx67 n x2.deref (D.i 0) x1))) else none) else none)
theorem e38_21 (n N : Nat) (k : Kn R) (x1 x2 : D) : runC PHI (Tx67 n) N vc38_21 (s38_1 x1 x2) k = m38_21 n N x1 x2 (fun x4 => k .ret (s38_5 x4)) := by kernel_rfl
def m38_24 (n N : Nat) (x1 x2 x7 : D) (K : Option R) (Kr : D → Option R) : Option R :=
  (bif (eqb x7.toI 4) then (bif (isPtrD x2) then (bif (prx67 n x2.deref (D.i 0) x1) then Kr (D.p (sp68 (spx67 n x2.deref (D.i 0) x1))) else none) else none) else (bif (eqb x7.toI 5) then (bif (isPtrD x2) then (bif (prx67 n x2.deref (D.i 0) x1) then (bif (isPtrD x2) then (bif (prx67 n x2.deref (D.i 1) x1) then Kr (D.p (sp69 (spx67 n x2.deref (D.i 0) x1) (spx67 n x2.deref (D.i 1) x1))) else none) else none) else none) else none) else (bif (eqb x7.toI 6) then (bif (isPtrD x2) then (bif (prx67 n x2.deref (D.i 0) x1) then (bif (isPtrD x2) then (bif (prx67 n x2.deref (D.i 1) x1) then Kr (D.p (sp70 (spx67 n x2.deref (D.i 0) x1) (spx67 n x2.deref (D.i 1) x1))) else none) else none) else none) else none) else (bif (eqb x7.toI 7) then (bif (isPtrD x2) then (bif (isPtrD x2) then (bif (prx67 n x2.deref (D.i 0) x1) then (bif (isPtrD x2) then (bif (prx67 n x2.deref (D.i 1) x1) then Kr (D.p (sp37 (x2.deref.at 1) (spx67 n x2.deref (D.i 0) x1) (spx67 n x2.deref (D.i 1) x1))) else none) else none) else none) else none) else none) else (bif (eqb x7.toI 8) then (bif (isPtrD x2) then (bif (isPtrD x2) then (bif (prx67 n x2.deref (D.i 0) x1) then (bif (isPtrD x2) then (bif (prx67 n x2.deref (D.i 1) x1) then Kr (D.p (sp71 (x2.deref.at 1) (spx67 n x2.deref (D.i 0) x1) (spx67 n x2.deref (D.i 1) x1))) else none) else none) else none) else none) else none) else (bif (eqb x7.toI 9) then (bif (isPtrD x2) then (bif (prx67 n x2.deref (D.i 0) x1) then (bif (isPtrD x2) then (bif (x2.deref.at 4).toB then Kr (D.p (sp63 (D.b (!eqb ((spx67 n x2.deref (D.i 0) x1).at 0).toI 0)))) else Kr (D.p (sp63 (D.b (eqb ((spx67 n x2.deref (D.i 0) x1).at 0).toI 0))))) else none) else none) else none) else K))))))
def s38_8 : St := sts 87 [(4, V.a)] []
theorem e38_24 (n N : Nat) (k : Kn R) (x1 x2 x7 : D) : runC PHI (Tx67 n) N vc38_24 (s38_2 x1 x2 x7) k = m38_24 n N x1 x2 x7 (k .normal s38_8) (fun x4 => k .ret (s38_5 x4)) := by kernel_rfl
def m38_20 (n N : Nat) (x1 x2 x7 x19 : D) (K : Option R) (Kr : D → Option R) : Option R :=
  (bif x19.toB then (m38_21 n N x1 x2 Kr) else (m38_24 n N x1 x2 x7 (K) Kr))
theorem e38_20 (n N : Nat) (k : Kn R) (x1 x2 x7 x19 : D) : runC PHI (Tx67 n) N vc38_20 (s38_7 x1 x2 x7 x19) k = m38_20 n N x1 x2 x7 x19 (k .normal s38_8) (fun x4 => k .ret (s38_5 x4)) := by
  refine Eq.trans (runC_cond (s1 := (s38_1 x1 x2)) (s2 := (s38_2 x1 x2 x7)) (d := x19) _ _ k (by kernel_rfl) (by kernel_rfl) (by kernel_rfl)) (Eq.trans (congr (congrArg (cond x19.toB) ((e38_21 n N k x1 x2))) ((e38_24 n N k x1 x2 x7))) (by kernel_rfl))
def m38_18 (n N : Nat) (x1 x2 x7 : D) (K : Option R) (Kr : D → Option R) : Option R :=
  (m38_19 n N x1 x2 x7 (fun y1 y2 y7 y19 => (m38_20 n N y1 y2 y7 y19 (K) Kr)))
theorem e38_18 (n N : Nat) (k : Kn R) (x1 x2 x7 : D) : runC PHI (Tx67 n) N vc38_18 (s38_2 x1 x2 x7) k = m38_18 n N x1 x2 x7 (k .normal s38_8) (fun x4 => k .ret (s38_5 x4)) := by
  have h2 := e38_19 n N (kseq PHI (Tx67 n) N vc38_20 k) x1 x2 x7
  have h3 := (funext fun y1 => funext fun y2 => funext fun y7 => funext fun y19 => (e38_20 n N k y1 y2 y7 y19) : (fun (y1 y2 y7 y19 : D) => (kseq PHI (Tx67 n) N vc38_20 k) .normal (s38_7 y1 y2 y7 y19)) = _)
  refine Eq.trans (runC_seq _ _ _ k) (Eq.trans h2 (Eq.trans (congrArg (fun K => m38_19 n N x1 x2 x7 K) h3) (by kernel_rfl)))
def m38_14 (n N : Nat) (x1 x2 x7 x13 : D) (K : Option R) (Kr : D → Option R) : Option R :=
  (bif x13.toB then (m38_15 n N x1 x2 Kr) else (m38_18 n N x1 x2 x7 (K) Kr))
theorem e38_14 (n N : Nat) (k : Kn R) (x1 x2 x7 x13 : D) : runC PHI (Tx67 n) N vc38_14 (s38_6 x1 x2 x7 x13) k = m38_14 n N x1 x2 x7 x13 (k .normal s38_8) (fun x4 => k .ret (s38_5 x4)) := by
  refine Eq.trans (runC_cond (s1 := (s38_1 x1 x2)) (s2 := (s38_2 x1 x2 x7)) (d := x13) _ _ k (by kernel_rfl) (by kernel_rfl) (by kernel_rfl)) (Eq.trans (congr (congrArg (cond x13.toB) ((e38_15 n N k x1 x2))) ((e38_18 n N k x1 x2 x7))) (by kernel_rfl))
def m38_12 (n N : Nat) (x1 x2 x7 : D) (K : Option R) (Kr : D → Option R) : Option R :=
  (m38_13 n N x1 x2 x7 (fun y1 y2 y7 y13 => (m38_14 n N y1 y2 y7 y13 (K) Kr)))
theorem e38_12 (n N : Nat) (k : Kn R) (x1 x2 x7 : D) : runC PHI (Tx67 n) N vc38_12 (s38_2 x1 x2 x7) k = m38_12 n N x1 x2 x7 (k .normal s38_8) (fun x4 => k .ret (s38_5 x4)) := by
  have h2 := e38_13 n N (kseq PHI (Tx67 n) N vc38_14 k) x1 x2 x7
  have h3 := (funext fun y1 => funext fun y2 => funext fun y7 => funext fun y13 => (e38_14 n N k y1 y2 y7 y13) : (fun (y1 y2 y7 y13 : D) => (kseq PHI (Tx67 n) N vc38_14 k) .normal (s38_6 y1 y2 y7 y13)) = _)
  refine Eq.trans (runC_seq _ _ _ k) (Eq.trans h2 (Eq.trans (congrArg (fun K => m38_13 n N x1 x2 x7 K) h3) (by kernel_rfl)))
def m38_8 (n N : Nat) (x1 x2 x7 x8 : D) (K : Option R) (Kr : D → Option R) : Option R :=
  (bif x8.toB then (m38_9 n N x2 Kr) else (m38_12 n N x1 x2 x7 (K) Kr))
theorem e38_8 (n N : Nat) (k : Kn R) (x1 x2 x7 x8 : D) : runC PHI (Tx67 n) N vc38_8 (s38_3 x1 x2 x7 x8) k = m38_8 n N x1 x2 x7 x8 (k .normal s38_8) (fun x4 => k .ret (s38_5 x4)) := by
  refine Eq.trans (runC_cond (s1 := (s38_4 x2)) (s2 := (s38_2 x1 x2 x7)) (d := x8) _ _ k (by kernel_rfl) (by kernel_rfl) (by kernel_rfl)) (Eq.trans (congr (congrArg (cond x8.toB) ((e38_9 n N k x2))) ((e38_12 n N k x1 x2 x7))) (by kernel_rfl))
def m38_6 (n N : Nat) (x1 x2 x7 : D) (K : Option R) (Kr : D → Option R) : Option R :=
  (m38_7 n N x1 x2 x7 (fun y1 y2 y7 y8 => (m38_8 n N y1 y2 y7 y8 (K) Kr)))
theorem e38_6 (n N : Nat) (k : Kn R) (x1 x2 x7 : D) : runC PHI (Tx67 n) N vc38_6 (s38_2 x1 x2 x7) k = m38_6 n N x1 x2 x7 (k .normal s38_8) (fun x4 => k .ret (s38_5 x4)) := by
  have h2 := e38_7 n N (kseq PHI (Tx67 n) N vc38_8 k) x1 x2 x7
  have h3 := (funext fun y1 => funext fun y2 => funext fun y7 => funext fun y8 => (e38_8 n N k y1 y2 y7 y8) : (fun (y1 y2 y7 y8 : D) => (kseq PHI (Tx67 n) N vc38_8 k) .normal (s38_3 y1 y2 y7 y8)) = _)
  refine Eq.trans (runC_seq _ _ _ k) (Eq.trans h2 (Eq.trans (congrArg (fun K => m38_7 n N x1 x2 x7 K) h3) (by kernel_rfl)))
def m38_5 (n N : Nat) (x1 x2 x7 : D) (K : Option R) (Kr : D → Option R) : Option R :=
  (m38_6 n N x1 x2 x7 (K) Kr)
theorem e38_5 (n N : Nat) (k : Kn R) (x1 x2 x7 : D) : runC PHI (Tx67 n) N vc38_5 (s38_2 x1 x2 x7) k = m38_5 n N x1 x2 x7 (k .normal s38_8) (fun x4 => k .ret (s38_5 x4)) := by
  refine Eq.trans (runC_block _ _ _ k) (Eq.trans (e38_6 n N (kblk 0 k) x1 x2 x7) (by kernel_rfl))
def m38_3 (n N : Nat) (x1 x2 : D) (K : Option R) (Kr : D → Option R) : Option R :=
  (m38_4 n N x1 x2 (fun y1 y2 y7 => (m38_5 n N y1 y2 y7 (K) Kr)))
theorem e38_3 (n N : Nat) (k : Kn R) (x1 x2 : D) : runC PHI (Tx67 n) N vc38_3 (s38_1 x1 x2) k = m38_3 n N x1 x2 (k .normal s38_8) (fun x4 => k .ret (s38_5 x4)) := by
  have h2 := e38_4 n N (kseq PHI (Tx67 n) N vc38_5 k) x1 x2
  have h3 := (funext fun y1 => funext fun y2 => funext fun y7 => (e38_5 n N k y1 y2 y7) : (fun (y1 y2 y7 : D) => (kseq PHI (Tx67 n) N vc38_5 k) .normal (s38_2 y1 y2 y7)) = _)
  refine Eq.trans (runC_seq _ _ _ k) (Eq.trans h2 (Eq.trans (congrArg (fun K => m38_4 n N x1 x2 K) h3) (by kernel_rfl)))
def m38_71 (n N : Nat) (Kr : D → Option R) : Option R :=
  Kr (D.p (D.ag [(D.i 0), (D.i 0), (D.f 0), (D.s [])]))
theorem e38_71 (n N : Nat) (k : Kn R) : runC PHI (Tx67 n) N vc38_71 s38_8 k = m38_71 n N (fun x4 => k .ret (s38_5 x4)) := by kernel_rfl
def m38_2 (n N : Nat) (x1 x2 : D) (Kr : D → Option R) : Option R :=
  (m38_3 n N x1 x2 ((m38_71 n N Kr)) Kr)
theorem e38_2 (n N : Nat) (k : Kn R) (x1 x2 : D) : runC PHI (Tx67 n) N vc38_2 (s38_1 x1 x2) k = m38_2 n N x1 x2 (fun x4 => k .ret (s38_5 x4)) := by
  have h2 := e38_3 n N (kseq PHI (Tx67 n) N vc38_71 k) x1 x2
  have h3 := ((e38_71 n N k ) : ((kseq PHI (Tx67 n) N vc38_71 k) .normal s38_8) = _)
  refine Eq.trans (runC_seq _ _ _ k) (Eq.trans h2 (Eq.trans (congrArg (fun K => m38_3 n N x1 x2 K (fun x4 => (kseq PHI (Tx67 n) N vc38_71 k) .ret (s38_5 x4))) h3) (by kernel_rfl)))
def m38_0 (n N : Nat) (x0 x1 : D) (Kr : D → Option R) : Option R :=
  (m38_1 n N x0 x1 (fun y1 y2 => (m38_2 n N y1 y2 Kr)))
theorem e38_0 (n N : Nat) (k : Kn R) (x0 x1 : D) : runC PHI (Tx67 n) N vc38_0 (s38_0 x0 x1) k = m38_0 n N x0 x1 (fun x4 => k .ret (s38_5 x4)) := by
  have h2 := e38_1 n N (kseq PHI (Tx67 n) N vc38_2 k) x0 x1
  have h3 := (funext fun y1 => funext fun y2 => (e38_2 n N k y1 y2) : (fun (y1 y2 : D) => (kseq PHI (Tx67 n) N vc38_2 k) .normal (s38_1 y1 y2)) = _)
  refine Eq.trans (runC_seq _ _ _ k) (Eq.trans h2 (Eq.trans (congrArg (fun K => m38_1 n N x0 x1 K) h3) (by kernel_rfl)))
theorem r38 (n N : Nat) (x0 x1 : D) : runC PHI (Tx67 n) N vf38.body (enterV vf38 [V.f x0, V.f x1] []) (finish vf38) = m38_0 n N x0 x1 (fun x4 => finish vf38 .ret (s38_5 x4)) := 
  Eq.trans (runC_pre (s1 := (s38_0 x0 x1)) (by kernel_rfl) _ _) (Eq.trans (e38_0 n N (finish vf38) x0 x1) (by kernel_rfl))
end
theorem okx38 : ∀ m, FnOk Try.prog PHI (Tx38 m) := by
  refine FnOk.rec2 Try.prog PHI hPHI ok25 (vf := vf38) (by kernel_rfl) (fun m => fn2 (prx38 m) fun n r => .f (spx38 m n r)) (fun args => ?_) (fun m hm => ⟨Tx67 m, okx67 m hm, fun args r H' ha hr => ?_⟩)
  · unfold fn2; split <;> rfl
  · unfold fn2 at hr
    split at hr
    · rename_i n r
      obtain ⟨h1, h2⟩ := toO_some hr
      injection h2 with h2 h3; subst h2; subst h3
      refine ⟨0, (r38 m 0 n r).trans ?_⟩
      have p : ∀ i, 0 ≤ i → prx67 m n (.i i) r = true := fun i hi => by
        simp only [prx67, toI_i, leb_t hi, Bool.true_and]
        exact h1
      simp only [m38_1, m38_4, m38_7, m38_9, m38_13, m38_15, m38_19, m38_21, m38_24, m38_20, m38_18, m38_14, m38_12, m38_8, m38_6, m38_5, m38_3, m38_71, m38_2, m38_0, isPtr_p, deref_p, toB_b, cond_true, p 0 (by omega), p 1 (by omega), show spx67 m n (.i 0) r = argO (fun x => evB m x r) n 0 from rfl, show spx67 m n (.i 1) r = argO (fun x => evB m x r) n 1 from rfl]
      show _ = some (V.f (evB (m + 1) n r), [])
      rw [evB]
      cases eqb (n.at 0).toI 1
      · cases eqb (n.at 0).toI 2
        · cases eqb (n.at 0).toI 3
          · cases eqb (n.at 0).toI 4
            · cases eqb (n.at 0).toI 5
              · cases eqb (n.at 0).toI 6
                · cases eqb (n.at 0).toI 7
                  · cases eqb (n.at 0).toI 8
                    · cases eqb (n.at 0).toI 9
                      · rfl
                      · cases (n.at 4).toB <;> rfl
                    · rfl
                  · rfl
                · rfl
              · rfl
            · rfl
          · rfl
        · rfl
      · rfl
    · cases hr
def sp38 (n r : D) : D := evB n.wt n r
def pr38 (_ _ : D) : Bool := true
def Tb38 : CallF := extend Tb25 38 (fn2 pr38 fun n r => .f (sp38 n r))
theorem ok38 : FnOk Try.prog PHI Tb38 := FnOk.lim okx38 fun args r hr => by
  unfold fn2 at hr
  split at hr
  · rename_i n r
    refine ⟨n.wt, ?_⟩
    show toO (prx38 n.wt n r, _, _) = _
    rw [show prx38 n.wt n r = true from depOk_size _ _ (Nat.le_refl _)]
    exact hr
  · cases hr
/-! ### They are one -/
theorem Q_row {r : D} (h : Is Try.prog 32 r) (i : Int) : Q (sp30 (rowat r i)) (sp10 (rowat r i)) := by
  unfold rowat
  cases hc : leb 0 i && ltb i (r.toL.length : Int)
  · exact Q_z.clean
  · simp only [cond_true]
    rw [Bool.and_eq_true] at hc
    have h0 : 0 ≤ i := of_decide_eq_true hc.1
    have h1 : i < (r.toL.length : Int) := of_decide_eq_true hc.2
    have hi : i.toNat < r.toL.length := by omega
    have e : r.at i.toNat = r.toL[i.toNat] := by
      unfold D.at; rw [List.getD_eq_getElem?_getD, List.getElem?_eq_getElem hi]; rfl
    rw [e]
    exact Q_lit (h.elem (e := 35) (by kernel_rfl) _ (List.getElem_mem hi))
theorem ev_Q : ∀ (m : Nat) (n r : D), Is Try.prog 48 n → Is Try.prog 32 r → Q (evA m n r) (evB m n r)
  | 0, n, r, _, _ => Q_z
  | m + 1, n, r, hn, hr => by
    have ih : ∀ i, Q (argO (fun x => evA m x r) n i) (argO (fun x => evB m x r) n i) := fun i => by
      unfold argO
      cases hc : ltb (i : Int) ((n.at 6).toL.length : Int)
      · exact Q_z
      · have h1 : (i : Int) < ((n.at 6).toL.length : Int) := of_decide_eq_true hc
        have hi : i < (n.at 6).toL.length := by omega
        have e : (n.at 6).toL.getD i .nil = (n.at 6).toL[i] := by rw [List.getD_eq_getElem?_getD, List.getElem?_eq_getElem hi]; rfl
        simp only [cond_true]
        rw [e]
        exact ev_Q m _ r ((hn.fld (k := 6) (ft := 46) (off := 9) (by kernel_rfl)).elem (e := 48) (by kernel_rfl) _ (List.getElem_mem hi)) hr
    rw [evA, evB]
    cases eqb (n.at 0).toI 1
    · cases eqb (n.at 0).toI 2
      · cases eqb (n.at 0).toI 3
        · cases eqb (n.at 0).toI 4
          · cases eqb (n.at 0).toI 5
            · cases eqb (n.at 0).toI 6
              · cases eqb (n.at 0).toI 7
                · cases eqb (n.at 0).toI 8
                  · cases eqb (n.at 0).toI 9
                    · exact Q_z
                    · exact Q_null (ih 0) _
                  · exact Q_ari _ (ih 0) (ih 1)
                · exact Q_cmp _ (ih 0) (ih 1)
              · exact Q_or (ih 0) (ih 1)
            · exact Q_and (ih 0) (ih 1)
          · exact Q_not (ih 0)
        · exact Q_neg (ih 0)
      · exact Q_row hr _
    · exact Q_lit (hn.fld (k := 2) (ft := 35) (off := 2) (by kernel_rfl))

end Go.Vam.C15
namespace Go.Vam.C15
open Go.Proofs
/-! ### Are two values one, field by field? -/
def sp40 (x : D) : Bool := ltb (IntKind.wrap IntKind.i64 (x.toF : Int)) 0
def pr40 (x : D) : Bool := !isNan x.toF
section
variable {R : Type}
def m40_0 (N : Nat) (x0 : D) (Kr : D → Option R) : Option R :=
  (bif (!isNan x0.toF) then Kr (D.b (ltb (IntKind.wrap IntKind.i64 (x0.toF : Int)) 0)) else none)
def s40_0 (x0 : D) : St := sts 7 [(0, V.f x0)] []
def s40_1 (x2 : D) : St := sts 7 [(2, V.f x2)] []
theorem e40_0 (N : Nat) (k : Kn R) (x0 : D) : runC PHI Tb38 N vc40_0 (s40_0 x0) k = m40_0 N x0 (fun x2 => k .ret (s40_1 x2)) := by kernel_rfl
theorem r40 (N : Nat) (x0 : D) : runC PHI Tb38 N vf40.body (enterV vf40 [V.f x0] []) (finish vf40) = m40_0 N x0 (fun x2 => finish vf40 .ret (s40_1 x2)) := 
  Eq.trans (runC_pre (s1 := (s40_0 x0)) (by kernel_rfl) _ _) (Eq.trans (e40_0 N (finish vf40) x0) (by kernel_rfl))
end
def Tb40 : CallF := extend Tb38 40 (fn1 pr40 fun x => .f (.b (sp40 x)))
theorem ok40 : FnOk Try.prog PHI Tb40 := FnOk.add1 hPHI ok38 (by kernel_rfl) fun x _ hp => ⟨0, (r40 0 x).trans (by
  unfold m40_0
  rw [show (!isNan x.toF) = true from hp]; rfl)⟩
def sp19 (x y : D) : Bool := eqb (x.at 0).toI (y.at 0).toI && (eqb (x.at 1).toI (y.at 1).toI && (eqL (x.at 3).toS (y.at 3).toS && ((sp39 (x.at 2) == sp39 (y.at 2)) && (!sp39 (x.at 2) || ((F2.ev .feq (x.at 2) (y.at 2)).toB && (sp40 (x.at 2) == sp40 (y.at 2)))))))
theorem feq_nn {x y : D} (h : (F2.ev .feq x y).toB = true) : pr40 x = true ∧ pr40 y = true := by
  rw [feq_o] at h
  have hx : nan x = false := by
    cases hn : nan x
    · rfl
    · rw [(oo_none x y).2 (.inl hn)] at h; cases h
  have hy : nan y = false := by
    cases hn : nan y
    · rfl
    · rw [(oo_none x y).2 (.inr hn)] at h; cases h
  have hx' : isNan x.toF = false := hx
  have hy' : isNan y.toF = false := hy
  unfold pr40
  rw [hx', hy']
  exact ⟨rfl, rfl⟩
section
variable {R : Type}
def m19_0 (N : Nat) (x0 x1 : D) (Kr : D → Option R) : Option R :=
  (bif (eqb (x0.at 0).toI (x1.at 0).toI) then (bif (eqb (x0.at 1).toI (x1.at 1).toI) then (bif (eqL (x0.at 3).toS (x1.at 3).toS) then (bif ((sp39 (x0.at 2)) == (sp39 (x1.at 2))) then (bif (!(sp39 (x0.at 2))) then Kr (D.b true) else (bif (F2.ev .feq (x0.at 2) (x1.at 2)).toB then (bif (pr40 (x0.at 2)) then (bif (pr40 (x1.at 2)) then Kr (D.b ((sp40 (x0.at 2)) == (sp40 (x1.at 2)))) else none) else none) else Kr (D.b false))) else Kr (D.b false)) else Kr (D.b false)) else Kr (D.b false)) else Kr (D.b false))
def s19_0 (x0 x1 : D) : St := sts 55 [(0, V.f x0), (1, V.f x1)] []
def s19_1 (x4 : D) : St := sts 55 [(4, V.f x4)] []
theorem e19_0 (N : Nat) (k : Kn R) (x0 x1 : D) : runC PHI Tb40 N vc19_0 (s19_0 x0 x1) k = m19_0 N x0 x1 (fun x4 => k .ret (s19_1 x4)) := by kernel_rfl
theorem r19 (N : Nat) (x0 x1 : D) : runC PHI Tb40 N vf19.body (enterV vf19 [V.f x0, V.f x1] []) (finish vf19) = m19_0 N x0 x1 (fun x4 => finish vf19 .ret (s19_1 x4)) := 
  Eq.trans (runC_pre (s1 := (s19_0 x0 x1)) (by kernel_rfl) _ _) (Eq.trans (e19_0 N (finish vf19) x0 x1) (by kernel_rfl))
end
def Tb19 : CallF := extend Tb40 19 (fn2 (fun _ _ => true) fun x y => .f (.b (sp19 x y)))
theorem ok19 : FnOk Try.prog PHI Tb19 := FnOk.add2 hPHI ok40 (by kernel_rfl) fun x y _ _ => ⟨0, (r19 0 x y).trans (by
  unfold m19_0 sp19
  cases eqb (x.at 0).toI (y.at 0).toI
  · rfl
  cases eqb (x.at 1).toI (y.at 1).toI
  · rfl
  cases eqL (x.at 3).toS (y.at 3).toS
  · rfl
  cases (sp39 (x.at 2) == sp39 (y.at 2))
  · rfl
  cases sp39 (x.at 2)
  · rfl
  cases hf : (F2.ev .feq (x.at 2) (y.at 2)).toB
  · rfl
  rw [(feq_nn hf).1, (feq_nn hf).2]
  rfl)⟩
theorem eqL_self : ∀ l : List Nat, eqL l l = true
  | [] => rfl
  | a :: l => by simp [eqL, eqL_self l]
theorem exact_Q {x y : D} (h : Q x y) : sp19 x y = true := by
  have hf := fe_feq h.f
  unfold sp19
  rw [h.k, h.n, h.s, eqb_t rfl, eqb_t rfl, eqL_self, s43, s43, hf.n]
  cases hn : nan (y.at 2)
  · have e : (x.at 2).toF = (y.at 2).toF := by
      rcases h.f with e | ⟨_, e⟩
      · exact e
      · have : nan (y.at 2) = true := e
        rw [hn] at this; cases this
    rw [feq_o, hf.l, oo_self _ hn]
    unfold sp40
    rw [e]
    simp
  · rfl

end Go.Vam.C15
