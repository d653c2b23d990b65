/- Chapter 14: what functions come to, part 9. No conditions. -/
import Derived.Test.YtcpbgimpopcfoaaP8
import Derived.KernelRfl
set_option linter.unusedVariables false
set_option linter.unusedSimpArgs false
set_option maxRecDepth 100000
namespace Go.Vam.C14
open Go.Proofs
def colN (by' : D) : D := .ag [.i 2, .s [], .ag [.i 0, .i 0, .f 0, .s []], by', .b false, .i 0, .sz []]
def sp13 (by' : D) : D := colN by'
section
variable {R : Type}
def m13_0 (N : Nat) (x0 : D) (Kr : D → Option R) : Option R :=
  Kr (D.p (D.ag [(D.i 2), (D.s []), (D.ag [(D.i 0), (D.i 0), (D.f 0), (D.s [])]), x0, (D.b false), (D.i 0), (D.sz [])]))
def s13_0 (x0 : D) : St := sts 5 [(0, V.f x0)] []
def s13_1 (x2 : D) : St := sts 5 [(2, V.f x2)] []
theorem e13_0 (N : Nat) (k : Kn R) (x0 : D) : runC PHI Tb15 N vc13_0 (s13_0 x0) k = m13_0 N x0 (fun x2 => k .ret (s13_1 x2)) := by kernel_rfl
theorem r13 (N : Nat) (x0 : D) : runC PHI Tb15 N vf13.body (enterV vf13 [V.f x0] []) (finish vf13) = m13_0 N x0 (fun x2 => finish vf13 .ret (s13_1 x2)) := 
  Eq.trans (runC_pre (s1 := (s13_0 x0)) (by kernel_rfl) _ _) (Eq.trans (e13_0 N (finish vf13) x0) (by kernel_rfl))
end
noncomputable def Tb13 : CallF := extend Tb15 13 (fn1 (fun _ => true) fun b => .f (sp13 b))
theorem ok13 : FnOk Try.prog PHI Tb13 := FnOk.add1 hPHI ok15 (by kernel_rfl) fun b _ _ => ⟨0, (r13 _ b).trans rfl⟩
def cntN : D := .ag [.i 10, .s [], .ag [.i 0, .i 0, .f 0, .s []], .i 0, .b false, .i 0, .sz []]
def sumN (by' : D) : D := .ag [.i 11, .s [], .ag [.i 0, .i 0, .f 0, .s []], .i 0, .b false, .i 0, .sl [sp13 by']]
def items (by' : D) : D := .sl [cntN, sumN by']
def qG (group its : D) : D := .ag [.sz [], .sz [], .i 0, .sz [], group, .b true, its, .sz [], .i (-1)]
def sumL (f : D → Int) : List D → Int
  | [] => 0
  | x :: l => f x + sumL f l
theorem sumL_app (f : D → Int) : ∀ l m, sumL f (l ++ m) = sumL f l + sumL f m
  | [], m => by simp [sumL]
  | x :: l, m => by rw [List.cons_append, sumL, sumL, sumL_app f l m]; omega
theorem sumL_ins (f : D → Int) (c : D → D → Int) (x : D) : ∀ l, sumL f (insL c x l) = f x + sumL f l
  | [] => rfl
  | y :: l => by
    rw [insL]
    cases leb (c x y) 0
    · rw [cond_false, sumL, sumL_ins f c x l, sumL]; omega
    · rfl
theorem sumL_stb (f : D → Int) (c : D → D → Int) : ∀ l, sumL f (stb c l) = sumL f l
  | [] => rfl
  | x :: l => by rw [stb, sumL_ins, sumL_stb f c l]; rfl
def sumG (f : D → Int) : List (List D) → Int
  | [] => 0
  | g :: l => sumL f g + sumG f l
theorem sumG_runsF (f : D → Int) (c : D → D → Int) : ∀ l g p, sumG f (runsF c g p l) = sumL f g + sumL f l
  | [], g, p => by rw [runsF, sumG, sumG, sumL]
  | x :: l, g, p => by
    rw [runsF]
    cases eqb (c p x) 0
    · rw [cond_false, sumG, sumG_runsF f c l, sumL, sumL, sumL]; omega
    · rw [cond_true, sumG_runsF f c l, sumL_app, sumL, sumL, sumL]; omega
theorem sumG_runs (f : D → Int) (c : D → D → Int) (l : List D) : sumG f (runs c l) = sumL f l := by
  cases l with
  | nil => rfl
  | cons x l => rw [runs, sumG_runsF, sumL, sumL, sumL]; omega
theorem runsF_mem (c : D → D → Int) : ∀ l g p, ∀ h ∈ runsF c g p l, ∀ x ∈ h, x ∈ g ∨ x ∈ l
  | [], g, p, h, hh, x, hx => by
    rw [runsF, List.mem_singleton] at hh
    subst hh; exact .inl hx
  | y :: l, g, p, h, hh, x, hx => by
    rw [runsF] at hh
    cases hc : eqb (c p y) 0
    · rw [hc, cond_false] at hh
      rcases List.mem_cons.1 hh with rfl | hh
      · exact .inl hx
      · rcases runsF_mem c l [y] y h hh x hx with h1 | h1
        · rw [List.mem_singleton] at h1; subst h1; exact .inr (List.mem_cons_self ..)
        · exact .inr (List.mem_cons_of_mem _ h1)
    · rw [hc, cond_true] at hh
      rcases runsF_mem c l (g ++ [y]) y h hh x hx with h1 | h1
      · rcases List.mem_append.1 h1 with h1 | h1
        · exact .inl h1
        · rw [List.mem_singleton] at h1; subst h1; exact .inr (List.mem_cons_self ..)
      · exact .inr (List.mem_cons_of_mem _ h1)
theorem runs_mem (c : D → D → Int) (l : List D) : ∀ h ∈ runs c l, ∀ x ∈ h, x ∈ l := fun h hh x hx => by
  cases l with
  | nil => cases hh
  | cons y l =>
    rcases runsF_mem c l [y] y h hh x hx with h1 | h1
    · rw [List.mem_singleton] at h1; subst h1; exact List.mem_cons_self ..
    · exact List.mem_cons_of_mem _ h1
theorem runsF_glen (c : D → D → Int) : ∀ l g p, ∀ h ∈ runsF c g p l, h.length ≤ g.length + l.length
  | [], g, p, h, hh => by
    rw [runsF, List.mem_singleton] at hh
    subst hh; simp
  | y :: l, g, p, h, hh => by
    rw [runsF] at hh
    cases hc : eqb (c p y) 0
    · rw [hc, cond_false] at hh
      rcases List.mem_cons.1 hh with rfl | hh
      · omega
      · have := runsF_glen c l [y] y h hh
        simp at this ⊢; omega
    · rw [hc, cond_true] at hh
      have := runsF_glen c l (g ++ [y]) y h hh
      simp at this ⊢; omega
theorem runs_glen (c : D → D → Int) (l : List D) : ∀ h ∈ runs c l, h.length ≤ l.length := fun h hh => by
  cases l with
  | nil => cases hh
  | cons y l => have := runsF_glen c l [y] y h hh; simp at this ⊢; omega
def vD (by' r : D) : D := sp46 (rowat r by'.toI)
def sv (by' r : D) : Int := bif eqb ((vD by' r).at 0).toI 1 then ((vD by' r).at 1).toI else 0
def fitR (by' r : D) : Prop := eqb ((vD by' r).at 0).toI 1 = true → -1125899906842624 ≤ ((vD by' r).at 1).toI ∧ ((vD by' r).at 1).toI ≤ 1125899906842624
def Tot (h : D) (t : Int) : Prop := ∃ (hi lo : Int) (b : Bool), h = .ag [.i hi, .i lo, .b b] ∧ hi * 18446744073709551616 + lo = t ∧ 0 ≤ lo ∧ lo < 18446744073709551616 ∧ (b = false → t = 0)
theorem tot_step {h x : D} {t : Int} (hT : Tot h t) (h1 : -1152921504606846976 ≤ t) (h2 : t ≤ 1152921504606846976) (n1 : -1125899906842624 ≤ x.toI) (n2 : x.toI ≤ 1125899906842624) : Tot (sp75_h0 x h) (t + x.toI) := by
  obtain ⟨hi, lo, b, rfl, e, l1, l2, _⟩ := hT
  have hu : IntKind.u64.wrap x.toI = x.toI % 18446744073709551616 := rfl
  have hs : (F2.ev (.shr .i64) x (D.i 63)).toI = Int.fdiv x.toI 9223372036854775808 := rfl
  have e1 : sp75_h0 x (.ag [.i hi, .i lo, .b b]) = .ag [.i (IntKind.i64.wrap (hi + (IntKind.i64.wrap (Int.fdiv x.toI 9223372036854775808 + (IntKind.i64.wrap ((lo + (x.toI % 18446744073709551616) + 0) / 18446744073709551616)))))), .i ((lo + (x.toI % 18446744073709551616) + 0) % 18446744073709551616), .b true] := rfl
  rw [e1, Int.fdiv_eq_ediv_of_nonneg _ (by omega)]
  refine ⟨_, _, _, rfl, ?_, by omega, by omega, fun h => by cases h⟩
  rw [wrap64_id (n := (lo + (x.toI % 18446744073709551616) + 0) / 18446744073709551616) (by omega) (by omega)]
  rw [wrap64_id (n := x.toI / 9223372036854775808 + (lo + (x.toI % 18446744073709551616) + 0) / 18446744073709551616) (by omega) (by omega)]
  rw [wrap64_id (by omega) (by omega)]
  omega
theorem tot_val {h : D} {t : Int} (hT : Tot h t) (h1 : -1152921504606846976 ≤ t) (h2 : t ≤ 1152921504606846976) : ((sp76 h).at 1).toI = t := by
  obtain ⟨hi, lo, b, rfl, e, l1, l2, hb⟩ := hT
  cases b with
  | false => rw [hb rfl]; rfl
  | true =>
    have e1 : sp76 (.ag [.i hi, .i lo, .b true]) = bif !eqb hi (Int.fdiv (IntKind.i64.wrap lo) 9223372036854775808) then nullD else sp74 (D.i (IntKind.i64.wrap lo)) := rfl
    have hw : IntKind.i64.wrap lo = t := by rw [wrap64]; omega
    have hi2 : hi = Int.fdiv t 9223372036854775808 := by
      rw [Int.fdiv_eq_ediv_of_nonneg _ (by omega)]; omega
    rw [e1, hw, eqb_t hi2]
    rfl
theorem fst36_1 (n r : D) (s : D × D) : (fst36 n s r).1 = bif eqb ((sp23 ((n.at 6).at 0) r).at 0).toI 1 then sp75_h0 ((sp23 ((n.at 6).at 0) r).at 1) s.1 else s.1 := rfl
theorem fold_step (by' n : D) (hn : ∀ r, sp23 ((n.at 6).at 0) r = vD by' r) (r : D) (s : D × D) (t : Int) (hr : fitR by' r) (hT : Tot s.1 t) (h1 : -1152921504606846976 ≤ t) (h2 : t ≤ 1152921504606846976) : Tot (fst36 n s r).1 (t + sv by' r) ∧ -1125899906842624 ≤ sv by' r ∧ sv by' r ≤ 1125899906842624 := by
  rw [fst36_1, hn]
  unfold sv
  cases hk : eqb ((vD by' r).at 0).toI 1
  · simp only [cond_false, Int.add_zero]
    exact ⟨hT, by omega, by omega⟩
  · obtain ⟨a1, a2⟩ := hr hk
    simp only [cond_true]
    exact ⟨tot_step hT h1 h2 a1 a2, a1, a2⟩
theorem fold_tot (by' n : D) (hn : ∀ r, sp23 ((n.at 6).at 0) r = vD by' r) (l : List D) : ∀ (s : D × D) (t : Int), (∀ r ∈ l, fitR by' r) → l.length ≤ 60 → Tot s.1 t → -1152921504606846976 + 1125899906842624 * (l.length : Int) ≤ t → t + 1125899906842624 * (l.length : Int) ≤ 1152921504606846976 →
    Tot (l.foldl (fst36 n) s).1 (t + sumL (sv by') l) := by
  induction l with
  | nil => intro s t _ _ hT _ _; rw [List.foldl_nil, sumL, Int.add_zero]; exact hT
  | cons r l ih =>
    intro s t hf hl hT h1 h2
    rw [List.foldl_cons, sumL, ← Int.add_assoc]
    rw [List.length_cons] at hl h1 h2
    obtain ⟨q1, q2, q3⟩ := fold_step by' n hn r s t (hf r (List.mem_cons_self ..)) hT (by omega) (by omega)
    generalize fst36 n s r = s' at q1 ⊢
    exact ih s' _ (fun x hx => hf x (List.mem_cons_of_mem _ hx)) (by omega) q1 (by omega) (by omega)
theorem sumL_bd (by' : D) : ∀ l : List D, (∀ r ∈ l, fitR by' r) → -(1125899906842624 * (l.length : Int)) ≤ sumL (sv by') l ∧ sumL (sv by') l ≤ 1125899906842624 * (l.length : Int)
  | [], _ => by simp [sumL]
  | r :: l, hf => by
    obtain ⟨h1, h2⟩ := sumL_bd by' l fun x hx => hf x (List.mem_cons_of_mem _ hx)
    have hr := hf r (List.mem_cons_self ..)
    have : -1125899906842624 ≤ sv by' r ∧ sv by' r ≤ 1125899906842624 := by
      unfold sv
      cases hk : eqb ((vD by' r).at 0).toI 1
      · exact ⟨by rw [cond_false]; omega, by rw [cond_false]; omega⟩
      · exact hr hk
    rw [sumL, List.length_cons]
    omega
theorem itm_cnt (g : D) (hl : (g.at 0).toL.length ≤ 60) : ((itm g cntN).at 1).toI = ((g.at 0).toL.length : Int) := by
  have e : ((itm g cntN).at 1).toI = mmI false ((g.at 0).toL.length : Int) [2147483647] := rfl
  rw [e]
  unfold mmI mmI
  simp only [cond_false]
  split <;> omega
theorem itm_sum (by' g : D) (hl : (g.at 0).toL.length ≤ 60) (hf : ∀ r ∈ (g.at 0).toL, fitR by' r) : ((itm g (sumN by')).at 1).toI = sumL (sv by') (g.at 0).toL := by
  have e : itm g (sumN by') = sp76 ((g.at 0).toL.foldl (fst36 (sumN by')) ini36).1 := rfl
  have hT := fold_tot by' (sumN by') (fun _ => rfl) (g.at 0).toL ini36 0 hf hl ⟨0, 0, false, rfl, by omega, by omega, by omega, fun _ => rfl⟩ (by omega) (by omega)
  rw [Int.zero_add] at hT
  obtain ⟨b1, b2⟩ := sumL_bd by' (g.at 0).toL hf
  rw [e]
  exact tot_val hT (by omega) (by omega)
end Go.Vam.C14
namespace Go.Vam.C14
open Go.Proofs
def okW (by' r : D) : Bool := bif eqb ((sp14 r by').at 0).toI 1 then (bif ltb 1125899906842624 ((sp14 r by').at 1).toI then false else !ltb ((sp14 r by').at 1).toI (-1125899906842624)) else true
def cs (f : D → Int) : Int → List D → Int
  | a, [] => a
  | a, x :: l => cs f (IntKind.i64.wrap (a + f x)) l
theorem wrap_add (a b : Int) : IntKind.i64.wrap (IntKind.i64.wrap a + b) = IntKind.i64.wrap (a + b) := by
  rw [wrap64, wrap64, wrap64]; omega
theorem cs_sum (f : D → Int) : ∀ (l : List D) (a : Int), cs f (IntKind.i64.wrap a) l = IntKind.i64.wrap (a + sumL f l)
  | [], a => by rw [cs, sumL, Int.add_zero]
  | x :: l, a => by rw [cs, wrap_add, cs_sum f l, sumL, Int.add_assoc]
theorem cs_0 (f : D → Int) (l : List D) : cs f 0 l = IntKind.i64.wrap (sumL f l) := by
  have h := cs_sum f l 0
  rw [Int.zero_add] at h
  exact h
theorem sumL_map (f : D → Int) (h : D → D) : ∀ l, sumL f (l.map h) = sumL (fun x => f (h x)) l
  | [] => rfl
  | x :: l => by rw [List.map_cons, sumL, sumL, sumL_map f h l]
theorem sumL_congr {f g : D → Int} : ∀ {l : List D}, (∀ x ∈ l, f x = g x) → sumL f l = sumL g l
  | [], _ => rfl
  | x :: l, h => by rw [sumL, sumL, h x (List.mem_cons_self ..), sumL_congr fun y hy => h y (List.mem_cons_of_mem _ hy)]
theorem sumL_one : ∀ l : List D, sumL (fun _ => 1) l = (l.length : Int)
  | [] => rfl
  | x :: l => by rw [sumL, sumL_one l, List.length_cons]; omega
theorem sumG_map (f : D → Int) (h : List D → D) (k : List D → Int) : ∀ R : List (List D), (∀ g ∈ R, f (h g) = k g) → sumL f (R.map h) = (R.map k).sum
  | [], _ => rfl
  | g :: R, hh => by
    rw [List.map_cons, sumL, hh g (List.mem_cons_self ..), sumG_map f h k R fun y hy => hh y (List.mem_cons_of_mem _ hy), List.map_cons, List.sum_cons]
theorem sumG_sum (f : D → Int) : ∀ R : List (List D), (R.map (sumL f)).sum = sumG f R
  | [] => rfl
  | g :: R => by rw [List.map_cons, List.sum_cons, sumG_sum f R]; rfl
section
variable {R : Type}
def m4_1 (N : Nat) (x0 x1 x2 : D) (K : D → D → D → Option R) : Option R :=
  K x0 x1 x2
def s4_0 (x0 x1 x2 : D) : St := sts 135 [(0, V.f x0), (1, V.f x1), (2, V.f x2)] []
theorem e4_1 (N : Nat) (k : Kn R) (x0 x1 x2 : D) : runC PHI Tb13 N vc4_1 (s4_0 x0 x1 x2) k = m4_1 N x0 x1 x2 (fun x0 x1 x2 => k .normal (s4_0 x0 x1 x2)) := by
  refine Eq.trans (runC_post _ _ _ k) (Eq.trans (ops_run _ _ _ _) (by kernel_rfl))
def m4_3 (N : Nat) (x0 x1 x2 : D) (K : D → D → D → Option R) (Kr : D → Option R) : Option R :=
  (bif (!sp9) then (bif true then Kr (D.b sp9) else K x0 x1 x2) else (bif (ltb 12 (x0.toL.length : Int)) then (bif true then Kr (D.b sp9) else K x0 x1 x2) else (bif (!(sp10 x2)) then Kr (D.b sp9) else K x0 x1 x2)))
def s4_1 (x6 : D) : St := sts 135 [(6, V.f x6)] []
theorem e4_3 (N : Nat) (k : Kn R) (x0 x1 x2 : D) : runC PHI Tb13 N vc4_3 (s4_0 x0 x1 x2) k = m4_3 N x0 x1 x2 (fun x0 x1 x2 => k .normal (s4_0 x0 x1 x2)) (fun x6 => k .ret (s4_1 x6)) := by kernel_rfl
def m4_11 (N : Nat) (x0 x1 x2 : D) (K : D → D → D → D → Option R) : Option R :=
  K x0 x1 x2 (D.sl ([(D.ag [(D.i 10), (D.s []), (D.ag [(D.i 0), (D.i 0), (D.f 0), (D.s [])]), (D.i 0), (D.b false), (D.i 0), (D.sz [])]), (D.ag [(D.i 11), (D.s []), (D.ag [(D.i 0), (D.i 0), (D.f 0), (D.s [])]), (D.i 0), (D.b false), (D.i 0), (D.sl ([(sp13 x1)] : List D))])] : List D))
def s4_2 (x0 x1 x2 x7 : D) : St := sts 135 [(0, V.f x0), (1, V.f x1), (2, V.f x2), (7, V.f x7)] []
theorem e4_11 (N : Nat) (k : Kn R) (x0 x1 x2 : D) : runC PHI Tb13 N vc4_11 (s4_0 x0 x1 x2) k = m4_11 N x0 x1 x2 (fun x0 x1 x2 x7 => k .normal (s4_2 x0 x1 x2 x7)) := by
  refine Eq.trans (runC_post _ _ _ k) (Eq.trans (ops_run _ _ _ _) (by kernel_rfl))
def m4_13 (N : Nat) (x0 x1 x2 x7 : D) (K : D → D → D → D → D → D → D → Option R) : Option R :=
  K x0 x1 x2 x7 (D.i 0) (D.i 0) (D.b true)
def s4_3 (x0 x1 x2 x7 x8 x9 x10 : D) : St := sts 135 [(0, V.f x0), (1, V.f x1), (2, V.f x2), (7, V.f x7), (8, V.f x8), (9, V.f x9), (10, V.f x10)] []
theorem e4_13 (N : Nat) (k : Kn R) (x0 x1 x2 x7 : D) : runC PHI Tb13 N vc4_13 (s4_2 x0 x1 x2 x7) k = m4_13 N x0 x1 x2 x7 (fun x0 x1 x2 x7 x8 x9 x10 => k .normal (s4_3 x0 x1 x2 x7 x8 x9 x10)) := by
  refine Eq.trans (runC_post _ _ _ k) (Eq.trans (ops_run _ _ _ _) (by kernel_rfl))
def m4_16 (N : Nat) (x0 x1 x2 x7 x8 x9 x10 : D) (K : D → D → D → D → D → D → D → D → D → D → Option R) : Option R :=
  K x0 x1 x2 x7 x8 x9 x10 x2 (D.i (x2.toL.length : Int)) (D.i 0)
def s4_4 (x0 x1 x2 x7 x8 x9 x10 x36 x37 x38 : D) : St := sts 135 [(0, V.f x0), (1, V.f x1), (2, V.f x2), (7, V.f x7), (8, V.f x8), (9, V.f x9), (10, V.f x10), (36, V.f x36), (37, V.f x37), (38, V.f x38)] []
theorem e4_16 (N : Nat) (k : Kn R) (x0 x1 x2 x7 x8 x9 x10 : D) : runC PHI Tb13 N vc4_16 (s4_3 x0 x1 x2 x7 x8 x9 x10) k = m4_16 N x0 x1 x2 x7 x8 x9 x10 (fun x0 x1 x2 x7 x8 x9 x10 x36 x37 x38 => k .normal (s4_4 x0 x1 x2 x7 x8 x9 x10 x36 x37 x38)) := by
  refine Eq.trans (runC_post _ _ _ k) (Eq.trans (ops_run _ _ _ _) (by kernel_rfl))
def m4_19 (N : Nat) (x0 x1 x2 x7 x8 x9 x10 x36 x37 x38 : D) (K : D → D → D → D → D → D → D → D → D → D → Option R) (K0 : D → D → D → D → D → D → Option R) : Option R :=
  (bif (ltb x38.toI x37.toI) then (bif (inb x38.toI x36.toL.length) then (bif (eqb ((sp14 (x36.at (x38.toI : Int).toNat) x1).at 0).toI 1) then (bif (ltb 1125899906842624 ((sp14 (x36.at (x38.toI : Int).toNat) x1).at 1).toI) then (bif true then K x0 x1 x2 x7 x8 x9 (D.b false) x36 x37 (D.i (IntKind.i64.wrap (x38.toI + 1))) else K x0 x1 x2 x7 x8 x9 x10 x36 x37 (D.i (IntKind.i64.wrap (x38.toI + 1)))) else (bif (ltb ((sp14 (x36.at (x38.toI : Int).toNat) x1).at 1).toI (-1125899906842624)) then K x0 x1 x2 x7 x8 x9 (D.b false) x36 x37 (D.i (IntKind.i64.wrap (x38.toI + 1))) else K x0 x1 x2 x7 x8 x9 x10 x36 x37 (D.i (IntKind.i64.wrap (x38.toI + 1))))) else (bif false then K x0 x1 x2 x7 x8 x9 (D.b false) x36 x37 (D.i (IntKind.i64.wrap (x38.toI + 1))) else K x0 x1 x2 x7 x8 x9 x10 x36 x37 (D.i (IntKind.i64.wrap (x38.toI + 1))))) else none) else K0 x0 x2 x7 x8 x9 x10)
def s4_5 (x0 x2 x7 x8 x9 x10 : D) : St := sts 135 [(0, V.f x0), (2, V.f x2), (7, V.f x7), (8, V.f x8), (9, V.f x9), (10, V.f x10)] []
theorem e4_19 (N : Nat) (k : Kn R) (x0 x1 x2 x7 x8 x9 x10 x36 x37 x38 : D) : runC PHI Tb13 N vc4_19 (s4_4 x0 x1 x2 x7 x8 x9 x10 x36 x37 x38) k = m4_19 N x0 x1 x2 x7 x8 x9 x10 x36 x37 x38 (fun x0 x1 x2 x7 x8 x9 x10 x36 x37 x38 => k .normal (s4_4 x0 x1 x2 x7 x8 x9 x10 x36 x37 x38)) (fun x0 x2 x7 x8 x9 x10 => k (.exit 0) (s4_5 x0 x2 x7 x8 x9 x10)) := by kernel_rfl
def l4_18 (N : Nat) (j : Nat) (x0 x1 x2 x7 x8 x9 x10 x36 x37 x38 : D) (K0 : D → D → D → D → D → D → Option R) : Option R :=
  match j with
  | 0 => none
  | j + 1 => (m4_19 N x0 x1 x2 x7 x8 x9 x10 x36 x37 x38 (fun y0 y1 y2 y7 y8 y9 y10 y36 y37 y38 => l4_18 N j y0 y1 y2 y7 y8 y9 y10 y36 y37 y38 K0) K0)
def m4_18 (N : Nat) (x0 x1 x2 x7 x8 x9 x10 x36 x37 x38 : D) (K0 : D → D → D → D → D → D → Option R) : Option R :=
  l4_18 N N x0 x1 x2 x7 x8 x9 x10 x36 x37 x38 K0
theorem el4_18 (N : Nat) (k : Kn R) : ∀ (j : Nat) (x0 x1 x2 x7 x8 x9 x10 x36 x37 x38 : D), loopGo (runC PHI Tb13 N vc4_19) j (s4_4 x0 x1 x2 x7 x8 x9 x10 x36 x37 x38) k = l4_18 N j x0 x1 x2 x7 x8 x9 x10 x36 x37 x38 (fun x0 x2 x7 x8 x9 x10 => k (.exit 0) (s4_5 x0 x2 x7 x8 x9 x10))
  | 0, _, _, _, _, _, _, _, _, _, _ => by kernel_rfl
  | j + 1, x0, x1, x2, x7, x8, x9, x10, x36, x37, x38 => by
    have h2 := e4_19 N (kloop PHI Tb13 N vc4_19 j k) x0 x1 x2 x7 x8 x9 x10 x36 x37 x38
    have h3 : (fun (y0 y1 y2 y7 y8 y9 y10 y36 y37 y38 : D) => (kloop PHI Tb13 N vc4_19 j k) .normal (s4_4 y0 y1 y2 y7 y8 y9 y10 y36 y37 y38)) = (fun (y0 y1 y2 y7 y8 y9 y10 y36 y37 y38 : D) => l4_18 N j y0 y1 y2 y7 y8 y9 y10 y36 y37 y38 (fun x0 x2 x7 x8 x9 x10 => k (.exit 0) (s4_5 x0 x2 x7 x8 x9 x10))) := funext fun y0 => funext fun y1 => funext fun y2 => funext fun y7 => funext fun y8 => funext fun y9 => funext fun y10 => funext fun y36 => funext fun y37 => funext fun y38 => (el4_18 N k j y0 y1 y2 y7 y8 y9 y10 y36 y37 y38)
    refine Eq.trans (loop_succ _ j _ k) (Eq.trans h2 (Eq.trans (congrArg (fun K => m4_19 N x0 x1 x2 x7 x8 x9 x10 x36 x37 x38 K (fun x0 x2 x7 x8 x9 x10 => (kloop PHI Tb13 N vc4_19 j k) (.exit 0) (s4_5 x0 x2 x7 x8 x9 x10))) h3) (by kernel_rfl)))
theorem e4_18 (N : Nat) (k : Kn R) (x0 x1 x2 x7 x8 x9 x10 x36 x37 x38 : D) : runC PHI Tb13 N vc4_18 (s4_4 x0 x1 x2 x7 x8 x9 x10 x36 x37 x38) k = m4_18 N x0 x1 x2 x7 x8 x9 x10 x36 x37 x38 (fun x0 x2 x7 x8 x9 x10 => k (.exit 0) (s4_5 x0 x2 x7 x8 x9 x10)) := by
  refine Eq.trans (runC_loop _ _ k) (Eq.trans (el4_18 N k N x0 x1 x2 x7 x8 x9 x10 x36 x37 x38) (by kernel_rfl))
def m4_17 (N : Nat) (x0 x1 x2 x7 x8 x9 x10 x36 x37 x38 : D) (K : D → D → D → D → D → D → Option R) : Option R :=
  (m4_18 N x0 x1 x2 x7 x8 x9 x10 x36 x37 x38 (fun y0 y2 y7 y8 y9 y10 => K y0 y2 y7 y8 y9 y10))
theorem e4_17 (N : Nat) (k : Kn R) (x0 x1 x2 x7 x8 x9 x10 x36 x37 x38 : D) : runC PHI Tb13 N vc4_17 (s4_4 x0 x1 x2 x7 x8 x9 x10 x36 x37 x38) k = m4_17 N x0 x1 x2 x7 x8 x9 x10 x36 x37 x38 (fun x0 x2 x7 x8 x9 x10 => k .normal (s4_5 x0 x2 x7 x8 x9 x10)) := by
  refine Eq.trans (runC_block _ _ _ k) (Eq.trans (e4_18 N (kblk 0 k) x0 x1 x2 x7 x8 x9 x10 x36 x37 x38) (by kernel_rfl))
def m4_15 (N : Nat) (x0 x1 x2 x7 x8 x9 x10 : D) (K : D → D → D → D → D → D → Option R) : Option R :=
  (m4_16 N x0 x1 x2 x7 x8 x9 x10 (fun y0 y1 y2 y7 y8 y9 y10 y36 y37 y38 => (m4_17 N y0 y1 y2 y7 y8 y9 y10 y36 y37 y38 (fun y0 y2 y7 y8 y9 y10 => K y0 y2 y7 y8 y9 y10))))
theorem e4_15 (N : Nat) (k : Kn R) (x0 x1 x2 x7 x8 x9 x10 : D) : runC PHI Tb13 N vc4_15 (s4_3 x0 x1 x2 x7 x8 x9 x10) k = m4_15 N x0 x1 x2 x7 x8 x9 x10 (fun x0 x2 x7 x8 x9 x10 => k .normal (s4_5 x0 x2 x7 x8 x9 x10)) := by
  have h2 := e4_16 N (kseq PHI Tb13 N vc4_17 k) x0 x1 x2 x7 x8 x9 x10
  have h3 := (funext fun y0 => funext fun y1 => funext fun y2 => funext fun y7 => funext fun y8 => funext fun y9 => funext fun y10 => funext fun y36 => funext fun y37 => funext fun y38 => (e4_17 N k y0 y1 y2 y7 y8 y9 y10 y36 y37 y38) : (fun (y0 y1 y2 y7 y8 y9 y10 y36 y37 y38 : D) => (kseq PHI Tb13 N vc4_17 k) .normal (s4_4 y0 y1 y2 y7 y8 y9 y10 y36 y37 y38)) = _)
  refine Eq.trans (runC_seq _ _ _ k) (Eq.trans h2 (Eq.trans (congrArg (fun K => m4_16 N x0 x1 x2 x7 x8 x9 x10 K) h3) (by kernel_rfl)))
def m4_39 (N : Nat) (x0 x2 x7 x8 x9 x10 : D) (K : D → D → D → D → D → D → D → D → Option R) : Option R :=
  (bif (pr15 (D.ag [(D.sz []), (D.sz []), (D.i 0), (D.sz []), x0, (D.b true), x7, (D.sz []), (D.i (-1))]) x2) then K x2 x7 x8 x9 x10 (sp15 (D.ag [(D.sz []), (D.sz []), (D.i 0), (D.sz []), x0, (D.b true), x7, (D.sz []), (D.i (-1))]) x2) (D.i ((sp15 (D.ag [(D.sz []), (D.sz []), (D.i 0), (D.sz []), x0, (D.b true), x7, (D.sz []), (D.i (-1))]) x2).toL.length : Int)) (D.i 0) else none)
def s4_6 (x2 x7 x8 x9 x10 x63 x64 x65 : D) : St := sts 135 [(2, V.f x2), (7, V.f x7), (8, V.f x8), (9, V.f x9), (10, V.f x10), (63, V.f x63), (64, V.f x64), (65, V.f x65)] []
theorem e4_39 (N : Nat) (k : Kn R) (x0 x2 x7 x8 x9 x10 : D) : runC PHI Tb13 N vc4_39 (s4_5 x0 x2 x7 x8 x9 x10) k = m4_39 N x0 x2 x7 x8 x9 x10 (fun x2 x7 x8 x9 x10 x63 x64 x65 => k .normal (s4_6 x2 x7 x8 x9 x10 x63 x64 x65)) := by
  refine Eq.trans (runC_post _ _ _ k) (Eq.trans (ops_run _ _ _ _) (by kernel_rfl))
def m4_42 (N : Nat) (x2 x7 x8 x9 x10 x63 x64 x65 : D) (K : D → D → D → D → D → D → D → D → Option R) (K2 : D → D → D → D → D → Option R) (Kr : D → Option R) : Option R :=
  (bif (ltb x65.toI x64.toI) then (bif (inb x65.toI x63.toL.length) then (bif (!eqb ((x63.at (x65.toI : Int).toNat).toL.length : Int) 2) then Kr (D.b false) else (bif (inb 0 (x63.at (x65.toI : Int).toNat).toL.length) then (bif (inb 1 (x63.at (x65.toI : Int).toNat).toL.length) then K x2 x7 (D.i (IntKind.i64.wrap (x8.toI + (((x63.at (x65.toI : Int).toNat).at (0 : Int).toNat).at 1).toI))) (D.i (IntKind.i64.wrap (x9.toI + (((x63.at (x65.toI : Int).toNat).at (1 : Int).toNat).at 1).toI))) x10 x63 x64 (D.i (IntKind.i64.wrap (x65.toI + 1))) else none) else none)) else none) else K2 x2 x7 x8 x9 x10)
def s4_7 (x2 x7 x8 x9 x10 : D) : St := sts 135 [(2, V.f x2), (7, V.f x7), (8, V.f x8), (9, V.f x9), (10, V.f x10)] []
theorem e4_42 (N : Nat) (k : Kn R) (x2 x7 x8 x9 x10 x63 x64 x65 : D) : runC PHI Tb13 N vc4_42 (s4_6 x2 x7 x8 x9 x10 x63 x64 x65) k = m4_42 N x2 x7 x8 x9 x10 x63 x64 x65 (fun x2 x7 x8 x9 x10 x63 x64 x65 => k .normal (s4_6 x2 x7 x8 x9 x10 x63 x64 x65)) (fun x2 x7 x8 x9 x10 => k (.exit 2) (s4_7 x2 x7 x8 x9 x10)) (fun x6 => k .ret (s4_1 x6)) := by kernel_rfl
def l4_41 (N : Nat) (j : Nat) (x2 x7 x8 x9 x10 x63 x64 x65 : D) (K2 : D → D → D → D → D → Option R) (Kr : D → Option R) : Option R :=
  match j with
  | 0 => none
  | j + 1 => (m4_42 N x2 x7 x8 x9 x10 x63 x64 x65 (fun y2 y7 y8 y9 y10 y63 y64 y65 => l4_41 N j y2 y7 y8 y9 y10 y63 y64 y65 K2 Kr) K2 Kr)
def m4_41 (N : Nat) (x2 x7 x8 x9 x10 x63 x64 x65 : D) (K2 : D → D → D → D → D → Option R) (Kr : D → Option R) : Option R :=
  l4_41 N N x2 x7 x8 x9 x10 x63 x64 x65 K2 Kr
theorem el4_41 (N : Nat) (k : Kn R) : ∀ (j : Nat) (x2 x7 x8 x9 x10 x63 x64 x65 : D), loopGo (runC PHI Tb13 N vc4_42) j (s4_6 x2 x7 x8 x9 x10 x63 x64 x65) k = l4_41 N j x2 x7 x8 x9 x10 x63 x64 x65 (fun x2 x7 x8 x9 x10 => k (.exit 2) (s4_7 x2 x7 x8 x9 x10)) (fun x6 => k .ret (s4_1 x6))
  | 0, _, _, _, _, _, _, _, _ => by kernel_rfl
  | j + 1, x2, x7, x8, x9, x10, x63, x64, x65 => by
    have h2 := e4_42 N (kloop PHI Tb13 N vc4_42 j k) x2 x7 x8 x9 x10 x63 x64 x65
    have h3 : (fun (y2 y7 y8 y9 y10 y63 y64 y65 : D) => (kloop PHI Tb13 N vc4_42 j k) .normal (s4_6 y2 y7 y8 y9 y10 y63 y64 y65)) = (fun (y2 y7 y8 y9 y10 y63 y64 y65 : D) => l4_41 N j y2 y7 y8 y9 y10 y63 y64 y65 (fun x2 x7 x8 x9 x10 => k (.exit 2) (s4_7 x2 x7 x8 x9 x10)) (fun x6 => k .ret (s4_1 x6))) := funext fun y2 => funext fun y7 => funext fun y8 => funext fun y9 => funext fun y10 => funext fun y63 => funext fun y64 => funext fun y65 => (el4_41 N k j y2 y7 y8 y9 y10 y63 y64 y65)
    refine Eq.trans (loop_succ _ j _ k) (Eq.trans h2 (Eq.trans (congrArg (fun K => m4_42 N x2 x7 x8 x9 x10 x63 x64 x65 K (fun x2 x7 x8 x9 x10 => (kloop PHI Tb13 N vc4_42 j k) (.exit 2) (s4_7 x2 x7 x8 x9 x10)) (fun x6 => (kloop PHI Tb13 N vc4_42 j k) .ret (s4_1 x6))) h3) (by kernel_rfl)))
theorem e4_41 (N : Nat) (k : Kn R) (x2 x7 x8 x9 x10 x63 x64 x65 : D) : runC PHI Tb13 N vc4_41 (s4_6 x2 x7 x8 x9 x10 x63 x64 x65) k = m4_41 N x2 x7 x8 x9 x10 x63 x64 x65 (fun x2 x7 x8 x9 x10 => k (.exit 2) (s4_7 x2 x7 x8 x9 x10)) (fun x6 => k .ret (s4_1 x6)) := by
  refine Eq.trans (runC_loop _ _ k) (Eq.trans (el4_41 N k N x2 x7 x8 x9 x10 x63 x64 x65) (by kernel_rfl))
def m4_40 (N : Nat) (x2 x7 x8 x9 x10 x63 x64 x65 : D) (K : D → D → D → D → D → Option R) (Kr : D → Option R) : Option R :=
  (m4_41 N x2 x7 x8 x9 x10 x63 x64 x65 (fun y2 y7 y8 y9 y10 => K y2 y7 y8 y9 y10) Kr)
theorem e4_40 (N : Nat) (k : Kn R) (x2 x7 x8 x9 x10 x63 x64 x65 : D) : runC PHI Tb13 N vc4_40 (s4_6 x2 x7 x8 x9 x10 x63 x64 x65) k = m4_40 N x2 x7 x8 x9 x10 x63 x64 x65 (fun x2 x7 x8 x9 x10 => k .normal (s4_7 x2 x7 x8 x9 x10)) (fun x6 => k .ret (s4_1 x6)) := by
  refine Eq.trans (runC_block _ _ _ k) (Eq.trans (e4_41 N (kblk 2 k) x2 x7 x8 x9 x10 x63 x64 x65) (by kernel_rfl))
def m4_38 (N : Nat) (x0 x2 x7 x8 x9 x10 : D) (K : D → D → D → D → D → Option R) (Kr : D → Option R) : Option R :=
  (m4_39 N x0 x2 x7 x8 x9 x10 (fun y2 y7 y8 y9 y10 y63 y64 y65 => (m4_40 N y2 y7 y8 y9 y10 y63 y64 y65 (fun y2 y7 y8 y9 y10 => K y2 y7 y8 y9 y10) Kr)))
theorem e4_38 (N : Nat) (k : Kn R) (x0 x2 x7 x8 x9 x10 : D) : runC PHI Tb13 N vc4_38 (s4_5 x0 x2 x7 x8 x9 x10) k = m4_38 N x0 x2 x7 x8 x9 x10 (fun x2 x7 x8 x9 x10 => k .normal (s4_7 x2 x7 x8 x9 x10)) (fun x6 => k .ret (s4_1 x6)) := by
  have h2 := e4_39 N (kseq PHI Tb13 N vc4_40 k) x0 x2 x7 x8 x9 x10
  have h3 := (funext fun y2 => funext fun y7 => funext fun y8 => funext fun y9 => funext fun y10 => funext fun y63 => funext fun y64 => funext fun y65 => (e4_40 N k y2 y7 y8 y9 y10 y63 y64 y65) : (fun (y2 y7 y8 y9 y10 y63 y64 y65 : D) => (kseq PHI Tb13 N vc4_40 k) .normal (s4_6 y2 y7 y8 y9 y10 y63 y64 y65)) = _)
  refine Eq.trans (runC_seq _ _ _ k) (Eq.trans h2 (Eq.trans (congrArg (fun K => m4_39 N x0 x2 x7 x8 x9 x10 K) h3) (by kernel_rfl)))
def m4_65 (N : Nat) (x2 x7 x8 x9 x10 : D) (K : D → D → D → D → D → Option R) : Option R :=
  (bif (pr15 (D.ag [(D.sz []), (D.sz []), (D.i 0), (D.sz []), (D.sz []), (D.b true), x7, (D.sz []), (D.i (-1))]) x2) then K x2 x8 x9 x10 (sp15 (D.ag [(D.sz []), (D.sz []), (D.i 0), (D.sz []), (D.sz []), (D.b true), x7, (D.sz []), (D.i (-1))]) x2) else none)
def s4_8 (x2 x8 x9 x10 x16 : D) : St := sts 135 [(2, V.f x2), (8, V.f x8), (9, V.f x9), (10, V.f x10), (16, V.f x16)] []
theorem e4_65 (N : Nat) (k : Kn R) (x2 x7 x8 x9 x10 : D) : runC PHI Tb13 N vc4_65 (s4_7 x2 x7 x8 x9 x10) k = m4_65 N x2 x7 x8 x9 x10 (fun x2 x8 x9 x10 x16 => k .normal (s4_8 x2 x8 x9 x10 x16)) := by
  refine Eq.trans (runC_post _ _ _ k) (Eq.trans (ops_run _ _ _ _) (by kernel_rfl))
def m4_67 (N : Nat) (x2 x8 x9 x10 x16 : D) (K : D → Option R) : Option R :=
  (bif (eqb x8.toI (x2.toL.length : Int)) then (bif (eqb (x16.toL.length : Int) 1) then (bif (inb 0 x16.toL.length) then (bif (eqb ((x16.at (0 : Int).toNat).toL.length : Int) 2) then (bif (inb 0 x16.toL.length) then (bif (inb 0 (x16.at (0 : Int).toNat).toL.length) then (bif (eqb (((x16.at (0 : Int).toNat).at (0 : Int).toNat).at 1).toI (x2.toL.length : Int)) then (bif (!x10.toB) then K (D.b true) else (bif (inb 0 x16.toL.length) then (bif (inb 1 (x16.at (0 : Int).toNat).toL.length) then K (D.b (eqb (((x16.at (0 : Int).toNat).at (1 : Int).toNat).at 1).toI x9.toI)) else none) else none)) else K (D.b false)) else none) else none) else K (D.b false)) else none) else K (D.b false)) else (bif (eqb (x2.toL.length : Int) 0) then (bif (eqb (x16.toL.length : Int) 1) then (bif (inb 0 x16.toL.length) then (bif (eqb ((x16.at (0 : Int).toNat).toL.length : Int) 2) then (bif (inb 0 x16.toL.length) then (bif (inb 0 (x16.at (0 : Int).toNat).toL.length) then (bif (eqb (((x16.at (0 : Int).toNat).at (0 : Int).toNat).at 1).toI (x2.toL.length : Int)) then (bif (!x10.toB) then K (D.b true) else (bif (inb 0 x16.toL.length) then (bif (inb 1 (x16.at (0 : Int).toNat).toL.length) then K (D.b (eqb (((x16.at (0 : Int).toNat).at (1 : Int).toNat).at 1).toI x9.toI)) else none) else none)) else K (D.b false)) else none) else none) else K (D.b false)) else none) else K (D.b false)) else K (D.b false)))
theorem e4_67 (N : Nat) (k : Kn R) (x2 x8 x9 x10 x16 : D) : runC PHI Tb13 N vc4_67 (s4_8 x2 x8 x9 x10 x16) k = m4_67 N x2 x8 x9 x10 x16 (fun x6 => k .normal (s4_1 x6)) := by
  refine Eq.trans (runC_post _ _ _ k) (Eq.trans (ops_run _ _ _ _) (by kernel_rfl))
def m4_68 (N : Nat) (x6 : D) (Kr : D → Option R) : Option R :=
  Kr x6
theorem e4_68 (N : Nat) (k : Kn R) (x6 : D) : runC PHI Tb13 N vc4_68 (s4_1 x6) k = m4_68 N x6 (fun x6 => k .ret (s4_1 x6)) := by kernel_rfl
def m4_66 (N : Nat) (x2 x8 x9 x10 x16 : D) (Kr : D → Option R) : Option R :=
  (m4_67 N x2 x8 x9 x10 x16 (fun y6 => (m4_68 N y6 Kr)))
theorem e4_66 (N : Nat) (k : Kn R) (x2 x8 x9 x10 x16 : D) : runC PHI Tb13 N vc4_66 (s4_8 x2 x8 x9 x10 x16) k = m4_66 N x2 x8 x9 x10 x16 (fun x6 => k .ret (s4_1 x6)) := by
  have h2 := e4_67 N (kseq PHI Tb13 N vc4_68 k) x2 x8 x9 x10 x16
  have h3 := (funext fun y6 => (e4_68 N k y6) : (fun (y6 : D) => (kseq PHI Tb13 N vc4_68 k) .normal (s4_1 y6)) = _)
  refine Eq.trans (runC_seq _ _ _ k) (Eq.trans h2 (Eq.trans (congrArg (fun K => m4_67 N x2 x8 x9 x10 x16 K) h3) (by kernel_rfl)))
def m4_64 (N : Nat) (x2 x7 x8 x9 x10 : D) (Kr : D → Option R) : Option R :=
  (m4_65 N x2 x7 x8 x9 x10 (fun y2 y8 y9 y10 y16 => (m4_66 N y2 y8 y9 y10 y16 Kr)))
theorem e4_64 (N : Nat) (k : Kn R) (x2 x7 x8 x9 x10 : D) : runC PHI Tb13 N vc4_64 (s4_7 x2 x7 x8 x9 x10) k = m4_64 N x2 x7 x8 x9 x10 (fun x6 => k .ret (s4_1 x6)) := by
  have h2 := e4_65 N (kseq PHI Tb13 N vc4_66 k) x2 x7 x8 x9 x10
  have h3 := (funext fun y2 => funext fun y8 => funext fun y9 => funext fun y10 => funext fun y16 => (e4_66 N k y2 y8 y9 y10 y16) : (fun (y2 y8 y9 y10 y16 : D) => (kseq PHI Tb13 N vc4_66 k) .normal (s4_8 y2 y8 y9 y10 y16)) = _)
  refine Eq.trans (runC_seq _ _ _ k) (Eq.trans h2 (Eq.trans (congrArg (fun K => m4_65 N x2 x7 x8 x9 x10 K) h3) (by kernel_rfl)))
def m4_37 (N : Nat) (x0 x2 x7 x8 x9 x10 : D) (Kr : D → Option R) : Option R :=
  (m4_38 N x0 x2 x7 x8 x9 x10 (fun y2 y7 y8 y9 y10 => (m4_64 N y2 y7 y8 y9 y10 Kr)) Kr)
theorem e4_37 (N : Nat) (k : Kn R) (x0 x2 x7 x8 x9 x10 : D) : runC PHI Tb13 N vc4_37 (s4_5 x0 x2 x7 x8 x9 x10) k = m4_37 N x0 x2 x7 x8 x9 x10 (fun x6 => k .ret (s4_1 x6)) := by
  have h2 := e4_38 N (kseq PHI Tb13 N vc4_64 k) x0 x2 x7 x8 x9 x10
  have h3 := (funext fun y2 => funext fun y7 => funext fun y8 => funext fun y9 => funext fun y10 => (e4_64 N k y2 y7 y8 y9 y10) : (fun (y2 y7 y8 y9 y10 : D) => (kseq PHI Tb13 N vc4_64 k) .normal (s4_7 y2 y7 y8 y9 y10)) = _)
  refine Eq.trans (runC_seq _ _ _ k) (Eq.trans h2 (Eq.trans (congrArg (fun K => m4_38 N x0 x2 x7 x8 x9 x10 K (fun x6 => (kseq PHI Tb13 N vc4_64 k) .ret (s4_1 x6))) h3) (by kernel_rfl)))
def m4_14 (N : Nat) (x0 x1 x2 x7 x8 x9 x10 : D) (Kr : D → Option R) : Option R :=
  (m4_15 N x0 x1 x2 x7 x8 x9 x10 (fun y0 y2 y7 y8 y9 y10 => (m4_37 N y0 y2 y7 y8 y9 y10 Kr)))
theorem e4_14 (N : Nat) (k : Kn R) (x0 x1 x2 x7 x8 x9 x10 : D) : runC PHI Tb13 N vc4_14 (s4_3 x0 x1 x2 x7 x8 x9 x10) k = m4_14 N x0 x1 x2 x7 x8 x9 x10 (fun x6 => k .ret (s4_1 x6)) := by
  have h2 := e4_15 N (kseq PHI Tb13 N vc4_37 k) x0 x1 x2 x7 x8 x9 x10
  have h3 := (funext fun y0 => funext fun y2 => funext fun y7 => funext fun y8 => funext fun y9 => funext fun y10 => (e4_37 N k y0 y2 y7 y8 y9 y10) : (fun (y0 y2 y7 y8 y9 y10 : D) => (kseq PHI Tb13 N vc4_37 k) .normal (s4_5 y0 y2 y7 y8 y9 y10)) = _)
  refine Eq.trans (runC_seq _ _ _ k) (Eq.trans h2 (Eq.trans (congrArg (fun K => m4_15 N x0 x1 x2 x7 x8 x9 x10 K) h3) (by kernel_rfl)))
def m4_12 (N : Nat) (x0 x1 x2 x7 : D) (Kr : D → Option R) : Option R :=
  (m4_13 N x0 x1 x2 x7 (fun y0 y1 y2 y7 y8 y9 y10 => (m4_14 N y0 y1 y2 y7 y8 y9 y10 Kr)))
theorem e4_12 (N : Nat) (k : Kn R) (x0 x1 x2 x7 : D) : runC PHI Tb13 N vc4_12 (s4_2 x0 x1 x2 x7) k = m4_12 N x0 x1 x2 x7 (fun x6 => k .ret (s4_1 x6)) := by
  have h2 := e4_13 N (kseq PHI Tb13 N vc4_14 k) x0 x1 x2 x7
  have h3 := (funext fun y0 => funext fun y1 => funext fun y2 => funext fun y7 => funext fun y8 => funext fun y9 => funext fun y10 => (e4_14 N k y0 y1 y2 y7 y8 y9 y10) : (fun (y0 y1 y2 y7 y8 y9 y10 : D) => (kseq PHI Tb13 N vc4_14 k) .normal (s4_3 y0 y1 y2 y7 y8 y9 y10)) = _)
  refine Eq.trans (runC_seq _ _ _ k) (Eq.trans h2 (Eq.trans (congrArg (fun K => m4_13 N x0 x1 x2 x7 K) h3) (by kernel_rfl)))
def m4_10 (N : Nat) (x0 x1 x2 : D) (Kr : D → Option R) : Option R :=
  (m4_11 N x0 x1 x2 (fun y0 y1 y2 y7 => (m4_12 N y0 y1 y2 y7 Kr)))
theorem e4_10 (N : Nat) (k : Kn R) (x0 x1 x2 : D) : runC PHI Tb13 N vc4_10 (s4_0 x0 x1 x2) k = m4_10 N x0 x1 x2 (fun x6 => k .ret (s4_1 x6)) := by
  have h2 := e4_11 N (kseq PHI Tb13 N vc4_12 k) x0 x1 x2
  have h3 := (funext fun y0 => funext fun y1 => funext fun y2 => funext fun y7 => (e4_12 N k y0 y1 y2 y7) : (fun (y0 y1 y2 y7 : D) => (kseq PHI Tb13 N vc4_12 k) .normal (s4_2 y0 y1 y2 y7)) = _)
  refine Eq.trans (runC_seq _ _ _ k) (Eq.trans h2 (Eq.trans (congrArg (fun K => m4_11 N x0 x1 x2 K) h3) (by kernel_rfl)))
def m4_2 (N : Nat) (x0 x1 x2 : D) (Kr : D → Option R) : Option R :=
  (m4_3 N x0 x1 x2 (fun y0 y1 y2 => (m4_10 N y0 y1 y2 Kr)) Kr)
theorem e4_2 (N : Nat) (k : Kn R) (x0 x1 x2 : D) : runC PHI Tb13 N vc4_2 (s4_0 x0 x1 x2) k = m4_2 N x0 x1 x2 (fun x6 => k .ret (s4_1 x6)) := by
  have h2 := e4_3 N (kseq PHI Tb13 N vc4_10 k) x0 x1 x2
  have h3 := (funext fun y0 => funext fun y1 => funext fun y2 => (e4_10 N k y0 y1 y2) : (fun (y0 y1 y2 : D) => (kseq PHI Tb13 N vc4_10 k) .normal (s4_0 y0 y1 y2)) = _)
  refine Eq.trans (runC_seq _ _ _ k) (Eq.trans h2 (Eq.trans (congrArg (fun K => m4_3 N x0 x1 x2 K (fun x6 => (kseq PHI Tb13 N vc4_10 k) .ret (s4_1 x6))) h3) (by kernel_rfl)))
def m4_0 (N : Nat) (x0 x1 x2 : D) (Kr : D → Option R) : Option R :=
  (m4_1 N x0 x1 x2 (fun y0 y1 y2 => (m4_2 N y0 y1 y2 Kr)))
theorem e4_0 (N : Nat) (k : Kn R) (x0 x1 x2 : D) : runC PHI Tb13 N vc4_0 (s4_0 x0 x1 x2) k = m4_0 N x0 x1 x2 (fun x6 => k .ret (s4_1 x6)) := by
  have h2 := e4_1 N (kseq PHI Tb13 N vc4_2 k) x0 x1 x2
  have h3 := (funext fun y0 => funext fun y1 => funext fun y2 => (e4_2 N k y0 y1 y2) : (fun (y0 y1 y2 : D) => (kseq PHI Tb13 N vc4_2 k) .normal (s4_0 y0 y1 y2)) = _)
  refine Eq.trans (runC_seq _ _ _ k) (Eq.trans h2 (Eq.trans (congrArg (fun K => m4_1 N x0 x1 x2 K) h3) (by kernel_rfl)))
theorem r4 (N : Nat) (x0 x1 x2 : D) : runC PHI Tb13 N vf4.body (enterV vf4 [V.f x0, V.f x1, V.f x2] []) (finish vf4) = m4_0 N x0 x1 x2 (fun x6 => finish vf4 .ret (s4_1 x6)) := 
  Eq.trans (runC_pre (s1 := (s4_0 x0 x1 x2)) (by kernel_rfl) _ _) (Eq.trans (e4_0 N (finish vf4) x0 x1 x2) (by kernel_rfl))
end
noncomputable def Tb4 : CallF := extend Tb13 4 (fn3 (fun _ _ rows => F1.ok .isN rows) fun _ _ _ => .f (.b true))
theorem l4a {R : Type} (N : Nat) (gr by' rows its x8 x9 : D) (hl : rows.toL.length ≤ 60) (K0 : D → D → D → D → D → D → Option R) : ∀ k i J f, i + k = rows.toL.length → k < J →
    l4_18 N J gr by' rows its x8 x9 (.b f) rows (.i (rows.toL.length : Int)) (.i (i : Int)) K0 = K0 gr rows its x8 x9 (.b (f && (rows.toL.drop i).all (okW by')))
  | _, _, 0, _, _, h => by omega
  | 0, i, J + 1, f, h, _ => by
    have : i = rows.toL.length := by omega
    subst this
    simp only [l4_18, m4_19, toI_i, ltb_self, cond_false, List.drop_length, List.all_nil, Bool.and_true]
  | k + 1, i, J + 1, f, h, h' => by
    have hi : i < rows.toL.length := by omega
    have hat : rows.at i = rows.toL[i] := getD_at hi
    have hsucc := succ_n hi (show rows.toL.length ≤ 9223372036854775807 by omega)
    have r := fun f => l4a N gr by' rows its x8 x9 hl K0 k (i + 1) J f (by omega) (by omega)
    rw [List.drop_eq_getElem_cons hi, List.all_cons]
    simp only [l4_18, m4_19, toI_i, ltb_n hi, cond_true, inb_t hi, Int.toNat_natCast, hat, hsucc, cond_false, r]
    unfold okW
    cases eqb ((sp14 rows.toL[i] by').at 0).toI 1
    · simp only [cond_false, Bool.true_and]
    · cases ltb 1125899906842624 ((sp14 rows.toL[i] by').at 1).toI
      · cases ltb ((sp14 rows.toL[i] by').at 1).toI (-1125899906842624)
        · simp only [cond_true, cond_false, Bool.not_false, Bool.true_and]
        · simp only [cond_true, cond_false, Bool.not_true, Bool.false_and, Bool.and_false]
      · simp only [cond_true, Bool.false_and, Bool.and_false]
def fa (row : D) : Int := ((row.at 0).at 1).toI
def fb (row : D) : Int := ((row.at 1).at 1).toI
theorem l4b {R : Type} (N : Nat) (rows its x10 A : D) (hl : A.toL.length ≤ 1000000) (h2 : ∀ r ∈ A.toL, r.toL.length = 2) (K2 : D → D → D → D → D → Option R) (Kr : D → Option R) : ∀ k i J a b, i + k = A.toL.length → k < J →
    l4_41 N J rows its (.i a) (.i b) x10 A (.i (A.toL.length : Int)) (.i (i : Int)) K2 Kr = K2 rows its (.i (cs fa a (A.toL.drop i))) (.i (cs fb b (A.toL.drop i))) x10
  | _, _, 0, _, _, _, h => by omega
  | 0, i, J + 1, a, b, h, _ => by
    have : i = A.toL.length := by omega
    subst this
    simp only [l4_41, m4_42, toI_i, ltb_self, cond_false, List.drop_length, cs]
  | k + 1, i, J + 1, a, b, h, h' => by
    have hi : i < A.toL.length := by omega
    have hat : A.at i = A.toL[i] := getD_at hi
    have hsucc := succ_n hi (show A.toL.length ≤ 9223372036854775807 by omega)
    have hlen := h2 _ (List.getElem_mem hi)
    have r := fun a b => l4b N rows its x10 A hl h2 K2 Kr k (i + 1) J a b (by omega) (by omega)
    have e2 : eqb ((2 : Nat) : Int) 2 = true := rfl
    have i0 : inb 0 2 = true := rfl
    have i1 : inb 1 2 = true := rfl
    rw [List.drop_eq_getElem_cons hi]
    simp only [l4_41, m4_42, toI_i, ltb_n hi, cond_true, inb_t hi, Int.toNat_natCast, hat, hlen, e2, Bool.not_true, cond_false, i0, i1, hsucc, r, cs]
    rfl
theorem full_q (gr its rows : D) : (sp15 (qG gr its) rows).toL = full (qG gr its) rows := by
  show ans15 _ _ = _
  rw [ans_full]
  rfl
theorem sum_full (gr by' rows : D) (f : D → Int) (h : D → Int) (hf : ∀ g, f (row15 (qG gr (items by')) g) = h g) (k : List D → Int) (t : Int) (h1 : h (.ag [rows]) = k rows.toL) (h2 : ∀ g : List D, g.length ≤ rows.toL.length → (∀ x ∈ g, x ∈ rows.toL) → h (grpD g) = k g) (h3 : ∀ c, (((runs c (stb c rows.toL))).map k).sum = k rows.toL) (hc : ∀ c l, (∀ x, x ∈ stb c l ↔ x ∈ l) ∧ (stb c l).length = l.length → True) :
    sumL f (full (qG gr (items by')) rows) = k rows.toL := by
  unfold full
  rw [sumL_map, sumL_congr (fun g _ => hf g), sumL_stb]
  have eg : grps (qG gr (items by')) rows = sp31 (qG gr (items by')) rows := rfl
  rw [eg]
  unfold sp31
  cases eqb (((qG gr (items by')).at 4).toL.length : Int) 0
  · rw [cond_false, sumG_map h grpD k, h3]
    intro g hg
    have hl := runs_glen _ _ g hg
    rw [stb_len (c70_c _)] at hl
    exact h2 g hl fun x hx => (stb_mem (c70_c _)).1 (runs_mem _ _ g hg x hx)
  · rw [cond_true, sumL, sumL, h1, Int.add_zero]
theorem sum_fa (gr by' rows : D) (hl : rows.toL.length ≤ 60) : sumL fa (full (qG gr (items by')) rows) = (rows.toL.length : Int) := by
  have h := sum_full gr by' rows fa (fun g => ((itm g cntN).at 1).toI) (fun g => rfl) (fun l => sumL (fun _ => 1) l) 0 (by rw [itm_cnt (.ag [rows]) hl, sumL_one]; rfl) (fun g hg _ => by
    rw [itm_cnt (grpD g) (show ((grpD g).at 0).toL.length ≤ 60 from Nat.le_trans hg hl), sumL_one]; rfl) (fun c => by rw [sumG_sum, sumG_runs, sumL_stb]) (fun _ _ _ => trivial)
  rw [h, sumL_one]
theorem sum_fb (gr by' rows : D) (hl : rows.toL.length ≤ 60) (hf : ∀ r ∈ rows.toL, fitR by' r) : sumL fb (full (qG gr (items by')) rows) = sumL (sv by') rows.toL :=
  sum_full gr by' rows fb (fun g => ((itm g (sumN by')).at 1).toI) (fun g => rfl) (fun l => sumL (sv by') l) 0 (itm_sum by' _ hl hf) (fun g hg hm => itm_sum by' (grpD g) (Nat.le_trans hg hl) fun r hr => hf r (hm r hr)) (fun c => by rw [sumG_sum, sumG_runs, sumL_stb]) (fun _ _ _ => trivial)
theorem full_all (by' rows : D) : full (qG (.sz []) (items by')) rows = [.sz [itm (.ag [rows]) cntN, itm (.ag [rows]) (sumN by')]] := rfl
theorem full_len (q rows : D) (hl : rows.toL.length ≤ 60) : (full q rows).length ≤ 1000000 := by
  unfold full
  rw [List.length_map, stb_len (c33_c _)]
  exact grps_len q rows (by omega)
theorem okW_fit {by' r : D} (hr : Is Try.prog 23 r) (h : okW by' r = true) : fitR by' r := by
  have q := Q_row hr by'.toI
  intro hk
  have e0 : ((sp14 r by').at 0).toI = ((vD by' r).at 0).toI := q.k.symm
  have e1 : ((sp14 r by').at 1).toI = ((vD by' r).at 1).toI := q.n.symm
  unfold okW at h
  rw [e0, e1, hk, cond_true] at h
  by_cases h1 : (1125899906842624 : Int) < ((vD by' r).at 1).toI
  · rw [ltb_t h1] at h; cases h
  · by_cases h2 : ((vD by' r).at 1).toI < -1125899906842624
    · rw [ltb_t h2, ltb_f h1] at h; cases h
    · omega
theorem h11 {R : Type} (N : Nat) (x0 x1 x2 : D) (K : D → D → D → D → Option R) : m4_11 N x0 x1 x2 K = K x0 x1 x2 (items x1) := rfl
theorem h39 {R : Type} (N : Nat) (x0 x2 x7 x8 x9 x10 : D) (K : D → D → D → D → D → D → D → D → Option R) : m4_39 N x0 x2 x7 x8 x9 x10 K = bif pr15 (qG x0 x7) x2 then K x2 x7 x8 x9 x10 (sp15 (qG x0 x7) x2) (.i ((sp15 (qG x0 x7) x2).toL.length : Int)) (.i 0) else none := rfl
theorem h65 {R : Type} (N : Nat) (x2 x7 x8 x9 x10 : D) (K : D → D → D → D → D → Option R) : m4_65 N x2 x7 x8 x9 x10 K = bif pr15 (qG (.sz []) x7) x2 then K x2 x8 x9 x10 (sp15 (qG (.sz []) x7) x2) else none := rfl
theorem fn4 (x : D) : finish vf4 .ret (s4_1 x) = some (.f x, []) := by kernel_rfl
theorem ok4 : FnOk Try.prog PHI Tb4 := FnOk.add3 (vf := vf4) hPHI ok13 (by kernel_rfl) fun gr by' rows ha hp => by
  have hp : F1.ok .isN rows = true := hp
  have h26 : Is Try.prog 26 rows := ha.is 2 rfl rfl
  have hrow := h26.elem (e := 23) (by kernel_rfl)
  refine ⟨rows.toL.length + (full (qG gr (items by')) rows).length + 1, (r4 _ gr by' rows).trans ?_⟩
  generalize hN : rows.toL.length + (full (qG gr (items by')) rows).length + 1 = N
  simp only [m4_0, m4_1, m4_2, m4_3, sp9, Bool.not_true, cond_false]
  cases h12 : ltb 12 (gr.toL.length : Int)
  · cases h10 : !sp10 rows
    · have hl := sp10_len h10
      have hg : gr.toL.length ≤ 12 := by
        have : ¬ (12 : Int) < (gr.toL.length : Int) := of_decide_eq_false h12
        omega
      have p1 : pr15 (qG gr (items by')) rows = true := pr15_of hp hl hg (by show 2 ≤ 12; omega)
      have p0 : pr15 (qG (.sz []) (items by')) rows = true := pr15_of hp hl (by show 0 ≤ 12; omega) (by show 2 ≤ 12; omega)
      simp only [cond_false, m4_10, h11, m4_12, m4_13, m4_14, m4_15, m4_16, m4_17, m4_18]
      have hA := l4a N gr by' rows (items by') (.i 0) (.i 0) hl (fun y0 y2 y7 y8 y9 y10 => m4_37 N y0 y2 y7 y8 y9 y10 (fun x6 => finish vf4 .ret (s4_1 x6))) rows.toL.length 0 N true (by omega) (by omega)
      refine Eq.trans hA ?_
      rw [Bool.true_and, List.drop_zero]
      generalize hfit : rows.toL.all (okW by') = fit
      have hAl : (sp15 (qG gr (items by')) rows).toL = full (qG gr (items by')) rows := full_q _ _ _
      have h2 : ∀ r ∈ (sp15 (qG gr (items by')) rows).toL, r.toL.length = 2 := by
        rw [hAl]
        intro r hr
        unfold full at hr
        obtain ⟨g, _, rfl⟩ := List.mem_map.1 hr
        rfl
      have hB := l4b N rows (items by') (.b fit) (sp15 (qG gr (items by')) rows) (by rw [hAl]; exact full_len _ _ hl) h2 (fun y2 y7 y8 y9 y10 => m4_64 N y2 y7 y8 y9 y10 (fun x6 => finish vf4 .ret (s4_1 x6))) (fun x6 => finish vf4 .ret (s4_1 x6)) (sp15 (qG gr (items by')) rows).toL.length 0 N 0 0 (by omega) (by rw [hAl]; omega)
      simp only [m4_37, m4_38, h39, p1, cond_true, m4_40, m4_41]
      refine Eq.trans hB ?_
      rw [List.drop_zero, hAl, cs_0, cs_0, sum_fa gr by' rows hl, wrap64_id (n := (rows.toL.length : Int)) (by omega) (by omega)]
      have hx : (sp15 (qG (.sz []) (items by')) rows).toL = [.sz [itm (.ag [rows]) cntN, itm (.ag [rows]) (sumN by')]] := by rw [full_q]; exact full_all by' rows
      have hx0 : (sp15 (qG (.sz []) (items by')) rows).at (0 : Int).toNat = .sz [itm (.ag [rows]) cntN, itm (.ag [rows]) (sumN by')] := by
        show (sp15 (qG (.sz []) (items by')) rows).toL.getD 0 .nil = _
        rw [hx]; rfl
      have c0 : (D.sz [itm (.ag [rows]) cntN, itm (.ag [rows]) (sumN by')]).at (0 : Int).toNat = itm (.ag [rows]) cntN := rfl
      have c1 : (D.sz [itm (.ag [rows]) cntN, itm (.ag [rows]) (sumN by')]).at (1 : Int).toNat = itm (.ag [rows]) (sumN by') := rfl
      have i0 : inb 0 1 = true := rfl
      have j0 : inb 0 2 = true := rfl
      have j1 : inb 1 2 = true := rfl
      have n1 : eqb ((1 : Nat) : Int) 1 = true := rfl
      have n2 : eqb ((2 : Nat) : Int) 2 = true := rfl
      have hc := itm_cnt (.ag [rows]) hl
      have hlen1 : ([.sz [itm (.ag [rows]) cntN, itm (.ag [rows]) (sumN by')]] : List D).length = 1 := rfl
      have hlen2 : ([itm (.ag [rows]) cntN, itm (.ag [rows]) (sumN by')] : List D).length = 2 := rfl
      have hself : eqb (rows.toL.length : Int) (rows.toL.length : Int) = true := eqb_t rfl
      have hrw : ((D.ag [rows]).at 0).toL = rows.toL := rfl
      simp only [m4_64, h65, p0, cond_true, m4_66, m4_67, toI_i, hself, hx, hlen1, n1, i0, hx0, toL_sz, hlen2, n2, j0, j1, c0, c1, hc, hrw, toB_b, m4_68, fn4]
      cases fit
      · rfl
      · have hf : ∀ r ∈ rows.toL, fitR by' r := fun r hr => okW_fit (hrow r hr) (List.all_eq_true.1 hfit r hr)
        have hs := itm_sum by' (.ag [rows]) hl hf
        obtain ⟨b1, b2⟩ := sumL_bd by' rows.toL hf
        have hs2 : ((itm (.ag [rows]) (sumN by')).at 1).toI = sumL (sv by') rows.toL := hs
        have e : eqb ((itm (.ag [rows]) (sumN by')).at 1).toI (IntKind.i64.wrap (sumL fb (full (qG gr (items by')) rows))) = true := eqb_t (by
          rw [hs2, sum_fb gr by' rows hl hf, wrap64_id (by omega) (by omega)])
        simp only [Bool.not_true, cond_false, e]
    · rfl
  · rfl
end Go.Vam.C14
