/- THE SHADOW MACHINE, 26: what typed data are: lengths, ranges, parts. -/
import Derived.Test.YtcpbgimpopcfoaaVAB
set_option linter.unusedVariables false
namespace Go.Vam
def Is (P : Program) (t : Nat) (d : D) : Prop := ∃ S v, RT P S (.v t) d v
section
variable {P : Program} {t : Nat} {d : D}
theorem Args.is {Φ : Tab} {vf : VFunc} {args : List V} (h : Args P Φ vf args) (k : Nat) {d : D} {t : Nat} (ha : args[k]? = some (.f d)) (ht : vf.ptys[k]? = some (.v t)) : Is P t d := h.at_ k ha ht
theorem Is.rf (h : Is P t d) : ∃ S cs, RF P S t d cs := by
  obtain ⟨S, v, h, _⟩ := h
  exact ⟨S, _, h⟩
theorem RF.is {S : Cells} {cs : List Value} (h : RF P S t d cs) : Is P t d := ⟨S, _, h.val⟩
theorem Is.int {k : IntKind} (hu : P.underlying t = some (.int k)) (h : Is P t d) : d = .i d.toI ∧ k.min ≤ d.toI ∧ d.toI ≤ k.max := by
  obtain ⟨S, v, h⟩ := h
  exact ⟨(RT.int hu h).1, RT.int_r hu h⟩
theorem Is.bool (hu : P.underlying t = some .bool) (h : Is P t d) : d = .b d.toB := by
  obtain ⟨S, v, h⟩ := h
  exact (RT.bool hu h).1
theorem Is.str (hu : P.underlying t = some .string) (h : Is P t d) : d = .s d.toS ∧ d.toS.length ≤ maxLen ∧ ∀ b ∈ d.toS, b < 256 := by
  obtain ⟨S, v, h⟩ := h
  obtain ⟨bs, rfl, _, hb⟩ := RT.str_b hu h
  refine ⟨rfl, by simpa [D.toS, bytesL] using hb, fun b hb => ?_⟩
  simp only [D.toS, bytesL, List.mem_map] at hb
  obtain ⟨x, _, rfl⟩ := hb
  exact x.toNat_lt
theorem Is.len {e : Nat} (hu : P.underlying t = some (.slice e)) (h : Is P t d) : d.toL.length ≤ maxLen := by
  obtain ⟨S, v, h⟩ := h
  obtain ⟨_, _, _, h⟩ := RT.slice_len hu h
  exact h
theorem Is.elem {e : Nat} (hu : P.underlying t = some (.slice e)) (h : Is P t d) : ∀ x ∈ d.toL, Is P e x := by
  obtain ⟨S, cs, h⟩ := h.rf
  obtain ⟨xs, h1, h2⟩ := h.slice hu
  rw [h1.toL]
  intro x hx
  rcases h2 with ⟨rfl, _, _⟩ | ⟨a, cap, _, _, _, _, cs, h3, _, _⟩
  · simp at hx
  · obtain ⟨i, hi, rfl⟩ := List.getElem_of_mem hx
    exact (h3 i hi).is
theorem Is.sl {e : Nat} (hu : P.underlying t = some (.slice e)) (h : Is P t d) : d = .sl d.toL ∨ d = .sz d.toL ∨ d = .sq d.toL := by
  obtain ⟨S, cs, h⟩ := h.rf
  obtain ⟨xs, h1, h2⟩ := h.slice hu
  rcases h1 with rfl | rfl | rfl <;> simp [D.toL]
theorem Is.fld {k ft off : Nat} (hf : fldOk P t k = some (ft, off)) (h : Is P t d) : Is P ft (d.at k) := by
  obtain ⟨S, cs, h⟩ := h.rf
  exact (h.field hf).1.is
end
def structN (P : Program) (t : Nat) : Option Nat := match P.underlying t with
  | some (.struct fs) => some fs.size
  | _ => none
theorem Is.ag {P : Program} {t n : Nat} {d : D} (hn : structN P t = some n) (h : Is P t d) : ∃ ds, d = .ag ds ∧ ds.length = n := by
  unfold structN at hn
  split at hn
  · rename_i fs hu
    obtain ⟨S, cs, h⟩ := h.rf
    obtain ⟨ds, h1, h2, _⟩ := h.strct hu
    injection hn with hn
    exact ⟨ds, h1, h2.trans hn⟩
  · cases hn
mutual
def D.wt : D → Nat
  | .sl xs => wtL xs + 1
  | .sz xs => wtL xs + 1
  | .sq xs => wtL xs + 1
  | .ag xs => wtL xs + 1
  | .p d => D.wt d + 1
  | .ifc _ d => D.wt d + 1
  | _ => 1
def wtL : List D → Nat
  | [] => 0
  | x :: r => D.wt x + wtL r
end
theorem D.wt_pos (d : D) : 1 ≤ d.wt := by cases d <;> simp [D.wt]
theorem wtL_mem : ∀ {l : List D} {x : D}, x ∈ l → x.wt ≤ wtL l
  | [], x, h => by cases h
  | a :: r, x, h => by
    rw [wtL]
    rcases List.mem_cons.1 h with rfl | h
    · omega
    · have := wtL_mem h; omega
theorem D.wt_mem {d x : D} (h : x ∈ d.toL) : x.wt < d.wt := by
  cases d <;> simp only [D.toL] at h <;> first | (simp at h; done) | (have := wtL_mem h; simp only [D.wt]; omega)
theorem D.wt_at (d : D) (k : Nat) : (d.at k).wt ≤ d.wt := by
  unfold D.at
  by_cases h : k < d.toL.length
  · rw [List.getD_eq_getElem?_getD, List.getElem?_eq_getElem h]
    exact Nat.le_of_lt (D.wt_mem (List.getElem_mem h))
  · rw [List.getD_eq_getElem?_getD, List.getElem?_eq_none (by omega)]
    simp only [Option.getD_none]
    have := D.wt_pos d
    simpa [D.wt] using this
theorem wrap64 (n : Int) : IntKind.i64.wrap n = (n + 9223372036854775808) % 18446744073709551616 - 9223372036854775808 := by
  simp only [IntKind.wrap, IntKind.bits, IntKind.signed]
  simp
  split <;> omega
theorem wrap64_id {n : Int} (h : -9223372036854775808 ≤ n) (h' : n ≤ 9223372036854775807) : IntKind.i64.wrap n = n := by rw [wrap64]; omega
theorem Is.i64 {P : Program} {t : Nat} {d : D} (hu : P.underlying t = some (.int .i64)) (h : Is P t d) : d = .i d.toI ∧ -9223372036854775808 ≤ d.toI ∧ d.toI ≤ 9223372036854775807 := h.int hu
theorem Is.len' {P : Program} {t : Nat} {d : D} {e : Nat} (hu : P.underlying t = some (.slice e)) (h : Is P t d) : d.toL.length ≤ 9223372036854775807 := h.len hu
theorem FnOk.lim {P : Program} {Φ : Tab} {F : CallF} {g : Nat} {Fn : Nat → List V → CRes} {Fg : List V → CRes} (h : ∀ n, FnOk P Φ (extend F g (Fn n))) (hl : ∀ args r, toO (Fg args) = some r → ∃ n, toO (Fn n args) = some r) : FnOk P Φ (extend F g Fg) := by
  intro k vf args Hin r H' hvf hr
  by_cases hk : k = g
  · subst hk
    cases Hin with
    | cons x l => simp [extend, toO] at hr
    | nil =>
    have e : extend F k Fg k args [] = Fg args := by simp [extend]
    rw [e] at hr
    obtain ⟨n, hn⟩ := hl args (r, H') hr
    exact h n k vf args [] r H' hvf (by simp [extend]; exact hn)
  · have e : ∀ G, extend F g G k args Hin = F k args Hin := by
      intro G; unfold extend
      have hb : Nat.beq k g = false := Bool.eq_false_iff.2 fun h => hk (Nat.eq_of_beq_eq_true h)
      rw [hb]; rfl
    rw [e] at hr
    exact h 0 k vf args Hin r H' hvf (by rw [e]; exact hr)
theorem inb_of {i : Int} {n : Nat} (h0 : 0 ≤ i) (h : i < n) : inb i n = true := by
  simp [inb, h0, h]
def tabOf : List (Nat × VFunc) → Tab
  | [], _ => none
  | q :: r, h => bif Nat.beq h q.1 then some q.2 else tabOf r h
theorem tabOf_mem : ∀ {l : List (Nat × VFunc)} {h : Nat} {vf : VFunc}, tabOf l h = some vf → ∃ k, (k, vf) ∈ l
  | [], h, vf, e => by cases e
  | q :: r, h, vf, e => by
    rw [tabOf, cond_eq_ite] at e
    split at e
    · injection e with e; subst e; exact ⟨q.1, List.mem_cons_self⟩
    · obtain ⟨k, hk⟩ := tabOf_mem e; exact ⟨k, List.mem_cons_of_mem _ hk⟩
def allOk (P : Program) (Φ : Tab) : List (Nat × VFunc) → Prop
  | [] => True
  | q :: r => FnChk P Φ q.2 ∧ allOk P Φ r
theorem allOk_mem {P : Program} {Φ : Tab} : ∀ {l : List (Nat × VFunc)}, allOk P Φ l → ∀ q ∈ l, FnChk P Φ q.2
  | [], _, q, hq => by simp at hq
  | a :: r, h, q, hq => by
    rcases List.mem_cons.1 hq with rfl | hq
    · exact h.1
    · exact allOk_mem h.2 q hq
theorem tabOf_ok {P : Program} {Φ : Tab} {l : List (Nat × VFunc)} (h : allOk P Φ l) : ∀ h vf, tabOf l h = some vf → FnChk P Φ vf := by
  intro k vf e
  obtain ⟨k, hk⟩ := tabOf_mem e
  exact allOk_mem h _ hk
end Go.Vam
