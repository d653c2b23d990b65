/- THE SHADOW MACHINE, 6: each operation that only computes does what its shadow does. -/
import Derived.Test.YtcpbgimpopcfoaaVE
import Derived.Test.YtcpbgimpopcfoaaVN
import Derived.Laws.Strings
import Derived.Laws.Small
set_option linter.unusedSimpArgs false
set_option linter.unusedVariables false
namespace Go.Vam
section
variable {P : Program} {ρ : Operand → Value} {o : Oper} {w : World}
theorem run_mov {x : Operand} (ho : o.op = .move x ∨ o.op = .assign x) : (execOp ρ o).run P w = .ok (.value (ρ x)) w := by
  rcases ho with ho | ho <;> simp [execOp, ho, go_sem]
theorem run_pick {c x y : Operand} {b : Bool} (ho : o.op = .pick c x y) (hb : ρ c = .bool b) : (execOp ρ o).run P w = .ok (.value (if b then ρ x else ρ y)) w := by
  cases b <;> simp [execOp, ho, hb, asBool, go_sem]
theorem run_un {op : UnOp} {t : Nat} {x : Operand} {v : Value} (ho : o.op = .unOp op t x) (hr : (Op.unary op (ρ x)).run P w = .ok v w) : (execOp ρ o).run P w = .ok (.value v) w := by
  simp [execOp, ho, hr, go_sem]
theorem run_conv {s t : Nat} {x : Operand} {v : Value} {w' : World} (ho : o.op = .convert s t x) (hr : (convert s t (ρ x)).run P w = .ok v w') : (execOp ρ o).run P w = .ok (.value v) w' := by
  simp [execOp, ho, hr, go_sem]
theorem run_bin {op : BinOp} {t u : Nat} {x y : Operand} {v : Value} {w' : World} (ho : o.op = .binOp op t x y u) (hg : (eqGuard op t x y (ρ x) (ρ y)).run P w = .ok () w) (hr : (binOp op t (ρ x) (ρ y)).run P w = .ok v w') : (execOp ρ o).run P w = .ok (.value v) w' := by
  simp [execOp, ho, hg, hr, go_sem]
end
section
variable {C : Ctx} {Γ : List Ty} {g0 g : G} {w0 w : World} {st : St} {a : Act}
def chkMov (C : Ctx) (Γ : List Ty) (dst : Option Nat) (x : Operand) (vx : Opd) : Bool :=
  match dst with
  | some d => (match Γ[d]? with | some τ => opd C Γ x vx τ | none => false)
  | none => false
theorem snd_mov (hI : Inv C Γ g0 w0 g st a w) {o : Oper} {vo : VOper} {x : Operand} {vx : Opd} (hd : o.dst = vo.dst) (ho : o.op = .move x ∨ o.op = .assign x) (hv : vo.op = .mov vx) (hc : chkMov C Γ vo.dst x vx = true) :
    Step C Γ g0 w0 o vo st a w := by
  unfold chkMov at hc
  split at hc
  · rename_i d hdd
    split at hc
    · rename_i τ hτ
      refine ⟨a.eval x, w, g, .inl (run_mov ho), ?_⟩
      rw [hv, hd]
      exact hI.pure (o := vo) fun d' hd' => ⟨τ, by rw [hdd] at hd'; injection hd' with hd'; subst hd'; exact hτ, hI.rd hc _⟩
    · cases hc
  · cases hc
def chkPick (C : Ctx) (Γ : List Ty) (dst : Option Nat) (c x y : Operand) (vc vx vy : Opd) : Bool :=
  match dst, c with
  | some d, .tmp nc => (match Γ[d]?, Γ[nc]? with | some τ, some (.v tb) => (opd C Γ c vc (.v tb) && isB C.P tb) && (opd C Γ x vx τ && opd C Γ y vy τ) | _, _ => false)
  | _, _ => false
theorem RV.tt {H : List V} {X : Own} {τ : Ty} {x y : V} {v u : Value} {b : Bool} (hx : RV C g H w X τ x v) (hy : RV C g H w X τ y u) : RV C g H w X τ (pickV b x y) (if b then v else u) := by
  unfold pickV
  split
  · cases b
    · exact hy
    · exact hx
  · cases b
    · exact hy
    · exact hx
theorem snd_pick (hI : Inv C Γ g0 w0 g st a w) {o : Oper} {vo : VOper} {c x y : Operand} {vc vx vy : Opd} (hd : o.dst = vo.dst) (ho : o.op = .pick c x y) (hv : vo.op = .pick vc vx vy) (hc : chkPick C Γ vo.dst c x y vc vx vy = true)
    (hok : (sem vo.op st.get st.H).ok = true) : Step C Γ g0 w0 o vo st a w := by
  unfold chkPick at hc
  split at hc
  · rename_i d nc hdd
    split at hc
    · rename_i τ tb hτ htb
      simp only [Bool.and_eq_true] at hc
      obtain ⟨⟨h1, h2⟩, h3, h4⟩ := hc
      have hcd : vc.isD st.get = true := by
        rw [hv] at hok
        exact hok
      obtain ⟨_, hb⟩ := RT.bool (isB_u h2) (hI.d h1 hcd)
      refine ⟨if (vc.d st.get).toB then a.eval x else a.eval y, w, g, .inl (run_pick ho hb), ?_⟩
      rw [hd, hv]
      exact hI.pure (o := vo) fun d' hd' => ⟨τ, by rw [hdd] at hd'; injection hd' with hd'; subst hd'; exact hτ, RV.tt (hI.rd h3 (.slot d')) (hI.rd h4 (.slot d'))⟩
    · cases hc
  · cases hc
def chkUn (C : Ctx) (Γ : List Ty) (dst : Option Nat) (op : Op) (f : F1) (vx : Opd) : Bool :=
  match op, f with
  | .unOp .neg tx x, .neg k => isK C.P tx k && opd C Γ x vx (.v tx) && resTy C.P Γ dst (.v tx)
  | .unOp .xor tx x, .inv k => isK C.P tx k && opd C Γ x vx (.v tx) && resTy C.P Γ dst (.v tx)
  | .unOp .not tx x, .not => isB C.P tx && opd C Γ x vx (.v tx) && resTy C.P Γ dst (.v tx)
  | .unOp .neg tx x, .fneg => isF64 C.P tx && opd C Γ x vx (.v tx) && resTy C.P Γ dst (.v tx)
  | .convert src d x, .conv k => (match C.P.underlying src with | some (.int k') => isK C.P d k && opd C Γ x vx (.v src) && resTy C.P Γ dst (.v d) | _ => false)
  | .convert src d x, .idn => isS C.P src && isS C.P d && opd C Γ x vx (.v src) && resTy C.P Γ dst (.v d)
  | _, _ => false
theorem unary_neg {P : Program} {w : World} {k : IntKind} {n : Int} : (Op.unary .neg (.int k n)).run P w = .ok (.int k (k.wrap (0 - n))) w := rfl
theorem unary_inv {P : Program} {w : World} {k : IntKind} {n : Int} : (Op.unary .xor (.int k n)).run P w = .ok (.int k (bitsOp k (· ^^^ ·) (if k.signed then -1 else k.max) n)) w := rfl
theorem unary_fneg {P : Program} {w : World} {m : Nat} : (Op.unary .neg (.float .f64 m)).run P w = .ok (.float .f64 (m ^^^ 9223372036854775808)) w := rfl
theorem snd_un (hI : Inv C Γ g0 w0 g st a w) {o : Oper} {vo : VOper} {f : F1} {vx : Opd} (hd : o.dst = vo.dst) (hv : vo.op = .un f vx) (hc : chkUn C Γ vo.dst o.op f vx = true)
    (hok : (sem vo.op st.get st.H).ok = true) : Step C Γ g0 w0 o vo st a w := by
  rw [hv] at hok
  simp only [sem, Bool.and_eq_true] at hok
  have hs : sem vo.op st.get st.H = { ok := vx.isD st.get && f.ok (vx.d st.get), v := .f (f.ev (vx.d st.get)), H := st.H } := by rw [hv]; rfl
  unfold chkUn at hc
  split at hc
  · rename_i tx x k ho
    simp only [Bool.and_eq_true] at hc
    obtain ⟨⟨h1, h2⟩, h3⟩ := hc
    obtain ⟨_, e⟩ := RT.int (isK_u h1) (hI.d h2 hok.1)
    exact Step.pure hI hd hs (run_un ho (by rw [e]; exact unary_neg)) h3 fun X => RT.mkI (isK_u h1) _ (wrapR _ _)
  · rename_i tx x k ho
    simp only [Bool.and_eq_true] at hc
    obtain ⟨⟨h1, h2⟩, h3⟩ := hc
    obtain ⟨_, e⟩ := RT.int (isK_u h1) (hI.d h2 hok.1)
    exact Step.pure hI hd hs (run_un ho (by rw [e]; exact unary_inv)) h3 fun X => RT.mkI (isK_u h1) _ (wrapR _ _)
  · rename_i tx x ho
    simp only [Bool.and_eq_true] at hc
    obtain ⟨⟨h1, h2⟩, h3⟩ := hc
    obtain ⟨_, e⟩ := RT.bool (isB_u h1) (hI.d h2 hok.1)
    exact Step.pure (v := .bool (!(vx.d st.get).toB)) hI hd hs (run_un ho (by rw [e]; rfl)) h3 fun X => RT.mkB (isB_u h1) _
  · rename_i tx x ho
    simp only [Bool.and_eq_true] at hc
    obtain ⟨⟨h1, h2⟩, h3⟩ := hc
    obtain ⟨n, m, e', e, hf⟩ := RT.float (isF64_u h1) (hI.d h2 hok.1)
    exact Step.pure hI hd hs (run_un ho (by rw [e]; exact unary_fneg)) h3 fun X => by rw [e']; exact RT.mkF (isF64_u h1) hf.neg
  · rename_i src d x k ho
    split at hc
    · rename_i k' hk'
      simp only [Bool.and_eq_true] at hc
      obtain ⟨⟨h1, h2⟩, h3⟩ := hc
      obtain ⟨_, e⟩ := RT.int hk' (hI.d h2 hok.1)
      exact Step.pure (v := .int k (k.wrap (vx.d st.get).toI)) hI hd hs (run_conv ho (by rw [e]; simp [convert, run_underlying hk', run_underlying (isK_u h1), Conv.intToInt, go_sem])) h3 fun X => RT.mkI (isK_u h1) _ (wrapR _ _)
    · cases hc
  · rename_i src d x ho
    simp only [Bool.and_eq_true] at hc
    obtain ⟨⟨⟨h1, h1'⟩, h2⟩, h3⟩ := hc
    obtain ⟨bs, e', e, hb⟩ := RT.str_b (isS_u h1) (hI.d h2 hok.1)
    exact Step.pure (v := .string bs) hI hd hs (run_conv ho (by rw [e]; simp [convert, run_underlying (isS_u h1), run_underlying (isS_u h1'), go_sem])) h3 fun X => by rw [e']; exact RT.mkS (isS_u h1') _ hb
  · cases hc
def resB (P : Program) (Γ : List Ty) (dst : Option Nat) : Bool :=
  match dst with
  | some d => (match Γ[d]? with | some (.v t) => isB P t | _ => false)
  | none => true
def resI (P : Program) (Γ : List Ty) (dst : Option Nat) : Bool :=
  match dst with
  | some d => (match Γ[d]? with | some (.v t) => isK P t .i64 | _ => false)
  | none => true
theorem Step.bool {o : Oper} {vo : VOper} {x : Bool} {ok : Bool} (hI : Inv C Γ g0 w0 g st a w) (hd : o.dst = vo.dst) (hs : sem vo.op st.get st.H = { ok, v := .f (.b x), H := st.H })
    (hr : (execOp a.eval o).run C.P w = .ok (.value (.bool x)) w) (ht : resB C.P Γ vo.dst = true) : Step C Γ g0 w0 o vo st a w := by
  refine ⟨.bool x, w, g, .inl hr, ?_⟩
  rw [hs, hd]
  refine hI.pure fun d hdd => ?_
  unfold resB at ht
  rw [hdd] at ht
  simp only at ht
  split at ht
  · rename_i t hτ; exact ⟨_, hτ, RT.mkB (isB_u ht) x⟩
  · cases ht
theorem Step.i64 {o : Oper} {vo : VOper} {n : Int} {ok : Bool} (hI : Inv C Γ g0 w0 g st a w) (hd : o.dst = vo.dst) (hs : sem vo.op st.get st.H = { ok, v := .f (.i n), H := st.H })
    (hr : (execOp a.eval o).run C.P w = .ok (.value (.int .i64 n)) w) (ht : resI C.P Γ vo.dst = true) (hn : IntKind.i64.min ≤ n ∧ n ≤ IntKind.i64.max) : Step C Γ g0 w0 o vo st a w := by
  refine ⟨.int .i64 n, w, g, .inl hr, ?_⟩
  rw [hs, hd]
  refine hI.pure fun d hdd => ?_
  unfold resI at ht
  rw [hdd] at ht
  simp only at ht
  split at ht
  · rename_i t hτ; exact ⟨_, hτ, RT.mkI (isK_u ht) n hn⟩
  · cases ht
theorem eqL_eq : ∀ (x y : List UInt8), eqL (x.map (·.toNat)) (y.map (·.toNat)) = (x == y)
  | [], [] => rfl
  | [], _ :: _ => rfl
  | _ :: _, [] => rfl
  | a :: x, b :: y => by
    simp only [List.map_cons, eqL, eqL_eq x y]
    by_cases h : a = b
    · subst h; simp
    · have : a.toNat ≠ b.toNat := fun e => h (UInt8.toNat_inj.1 e)
      simp [h, this]
theorem lessL_eq : ∀ (x y : List UInt8), lessL (x.map (·.toNat)) (y.map (·.toNat)) = Op.bytesLess x y
  | [], [] => rfl
  | [], _ :: _ => rfl
  | _ :: _, [] => rfl
  | a :: x, b :: y => by
    simp only [List.map_cons, lessL, Op.bytesLess, lessL_eq x y]
    have h1 : decide (a.toNat < b.toNat) = decide (a < b) := by simp [UInt8.lt_iff_toNat_lt]
    have h2 : decide (a.toNat = b.toNat) = (a == b) := by
      by_cases h : a = b
      · subst h; simp
      · have : a.toNat ≠ b.toNat := fun e => h (UInt8.toNat_inj.1 e)
        simp [h, this]
    rw [h1, h2]
inductive Fam where
  | ar (k : IntKind) | sh (k : IntKind) | ci | cb | cs | sa | fa | cf
def fam : BinOp → F2 → Option Fam
  | .add, .add k => some (.ar k) | .sub, .sub k => some (.ar k) | .mul, .mul k => some (.ar k) | .quo, .quo k => some (.ar k) | .rem, .rem k => some (.ar k)
  | .and, .and k => some (.ar k) | .or, .or k => some (.ar k) | .xor, .xor k => some (.ar k) | .andNot, .andNot k => some (.ar k)
  | .shl, .shl k => some (.sh k) | .shr, .shr k => some (.sh k)
  | .eql, .eqI => some .ci | .neq, .neI => some .ci | .lss, .ltI => some .ci | .leq, .leI => some .ci | .gtr, .gtI => some .ci | .geq, .geI => some .ci
  | .eql, .eqB => some .cb | .neq, .neB => some .cb
  | .eql, .seq => some .cs | .neq, .sne => some .cs | .lss, .slt => some .cs | .leq, .sle => some .cs | .gtr, .sgt => some .cs | .geq, .sge => some .cs
  | .add, .sadd => some .sa
  | .add, .fadd => some .fa | .sub, .fsub => some .fa | .mul, .fmul => some .fa
  | .eql, .feq => some .cf | .neq, .fne => some .cf | .lss, .flt => some .cf | .leq, .fle => some .cf | .gtr, .fgt => some .cf | .geq, .fge => some .cf
  | _, _ => none
theorem bin_ar {P : Program} {w : World} {b : BinOp} {f : F2} {k : IntKind} {t : Nat} {n m : Int} {x y : Operand} (h : fam b f = some (.ar k)) (hok : f.ok (.i n) (.i m) = true) :
    ∃ r, f.ev (.i n) (.i m) = .i r ∧ (eqGuard b t x y (.int k n) (.int k m)).run P w = .ok () w ∧ (binOp b t (.int k n) (.int k m)).run P w = .ok (.int k r) w := by
  unfold fam at h
  split at h <;> simp at h <;> subst h <;> refine ⟨_, rfl, rfl, ?_⟩
  case h_4 => have h0 : ¬ m = 0 := (fun e => by subst e; exact absurd (show (false : Bool) = true from hok) (by simp)); simp [binOp, Op.intDiv, D.toI, go_sem, h0]
  case h_5 => have h0 : ¬ m = 0 := (fun e => by subst e; exact absurd (show (false : Bool) = true from hok) (by simp)); simp [binOp, Op.intDiv, D.toI, go_sem, h0]
  all_goals simp [binOp, Op.intArith, Op.intBits, D.toI, go_sem]
  all_goals try rfl
theorem bin_sh {P : Program} {w : World} {b : BinOp} {f : F2} {k k' : IntKind} {t : Nat} {n m : Int} {x y : Operand} (h : fam b f = some (.sh k)) (hok : f.ok (.i n) (.i m) = true) :
    ∃ r, f.ev (.i n) (.i m) = .i r ∧ (eqGuard b t x y (.int k n) (.int k' m)).run P w = .ok () w ∧ (binOp b t (.int k n) (.int k' m)).run P w = .ok (.int k r) w := by
  unfold fam at h
  split at h <;> simp at h <;> subst h <;> refine ⟨_, rfl, rfl, ?_⟩
  · have h0 : (0 : Int) ≤ m := of_decide_eq_true hok
    have h' : ¬ m < 0 := by omega
    simp [binOp, Op.shift, h', D.toI, go_sem]
    try rfl
  · have h0 : (0 : Int) ≤ m := of_decide_eq_true hok
    have h' : ¬ m < 0 := by omega
    simp [binOp, Op.shift, h', D.toI, go_sem]
    try rfl
theorem ar_range {b : BinOp} {f : F2} {k : IntKind} {n m : Int} (h : fam b f = some (.ar k)) (hn : k.min ≤ n ∧ n ≤ k.max) {r : Int} (hr : f.ev (.i n) (.i m) = .i r) : k.min ≤ r ∧ r ≤ k.max := by
  unfold fam at h
  split at h <;> simp at h <;> subst h <;> simp only [F2.ev, D.i.injEq, D.toI, bitsOp] at hr <;> subst hr <;> first | exact wrapR _ _ | exact tmodR hn
theorem sh_range {b : BinOp} {f : F2} {k : IntKind} {n m : Int} (h : fam b f = some (.sh k)) (hn : k.min ≤ n ∧ n ≤ k.max) {r : Int} (hr : f.ev (.i n) (.i m) = .i r) : k.min ≤ r ∧ r ≤ k.max := by
  unfold fam at h
  split at h <;> simp at h <;> subst h <;> simp only [F2.ev, D.i.injEq, D.toI, bitsOp] at hr <;> subst hr <;> first | exact wrapR _ _ | exact fdivR hn _
theorem bin_ci {P : Program} {w : World} {b : BinOp} {f : F2} {k : IntKind} {t : Nat} {n m : Int} {x y : Operand} (h : fam b f = some .ci) :
    ∃ r, f.ev (.i n) (.i m) = .b r ∧ (eqGuard b t x y (.int k n) (.int k m)).run P w = .ok () w ∧ (binOp b t (.int k n) (.int k m)).run P w = .ok (.bool r) w := by
  unfold fam at h
  split at h <;> simp at h <;> refine ⟨_, rfl, rfl, ?_⟩ <;> simp [binOp, Op.intCmp, D.toI, go_sem] <;> try rfl
  all_goals (by_cases hh : n = m <;> simp [hh])
theorem bin_cb {P : Program} {w : World} {b : BinOp} {f : F2} {t : Nat} {n m : Bool} {x y : Operand} (hu : P.underlying t = some .bool) (h : fam b f = some .cb) :
    ∃ r, f.ev (.b n) (.b m) = .b r ∧ (eqGuard b t x y (.bool n) (.bool m)).run P w = .ok () w ∧ (binOp b t (.bool n) (.bool m)).run P w = .ok (.bool r) w := by
  unfold fam at h
  split at h <;> simp at h <;> refine ⟨_, rfl, rfl, ?_⟩ <;> simp [binOp, run_equal_bool w t n m hu, D.toB, go_sem]
  all_goals (cases n <;> cases m <;> rfl)
theorem bin_cs {P : Program} {w : World} {b : BinOp} {f : F2} {t : Nat} {n m : ByteArray} {x y : Operand} (h : fam b f = some .cs) :
    ∃ r, f.ev (.s (bytesL n)) (.s (bytesL m)) = .b r ∧ (eqGuard b t x y (.string n) (.string m)).run P w = .ok () w ∧ (binOp b t (.string n) (.string m)).run P w = .ok (.bool r) w := by
  have e1 : eqL (bytesL n) (bytesL m) = (n.toList == m.toList) := by rw [ByteArray.toList_eq, ByteArray.toList_eq]; exact eqL_eq _ _
  have e2 : lessL (bytesL n) (bytesL m) = Op.bytesLess n.toList m.toList := by rw [ByteArray.toList_eq, ByteArray.toList_eq]; exact lessL_eq _ _
  unfold fam at h
  split at h <;> simp at h <;> refine ⟨_, rfl, rfl, ?_⟩ <;> simp [binOp, Op.stringOp, D.toS, e1, e2, go_sem]
theorem bin_sa {P : Program} {w : World} {t : Nat} {n m : ByteArray} {x y : Operand} (hok : F2.sadd.ok (.s (bytesL n)) (.s (bytesL m)) = true) :
    F2.sadd.ev (.s (bytesL n)) (.s (bytesL m)) = .s (bytesL (n ++ m)) ∧ (eqGuard .add t x y (.string n) (.string m)).run P w = .ok () w ∧ (binOp .add t (.string n) (.string m)).run P w = .ok (.string (n ++ m)) w := by
  have h' : ¬ 9223372036854775807 < ((n.size : Int) + (m.size : Int)) := by
    simp [F2.ok, D.toS, bytesL] at hok
    have e1 : n.data.size = n.size := rfl
    have e2 : m.data.size = m.size := rfl
    omega
  refine ⟨by simp [F2.ev, D.toS, bytesL], rfl, ?_⟩
  simp [binOp, Op.stringOp, IntKind.max, IntKind.signed, IntKind.bits, h', go_sem]
theorem bin_fa {P : Program} {w : World} {b : BinOp} {f : F2} {t : Nat} {n m n' m' : Nat} {x y : Operand} (h : fam b f = some .fa) (hn : FB n m) (hn' : FB n' m') :
    ∃ r u q, f.ev (.f n) (.f n') = .f r ∧ FB r u ∧ (eqGuard b t x y (.float .f64 m) (.float .f64 m')).run P w = .ok () w ∧ (binOp b t (.float .f64 m) (.float .f64 m')).run P w = .ok (.float .f64 u) (w.drewN q) := by
  unfold fam at h
  split at h <;> simp at h
  · cases hr : Ieee.double.add n n' with
    | some r => exact ⟨r, r, 0, by simp [F2.ev, D.toF, hr], ⟨.inl rfl, add_lt hr⟩, rfl, by simp [binOp, Op.floatArith, FloatKind.format, hn.1.add hn'.1, hr, go_sem]; rfl⟩
    | none => exact ⟨nanW, _, 1, by simp [F2.ev, D.toF, hr], ⟨.inr ⟨nanW_nan, cut_nan m m' (w.tape w.drawn (.nanBits .f64 m m'))⟩, by decide⟩, rfl, by simp [binOp, Op.floatArith, FloatKind.format, hn.1.add hn'.1, hr, Question.forced, go_sem]; rfl⟩
  · cases hr : Ieee.double.sub n n' with
    | some r => exact ⟨r, r, 0, by simp [F2.ev, D.toF, hr], ⟨.inl rfl, sub_lt hr⟩, rfl, by simp [binOp, Op.floatArith, FloatKind.format, hn.1.sub hn'.1, hr, go_sem]; rfl⟩
    | none => exact ⟨nanW, _, 1, by simp [F2.ev, D.toF, hr], ⟨.inr ⟨nanW_nan, cut_nan m m' (w.tape w.drawn (.nanBits .f64 m m'))⟩, by decide⟩, rfl, by simp [binOp, Op.floatArith, FloatKind.format, hn.1.sub hn'.1, hr, Question.forced, go_sem]; rfl⟩
  · cases hr : Ieee.double.mul n n' with
    | some r => exact ⟨r, r, 0, by simp [F2.ev, D.toF, hr], ⟨.inl rfl, mul_lt hr⟩, rfl, by simp [binOp, Op.floatArith, FloatKind.format, hn.1.mul hn'.1, hr, go_sem]; rfl⟩
    | none => exact ⟨nanW, _, 1, by simp [F2.ev, D.toF, hr], ⟨.inr ⟨nanW_nan, cut_nan m m' (w.tape w.drawn (.nanBits .f64 m m'))⟩, by decide⟩, rfl, by simp [binOp, Op.floatArith, FloatKind.format, hn.1.mul hn'.1, hr, Question.forced, go_sem]; rfl⟩
theorem bin_cf {P : Program} {w : World} {b : BinOp} {f : F2} {t : Nat} {n m n' m' : Nat} {x y : Operand} (h : fam b f = some .cf) (hn : FB n m) (hn' : FB n' m') :
    ∃ r, f.ev (.f n) (.f n') = .b r ∧ (eqGuard b t x y (.float .f64 m) (.float .f64 m')).run P w = .ok () w ∧ (binOp b t (.float .f64 m) (.float .f64 m')).run P w = .ok (.bool r) w := by
  have e := hn.1.order hn'.1
  unfold fam at h
  split at h <;> simp at h <;> refine ⟨_, rfl, rfl, ?_⟩ <;> simp [binOp, Op.floatCmp, FloatKind.format, D.toF, e, go_sem]
def chkBin (C : Ctx) (Γ : List Ty) (dst : Option Nat) (op : Op) (f : F2) (vx vy : Opd) : Bool :=
  match op with
  | .binOp b tx x y ty =>
    match fam b f with
    | some (.ar k) => isK C.P tx k && (opd C Γ x vx (.v tx) && opd C Γ y vy (.v tx)) && resTy C.P Γ dst (.v tx)
    | some (.sh k) => isK C.P tx k && (opd C Γ x vx (.v tx) && opI C Γ y vy) && resTy C.P Γ dst (.v tx)
    | some .ci => (match C.P.underlying tx with | some (.int _) => true | _ => false) && (opd C Γ x vx (.v tx) && opd C Γ y vy (.v tx)) && resB C.P Γ dst
    | some .cb => isB C.P tx && (opd C Γ x vx (.v tx) && opd C Γ y vy (.v tx)) && resB C.P Γ dst
    | some .cs => isS C.P tx && (opd C Γ x vx (.v tx) && opd C Γ y vy (.v tx)) && resB C.P Γ dst
    | some .sa => isS C.P tx && (opd C Γ x vx (.v tx) && opd C Γ y vy (.v tx)) && resTy C.P Γ dst (.v tx)
    | some .fa => isF64 C.P tx && (opd C Γ x vx (.v tx) && opd C Γ y vy (.v tx)) && resTy C.P Γ dst (.v tx)
    | some .cf => isF64 C.P tx && (opd C Γ x vx (.v tx) && opd C Γ y vy (.v tx)) && resB C.P Γ dst
    | none => false
  | _ => false
theorem snd_bin (hI : Inv C Γ g0 w0 g st a w) {o : Oper} {vo : VOper} {f : F2} {vx vy : Opd} (hd : o.dst = vo.dst) (hv : vo.op = .bin f vx vy) (hc : chkBin C Γ vo.dst o.op f vx vy = true)
    (hok : (sem vo.op st.get st.H).ok = true) : Step C Γ g0 w0 o vo st a w := by
  rw [hv] at hok
  simp only [sem, Bool.and_eq_true] at hok
  obtain ⟨⟨o1, o2⟩, o3⟩ := hok
  have hs : sem vo.op st.get st.H = { ok := vx.isD st.get && vy.isD st.get && f.ok (vx.d st.get) (vy.d st.get), v := .f (f.ev (vx.d st.get) (vy.d st.get)), H := st.H } := by rw [hv]; rfl
  unfold chkBin at hc
  split at hc
  · rename_i b tx x y ty ho
    split at hc
    · rename_i k hf
      simp only [Bool.and_eq_true] at hc
      obtain ⟨⟨h1, h2, h3⟩, h4⟩ := hc
      have hr1 := RT.int_r (isK_u h1) (hI.d h2 o1)
      obtain ⟨d1, e1⟩ := RT.int (isK_u h1) (hI.d h2 o1)
      obtain ⟨d2, e2⟩ := RT.int (isK_u h1) (hI.d h3 o2)
      rw [d1, d2] at o3
      obtain ⟨r, q1, q2, q3⟩ := bin_ar (P := C.P) (w := w) (t := tx) (x := x) (y := y) hf o3
      rw [d1, d2, q1] at hs
      exact Step.pure hI hd hs (run_bin ho (by rw [e1, e2]; exact q2) (by rw [e1, e2]; exact q3)) h4 fun X => RT.mkI (isK_u h1) _ (ar_range hf hr1 q1)
    · rename_i k hf
      simp only [Bool.and_eq_true] at hc
      obtain ⟨⟨h1, h2, h3⟩, h4⟩ := hc
      have hr1 := RT.int_r (isK_u h1) (hI.d h2 o1)
      obtain ⟨d1, e1⟩ := RT.int (isK_u h1) (hI.d h2 o1)
      obtain ⟨k', d2, e2⟩ := hI.int h3 o2
      rw [d1, d2] at o3
      obtain ⟨r, q1, q2, q3⟩ := bin_sh (P := C.P) (w := w) (t := tx) (x := x) (y := y) (k' := k') hf o3
      rw [d1, d2, q1] at hs
      exact Step.pure hI hd hs (run_bin ho (by rw [e1, e2]; exact q2) (by rw [e1, e2]; exact q3)) h4 fun X => RT.mkI (isK_u h1) _ (sh_range hf hr1 q1)
    · rename_i hf
      simp only [Bool.and_eq_true] at hc
      obtain ⟨⟨h1, h2, h3⟩, h4⟩ := hc
      split at h1
      · rename_i k hk
        obtain ⟨d1, e1⟩ := RT.int hk (hI.d h2 o1)
        obtain ⟨d2, e2⟩ := RT.int hk (hI.d h3 o2)
        obtain ⟨r, q1, q2, q3⟩ := bin_ci (P := C.P) (w := w) (t := tx) (x := x) (y := y) (k := k) (n := (vx.d st.get).toI) (m := (vy.d st.get).toI) hf
        rw [d1, d2, q1] at hs
        exact Step.bool hI hd hs (run_bin ho (by rw [e1, e2]; exact q2) (by rw [e1, e2]; exact q3)) h4
      · cases h1
    · rename_i hf
      simp only [Bool.and_eq_true] at hc
      obtain ⟨⟨h1, h2, h3⟩, h4⟩ := hc
      obtain ⟨d1, e1⟩ := RT.bool (isB_u h1) (hI.d h2 o1)
      obtain ⟨d2, e2⟩ := RT.bool (isB_u h1) (hI.d h3 o2)
      obtain ⟨r, q1, q2, q3⟩ := bin_cb (P := C.P) (w := w) (t := tx) (x := x) (y := y) (n := (vx.d st.get).toB) (m := (vy.d st.get).toB) (isB_u h1) hf
      rw [d1, d2, q1] at hs
      exact Step.bool hI hd hs (run_bin ho (by rw [e1, e2]; exact q2) (by rw [e1, e2]; exact q3)) h4
    · rename_i hf
      simp only [Bool.and_eq_true] at hc
      obtain ⟨⟨h1, h2, h3⟩, h4⟩ := hc
      obtain ⟨b1, d1, e1⟩ := RT.str (isS_u h1) (hI.d h2 o1)
      obtain ⟨b2, d2, e2⟩ := RT.str (isS_u h1) (hI.d h3 o2)
      obtain ⟨r, q1, q2, q3⟩ := bin_cs (P := C.P) (w := w) (t := tx) (x := x) (y := y) (n := b1) (m := b2) hf
      rw [d1, d2, q1] at hs
      exact Step.bool hI hd hs (run_bin ho (by rw [e1, e2]; exact q2) (by rw [e1, e2]; exact q3)) h4
    · rename_i hf
      simp only [Bool.and_eq_true] at hc
      obtain ⟨⟨h1, h2, h3⟩, h4⟩ := hc
      obtain ⟨b1, d1, e1⟩ := RT.str (isS_u h1) (hI.d h2 o1)
      obtain ⟨b2, d2, e2⟩ := RT.str (isS_u h1) (hI.d h3 o2)
      have : b = .add ∧ f = .sadd := by
        unfold fam at hf
        split at hf <;> simp at hf
        exact ⟨rfl, rfl⟩
      obtain ⟨rfl, rfl⟩ := this
      rw [d1, d2] at o3
      obtain ⟨q1, q2, q3⟩ := bin_sa (P := C.P) (w := w) (t := tx) (x := x) (y := y) o3
      rw [d1, d2, q1] at hs
      exact Step.pure hI hd hs (run_bin ho (by rw [e1, e2]; exact q2) (by rw [e1, e2]; exact q3)) h4 fun X => RT.mkS (isS_u h1) _ (by
        have o4 : b1.size + b2.size ≤ 9223372036854775807 := by simpa [F2.ok, D.toS, bytesL] using o3
        rw [ByteArray.size_append]; exact o4)
    · rename_i hf
      simp only [Bool.and_eq_true] at hc
      obtain ⟨⟨h1, h2, h3⟩, h4⟩ := hc
      obtain ⟨n1, m1, d1, e1, f1⟩ := RT.float (isF64_u h1) (hI.d h2 o1)
      obtain ⟨n2, m2, d2, e2, f2⟩ := RT.float (isF64_u h1) (hI.d h3 o2)
      obtain ⟨r, u, q, q1, q4, q2, q3⟩ := bin_fa (P := C.P) (w := w) (t := tx) (x := x) (y := y) hf f1 f2
      rw [d1, d2, q1] at hs
      exact Step.pureN q hI hd hs (run_bin ho (by rw [e1, e2]; exact q2) (by rw [e1, e2]; exact q3)) h4 fun X => RT.mkF (isF64_u h1) q4
    · rename_i hf
      simp only [Bool.and_eq_true] at hc
      obtain ⟨⟨h1, h2, h3⟩, h4⟩ := hc
      obtain ⟨n1, m1, d1, e1, f1⟩ := RT.float (isF64_u h1) (hI.d h2 o1)
      obtain ⟨n2, m2, d2, e2, f2⟩ := RT.float (isF64_u h1) (hI.d h3 o2)
      obtain ⟨r, q1, q2, q3⟩ := bin_cf (P := C.P) (w := w) (t := tx) (x := x) (y := y) hf f1 f2
      rw [d1, d2, q1] at hs
      exact Step.bool hI hd hs (run_bin ho (by rw [e1, e2]; exact q2) (by rw [e1, e2]; exact q3)) h4
    · cases hc
  · cases hc
end
end Go.Vam
