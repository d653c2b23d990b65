/- THE SHADOW MACHINE, 19b: two functions that the machine has itself: a real number's bits, and back. -/
import Derived.Test.YtcpbgimpopcfoaaVU
import GoSem.Extern.Table
import Derived.Laws.Externs
import Derived.KernelRfl
set_option linter.unusedSimpArgs false
set_option linter.unusedVariables false
namespace Go.Vam
def toBitsN : String := "math.Float64bits"
def ofBitsN : String := "math.Float64frombits"
def extOk (P : Program) (f : Nat) (nm : String) : Bool :=
  match P.funcs[f]? with
  | some fn => (fn.name == nm) && (fn.body.isNone && ((fn.origin == nm) || (fn.origin == "")))
  | none => false
theorem gen1 : Extern.allGenericRows.lookup "math.Float64frombits" = none := by kernel_rfl
theorem gen2 : Extern.allTypedRows.lookup "math.Float64frombits" = none := by kernel_rfl
theorem gen3 : Extern.allRows.lookup "math.Float64frombits" = some Extern.MathFloatBits.float64frombits := by kernel_rfl
theorem gen4 : Extern.allNextRows.lookup "math.Float64frombits" = none := by kernel_rfl
theorem gen0 : Extern.allNextRows.lookup "" = none := by kernel_rfl
theorem ben1 : Extern.allGenericRows.lookup "math.Float64bits" = none := by kernel_rfl
theorem ben2 : Extern.allTypedRows.lookup "math.Float64bits" = none := by kernel_rfl
theorem ben3 : Extern.allRows.lookup "math.Float64bits" = some Extern.MathFloatBits.float64bits := by kernel_rfl
theorem ben4 : Extern.allNextRows.lookup "math.Float64bits" = none := by kernel_rfl
theorem run_ofBits {P : Program} {f : Nat} (h : extOk P f ofBitsN = true) (n : Int) (w : World) : (callFunc f #[.int .u64 n]).run P w = .ok (.value (.float .f64 n.toNat)) w := by
  unfold extOk at h
  split at h
  · rename_i fn hf
    simp only [Bool.and_eq_true, beq_iff_eq, Bool.or_eq_true, ofBitsN] at h
    obtain ⟨h1, h2, h3⟩ := h
    have e1 : Extern.findNext fn = none := by
      unfold Extern.findNext
      simp only [h1, gen4]
      rcases h3 with h3 | h3 <;> simp only [h3, gen4, gen0] <;> rfl
    have e2 : Extern.find fn = some Extern.MathFloatBits.float64frombits := by
      unfold Extern.find
      simp only [h1, gen1, gen2, gen3]
      rfl
    rw [run_callFunc_extern hf (by rw [h1]; rfl) h2 e1 e2]
    rfl
  · cases h
theorem run_toBits {P : Program} {f : Nat} (h : extOk P f toBitsN = true) (n : Nat) (w : World) : (callFunc f #[.float .f64 n]).run P w = .ok (.value (.int .u64 n)) w := by
  unfold extOk at h
  split at h
  · rename_i fn hf
    simp only [Bool.and_eq_true, beq_iff_eq, Bool.or_eq_true, toBitsN] at h
    obtain ⟨h1, h2, h3⟩ := h
    have e1 : Extern.findNext fn = none := by
      unfold Extern.findNext
      simp only [h1, ben4]
      rcases h3 with h3 | h3 <;> simp only [h3, ben4, gen0] <;> rfl
    have e2 : Extern.find fn = some Extern.MathFloatBits.float64bits := by
      unfold Extern.find
      simp only [h1, ben1, ben2, ben3]
      rfl
    rw [run_callFunc_extern hf (by rw [h1]; rfl) h2 e1 e2]
    rfl
  · cases h
def cmpN : String := "internal/bytealg.abigen_runtime_cmpstring"
theorem cen1 : Extern.allGenericRows.lookup "internal/bytealg.abigen_runtime_cmpstring" = none := by kernel_rfl
theorem cen2 : Extern.allTypedRows.lookup "internal/bytealg.abigen_runtime_cmpstring" = none := by kernel_rfl
theorem cen3 : Extern.allRows.lookup "internal/bytealg.abigen_runtime_cmpstring" = some Extern.BytealgCompare.compare := by kernel_rfl
theorem cen4 : Extern.allNextRows.lookup "internal/bytealg.abigen_runtime_cmpstring" = none := by kernel_rfl
theorem cmp_list : ∀ (x y : List UInt8), (match (List.range (min x.length y.length)).find? (fun i => x[i]! != y[i]!) with
    | some i => if x[i]! < y[i]! then (-1 : Int) else 1
    | none => if x.length < y.length then -1 else if x.length > y.length then 1 else 0) = cmpL (x.map (·.toNat)) (y.map (·.toNat))
  | [], [] => by simp [cmpL]
  | [], b :: y => by simp [cmpL]
  | a :: x, [] => by simp [cmpL]
  | a :: x, b :: y => by
    have ih := cmp_list x y
    rw [show min (a :: x).length (b :: y).length = min x.length y.length + 1 by simp, List.range_succ_eq_map, List.find?_cons]
    simp only [List.map_cons, cmpL]
    by_cases h : a = b
    · subst h
      have e1 : ((a :: x)[0]! != (a :: y)[0]!) = false := by simp
      rw [e1, List.find?_map]
      simp only [Nat.beq_eq_true_eq, Nat.beq_refl, cond_true]
      rw [← ih]
      have e2 : ((fun i => (a :: x)[i]! != (a :: y)[i]!) ∘ Nat.succ) = fun i => x[i]! != y[i]! := by funext i; simp
      rw [e2]
      cases (List.range (min x.length y.length)).find? (fun i => x[i]! != y[i]!) with
      | none => simp
      | some i => simp
    · have e1 : ((a :: x)[0]! != (b :: y)[0]!) = true := by simpa using h
      have hne : a.toNat ≠ b.toNat := fun e => h (UInt8.toNat_inj.1 e)
      have hb : Nat.beq a.toNat b.toNat = false := Bool.eq_false_iff.2 fun e => hne (Nat.eq_of_beq_eq_true e)
      rw [e1, hb]
      simp only [cond_false]
      have e3 : ((a :: x)[0]! < (b :: y)[0]!) ↔ a.toNat < b.toNat := by simp [UInt8.lt_iff_toNat_lt]
      by_cases hl : a.toNat < b.toNat
      · have : Nat.ble a.toNat b.toNat = true := Nat.ble_eq_true_of_le (by omega)
        rw [this]; simp only [cond_true]
        rw [if_pos (e3.2 hl)]
      · have : Nat.ble a.toNat b.toNat = false := Bool.eq_false_iff.2 fun e => by have := Nat.le_of_ble_eq_true e; omega
        rw [this]; simp only [cond_false]
        rw [if_neg (fun e => hl (e3.1 e))]
theorem cmp_bytes (a b : ByteArray) : Extern.BytealgCompare.cmp a b = cmpL (bytesL a) (bytesL b) := by
  unfold Extern.BytealgCompare.cmp bytesL
  rw [← cmp_list]
  have e : ∀ (s : ByteArray) (i : Nat), s[i]! = s.data.toList[i]! := by
    intro s i
    simp only [getElem!_def]
    by_cases h : i < s.size
    · have h' : i < s.data.toList.length := by simpa using h
      simp [h, h']; rfl
    · have h' : ¬ i < s.data.toList.length := by simpa using h
      simp [h, h']
  simp only [e]
  rfl
theorem run_cmpS {P : Program} {f : Nat} (h : extOk P f cmpN = true) (a b : ByteArray) (w : World) : (callFunc f #[.string a, .string b]).run P w = .ok (.value (.int .i64 (cmpL (bytesL a) (bytesL b)))) w := by
  unfold extOk at h
  split at h
  · rename_i fn hf
    simp only [Bool.and_eq_true, beq_iff_eq, Bool.or_eq_true, cmpN] at h
    obtain ⟨h1, h2, h3⟩ := h
    have e1 : Extern.findNext fn = none := by
      unfold Extern.findNext
      simp only [h1, cen4]
      rcases h3 with h3 | h3 <;> simp only [h3, cen4, gen0] <;> rfl
    have e2 : Extern.find fn = some Extern.BytealgCompare.compare := by
      unfold Extern.find
      simp only [h1, cen1, cen2, cen3]
      rfl
    rw [run_callFunc_extern hf (by rw [h1]; rfl) h2 e1 e2, ← cmp_bytes]
    rfl
  · cases h
def addN : String := "math/bits.Add64"
theorem aen1 : Extern.allGenericRows.lookup "math/bits.Add64" = none := by kernel_rfl
theorem aen2 : Extern.allTypedRows.lookup "math/bits.Add64" = none := by kernel_rfl
theorem aen3 : Extern.allRows.lookup "math/bits.Add64" = some add64Entry := by kernel_rfl
theorem aen4 : Extern.allNextRows.lookup "math/bits.Add64" = none := by kernel_rfl
theorem run_a64 {P : Program} {f : Nat} (h : extOk P f addN = true) (x y c : Int) (hx : 0 ≤ x) (hy : 0 ≤ y) (hc0 : 0 ≤ c) (hc : c ≤ 1) (w : World) : (callFunc f #[.int .u64 x, .int .u64 y, .int .u64 c]).run P w = .ok (.value (.tuple #[.int .u64 ((x + y + c) % 18446744073709551616), .int .u64 ((x + y + c) / 18446744073709551616)])) w := by
  unfold extOk at h
  split at h
  · rename_i fn hf
    simp only [Bool.and_eq_true, beq_iff_eq, Bool.or_eq_true, addN] at h
    obtain ⟨h1, h2, h3⟩ := h
    have e1 : Extern.findNext fn = none := by
      unfold Extern.findNext
      simp only [h1, aen4]
      rcases h3 with h3 | h3 <;> simp only [h3, aen4, gen0] <;> rfl
    have e2 : Extern.find fn = some add64Entry := by
      unfold Extern.find
      simp only [h1, aen1, aen2, aen3]
      rfl
    rw [run_callFunc_extern hf (by rw [h1]; rfl) h2 e1 e2, run_add64 x y c hx hy hc0 hc]
    rfl
  · cases h
section
variable {C : Ctx} {Γ : List Ty} {g0 g : G} {w0 w : World} {st : St} {a : Act}
def chkX (C : Ctx) (Γ : List Ty) (dst : Option Nat) (op : Op) (f : F1) (vx : Opd) : Bool :=
  match vcallOf op, f with
  | some (.func k, [x], [t]), .fofbits => extOk C.P k ofBitsN && (isK C.P t .u64 && (opd C Γ x vx (.v t) && (match dst with | some d => (match Γ[d]? with | some (.v t') => isF64 C.P t' | _ => false) | none => true)))
  | some (.func k, [x], [t]), .fbits => extOk C.P k toBitsN && (isF64 C.P t && (opd C Γ x vx (.v t) && (match dst with | some d => (match Γ[d]? with | some (.v t') => isK C.P t' .u64 | _ => false) | none => true)))
  | _, _ => false
theorem snd_x (hI : Inv C Γ g0 w0 g st a w) {o : Oper} {vo : VOper} {f : F1} {vx : Opd} (hd : o.dst = vo.dst) (hv : vo.op = .un f vx) (hc : chkX C Γ vo.dst o.op f vx = true)
    (hok : (sem vo.op st.get st.H).ok = true) : Step C Γ g0 w0 o vo st a w := by
  rw [hv] at hok
  simp only [sem, Bool.and_eq_true] at hok
  have hs : sem vo.op st.get st.H = { ok := vx.isD st.get && f.ok (vx.d st.get), v := .f (f.ev (vx.d st.get)), H := st.H } := by rw [hv]; rfl
  unfold chkX at hc
  split at hc
  · rename_i k x t ho
    replace ho := vcallOf_eq ho
    simp only [Bool.and_eq_true] at hc
    obtain ⟨h1, h2, h3, h4⟩ := hc
    obtain ⟨e, ev⟩ := RT.int (isK_u h2) (hI.d h3 hok.1)
    refine ⟨.float .f64 (vx.d st.get).toI.toNat, w, g, .inl ?_, ?_⟩
    · have ef : a.eval (.func k) = .func (.func k) #[] #[] := rfl
      simp [execOp, ho, resolve, Deferred.ofValue, invoke, ef, ev, run_ofBits h1]
    · rw [hs, hd]
      refine hI.pure fun d hdd => ?_
      rw [hdd] at h4
      simp only at h4
      split at h4
      · rename_i t' hτ
        exact ⟨_, hτ, by simp only [RV]; exact RT.mkF (isF64_u h4) ⟨.inl rfl, by have := (RT.int_r (isK_u h2) (hI.d h3 hok.1)).2; simp only [IntKind.max, IntKind.signed, IntKind.bits] at this; simp at this; omega⟩⟩
      · cases h4
  · rename_i k x t ho
    replace ho := vcallOf_eq ho
    simp only [Bool.and_eq_true] at hc
    obtain ⟨h1, h2, h3, h4⟩ := hc
    obtain ⟨n, m, e, ev, hf⟩ := RT.float (isF64_u h2) (hI.d h3 hok.1)
    have hnn : isNan n = false := by
      have := hok.2
      rw [e] at this
      simpa [F1.ok, D.toF] using this
    have hnm : m = n := by
      rcases hf.1 with h | ⟨h, _⟩
      · exact h.symm
      · rw [hnn] at h; cases h
    subst hnm
    refine ⟨.int .u64 m, w, g, .inl ?_, ?_⟩
    · have ef : a.eval (.func k) = .func (.func k) #[] #[] := rfl
      simp [execOp, ho, resolve, Deferred.ofValue, invoke, ef, ev, run_toBits h1]
    · rw [hs, hd]
      refine hI.pure fun d hdd => ?_
      rw [hdd] at h4
      simp only at h4
      split at h4
      · rename_i t' hτ
        refine ⟨_, hτ, ?_⟩
        simp only [RV, F1.ev, e, D.toF]
        have := hf.2
        exact RT.mkI (isK_u h4) _ ⟨by simp [IntKind.min, IntKind.signed, IntKind.bits], by simp [IntKind.max, IntKind.signed, IntKind.bits]; omega⟩
      · cases h4
  · cases hc
def chkX2 (C : Ctx) (Γ : List Ty) (dst : Option Nat) (op : Op) (f : F2) (vx vy : Opd) : Bool :=
  match vcallOf op, f with
  | some (.func k, [x, y], [t, t2]), .scmp => extOk C.P k cmpN && (isS C.P t && (isS C.P t2 && (opd C Γ x vx (.v t) && (opd C Γ y vy (.v t2) && (match dst with | some d => (match Γ[d]? with | some (.v t') => isK C.P t' .i64 | _ => false) | none => true)))))
  | _, _ => false
theorem cmpL_range : ∀ (x y : List Nat), -1 ≤ cmpL x y ∧ cmpL x y ≤ 1
  | [], [] => by simp [cmpL]
  | [], _ :: _ => by simp [cmpL]
  | _ :: _, [] => by simp [cmpL]
  | a :: x, b :: y => by
    rw [cmpL]
    have := cmpL_range x y
    cases Nat.beq a b <;> cases Nat.ble a b <;> simp [this]
theorem snd_x2 (hI : Inv C Γ g0 w0 g st a w) {o : Oper} {vo : VOper} {f : F2} {vx vy : Opd} (hd : o.dst = vo.dst) (hv : vo.op = .bin f vx vy) (hc : chkX2 C Γ vo.dst o.op f vx vy = true)
    (hok : (sem vo.op st.get st.H).ok = true) : Step C Γ g0 w0 o vo st a w := by
  rw [hv] at hok
  simp only [sem, Bool.and_eq_true] at hok
  have hs : sem vo.op st.get st.H = { ok := vx.isD st.get && vy.isD st.get && f.ok (vx.d st.get) (vy.d st.get), v := .f (f.ev (vx.d st.get) (vy.d st.get)), H := st.H } := by rw [hv]; rfl
  unfold chkX2 at hc
  split at hc
  · rename_i k x y t t2 ho
    replace ho := vcallOf_eq ho
    simp only [Bool.and_eq_true] at hc
    obtain ⟨h1, h2, h2', h3, h3', h4⟩ := hc
    obtain ⟨bx, e, ev⟩ := RT.str (isS_u h2) (hI.d h3 hok.1.1)
    obtain ⟨by', e', ev'⟩ := RT.str (isS_u h2') (hI.d h3' hok.1.2)
    refine ⟨.int .i64 (cmpL (bytesL bx) (bytesL by')), w, g, .inl ?_, ?_⟩
    · have ef : a.eval (.func k) = .func (.func k) #[] #[] := rfl
      simp [execOp, ho, resolve, Deferred.ofValue, invoke, ef, ev, ev', run_cmpS h1]
    · rw [hs, hd]
      refine hI.pure fun d hdd => ?_
      rw [hdd] at h4
      simp only at h4
      split at h4
      · rename_i t' hτ
        have hr := cmpL_range (bytesL bx) (bytesL by')
        refine ⟨_, hτ, ?_⟩
        simp only [RV, F2.ev, e, e', D.toS]
        exact RT.mkI (isK_u h4) _ ⟨by simp [IntKind.min, IntKind.signed, IntKind.bits]; omega, by simp [IntKind.max, IntKind.signed, IntKind.bits]; omega⟩
      · cases h4
  · cases hc
def chkA64 (C : Ctx) (Γ : List Ty) (dst : Option Nat) (op : Op) (vx vy vc : Opd) : Bool :=
  match vcallOf op with
  | some (.func k, [x, y, c], [t, t2, t3]) => extOk C.P k addN && (isK C.P t .u64 && (isK C.P t2 .u64 && (isK C.P t3 .u64 && (opd C Γ x vx (.v t) && (opd C Γ y vy (.v t2) && (opd C Γ c vc (.v t3) && resTy C.P Γ dst (.tup [.v t, .v t])))))))
  | _ => false
theorem snd_a64 (hI : Inv C Γ g0 w0 g st a w) {o : Oper} {vo : VOper} {vx vy vc : Opd} (hd : o.dst = vo.dst) (hv : vo.op = .add64 vx vy vc) (hc : chkA64 C Γ vo.dst o.op vx vy vc = true)
    (hok : (sem vo.op st.get st.H).ok = true) : Step C Γ g0 w0 o vo st a w := by
  have hs : sem vo.op st.get st.H = sem (.add64 vx vy vc) st.get st.H := by rw [hv]
  rw [hv] at hok
  simp only [sem, Bool.and_eq_true, decide_eq_true_eq] at hok
  obtain ⟨o1, o2, o3, o4⟩ := hok
  unfold chkA64 at hc
  split at hc
  · rename_i k x y c t t2 t3 ho
    replace ho := vcallOf_eq ho
    simp only [Bool.and_eq_true] at hc
    obtain ⟨h1, h2, h22, h23, h3, h32, h33, h4⟩ := hc
    have hx := hI.d h3 o1
    have hy := hI.d h32 o2
    have hz := hI.d h33 o3
    have r1 := (RT.int_r (isK_u h2) hx).1
    have r2 := (RT.int_r (isK_u h2) hx).2
    have r3 := (RT.int_r (isK_u h22) hy).1
    have r4 := (RT.int_r (isK_u h22) hy).2
    have r5 := (RT.int_r (isK_u h23) hz).1
    obtain ⟨e1, ev1⟩ := RT.int (isK_u h2) hx
    obtain ⟨e2, ev2⟩ := RT.int (isK_u h22) hy
    obtain ⟨e3, ev3⟩ := RT.int (isK_u h23) hz
    simp [IntKind.min, IntKind.max, IntKind.signed, IntKind.bits] at r1 r2 r3 r4 r5
    refine Step.pure hI hd hs (τ := .tup [.v t, .v t]) (v := .tuple #[.int .u64 (((vx.d st.get).toI + (vy.d st.get).toI + (vc.d st.get).toI) % 18446744073709551616), .int .u64 (((vx.d st.get).toI + (vy.d st.get).toI + (vc.d st.get).toI) / 18446744073709551616)]) ?_ h4 fun X => ?_
    · have ef : a.eval (.func k) = .func (.func k) #[] #[] := rfl
      simp [execOp, ho, resolve, Deferred.ofValue, invoke, ef, ev1, ev2, ev3, run_a64 h1 _ _ _ r1 r3 r5 o4]
    · simp only [RV]
      refine ⟨_, _, rfl, rfl, rfl, rfl, ?_⟩
      simp only [RVs, RV]
      refine ⟨RT.mkI (isK_u h2) _ ?_, RT.mkI (isK_u h2) _ ?_, trivial⟩ <;> simp [IntKind.min, IntKind.max, IntKind.signed, IntKind.bits] <;> omega
  · cases hc
def chkNch (C : Ctx) (Γ : List Ty) (dst : Option Nat) (op : Op) (vx : Opd) : Bool :=
  match op, dst with
  | .nilCheck x, some d => (match Γ[d]? with | some (.p e) => opd C Γ x vx (.p e) | _ => false)
  | _, _ => false
theorem snd_nch (hI : Inv C Γ g0 w0 g st a w) {o : Oper} {vo : VOper} {vx : Opd} (hd : o.dst = vo.dst) (hv : vo.op = .nch vx) (hc : chkNch C Γ vo.dst o.op vx = true)
    (hok : (sem vo.op st.get st.H).ok = true) : Step C Γ g0 w0 o vo st a w := by
  unfold chkNch at hc
  split at hc
  · rename_i x d ho hdd
    split at hc
    · rename_i e hτ
      have hx := hI.rd hc
      have key : ∀ {y : V} {ok : Bool}, sem vo.op st.get st.H = { ok, v := y, H := st.H } → (∃ b off, a.eval x = .pointer (some ⟨b, off, none⟩)) → (∀ X, RV C g st.H w X (.p e) y (a.eval x)) → Step C Γ g0 w0 o vo st a w := by
        intro y ok hs ⟨b, off, hp⟩ hy
        refine ⟨a.eval x, w, g, .inl (by simp [execOp, ho, hp]), ?_⟩
        rw [hs, hd]
        refine hI.pure fun d' hd' => ?_
        rw [hdd] at hd'
        injection hd' with hd'
        subst hd'
        exact ⟨_, hτ, hy _⟩
      cases hev : vx.rd st.get with
      | f dd =>
        have hx := hx .ret
        rw [hev] at hx
        have hs : sem vo.op st.get st.H = { ok := isPtrD dd || isIfcD dd, v := .f dd, H := st.H } := by rw [hv]; simp only [sem, hev]
        rw [hs] at hok
        simp only [RV, RT] at hx
        rcases hx with ⟨rfl, _⟩ | ⟨d', cs, b, off, rfl, e1, e2⟩
        · cases hok
        · refine key hs ⟨b, off, e1⟩ fun X => ?_
          simp only [RV, RT]
          exact .inr ⟨d', cs, b, off, rfl, e1, e2⟩
      | m s' p =>
        rw [hev] at hx
        have hs : sem vo.op st.get st.H = { ok := true, v := .m s' p, H := st.H } := by rw [hv]; simp only [sem, hev]
        have h1 := hx .ret
        simp only [RV] at h1
        obtain ⟨e0, off, b, r, q1, q2, q3, q4, q5, q6⟩ := h1
        exact key hs ⟨r, off, q5⟩ hx
      | _ => rw [hv] at hok; simp [sem, hev] at hok
    · cases hc
  · cases hc
end
end Go.Vam
