/- THE SHADOW MACHINE, 1: data, shadow values, operations, code, and its run: definitions alone. -/
import GoSem.Core.View
import Ieee.Arith
set_option linter.unusedVariables false
namespace Go.Vam
inductive D where
  | b (x : Bool)
  | i (n : Int)
  | f (n : Nat)
  | s (x : List Nat)
  | sl (xs : List D)
  | sz (xs : List D)
  | sq (xs : List D)
  | ag (xs : List D)
  | p (d : D)
  | nil
  | ifc (t : Nat) (d : D)
instance : Inhabited D := ⟨.nil⟩
namespace D
def toB : D → Bool
  | .b x => x
  | _ => false
def toI : D → Int
  | .i n => n
  | _ => 0
def toF : D → Nat
  | .f n => n
  | _ => 0
def toS : D → List Nat
  | .s x => x
  | _ => []
def toL : D → List D
  | .sl xs => xs
  | .sz xs => xs
  | .sq xs => xs
  | .ag xs => xs
  | _ => []
def deref : D → D
  | .p d => d
  | _ => .nil
def isN : D → Bool
  | .nil => true
  | .sz xs => xs.isEmpty
  | _ => false
def «at» (d : D) (k : Nat) : D := d.toL.getD k .nil
def setL (g : List D → List D) : D → D
  | .sl xs => .sl (g xs)
  | .sz xs => .sz (g xs)
  | .sq xs => .sq (g xs)
  | .ag xs => .ag (g xs)
  | d => d
def getP : List Nat → D → D
  | [], d => d
  | k :: r, d => getP r (d.at k)
def setP : List Nat → D → D → D
  | [], _, x => x
  | k :: r, d, x => d.setL fun xs => xs.set k (setP r (xs.getD k .nil) x)
end D
def mkD (nn : Bool) (xs : List D) : D := bif nn then .sl xs else .sz xs
def cutD (d : D) (h l : Nat) : D :=
  match d with
  | .sl xs => .sl ((xs.take h).drop l)
  | .sz [] => .sz []
  | .sz (x :: xs) => .sl (((x :: xs).take h).drop l)
  | d => .sq ((d.toL.take h).drop l)
theorem toL_cut (d : D) (h l : Nat) : (cutD d h l).toL = (d.toL.take h).drop l := by
  unfold cutD
  split <;> simp [D.toL]
inductive Ty where
  | v (t : Nat)
  | p (t : Nat)
  | tup (ts : List Ty)
  | fn
  | any
inductive V where
  | f (d : D)
  | o (nn : Bool) (xs : List D)
  | w (nn : Bool) (xs : List D)
  | c (xs : List D)
  | a
  | m (s : Nat) (path : List Nat)
  | ms (s : Nat) (nn : Bool)
  | t (vs : List V)
  | fn (g : Nat) (caps : List V) (tys : List Ty)
  | n
  | u
instance : Inhabited V := ⟨.u⟩
namespace V
def toD : V → D
  | .f d => d
  | .o nn xs => mkD nn xs
  | .w nn xs => mkD nn xs
  | .c xs => .sq xs
  | _ => .nil
mutual
def rd : V → V
  | .o nn xs => .f (mkD nn xs)
  | .w _ _ => .u
  | .a => .u
  | .t vs => .t (rdAll vs)
  | .fn g caps tys => .fn g (rdAll caps) tys
  | v => v
def rdAll : List V → List V
  | [] => []
  | v :: r => rd v :: rdAll r
end
def left : V → V
  | .o nn xs => .f (mkD nn xs)
  | .w _ _ => .u
  | .a => .u
  | .t _ => .u
  | v => v
mutual
def refs (s : Nat) : V → Bool
  | .m s' _ => s' == s
  | .ms s' _ => s' == s
  | .t vs => refsAll s vs
  | .fn _ caps _ => refsAll s caps
  | _ => false
def refsAll (s : Nat) : List V → Bool
  | [] => false
  | v :: r => refs s v || refsAll s r
end
def kill (s : Nat) (v : V) : V := bif v.refs s then .u else v
end V
inductive F1 where
  | neg (k : IntKind) | inv (k : IntKind) | not | conv (k : IntKind) | fneg | fbits | fofbits | isN | notN | idn
inductive F2 where
  | add (k : IntKind) | sub (k : IntKind) | mul (k : IntKind) | quo (k : IntKind) | rem (k : IntKind)
  | and (k : IntKind) | or (k : IntKind) | xor (k : IntKind) | andNot (k : IntKind) | shl (k : IntKind) | shr (k : IntKind)
  | eqI | neI | ltI | leI | gtI | geI
  | eqB | neB
  | fadd | fsub | fmul | feq | fne | flt | fle | fgt | fge
  | sadd | seq | sne | slt | sle | sgt | sge | scmp
def lessL : List Nat → List Nat → Bool
  | _, [] => false
  | [], _ :: _ => true
  | a :: x, b :: y => decide (a < b) || (decide (a = b) && lessL x y)
def eqL : List Nat → List Nat → Bool
  | [], [] => true
  | a :: x, b :: y => decide (a = b) && eqL x y
  | _, _ => false
def cmpL : List Nat → List Nat → Int
  | [], [] => 0
  | [], _ :: _ => -1
  | _ :: _, [] => 1
  | a :: x, b :: y => bif Nat.beq a b then cmpL x y else bif Nat.ble a b then -1 else 1
def nanW : Nat := 9221120237041090561
def isNan (n : Nat) : Bool := (Ieee.double.read n).isNaN
def bitsOp (k : IntKind) (g : BitVec k.bits → BitVec k.bits → BitVec k.bits) (x y : Int) : Int := k.wrap (g (BitVec.ofInt k.bits x) (BitVec.ofInt k.bits y)).toNat
def F1.ok : F1 → D → Bool
  | .fbits, d => !isNan d.toF
  | .isN, .sq xs => !xs.isEmpty
  | .notN, .sq xs => !xs.isEmpty
  | _, _ => true
def F1.ev : F1 → D → D
  | .neg k, d => .i (k.wrap (0 - d.toI))
  | .inv k, d => .i (bitsOp k (· ^^^ ·) (if k.signed then -1 else k.max) d.toI)
  | .not, d => .b (!d.toB)
  | .conv k, d => .i (k.wrap d.toI)
  | .fneg, d => .f (d.toF ^^^ 9223372036854775808)
  | .fbits, d => .i d.toF
  | .fofbits, d => .f d.toI.toNat
  | .isN, d => .b d.isN
  | .notN, d => .b !d.isN
  | .idn, d => d
def F2.ok : F2 → D → D → Bool
  | .quo _, _, y => !decide (y.toI = 0)
  | .rem _, _, y => !decide (y.toI = 0)
  | .shl _, _, y => decide (0 ≤ y.toI)
  | .shr _, _, y => decide (0 ≤ y.toI)
  | .sadd, x, y => decide (x.toS.length + y.toS.length ≤ 9223372036854775807)
  | _, _, _ => true
def F2.ev : F2 → D → D → D
  | .add k, x, y => .i (k.wrap (x.toI + y.toI))
  | .sub k, x, y => .i (k.wrap (x.toI - y.toI))
  | .mul k, x, y => .i (k.wrap (x.toI * y.toI))
  | .quo k, x, y => .i (k.wrap (x.toI.tdiv y.toI))
  | .rem _, x, y => .i (x.toI.tmod y.toI)
  | .and k, x, y => .i (bitsOp k (· &&& ·) x.toI y.toI)
  | .or k, x, y => .i (bitsOp k (· ||| ·) x.toI y.toI)
  | .xor k, x, y => .i (bitsOp k (· ^^^ ·) x.toI y.toI)
  | .andNot k, x, y => .i (bitsOp k (fun a b => a &&& ~~~b) x.toI y.toI)
  | .shl k, x, y => .i (k.wrap (x.toI * 2 ^ (Nat.min y.toI.toNat k.bits)))
  | .shr k, x, y => .i (x.toI.fdiv (2 ^ (Nat.min y.toI.toNat k.bits)))
  | .eqI, x, y => .b (decide (x.toI = y.toI))
  | .neI, x, y => .b (!decide (x.toI = y.toI))
  | .ltI, x, y => .b (decide (x.toI < y.toI))
  | .leI, x, y => .b (decide (x.toI ≤ y.toI))
  | .gtI, x, y => .b (decide (y.toI < x.toI))
  | .geI, x, y => .b (decide (y.toI ≤ x.toI))
  | .eqB, x, y => .b (x.toB == y.toB)
  | .neB, x, y => .b (x.toB != y.toB)
  | .fadd, x, y => .f ((Ieee.double.add x.toF y.toF).getD nanW)
  | .fsub, x, y => .f ((Ieee.double.sub x.toF y.toF).getD nanW)
  | .fmul, x, y => .f ((Ieee.double.mul x.toF y.toF).getD nanW)
  | .feq, x, y => .b (Ieee.double.order x.toF y.toF == some .eq)
  | .fne, x, y => .b (Ieee.double.order x.toF y.toF != some .eq)
  | .flt, x, y => .b (Ieee.double.order x.toF y.toF == some .lt)
  | .fle, x, y => .b (Ieee.double.order x.toF y.toF == some .lt || Ieee.double.order x.toF y.toF == some .eq)
  | .fgt, x, y => .b (Ieee.double.order x.toF y.toF == some .gt)
  | .fge, x, y => .b (Ieee.double.order x.toF y.toF == some .gt || Ieee.double.order x.toF y.toF == some .eq)
  | .sadd, x, y => .s (x.toS ++ y.toS)
  | .seq, x, y => .b (eqL x.toS y.toS)
  | .sne, x, y => .b (!eqL x.toS y.toS)
  | .slt, x, y => .b (lessL x.toS y.toS)
  | .sle, x, y => .b (lessL x.toS y.toS || eqL x.toS y.toS)
  | .sgt, x, y => .b (!(lessL x.toS y.toS || eqL x.toS y.toS))
  | .sge, x, y => .b (!lessL x.toS y.toS)
  | .scmp, x, y => .i (cmpL x.toS y.toS)
inductive Opd where
  | t (n : Nat)
  | c (d : D)
  | fn (g : Nat)
inductive Md where
  | f | o | w
inductive VOp where
  | mov (x : Opd) | tak (x : Nat) | nilw (md : Md)
  | pick (c a b : Opd)
  | un (f : F1) (x : Opd) | bin (f : F2) (x y : Opd) | mm (mx : Bool) (x : Opd) (l : List Opd)
  | len (x : Opd) | lenS (x : Opd) | lenM (x : Opd) | lenC (n : Nat)
  | fld (x : Opd) (k : Nat)
  | ixa (x i : Opd) | ixaM (x i : Opd) | ixA (n : Nat) (x i : Opd)
  | ixS (x i : Opd) | ixV (n : Nat) (x i : Opd) | getf (x : Opd) (k : Nat)
  | ldF (x : Opd) | ld (x : Opd) | ldT (x : Opd) | st (x y : Opd) | stT (x : Opd) (y : Nat) | ini (x : Nat) (y : Opd)
  | box (x : Opd) | alA | boxM (s : Nat) (x : Opd) | alM (s : Nat) (z : V)
  | build (z : D) (parts : List (Nat × Opd)) | bsl (md : Md) (z : List D) (parts : List (Nat × Opd))
  | slS (x : Opd) (lo hi : Option Opd) | slF (x : Opd) (lo hi : Option Opd) | slC (x hi mx : Opd) | slA (x : Opd) | slW (x : Nat) (hi : Opd)
  | app (md : Md) (lim : Nat) (x : Opd) (tk : Bool) (y : Opd) | appS (md : Md) (lim : Nat) (x : Opd) (tk : Bool) (y : Opd)
  | mk (md : Md) (lim : Nat) (z : D) (n : Opd)
  | ext (x : Opd) (k : Nat)
  | clo (g : Nat) (caps : List Opd) (tys : List Ty)
  | ifc (t : Nat) (x : Opd)
  | nch (x : Opd)
  | str (x : Opd) | byt (md : Md) (x : Opd)
  | cpy (x y : Opd)
  | add64 (x y c : Opd)
  | call (g : Nat) (args : List Opd) (refs : List Nat)
  | callv (x : Opd) (args : List Opd) (tys : List Ty) (refs : List Nat)
  | bad
structure VOper where
  dst : Option Nat
  op : VOp
  g : Option (Nat × Bool) := none
inductive Pre where
  | keep (slots sites : List Nat)
  | weak (slots : List Nat)
  | frz (s : Nat)
  | thaw (x s : Nat)
  | unthaw (x s : Nat)
  | opn (s k : Nat)
  | cls (s : Nat)
inductive VC where
  | skip
  | ops (l : List VOper) (draw : Bool)
  | seq (a b : VC)
  | cond (c : Opd) (a b : VC)
  | block (id : Nat) (b : VC)
  | loop (b : VC)
  | exit (id : Nat)
  | ret
  | pre (p : Pre) (c : VC)
  | post (c : VC) (p : Pre)
  | bad
structure St where
  sl : List V
  H : List V
def St.get (st : St) (n : Nat) : V := st.sl.getD n .u
def St.put (st : St) (n : Nat) (v : V) : St := { st with sl := st.sl.set n v }
structure E where
  ok : Bool := true
  v : V
  sd : Option (Nat × V) := none
  H : List V
def Opd.ev (ρ : Nat → V) : Opd → V
  | .t n => ρ n
  | .c d => .f d
  | .fn g => .fn g [] []
def Opd.rd (ρ : Nat → V) (x : Opd) : V := (x.ev ρ).rd
def Opd.d (ρ : Nat → V) (x : Opd) : D := (x.rd ρ).toD
def V.isF : V → Bool
  | .f _ => true
  | .c _ => true
  | _ => false
def V.isDat : V → Bool
  | .f _ => true
  | _ => false
def Opd.isD (ρ : Nat → V) (x : Opd) : Bool := (x.rd ρ).isF
def mkV (md : Md) (nn : Bool) (xs : List D) : V :=
  match md with
  | .f => .f (mkD nn xs)
  | .o => .o nn xs
  | .w => .w nn xs
def inb (i : Int) (n : Nat) : Bool := decide (0 ≤ i) && decide (i < (n : Int))
def getB (H : List V) (s : Nat) : V := H.getD s .u
def V.getV : List Nat → V → V
  | [], v => v
  | k :: r, .f d => .f (D.getP (k :: r) d)
  | k :: r, .t vs => V.getV r (vs.getD k .u)
  | _, _ => .u
def spread : List V → List D → List V
  | .w _ _ :: vs, .sz [] :: ds => .w false [] :: spread vs ds
  | .o _ _ :: vs, .sz [] :: ds => .o false [] :: spread vs ds
  | .t us :: vs, .ag es :: ds => .t (spread us es) :: spread vs ds
  | _ :: vs, d :: ds => .f d :: spread vs ds
  | _, _ => []
def V.over : V → V → V
  | .t vs, .f (.ag ds) => .t (spread vs ds)
  | _, x => x
def V.isOwn : V → Bool
  | .o _ _ => true
  | .w _ _ => true
  | _ => false
def V.isO : V → Bool
  | .o _ _ => true
  | _ => false
def V.flat : V → Bool
  | .f _ => true
  | .o _ _ => true
  | _ => false
def flatAll (vs : List V) : Bool := vs.all V.flat
mutual
def V.whole : V → D
  | .t vs => .ag (V.wholeAll vs)
  | v => v.toD
def V.wholeAll : List V → List D
  | [] => []
  | v :: r => v.whole :: V.wholeAll r
end
def fillD (z : List D) : List (Nat × D) → List D
  | [] => z
  | (k, d) :: r => fillD (z.set k d) r
def isPtrD : D → Bool
  | .p _ => true
  | _ => false
def isIfcD : D → Bool
  | .ifc _ _ => true
  | _ => false
def V.base : V → Option (Bool × List D)
  | .o nn xs => some (nn, xs)
  | .w nn xs => some (nn, xs)
  | .c xs => some (true, xs)
  | .f (.sz []) => some (false, [])
  | _ => none
def mdOk (md : Md) : V → Bool
  | .o _ _ => match md with | .w => false | _ => true
  | _ => true
def appV (md : Md) (nn : Bool) (xs ys : List D) : V → V
  | .c _ => bif ys.isEmpty then .c xs else mkV md nn (xs ++ ys)
  | _ => mkV md nn (xs ++ ys)
def pickV (b : Bool) : V → V → V
  | .f x, .f y => .f (bif b then x else y)
  | x, y => bif b then x else y
def mmI (mx : Bool) : Int → List Int → Int
  | n, [] => n
  | n, m :: r => mmI mx (bif mx then (if m > n then m else n) else (if m < n then m else n)) r
def sem (o : VOp) (ρ : Nat → V) (H : List V) : E :=
  match o with
  | .mov x => { v := x.rd ρ, H }
  | .tak x => bif (ρ x).isOwn then { v := ρ x, sd := some (x, (ρ x).left), H } else { v := (ρ x).rd, H }
  | .nilw md => { v := mkV md false [], H }
  | .pick c a b => { ok := c.isD ρ, v := pickV (c.d ρ).toB (a.rd ρ) (b.rd ρ), H }
  | .un f x => { ok := x.isD ρ && f.ok (x.d ρ), v := .f (f.ev (x.d ρ)), H }
  | .bin f x y => { ok := x.isD ρ && y.isD ρ && f.ok (x.d ρ) (y.d ρ), v := .f (f.ev (x.d ρ) (y.d ρ)), H }
  | .mm mx x l => { ok := x.isD ρ && l.all (fun y => y.isD ρ), v := .f (.i (mmI mx (x.d ρ).toI (l.map fun y => (y.d ρ).toI))), H }
  | .len x => match x.ev ρ with
    | .w _ xs => { v := .f (.i xs.length), H }
    | .o _ xs => { v := .f (.i xs.length), H }
    | .c xs => { v := .f (.i xs.length), H }
    | .f d => { v := .f (.i d.toL.length), H }
    | _ => { ok := false, v := .u, H }
  | .lenS x => { ok := x.isD ρ, v := .f (.i (x.d ρ).toS.length), H }
  | .lenM x => match x.rd ρ with
    | .ms s _ => match getB H s with
      | .f d => { v := .f (.i d.toL.length), H }
      | _ => { ok := false, v := .u, H }
    | _ => { ok := false, v := .u, H }
  | .lenC n => { v := .f (.i n), H }
  | .fld x k => match x.rd ρ with
    | .f d => { ok := isPtrD d, v := .f (.p (d.deref.at k)), H }
    | .m s p => { v := .m s (p ++ [k]), H }
    | _ => { ok := false, v := .u, H }
  | .ixa x i => match x.rd ρ with
    | .f d => { ok := i.isD ρ && inb (i.d ρ).toI d.toL.length, v := .f (.p (d.at (i.d ρ).toI.toNat)), H }
    | .c xs => { ok := i.isD ρ && inb (i.d ρ).toI xs.length, v := .f (.p (xs.getD (i.d ρ).toI.toNat .nil)), H }
    | _ => { ok := false, v := .u, H }
  | .ixaM x i => match x.rd ρ with
    | .ms s _ => match getB H s with
      | .f d => { ok := i.isD ρ && inb (i.d ρ).toI d.toL.length, v := .m s [(i.d ρ).toI.toNat], H }
      | _ => { ok := false, v := .u, H }
    | _ => { ok := false, v := .u, H }
  | .ixA n x i => match x.rd ρ with
    | .f d => { ok := isPtrD d && (i.isD ρ && inb (i.d ρ).toI n), v := .f (.p (d.deref.at (i.d ρ).toI.toNat)), H }
    | .m s p => { ok := i.isD ρ && inb (i.d ρ).toI n, v := .m s (p ++ [(i.d ρ).toI.toNat]), H }
    | _ => { ok := false, v := .u, H }
  | .ixS x i => { ok := x.isD ρ && (i.isD ρ && inb (i.d ρ).toI (x.d ρ).toS.length), v := .f (.i ((x.d ρ).toS.getD (i.d ρ).toI.toNat 0)), H }
  | .ixV n x i => { ok := x.isD ρ && (i.isD ρ && inb (i.d ρ).toI n), v := .f ((x.d ρ).at (i.d ρ).toI.toNat), H }
  | .getf x k => { ok := x.isD ρ, v := .f ((x.d ρ).at k), H }
  | .ldF x => { ok := x.isD ρ && isPtrD (x.d ρ), v := .f (x.d ρ).deref, H }
  | .ld x => match x.rd ρ with
    | .f d => { ok := isPtrD d, v := .f d.deref, H }
    | .m s p => match getB H s with
      | .f d => { v := .f (D.getP p d), H }
      | _ => { ok := false, v := .u, H }
    | _ => { ok := false, v := .u, H }
  | .ldT x => match x.rd ρ with
    | .m s [] => match getB H s with
      | .o nn xs => { v := .o nn xs, H := H.set s (.f (mkD nn xs)) }
      | _ => { ok := false, v := .u, H }
    | .m s [k] => match getB H s with
      | .t vs => { ok := flatAll vs && (vs.getD k .u).isO, v := vs.getD k .u, H := H.set s (.t (vs.set k (.f (vs.getD k .u).toD))) }
      | _ => { ok := false, v := .u, H }
    | _ => { ok := false, v := .u, H }
  | .st x y => match x.rd ρ with
    | .m s p => match getB H s with
      | .f d => { ok := y.isD ρ, v := .n, H := H.set s (.f (D.setP p d (y.d ρ))) }
      | _ => { ok := false, v := .u, H }
    | _ => { ok := false, v := .u, H }
  | .stT x y => match x.rd ρ with
    | .m s [] => match getB H s with
      | .f _ => { ok := (ρ y).isO, v := .n, sd := some (y, (ρ y).left), H := H.set s (ρ y) }
      | _ => { ok := false, v := .u, H }
    | .m s [k] => match getB H s with
      | .t vs => { ok := flatAll vs && ((ρ y).isO && decide (k < vs.length)), v := .n, sd := some (y, (ρ y).left), H := H.set s (.t (vs.set k (ρ y))) }
      | _ => { ok := false, v := .u, H }
    | _ => { ok := false, v := .u, H }
  | .ini x y => match ρ x, y.rd ρ with
    | .a, r => { ok := r.isF, v := .n, sd := some (x, .f (.p r.toD)), H }
    | _, _ => { ok := false, v := .u, H }
  | .box x => { ok := x.isD ρ, v := .f (.p (x.d ρ)), H }
  | .alA => { v := .a, H }
  | .boxM s x => match getB H s with
    | .u => { ok := x.isD ρ && decide (s < H.length), v := .m s [], H := H.set s (.f (x.d ρ)) }
    | _ => { ok := false, v := .u, H }
  | .alM s z => match getB H s with
    | .u => { ok := decide (s < H.length), v := .m s [], H := H.set s z }
    | _ => { ok := false, v := .u, H }
  | .build z parts => { ok := parts.all fun q => q.2.isD ρ, v := .f (.ag (fillD z.toL (parts.map fun q => (q.1, q.2.d ρ)))), H }
  | .bsl md z parts => { ok := parts.all fun q => q.2.isD ρ, v := mkV md true (fillD z (parts.map fun q => (q.1, q.2.d ρ))), H }
  | .slS x lo hi =>
    let n : Nat := (x.d ρ).toS.length
    let h : Int := match hi with | some y => (y.d ρ).toI | none => (n : Int)
    let l : Int := match lo with | some y => (y.d ρ).toI | none => 0
    { ok := x.isD ρ && ((lo.all fun y => y.isD ρ) && (hi.all fun y => y.isD ρ)) && (decide (0 ≤ l) && decide (l ≤ h) && decide (h ≤ n)), v := .f (.s (((x.d ρ).toS.take h.toNat).drop l.toNat)), H }
  | .slF x lo hi =>
    let n : Nat := (x.d ρ).toL.length
    let h : Int := match hi with | some y => (y.d ρ).toI | none => (n : Int)
    let l : Int := match lo with | some y => (y.d ρ).toI | none => 0
    { ok := x.isD ρ && ((lo.all fun y => y.isD ρ) && (hi.all fun y => y.isD ρ)) && (decide (0 ≤ l) && decide (l ≤ h) && decide (h ≤ n)),
      v := .f (cutD (x.d ρ) h.toNat l.toNat), H }
  | .slC x hi mx =>
    { ok := x.isD ρ && (hi.isD ρ && mx.isD ρ) && (decide (0 ≤ (hi.d ρ).toI) && (decide ((hi.d ρ).toI ≤ (x.d ρ).toL.length) && decide ((mx.d ρ).toI = (hi.d ρ).toI))), v := .c ((x.d ρ).toL.take (hi.d ρ).toI.toNat), H }
  | .slA x => { ok := x.isD ρ && isPtrD (x.d ρ), v := .f (.sl (x.d ρ).deref.toL), H }
  | .slW x hi => match ρ x with
    | .w nn xs => { ok := hi.isD ρ && (decide (0 ≤ (hi.d ρ).toI) && decide ((hi.d ρ).toI ≤ xs.length)), v := .w nn (xs.take (hi.d ρ).toI.toNat), sd := some (x, .u), H }
    | _ => { ok := false, v := .u, H }
  | .app md lim x tk y => match (x.ev ρ).base with
    | some (nn, xs) => { ok := mdOk md (x.ev ρ) && (tk || !(x.ev ρ).isOwn) && y.isD ρ && decide (xs.length + (y.d ρ).toL.length ≤ lim), v := appV md nn xs (y.d ρ).toL (x.ev ρ), sd := (match x with | .t n => (bif tk then some (n, (ρ n).left) else none) | _ => none), H }
    | none => { ok := false, v := .u, H }
  | .appS md lim x tk y => match (x.ev ρ).base with
    | some (nn, xs) => { ok := mdOk md (x.ev ρ) && (tk || !(x.ev ρ).isOwn) && y.isD ρ && decide (xs.length + (y.d ρ).toS.length ≤ lim) && (match x.ev ρ with | .c _ => !(y.d ρ).toS.isEmpty | _ => true), v := mkV md nn (xs ++ (y.d ρ).toS.map fun (c : Nat) => .i c), sd := (match x with | .t n => (bif tk then some (n, (ρ n).left) else none) | _ => none), H }
    | none => { ok := false, v := .u, H }
  | .mk md lim z n => { ok := n.isD ρ && (decide (0 ≤ (n.d ρ).toI) && decide ((n.d ρ).toI ≤ lim)), v := mkV md true (List.replicate (n.d ρ).toI.toNat z), H }
  | .ext x k => match x.rd ρ with
    | .t vs => { v := vs.getD k .u, H }
    | _ => { ok := false, v := .u, H }
  | .clo g caps tys => { v := .fn g (caps.map fun x => x.rd ρ) tys, H }
  | .ifc t x => { ok := x.isD ρ, v := .f (.ifc t (x.d ρ)), H }
  | .nch x => match x.rd ρ with
    | .f d => { ok := isPtrD d || isIfcD d, v := .f d, H }
    | .m s p => { v := .m s p, H }
    | _ => { ok := false, v := .u, H }
  | .str x => { ok := x.isD ρ, v := .f (.s ((x.d ρ).toL.map fun c => c.toI.toNat % 256)), H }
  | .byt md x => { ok := x.isD ρ && decide ((x.d ρ).toS.length ≤ 140737488355328), v := mkV md true ((x.d ρ).toS.map fun (c : Nat) => .i c), H }
  | .cpy x y => match x.rd ρ with
    | .ms s _ => match getB H s with
      | .f d => { ok := y.isD ρ, v := .f (.i (Nat.min (y.d ρ).toL.length d.toL.length : Nat)),
                  H := H.set s (.f (d.setL fun xs => (y.d ρ).toL.take xs.length ++ xs.drop (y.d ρ).toL.length)) }
      | _ => { ok := false, v := .u, H }
    | _ => { ok := false, v := .u, H }
  | .add64 x y c => { ok := x.isD ρ && (y.isD ρ && (c.isD ρ && decide ((c.d ρ).toI ≤ 1))), v := .t [.f (.i (((x.d ρ).toI + (y.d ρ).toI + (c.d ρ).toI) % 18446744073709551616)), .f (.i (((x.d ρ).toI + (y.d ρ).toI + (c.d ρ).toI) / 18446744073709551616))], H }
  | .call .. => { ok := false, v := .u, H }
  | .callv .. => { ok := false, v := .u, H }
  | .bad => { ok := false, v := .u, H }
def idx (s : Nat) : List Nat → Nat → Option Nat
  | [], _ => none
  | x :: r, k => bif x == s then some k else idx s r (k + 1)
mutual
def V.ren (refs : List Nat) : V → V
  | .m s p => match idx s refs 0 with | some k => .m k p | none => .u
  | .ms s nn => match idx s refs 0 with | some k => .ms k nn | none => .u
  | .fn g caps tys => .fn g (V.renAll refs caps) tys
  | .c xs => .f (.sq xs)
  | .f d => .f d
  | .n => .n
  | _ => .u
def V.renAll (refs : List Nat) : List V → List V
  | [] => []
  | v :: r => V.ren refs v :: V.renAll refs r
end
def putBack : List V → List Nat → List V → List V
  | H, s :: r, b :: bs => putBack (H.set s b) r bs
  | H, _, _ => H
mutual
def Ty.eq : Ty → Ty → Bool
  | .v a, .v b => a == b
  | .p a, .p b => a == b
  | .tup a, .tup b => Ty.eqAll a b
  | .fn, .fn => true
  | .any, .any => true
  | _, _ => false
def Ty.eqAll : List Ty → List Ty → Bool
  | [], [] => true
  | a :: r, b :: s => Ty.eq a b && Ty.eqAll r s
  | _, _ => false
end
inductive Res where
  | tmp (t : Nat) (keep : Bool)
  | cell (a : Nat)
inductive BTy where
  | var (t : Nat)
  | arr (e : Nat)
structure VFunc where
  fid : Nat
  ptys : List Ty
  slots : List Ty
  rty : Ty
  nin : Nat
  blocks : List BTy
  res : List Res
  body : VC
abbrev CRes := Bool × V × List V
abbrev CallF := Nat → List V → List V → CRes
def toO (r : CRes) : Option (V × List V) := bif r.1 then some r.2 else none
def callK {R : Type} (r : CRes) (k : V → List V → Option R) : Option R := bif r.1 then k r.2.1 r.2.2 else none
abbrev Tab := Nat → Option VFunc
inductive Ex where
  | normal
  | exit (id : Nat)
  | ret
def blen : V → Nat
  | .f d => d.toL.length
  | _ => 0
def lenEq : List BTy → List V → List V → Bool
  | .arr _ :: bs, x :: xs, y :: ys => Nat.beq (blen x) (blen y) && lenEq bs xs ys
  | .var _ :: bs, _ :: xs, _ :: ys => lenEq bs xs ys
  | _, _, _ => true
def lenH (Φ : Tab) (g : Nat) (Hin : List V) (r : CRes) : CRes :=
  match Hin with
  | [] => r
  | _ :: _ => (r.1 && (match Φ g with | some vf => lenEq vf.blocks Hin r.2.2 | none => false), r.2)
def applyE (o : VOper) (e : E) (st : St) : St :=
  let sl := match e.sd with | some (n, v) => st.sl.set n v | none => st.sl
  { sl := match o.dst with | some d => sl.set d e.v | none => sl, H := e.H }
def callArgs (ρ : Nat → V) (args : List Opd) (refs : List Nat) : List V := args.map fun x => (x.rd ρ).ren refs
def runOp {R : Type} (Φ : Tab) (F : CallF) (o : VOper) (st : St) (k : St → Option R) : Option R :=
  match o.op with
  | .call g args refs =>
    bif refs.all fun s => (getB st.H s).isDat then callK (lenH Φ g (refs.map fun s => getB st.H s) (F g (callArgs st.get args refs) (refs.map fun s => getB st.H s))) fun v H' => k (applyE o { v, H := putBack st.H refs H' } st) else none
  | .callv x args tys refs =>
    match x.rd st.get with
    | .fn g caps ctys => match Φ g with
      | some vf => bif Ty.eqAll (vf.rty :: vf.ptys) (tys ++ ctys) && vf.nin == 0 then
          callK (F g (callArgs st.get args refs ++ V.renAll refs caps) (refs.map fun s => getB st.H s)) fun v H' => k (applyE o { v, H := putBack st.H refs H' } st)
        else none
      | none => none
    | _ => none
  | op => bif (sem op st.get st.H).ok then k (applyE o (sem op st.get st.H) st) else none
def skipOp (o : VOper) (st : St) : St := match o.dst with | some d => st.put d .n | none => st
def runOps {R : Type} (Φ : Tab) (F : CallF) : List VOper → St → (St → Option R) → Option R
  | [], st, k => k st
  | o :: r, st, k =>
    match o.g with
    | none => runOp Φ F o st fun st' => runOps Φ F r st' k
    | some (d, want) =>
      match st.get d with
      | .f b => bif b.toB
          then (bif want then runOp Φ F o (st.put d (.f (.b true))) fun st' => runOps Φ F r st' k else runOps Φ F r (skipOp o (st.put d (.f (.b true)))) k)
          else (bif want then runOps Φ F r (skipOp o (st.put d (.f (.b false)))) k else runOp Φ F o (st.put d (.f (.b false))) fun st' => runOps Φ F r st' k)
      | .n => runOps Φ F r (skipOp o st) k
      | _ => none
def frzD (nn : Bool) (xs : List D) : D := bif nn && xs.isEmpty then .sq [] else mkD nn xs
def V.frz (s : Nat) (b : V) : V → V
  | .m s' p => bif s' == s then .f (.p (V.getV p b).whole) else .m s' p
  | .ms s' nn => bif s' == s then .f (frzD nn b.whole.toL) else .ms s' nn
  | v => bif v.refs s then .u else v
def keepIf (l : List Nat) : Nat → List V → List V
  | _, [] => []
  | k, v :: r => (bif l.contains k then v else .u) :: keepIf l (k + 1) r
def killNot (sites : List Nat) (n : Nat) (v : V) : V := bif (List.range n).any (fun s => !sites.contains s && v.refs s) then .u else v
def weakIf (l : List Nat) : Nat → List V → List V
  | _, [] => []
  | k, v :: r => (bif l.contains k then v.rd else v) :: weakIf l (k + 1) r
def runPre (p : Pre) (st : St) : Option St :=
  match p with
  | .keep slots sites => some { sl := (keepIf slots 0 st.sl).map (killNot sites st.H.length), H := keepIf sites 0 st.H }
  | .weak slots => some { sl := weakIf slots 0 st.sl, H := st.H }
  | .frz s => match getB st.H s with
    | .f d => some { sl := st.sl.map (V.frz s (.f d)), H := st.H.set s .u }
    | _ => none
  | .thaw x s => match getB st.H s with
    | .u => bif decide (s < st.H.length) then (match st.get x with
      | .w nn xs => some { sl := st.sl.set x (.ms s nn), H := st.H.set s (.f (.sl xs)) }
      | .c [] => some { sl := st.sl.set x (.ms s true), H := st.H.set s (.f (.sl [])) }
      | _ => none) else none
    | _ => none
  | .unthaw x s => match st.get x, getB st.H s with
    | .ms s' nn, .f d => bif s' == s && !d.toL.isEmpty then some { sl := (st.sl.map (V.kill s)).set x (.w nn d.toL), H := st.H.set s .u } else none
    | _, _ => none
  | .opn s k => match getB st.H s with
    | .f (.ag ds) => match ds.getD k .nil with
      | .sz [] => some { sl := st.sl, H := st.H.set s (.t ((ds.map V.f).set k (.o false []))) }
      | _ => none
    | .f (.sz []) => some { sl := st.sl, H := st.H.set s (.o false []) }
    | _ => none
  | .cls s => match getB st.H s with
    | .t vs => bif flatAll vs then some { sl := st.sl, H := st.H.set s (.f (.ag (vs.map V.toD))) } else none
    | .o nn xs => some { sl := st.sl, H := st.H.set s (.f (mkD nn xs)) }
    | _ => none
def runPreK {R : Type} (p : Pre) (st : St) (k : St → Option R) : Option R :=
  match p with
  | .unthaw x s => match st.get x, getB st.H s with
    | .ms s' nn, .f d => bif s' == s && !d.toL.isEmpty then k { sl := (st.sl.map (V.kill s)).set x (.w nn d.toL), H := st.H.set s .u } else none
    | _, _ => none
  | p => (runPre p st).bind k
theorem runPreK_eq {R : Type} (p : Pre) (st : St) (k : St → Option R) : runPreK p st k = (runPre p st).bind k := by
  cases p <;> try rfl
  rename_i x s
  simp only [runPreK, runPre]
  split
  · rename_i s' nn d h1 h2
    cases (s' == s && !d.toL.isEmpty) <;> rfl
  · rfl
def loopGo {R : Type} (step : St → (Ex → St → Option R) → Option R) : Nat → St → (Ex → St → Option R) → Option R
  | 0, _, _ => none
  | n + 1, st, k => step st fun e st' => match e with
    | .normal => loopGo step n st' k
    | e => k e st'
def runC {R : Type} (Φ : Tab) (F : CallF) (n : Nat) : VC → St → (Ex → St → Option R) → Option R
  | .skip, st, k => k .normal st
  | .ops l _, st, k => runOps Φ F l st fun st' => k .normal st'
  | .seq a b, st, k => runC Φ F n a st fun e st' => match e with
    | .normal => runC Φ F n b st' k
    | e => k e st'
  | .cond c a b, st, k => match c.ev st.get with
    | .f d => match c with
      | .t x => bif d.toB then runC Φ F n a (st.put x (.f (.b true))) k else runC Φ F n b (st.put x (.f (.b false))) k
      | _ => bif d.toB then runC Φ F n a st k else runC Φ F n b st k
    | _ => none
  | .block id b, st, k => runC Φ F n b st fun e st' => match e with
    | .exit id' => bif id' == id then k .normal st' else k (.exit id') st'
    | e => k e st'
  | .loop b, st, k => loopGo (runC Φ F n b) n st k
  | .exit id, st, k => k (.exit id) st
  | .ret, st, k => k .ret st
  | .pre p c, st, k => runPreK p st fun st' => runC Φ F n c st' k
  | .post c p, st, k => runC Φ F n c st fun e st' => match e with
    | .normal => (runPre p st').bind fun st2 => k .normal st2
    | e => k e st'
  | .bad, _, _ => none
def resV (nin : Nat) (st : St) : Res → Option V
  | .tmp t kp => match st.get t with
    | .f d => some (.f d)
    | .o nn xs => some (bif kp then .o nn xs else .f (mkD nn xs))
    | .w nn xs => bif kp then some (.w nn xs) else none
    | .c xs => some (bif kp then .c xs else .f (.sq xs))
    | _ => none
  | .cell a => match st.get a with
    | .f d => bif isPtrD d then some (.f d.deref) else none
    | _ => none
def resAll (nin : Nat) (st : St) : List Res → Option (List V)
  | [] => some []
  | r :: rs => (resV nin st r).bind fun v => (resAll nin st rs).bind fun vs => some (v :: vs)
def resTup : List V → V
  | [v] => v
  | vs => .t vs
def enterV (vf : VFunc) (args H : List V) : St :=
  { sl := args ++ List.replicate (vf.slots.length - args.length) .n, H := H ++ List.replicate (vf.blocks.length - H.length) .u }
def finish (vf : VFunc) (e : Ex) (st : St) : Option (V × List V) :=
  match e with
  | .exit _ => none
  | _ => (resAll vf.nin st vf.res).bind fun vs => bif (List.range vf.nin).all fun k => (getB st.H k).isDat then some (resTup vs, st.H.take vf.nin) else none
end Go.Vam
