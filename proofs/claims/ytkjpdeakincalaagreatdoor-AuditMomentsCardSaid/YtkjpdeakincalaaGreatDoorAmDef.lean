/- The abstract machine: a deterministic evaluator of the model's code over values with renamed blocks. Definitions only; written so that the kernel can run it. -/
import Derived.Calls
namespace Go.AM
noncomputable section

/-! ### Trees keyed by numbers -/
inductive T (α : Type) where
  | leaf
  | node (l : T α) (v : Option α) (r : T α)

def sel {α : Type} (b : Bool) (x y : α) : α := Bool.rec y x b

namespace T
variable {α : Type}
def get (t : T α) : Nat → Option α :=
  T.rec (fun _ => none) (fun _ v _ gl gr n =>
    Bool.rec (Bool.rec (gr (Nat.sub (Nat.div n 2) 1)) (gl (Nat.div n 2)) (Nat.beq (Nat.mod n 2) 1)) v (Nat.beq n 0)) t

def setF (f : Nat) : T α → Nat → Option α → T α :=
  Nat.rec (fun t _ _ => t) (fun _ ih t n x => T.rec
    (Bool.rec (Bool.rec (node leaf none (ih leaf (Nat.sub (Nat.div n 2) 1) x)) (node (ih leaf (Nat.div n 2) x) none leaf) (Nat.beq (Nat.mod n 2) 1)) (node leaf x leaf) (Nat.beq n 0))
    (fun l v r _ _ => Bool.rec (Bool.rec (node l v (ih r (Nat.sub (Nat.div n 2) 1) x)) (node (ih l (Nat.div n 2) x) v r) (Nat.beq (Nat.mod n 2) 1)) (node l x r) (Nat.beq n 0)) t) f

def set (t : T α) (n : Nat) (x : α) : T α := setF (Nat.succ n) t n (some x)
def del (t : T α) (n : Nat) : T α := setF (Nat.succ n) t n none
end T

/-! ### Values -/
inductive AVal where
  | bool (b : Bool)
  | int (k : IntKind) (n : Int)
  | str (s : List UInt8)
  | ptr (b off : Nat)
  | nilPtr
  | slice (b off len cap : Nat)
  | nilSlice (len cap : Nat)
  | gsl (b off len : Nat)      -- over a block whose capacity is open (off in cells)
  | map (r : Nat)
  | nilMap
  | func (fn : Fn) (first captured : List AVal)
  | nilFunc
  | iface (t : TypeId) (v : AVal)
  | nilIface
  | agg (cs : List AVal)
  | tuple (vs : List AVal)
  | sym (r : Nat)              -- a number of which its place among seven is known (the fourth is 0)

def aundef : AVal := .tuple []

inductive AObj where
  | cells (elem : TypeId) (n : Nat) (zs : List AVal) (t : T AVal)
  | grown (elem : TypeId) (len size : Nat) (zs : List AVal) (t : T AVal)
  | map (es : List (AVal × AVal × Nat)) (clock : Nat)
  | siter (s : List UInt8) (pos : Nat)
  | miter (m : Option Nat) (since : Nat) (seen : List Nat) (stepped : Nat)

structure AHeap where
  next : Nat
  t : T AObj

def AHeap.get (h : AHeap) (b : Nat) : Option AObj := T.get h.t b
def AHeap.put (h : AHeap) (b : Nat) (o : AObj) : AHeap := ⟨h.next, T.set h.t b o⟩
def AHeap.kill (h : AHeap) (b : Nat) : AHeap := ⟨h.next, T.del h.t b⟩
def AHeap.new (h : AHeap) (o : AObj) : AHeap := ⟨Nat.succ h.next, T.set h.t h.next o⟩

abbrev E := Except String

def bnd {α β : Type} (x : E α) (f : α → E β) : E β := Except.rec (fun e => .error e) (fun a => f a) x

def mapE {α β : Type} (f : α → E β) (l : List α) : E (List β) :=
  List.rec (.ok []) (fun a _ ih => bnd (f a) fun b => bnd ih fun bs => .ok (b :: bs)) l

def opt {α : Type} (why : String) : Option α → E α
  | some a => .ok a
  | none => .error why

def guardE (b : Bool) (why : String) : E Unit := Bool.rec (.error why) (.ok ()) b

def AVal.cells : AVal → List AVal
  | .agg cs => cs
  | v => [v]

def AVal.scalar : AVal → Bool
  | .agg _ => false
  | .tuple _ => false
  | _ => true

/-- A value of the text (a constant). -/
def absV : Nat → Value → E AVal
  | 0, _ => .error "const: too deep"
  | d + 1, v => match v with
    | .bool b => .ok (.bool b)
    | .int k n => .ok (.int k n)
    | .string s => .ok (.str s.data.toList)
    | .pointer none => .ok .nilPtr
    | .slice none n c => .ok (.nilSlice n c)
    | .map none => .ok .nilMap
    | .nilFunc => .ok .nilFunc
    | .nilIface => .ok .nilIface
    | .iface t v => bnd (absV d v) fun v => .ok (.iface t v)
    | .agg cs => bnd (mapE (absV d) cs.toList) fun cs => .ok (.agg cs)
    | .tuple cs => bnd (mapE (absV d) cs.toList) fun cs => .ok (.tuple cs)
    | _ => .error "const: a value of another kind"

structure Tm where
  n : Nat
  t : T AVal

def Tm.get (tm : Tm) (i : Nat) : AVal := Option.rec aundef (fun v => v) (T.get tm.t i)
def Tm.put (tm : Tm) (dst : Option Tmp) (v : AVal) : Tm := Option.rec tm (fun d => sel (Nat.blt d tm.n) ⟨tm.n, T.set tm.t d v⟩ tm) dst

/-- What a constant comes to: wrapped, so that the kernel keeps it. -/
def ev (x : Operand) (tm : Tm) : E AVal :=
  match x with
  | .tmp t => .ok (tm.get t)
  | .const v => absV 8 v
  | .global _ => .error "a package-level variable"
  | .func f => .ok (.func (.func f) [] [])

def evs (tm : Tm) (l : List Operand) : E (List AVal) :=
  List.rec (.ok []) (fun x _ ih => bnd (ev x tm) fun v => bnd ih fun vs => .ok (v :: vs)) l

def evo (tm : Tm) : Option Operand → E (Option AVal)
  | none => .ok none
  | some x => bnd (ev x tm) fun v => .ok (some v)

def evps (tm : Tm) : List (Nat × Operand) → E (List (Nat × AVal))
  | [] => .ok []
  | p :: l => bnd (ev p.2 tm) fun v => bnd (evps tm l) fun vs => .ok ((p.1, v) :: vs)

/-! ### The types' tables -/
def uty (P : Program) (t : TypeId) : E TypeDesc := opt "no such type" (P.underlying t)
def tsize (P : Program) (t : TypeId) : E Nat := opt "no such type" ((P.info? t).map (·.size))
def tbytes (P : Program) (t : TypeId) : E Nat := opt "no such type" ((P.info? t).map (·.bytes))
def tzero (P : Program) (t : TypeId) : E AVal :=
  match (P.info? t).bind (·.zero) with
  | some v => absV 8 v
  | none => .error "no zero value"
def aggDesc : TypeDesc → Bool
  | .struct _ | .array _ _ => true
  | _ => false
def tagg (P : Program) (t : TypeId) : E Bool := bnd (uty P t) fun d => .ok (aggDesc d)
def elemOfSlice (P : Program) (t : TypeId) : E TypeId := bnd (uty P t) fun
  | .slice e => .ok e
  | _ => .error "slice type expected"
def fieldsOf (P : Program) (t : TypeId) : E (Array Field) := bnd (uty P t) fun
  | .struct fs => .ok fs
  | _ => .error "struct type expected"
def fieldOf (P : Program) (t : TypeId) (i : Nat) : E Field := bnd (fieldsOf P t) fun fs => opt "no such field" fs[i]?
def keyOf (P : Program) (t : TypeId) : E (TypeId × TypeId) := bnd (uty P t) fun
  | .map k e => .ok (k, e)
  | _ => .error "map type expected"

/-! ### Memory -/
def zeroAt (zs : List AVal) (i : Nat) : AVal :=
  match zs with
  | [z] => z
  | zs => zs.getD (i % zs.length) aundef

def content (zs : List AVal) (t : T AVal) (i : Nat) : AVal := Option.rec (zeroAt zs i) (fun v => v) (T.get t i)

def loadIn (i : Nat) : Option AObj → E AVal
  | some (.cells _ n zs t) => sel (Nat.blt i n) (.ok (content zs t i)) (.error "load: beyond the row")
  | some (.grown _ len size zs t) => sel (Nat.blt i (len * size)) (.ok (content zs t i)) (.error "load: beyond the grown row")
  | some _ => .error "load: no row of cells"
  | none => .error "load: a dead block"

def loadCell (h : AHeap) (b i : Nat) : E AVal := loadIn i (h.get b)

def loadCells (o : Option AObj) (i n : Nat) : E (List AVal) :=
  Nat.rec (fun _ => .ok []) (fun _ ih i => bnd (loadIn i o) fun v => bnd (ih (Nat.succ i)) fun vs => .ok (v :: vs)) n i

def storeIn (i : Nat) (v : AVal) : Option AObj → E AObj
  | some (.cells e n zs t) => sel (Nat.blt i n) (.ok (.cells e n zs (T.set t i v))) (.error "store: beyond the row")
  | some (.grown e len size zs t) => sel (Nat.blt i (len * size)) (.ok (.grown e len size zs (T.set t i v))) (.error "store: beyond the grown row")
  | some _ => .error "store: no row of cells"
  | none => .error "store: a dead block"

def storeCell (h : AHeap) (b i : Nat) (v : AVal) : E AHeap :=
  sel v.scalar (bnd (storeIn i v (h.get b)) fun o => .ok (h.put b o)) (.error "store: not one cell")

def storeCells (h : AHeap) (b i : Nat) (vs : List AVal) : E AHeap :=
  List.rec (fun h _ => .ok h) (fun v _ ih h i => bnd (storeCell h b i v) fun h => ih h (Nat.succ i)) vs h i

def loadVar (agg : Bool) (n : Nat) (v : AVal) (h : AHeap) : E AVal :=
  match v with
  | .ptr b o => sel agg (bnd (loadCells (h.get b) o n) fun cs => .ok (.agg cs)) (loadCell h b o)
  | _ => .error "load: no address"

def storeVar (n : Nat) (a v : AVal) (h : AHeap) : E AHeap :=
  match a with
  | .ptr b o => sel (Nat.beq v.cells.length n) (storeCells h b o v.cells) (.error "store: size")
  | _ => .error "store: no address"

def fromList (i : Nat) (vs : List AVal) (t : T AVal) : T AVal :=
  List.rec (fun _ t => t) (fun v _ ih i t => ih (Nat.succ i) (T.set t i v)) vs i t

def newRow (h : AHeap) (elem : TypeId) (cs : List AVal) : AHeap := h.new (.cells elem cs.length [] (fromList 0 cs .leaf))

def asI : AVal → E Int
  | .int _ n => .ok n
  | _ => .error "int expected"

def asB : AVal → E Bool
  | .bool b => .ok b
  | _ => .error "bool expected"

/-! ### Numbers, quickly -/
def ilt : Int → Int → Bool
  | .ofNat a, .ofNat b => Nat.blt a b
  | .negSucc _, .ofNat _ => true
  | .ofNat _, .negSucc _ => false
  | .negSucc a, .negSucc b => Nat.blt b a

def ieq : Int → Int → Bool
  | .ofNat a, .ofNat b => Nat.beq a b
  | .negSucc a, .negSucc b => Nat.beq a b
  | _, _ => false

/-- The index of a list of this length. -/
def inRange (i : Int) (len : Nat) : Option Nat :=
  match i with
  | .ofNat n => sel (Nat.blt n len) (some n) none
  | .negSucc _ => none

def wrapNat (k : IntKind) (n : Nat) : Int :=
  match k with
  | .i64 => sel (Nat.blt n 9223372036854775808) (.ofNat n) (IntKind.i64.wrap (.ofNat n))
  | .u8 => .ofNat (Nat.mod n 256)
  | .u32 => .ofNat (Nat.mod n 4294967296)
  | .u64 => .ofNat (Nat.mod n 18446744073709551616)
  | k => k.wrap (.ofNat n)

def wrapK (k : IntKind) : Int → Int
  | .ofNat n => wrapNat k n
  | .negSucc n => match k with
    | .i64 => sel (Nat.blt n 9223372036854775808) (.negSucc n) (IntKind.i64.wrap (.negSucc n))
    | k => k.wrap (.negSucc n)

def iadd : Int → Int → Int
  | .ofNat a, .ofNat b => .ofNat (Nat.add a b)
  | a, b => a + b
def isub : Int → Int → Int
  | .ofNat a, .ofNat b => sel (Nat.ble b a) (.ofNat (Nat.sub a b)) (.negSucc (Nat.sub (Nat.sub b a) 1))
  | a, b => a - b
def imul : Int → Int → Int
  | .ofNat a, .ofNat b => .ofNat (Nat.mul a b)
  | a, b => a * b
def iquo : Int → Int → E Int
  | .ofNat a, .ofNat b => sel (Nat.beq b 0) (.error "/ 0") (.ok (.ofNat (Nat.div a b)))
  | a, b => if b = 0 then .error "/ 0" else .ok (a.tdiv b)
def irem : Int → Int → E Int
  | .ofNat a, .ofNat b => sel (Nat.beq b 0) (.error "% 0") (.ok (.ofNat (Nat.mod a b)))
  | a, b => if b = 0 then .error "% 0" else .ok (a.tmod b)

def bitsBig (op : BinOp) (k : IntKind) (a b : Int) : E Int :=
  match op with
  | .and => .ok (k.wrap (BitVec.ofInt k.bits a &&& BitVec.ofInt k.bits b).toNat)
  | .or => .ok (k.wrap (BitVec.ofInt k.bits a ||| BitVec.ofInt k.bits b).toNat)
  | .xor => .ok (k.wrap (BitVec.ofInt k.bits a ^^^ BitVec.ofInt k.bits b).toNat)
  | .andNot => .ok (k.wrap (BitVec.ofInt k.bits a &&& ~~~ BitVec.ofInt k.bits b).toNat)
  | _ => .error "bits"

/-- Both numbers are their own bits. -/
def lowBits : Nat := 2147483648
def bitsOp (op : BinOp) (k : IntKind) (a b : Int) : E Int :=
  match op, k, a, b with
  | .and, .u32, .ofNat x, .ofNat y => .ok (.ofNat (Nat.land (Nat.mod x 4294967296) (Nat.mod y 4294967296)))
  | .xor, .u32, .ofNat x, .ofNat y => .ok (.ofNat (Nat.xor (Nat.mod x 4294967296) (Nat.mod y 4294967296)))
  | .or, .u64, .ofNat x, .ofNat y => .ok (.ofNat (Nat.lor (Nat.mod x 18446744073709551616) (Nat.mod y 18446744073709551616)))
  | op, k, a, b => bitsBig op k a b

def shiftOp (op : BinOp) (k : IntKind) (a b : Int) : E AVal :=
  match b with
  | .negSucc _ => .error "negative shift"
  | .ofNat b =>
    match op with
    | .shl => .ok (.int k (wrapK k (imul a (.ofNat (Nat.pow 2 (min b k.bits))))))
    | .shr => match a with
      | .ofNat a => .ok (.int k (.ofNat (Nat.div a (Nat.pow 2 (min b k.bits)))))
      | a => .ok (.int k (a.fdiv (2 ^ (min b k.bits))))
    | _ => .error "shiftOp"

def okInt (k : IntKind) (x : E Int) : E AVal := bnd x fun n => .ok (.int k n)

def intOp (op : BinOp) (k : IntKind) (a b : Int) : E AVal :=
  match op with
  | .add => .ok (.int k (wrapK k (iadd a b)))
  | .sub => .ok (.int k (wrapK k (isub a b)))
  | .mul => .ok (.int k (wrapK k (imul a b)))
  | .quo => bnd (iquo a b) fun n => .ok (.int k (wrapK k n))
  | .rem => okInt k (irem a b)
  | .eql => .ok (.bool (ieq a b))
  | .neq => .ok (.bool (!ieq a b))
  | .lss => .ok (.bool (ilt a b))
  | .leq => .ok (.bool (!ilt b a))
  | .gtr => .ok (.bool (ilt b a))
  | .geq => .ok (.bool (!ilt a b))
  | .shl => shiftOp .shl k a b
  | .shr => shiftOp .shr k a b
  | op => okInt k (bitsOp op k a b)

def strEq (x : List UInt8) : List UInt8 → Bool :=
  List.rec (fun y => List.rec true (fun _ _ _ => false) y) (fun a _ ih y => List.rec false (fun b y _ => sel (Nat.beq a.toNat b.toNat) (ih y) false) y) x

def strLess : List UInt8 → List UInt8 → Bool
  | _, [] => false
  | [], _ :: _ => true
  | a :: x, b :: y => Nat.blt a.toNat b.toNat || (Nat.beq a.toNat b.toNat && strLess x y)

def strOp (op : BinOp) (x y : List UInt8) : E AVal :=
  match op with
  | .add => sel (Nat.blt (x.length + y.length) 9000000000000000000) (.ok (.str (x ++ y))) (.error "too long")
  | .eql => .ok (.bool (strEq x y))
  | .neq => .ok (.bool (!strEq x y))
  | .lss => .ok (.bool (strLess x y))
  | .leq => .ok (.bool (strLess x y || strEq x y))
  | .gtr => .ok (.bool (!(strLess x y || strEq x y)))
  | .geq => .ok (.bool (!strLess x y))
  | _ => .error "strOp"

/-! ### Equality -/
def plainRow : Option AObj → Bool
  | some (.cells ..) => true
  | _ => false

def kindEq (a b : IntKind) : Bool := Nat.beq a.ctorIdx b.ctorIdx

def part (P : Program) (t : TypeId) (cs : List AVal) (off : Nat) : E AVal :=
  bnd (tagg P t) fun agg => sel agg
    (bnd (tsize P t) fun n => .ok (.agg ((cs.drop off).take n)))
    (opt "part: no such cell" cs[off]?)

def allE {α : Type} (f : α → E Bool) : List α → E Bool
  | [] => .ok true
  | a :: l => bnd (f a) fun b => sel b (allE f l) (.ok false)

def equal (P : Program) : Nat → TypeId → AVal → AVal → AHeap → E Bool
  | 0, _, _, _, _ => .error "==: nesting"
  | d + 1, t, x, y, h => bnd (uty P t) fun u =>
    match u, x, y with
    | .bool, .bool a, .bool b => .ok (a == b)
    | .int _, .int k a, .int k' b => sel (kindEq k k') (.ok (ieq a b)) (.error "==: kinds")
    | .string, .str a, .str b => .ok (strEq a b)
    | .pointer _, .nilPtr, .nilPtr => .ok true
    | .pointer _, .nilPtr, .ptr _ _ => .ok false
    | .pointer _, .ptr _ _, .nilPtr => .ok false
    | .pointer e, .ptr a i, .ptr b j => bnd (tsize P e) fun n =>
      sel (plainRow (h.get a) && plainRow (h.get b) && !Nat.beq n 0) (.ok (Nat.beq a b && Nat.beq i j)) (.error "==: pointers")
    | .interface _, .nilIface, .nilIface => .ok true
    | .interface _, .nilIface, .iface _ _ => .ok false
    | .interface _, .iface _ _, .nilIface => .ok false
    | .struct fields, .agg xs, .agg ys =>
      sel (P.stoodInHeld t) (.error "==: stood in")
      (allE (fun f => sel (f.name == "_") (.ok true) (bnd (part P f.type xs f.offset) fun a => bnd (part P f.type ys f.offset) fun b => equal P d f.type a b h)) fields.toList)
    | .array len elem, .agg xs, .agg ys => bnd (tsize P elem) fun n =>
      allE (fun i => bnd (part P elem xs (i * n)) fun a => bnd (part P elem ys (i * n)) fun b => equal P d elem a b h) (List.range len)
    | .slice _, .nilSlice _ _, .nilSlice _ _ => .ok true
    | .slice _, .nilSlice _ _, .slice _ _ _ _ => .ok false
    | .slice _, .nilSlice _ _, .gsl _ _ _ => .ok false
    | .slice _, .slice _ _ _ _, .nilSlice _ _ => .ok false
    | .slice _, .gsl _ _ _, .nilSlice _ _ => .ok false
    | .map _ _, .nilMap, .nilMap => .ok true
    | .map _ _, .nilMap, .map _ => .ok false
    | .map _ _, .map _, .nilMap => .ok false
    | .func _ _ _, .nilFunc, .nilFunc => .ok true
    | .func _ _ _, .nilFunc, .func _ _ _ => .ok false
    | .func _ _ _, .func _ _ _, .nilFunc => .ok false
    | _, _, _ => .error "==: operands"

def isConst : Operand → Bool
  | .const _ => true
  | _ => false

def eqOp (P : Program) (op : BinOp) (t : TypeId) (x y : AVal) (h : AHeap) : E AVal :=
  match op with
  | .eql => bnd (equal P 10000 t x y h) fun b => .ok (.bool b)
  | .neq => bnd (equal P 10000 t x y h) fun b => .ok (.bool !b)
  | _ => .error "binOp: operands"

def symOp (op : BinOp) (a b : Nat) : E AVal :=
  sel (Nat.blt a 7 && Nat.blt b 7)
    (match op with
    | .eql => .ok (.bool (Nat.beq a b))
    | .neq => .ok (.bool (!Nat.beq a b))
    | .lss => .ok (.bool (Nat.blt a b))
    | .leq => .ok (.bool (!Nat.blt b a))
    | .gtr => .ok (.bool (Nat.blt b a))
    | .geq => .ok (.bool (!Nat.blt a b))
    | _ => .error "sym: operator") (.error "sym")

/-- The place of a number that is known. -/
def symOf : AVal → E Nat
  | .sym r => .ok r
  | .int .i64 (.ofNat n) => sel (Nat.beq n 0) (.ok 3) (.error "sym: a number")
  | _ => .error "sym: operand"

def isSym : AVal → Bool
  | .sym _ => true
  | _ => false

def binOp0 (P : Program) (op : BinOp) (t : TypeId) (konst : Bool) (x y : AVal) (h : AHeap) : E AVal :=
  match x, y with
  | .int k a, .int k' b => sel (kindEq k k' || op == .shl || op == .shr) (intOp op k a b) (.error "kinds")
  | .str a, .str b => strOp op a b
  | .nilIface, .nilIface => sel konst (eqOp P op t .nilIface .nilIface h) (.error "binOp: two nil interfaces")
  | .agg xs, .agg ys => sel (P.eqGuardType P.depth t) (.error "binOp: eqGuard") (eqOp P op t (.agg xs) (.agg ys) h)
  | x, y => eqOp P op t x y h

def binOp (P : Program) (op : BinOp) (t : TypeId) (konst : Bool) (x y : AVal) (h : AHeap) : E AVal :=
  sel (isSym x || isSym y) (bnd (symOf x) fun a => bnd (symOf y) fun b => symOp op a b) (binOp0 P op t konst x y h)

def unOp (op : UnOp) (x : AVal) : E AVal :=
  match op, x with
  | .neg, .int k n => .ok (.int k (wrapK k (isub 0 n)))
  | .xor, .int k n => okInt k (bitsBig .xor k (if k.signed then -1 else k.max) n)
  | .not, .bool b => .ok (.bool !b)
  | _, _ => .error "unOp"

/-! ### Operations that make values -/
def fill (place : Nat → Option (Nat × Nat)) (cells : List AVal) : List (Nat × AVal) → Option (List AVal)
  | [] => some cells
  | (i, v) :: rest =>
    match place i with
    | none => none
    | some (off, size) =>
      sel (Nat.beq v.cells.length size && Nat.ble (off + size) cells.length)
        (fill place (cells.take off ++ (v.cells ++ cells.drop (off + size))) rest) none

def placesOf (P : Program) (fs : List Field) : E (List (Nat × Nat)) := mapE (fun f => bnd (tsize P f.type) fun n => .ok (f.offset, n)) fs

def build (zero : List AVal) (place : Nat → Option (Nat × Nat)) (ps : List (Nat × AVal)) : E AVal :=
  bnd (opt "build" (fill place zero ps)) fun cs => .ok (.agg cs)

def repeatL (zs : List AVal) : Nat → List AVal
  | 0 => []
  | n + 1 => zs ++ repeatL zs n

def buildSlice (elem : TypeId) (size len : Nat) (zero : List AVal) (ps : List (Nat × AVal)) (h : AHeap) : E (AVal × AHeap) :=
  bnd (opt "buildSlice" (fill (fun i => some (i * size, size)) (repeatL zero len) ps)) fun cs =>
  .ok (.slice h.next 0 len len, newRow h elem cs)

def makeSlice (elem : TypeId) (bytes size : Nat) (zero : List AVal) (l c : AVal) (h : AHeap) : E (AVal × AHeap) :=
  bnd (asI l) fun l => bnd (asI c) fun c =>
  match l, c with
  | .ofNat l, .ofNat c => sel (Nat.ble l c && Nat.blt c 1099511627776 && Nat.ble (bytes * c) 281474976710656)
      (.ok (.slice h.next 0 l c, h.new (.cells elem (c * size) zero .leaf))) (.error "makeSlice: sizes")
  | _, _ => .error "makeSlice: sizes"

def sbound (v : AVal) (y : Nat) : E Nat :=
  match v with
  | .int _ (.ofNat i) => sel (Nat.ble i y) (.ok i) (.error "slice bounds")
  | _ => .error "slice bounds"

def sboundO (d : Nat) (v : Option AVal) (y : Nat) : E Nat :=
  match v with
  | none => .ok d
  | some v => sbound v y

def bounds3 (len cap : Nat) (lo hi mx : Option AVal) : E (Nat × Nat × Nat) :=
  sel (mx.isSome && hi.isNone) (.error "slice: max without high")
  (bnd (sboundO cap mx cap) fun m => bnd (sboundO len hi m) fun h => bnd (sboundO 0 lo h) fun l => .ok (l, h, m))

def grownSize (o : Option AObj) : E Nat :=
  match o with
  | some (.grown _ _ size _ _) => .ok size
  | _ => .error "no grown row"

def sliceStr (s : List UInt8) (lo hi mx : Option AVal) : E AVal :=
  sel mx.isSome (.error "slice: string max")
  (bnd (bounds3 s.length s.length lo hi none) fun (l, h, _) => .ok (.str ((s.drop l).take (h - l))))

def sliceOp (elem : E Nat) (arr : Option Nat) (x : AVal) (lo hi mx : Option AVal) (h : AHeap) : E AVal :=
  match x with
  | .str s => sliceStr s lo hi mx
  | .slice b o len cap => bnd elem fun size => bnd (bounds3 len cap lo hi mx) fun (l, hh, m) =>
    .ok (.slice b (sel (Nat.beq m l) o (o + l * size)) (hh - l) (m - l))
  | .nilSlice len cap => bnd elem fun _ => bnd (bounds3 len cap lo hi mx) fun (l, hh, m) => .ok (.nilSlice (hh - l) (m - l))
  | .gsl b off len => bnd elem fun size => bnd (grownSize (h.get b)) fun size' => bnd (bounds3 len len lo hi mx) fun (l, hh, m) =>
    sel (Nat.beq size size')
      (sel mx.isSome
        (.ok (.slice b (sel (Nat.beq m l) off (off + l * size)) (hh - l) (m - l)))
        (sel (Nat.beq l 0) (.ok (.gsl b off hh)) (sel (Nat.blt l len) (.ok (.gsl b (off + l * size) (hh - l))) (.error "slice: an empty end of a grown row"))))
      (.error "slice: grown size")
  | .ptr b o => match arr with
    | some n => bnd elem fun size => bnd (bounds3 n n lo hi mx) fun (l, hh, m) =>
      .ok (.slice b (sel (Nat.beq m l) o (o + l * size)) (hh - l) (m - l))
    | none => .error "slice: operand"
  | _ => .error "slice: operand"

def fieldAddr (off : Nat) : AVal → E AVal
  | .ptr b o => .ok (.ptr b (o + off))
  | _ => .error "fieldAddr: no address"

def indexAddr (arr : Option Nat) (size : Nat) (x i : AVal) : E AVal :=
  bnd (asI i) fun i =>
  match x with
  | .ptr b o => bnd (opt "index out of range" (arr.bind (inRange i))) fun n => .ok (.ptr b (o + n * size))
  | .slice b o len _ => bnd (opt "index out of range" (inRange i len)) fun n => .ok (.ptr b (o + n * size))
  | .gsl b off len => bnd (opt "index out of range" (inRange i len)) fun n => .ok (.ptr b (off + n * size))
  | _ => .error "indexAddr: operand"

def indexArr (agg : Bool) (n len : Nat) (x i : AVal) : E AVal :=
  match x with
  | .agg cs => bnd (asI i) fun i => bnd (opt "index out of range" (inRange i len)) fun j =>
    sel agg (.ok (.agg ((cs.drop (j * n)).take n))) (opt "part: no such cell" cs[j * n]?)
  | _ => .error "index: operand"

def indexStr (x i : AVal) : E AVal :=
  match x with
  | .str s => bnd (asI i) fun i =>
    match i with
    | .ofNat n => bnd (opt "index out of range" s[n]?) fun b => .ok (.int .u8 (.ofNat b.toNat))
    | .negSucc _ => .error "index out of range"
  | _ => .error "index: operand"

def fieldOp (agg : Bool) (n off : Nat) (x : AVal) : E AVal :=
  match x with
  | .agg cs => sel agg (.ok (.agg ((cs.drop off).take n))) (opt "part: no such cell" cs[off]?)
  | _ => .error "field: operand"

/-! ### Maps -/
def plainKind : TypeDesc → Bool
  | .int _ | .string | .bool => true
  | _ => false

/-- Keys that can be compared: numbers, texts, bools, and structs of these. -/
inductive KK where
  | int
  | str
  | bool
  | struct (fs : List Field)

def keyKind (P : Program) (t : TypeId) : E KK := bnd (uty P t) fun d =>
  match d with
  | .int _ => .ok .int
  | .string => .ok .str
  | .bool => .ok .bool
  | .struct fields =>
    bnd (allE (fun f => bnd (uty P f.type) fun u => .ok (plainKind u && f.name != "_")) fields.toList) fun good =>
    sel good (.ok (.struct fields.toList)) (.error "key: a field")
  | _ => .error "key: kind"

def checkKey (P : Program) (kk : KK) (v : AVal) : E Unit :=
  match kk with
  | .struct fs => match v with
    | .agg cs => bnd (allE (fun f => bnd (part P f.type cs f.offset) fun _ => .ok true) fs) fun _ => .ok ()
    | _ => .error "key: a struct expected"
  | _ => .ok ()

def sameInt : AVal → AVal → E Bool
  | .int k a, .int k' b => sel (kindEq k k') (.ok (ieq a b)) (.error "key: kinds")
  | _, _ => .error "key: numbers expected"
def sameStr : AVal → AVal → E Bool
  | .str a, .str b => .ok (strEq a b)
  | _, _ => .error "key: texts expected"
def sameBool : AVal → AVal → E Bool
  | .bool a, .bool b => .ok (a == b)
  | _, _ => .error "key: bools expected"

def sameKey (P : Program) (t : TypeId) (kk : KK) (h : AHeap) (x y : AVal) : E Bool :=
  match kk with
  | .int => sameInt x y
  | .str => sameStr x y
  | .bool => sameBool x y
  | .struct _ => equal P 10000 t x y h

/-- How keys of a map's type are asked. -/
structure KeyQ where
  t : TypeId
  kk : KK

def keyQ (P : Program) (t : TypeId) : E KeyQ := bnd (keyKind P t) fun kk => .ok ⟨t, kk⟩

def findKey (P : Program) (q : KeyQ) (h : AHeap) (k : AVal) : List (AVal × AVal × Nat) → Nat → E (Option (Nat × (AVal × AVal × Nat)))
  | [], _ => .ok none
  | e :: es, i => bnd (sameKey P q.t q.kk h k e.1) fun b => sel b (.ok (some (i, e))) (findKey P q h k es (i + 1))

def findIn (P : Program) (q : KeyQ) (h : AHeap) (k : AVal) (es : List (AVal × AVal × Nat)) : E (Option (Nat × (AVal × AVal × Nat))) :=
  bnd (checkKey P q.kk k) fun _ => findKey P q h k es 0

/-- Numbers, texts, bools, and rows of these. -/
def simple1 : AVal → Bool
  | .int _ _ => true
  | .str _ => true
  | .bool _ => true
  | _ => false
def simple : AVal → Bool
  | .agg cs => cs.all simple1
  | v => simple1 v

mutual
def aeq : AVal → AVal → Bool
  | .bool a, .bool b => a == b
  | .int j a, .int k b => kindEq j k && ieq a b
  | .str a, .str b => strEq a b
  | .ptr a i, .ptr b j => Nat.beq a b && Nat.beq i j
  | .nilPtr, .nilPtr => true
  | .slice a i l c, .slice b j m d => Nat.beq a b && Nat.beq i j && Nat.beq l m && Nat.beq c d
  | .nilSlice l c, .nilSlice m d => Nat.beq l m && Nat.beq c d
  | .gsl a l c, .gsl b m d => Nat.beq a b && Nat.beq l m && Nat.beq c d
  | .map a, .map b => Nat.beq a b
  | .nilMap, .nilMap => true
  | .func f x y, .func g u v => decide (f = g) && aeqL x u && aeqL y v
  | .nilFunc, .nilFunc => true
  | .iface t x, .iface u y => Nat.beq t u && aeq x y
  | .nilIface, .nilIface => true
  | .agg x, .agg y => aeqL x y
  | .tuple x, .tuple y => aeqL x y
  | .sym a, .sym b => Nat.beq a b
  | _, _ => false
def aeqL : List AVal → List AVal → Bool
  | [], [] => true
  | x :: xs, y :: ys => aeq x y && aeqL xs ys
  | _, _ => false
end

def getMap (h : AHeap) (r : Nat) : E (List (AVal × AVal × Nat) × Nat) :=
  match h.get r with
  | some (.map es c) => .ok (es, c)
  | _ => .error "map expected"

def mapOf (m : AVal) (h : AHeap) : E (List (AVal × AVal × Nat)) :=
  match m with
  | .nilMap => .ok []
  | .map r => bnd (getMap h r) fun p => .ok p.1
  | _ => .error "map expected"

def lookup (P : Program) (q : KeyQ) (zero : AVal) (m k : AVal) (ok : Bool) (h : AHeap) : E AVal :=
  bnd (mapOf m h) fun es => bnd (findIn P q h k es) fun r =>
  match r with
  | some (_, e) => .ok (sel ok (.tuple [e.2.1, .bool true]) e.2.1)
  | none => .ok (sel ok (.tuple [zero, .bool false]) zero)

def mapUpdate (P : Program) (q : KeyQ) (m k v : AVal) (h : AHeap) : E AHeap :=
  match m with
  | .map r => bnd (getMap h r) fun p => bnd (findIn P q h k p.1) fun f =>
    match f with
    | some (i, e) => sel (simple k && aeq e.1 k) (.ok (h.put r (.map (p.1.set i (k, v, e.2.2)) p.2))) (.error "mapUpdate: which key stays")
    | none => .ok (h.put r (.map (p.1 ++ [(k, v, p.2)]) (p.2 + 1)))
  | _ => .error "mapUpdate: map"

def mapDelete (P : Program) (q : KeyQ) (m k : AVal) (h : AHeap) : E AHeap :=
  match m with
  | .nilMap => bnd (checkKey P q.kk k) fun _ => .ok h
  | .map r => bnd (getMap h r) fun p => bnd (findIn P q h k p.1) fun f =>
    match f with
    | some (i, _) => .ok (h.put r (.map (p.1.eraseIdx i) p.2))
    | none => .ok h
  | _ => .error "delete: map"

def rangeOp (x : AVal) (h : AHeap) : E (AVal × AHeap) :=
  match x with
  | .str s => .ok (.ptr h.next 0, h.new (.siter s 0))
  | .nilMap => .ok (.ptr h.next 0, h.new (.miter none 0 [] 0))
  | .map m => bnd (getMap h m) fun p => .ok (.ptr h.next 0, h.new (.miter (some m) p.2 [] p.2))
  | _ => .error "range: operand"

def decodeAt (s : List UInt8) (i : Nat) : Nat × Nat := Utf8.decode ⟨s.toArray⟩ i

def nextMap (r m since : Nat) (seen : List Nat) (last : Nat) (es : List (AVal × AVal × Nat)) (c : Nat) (h : AHeap) : E (AVal × AHeap) :=
  sel (!seen.isEmpty && !es.isEmpty && es.all (fun e => Nat.ble last e.2.2)) (.error "next: all gone")
  (match es.filter fun e => !seen.contains e.2.2 with
    | [] => .ok (.tuple [.bool false], h)
    | [e] => sel (Nat.blt e.2.2 since) (.ok (.tuple [.bool true, e.1, e.2.1], h.put r (.miter (some m) since (seen ++ [e.2.2]) c))) (.error "next: a new entry")
    | _ => .error "next: the order is open")

def nextOp (isString : Bool) (it : AVal) (h : AHeap) : E (AVal × AHeap) :=
  match it with
  | .ptr r 0 =>
    match h.get r with
    | some (.siter s pos) =>
      sel isString (sel (Nat.blt pos s.length)
        (.ok (.tuple [.bool true, .int .i64 (.ofNat pos), .int .i32 (.ofNat (decodeAt s pos).1)], h.put r (.siter s (pos + (decodeAt s pos).2))))
        (.ok (.tuple [.bool false], h))) (.error "next: iterator")
    | some (.miter none _ _ _) => sel isString (.error "next: iterator") (.ok (.tuple [.bool false], h))
    | some (.miter (some m) since seen last) => sel isString (.error "next: iterator") (bnd (getMap h m) fun p => nextMap r m since seen last p.1 p.2 h)
    | _ => .error "next: iterator"
  | _ => .error "next: iterator"

/-! ### append, copy, clear, len -/
def lenOf : AVal → E Nat
  | .slice _ _ n _ => .ok n
  | .nilSlice n _ => .ok n
  | .gsl _ _ n => .ok n
  | .str s => .ok s.length
  | _ => .error "lenOf"

def firstCells (size n : Nat) (h : AHeap) : AVal → E (List AVal)
  | .slice b o _ _ => loadCells (h.get b) o (n * size)
  | .nilSlice _ _ => .ok []
  | .gsl b off _ => loadCells (h.get b) off (n * size)
  | .str s => .ok ((s.take n).map fun b => .int .u8 (.ofNat b.toNat))
  | _ => .error "firstCells"

def maxRow : Nat := 100000000

def rowOk (n : Nat) (cs : List AVal) : Bool := cs.all AVal.scalar && Nat.beq cs.length n

/-- A row of open capacity is made anew. -/
def regrow (elem : TypeId) (size bytes : Nat) (zero : List AVal) (n cap : Nat) (all : List AVal) (h : AHeap) : E (AVal × AHeap) :=
  sel (Nat.ble (n * bytes) maxRow && Nat.ble (cap * bytes) maxRow && rowOk (n * size) all)
    (.ok (.gsl h.next 0 n, h.new (.grown elem n size zero (fromList 0 all .leaf)))) (.error "append: cells")

def appendSlice (elem : TypeId) (size bytes : Nat) (zero : List AVal) (s : AVal) (b o len cap : Nat) (n : Nat) (new : List AVal) (h : AHeap) : E (AVal × AHeap) :=
  sel (Nat.ble (len + n) cap)
    (bnd (storeCells h b (o + len * size) new) fun h' => .ok (.slice b o (len + n) cap, h'))
    (bnd (firstCells size len h s) fun old => regrow elem size bytes zero (len + n) cap (old ++ new) h)

def appendNil (elem : TypeId) (size bytes : Nat) (zero : List AVal) (len cap : Nat) (n : Nat) (new : List AVal) (h : AHeap) : E (AVal × AHeap) :=
  sel (Nat.ble (len + n) cap) (.ok (.nilSlice (len + n) cap, h))
    (regrow elem size bytes zero (len + n) cap new h)

def appendGrown (elem : TypeId) (size bytes : Nat) (b off len : Nat) (n : Nat) (new : List AVal) (h : AHeap) : Option AObj → E (AVal × AHeap)
  | some (.grown e blen size' zs t) =>
    sel (Nat.beq size size' && Nat.beq e elem)
      (sel (Nat.ble (off + (len + n) * size) (blen * size))
        (bnd (storeCells h b (off + len * size) new) fun h' => .ok (.gsl b off (len + n), h'))
        (sel (Nat.beq off 0 && Nat.beq len blen)
          -- the row goes on under a new name; the elder name is dead
          (sel (Nat.ble ((len + n) * bytes) maxRow && rowOk (n * size) new)
            (.ok (.gsl h.next 0 (len + n), (h.kill b).new (.grown elem (len + n) size zs (fromList (len * size) new t)))) (.error "append: cells"))
          (.error "append: onto a part of a grown row")))
      (.error "append: grown size")
  | _ => .error "append: no grown row"

def append (elem : TypeId) (size bytes : Nat) (zero : List AVal) (s x : AVal) (h : AHeap) : E (AVal × AHeap) :=
  bnd (lenOf x) fun n => bnd (firstCells size n h x) fun new =>
  match s with
  | .slice b o len cap => appendSlice elem size bytes zero (.slice b o len cap) b o len cap n new h
  | .nilSlice len cap => appendNil elem size bytes zero len cap n new h
  | .gsl b off len => appendGrown elem size bytes b off len n new h (h.get b)
  | _ => .error "append: operand"

def copyOp (size : Nat) (d s : AVal) (h : AHeap) : E (AVal × AHeap) :=
  bnd (lenOf s) fun ns => bnd (lenOf d) fun nd => bnd (firstCells size (Nat.min ns nd) h s) fun cs =>
  match d with
  | .slice b o _ _ => bnd (storeCells h b o cs) fun h => .ok (.int .i64 (.ofNat (Nat.min ns nd)), h)
  | .nilSlice _ _ => .ok (.int .i64 (.ofNat (Nat.min ns nd)), h)
  | .gsl b off _ => bnd (storeCells h b off cs) fun h => .ok (.int .i64 (.ofNat (Nat.min ns nd)), h)
  | _ => .error "copy: operand"

def clearOp (x : AVal) (h : AHeap) : E (AVal × AHeap) :=
  match x with
  | .nilMap => .ok (.tuple [], h)
  | .nilSlice _ _ => .ok (.tuple [], h)
  | .map r => bnd (getMap h r) fun p => .ok (.tuple [], h.put r (.map [] p.2))
  | _ => .error "clear: operand"

def goI (n : Nat) : AVal := .int .i64 (.ofNat n)

inductive LK where
  | num (n : Nat)
  | str
  | slice
  | map

def lenOp (k : LK) (x : AVal) (h : AHeap) : E AVal :=
  match k, x with
  | .num n, _ => .ok (goI n)
  | .str, .str s => .ok (goI s.length)
  | .slice, .slice _ _ n _ => .ok (goI n)
  | .slice, .nilSlice n _ => .ok (goI n)
  | .slice, .gsl _ _ n => .ok (goI n)
  | .map, .nilMap => .ok (goI 0)
  | .map, .map r => bnd (getMap h r) fun p => .ok (goI p.1.length)
  | _, _ => .error "len: operand"

def minmax (mx : Bool) (a b : AVal) : E AVal :=
  match a, b with
  | .int k x, .int _ y => .ok (.int k (sel mx (sel (ilt x y) y x) (sel (ilt y x) y x)))
  | _, _ => .error "min, max: operands"

def foldMM (mx : Bool) (x : AVal) : List AVal → E AVal
  | [] => .ok x
  | y :: rest => bnd (minmax mx x y) fun z => foldMM mx z rest

/-! ### Conversions -/
def bytesOf : List AVal → E (List UInt8)
  | [] => .ok []
  | v :: rest => match v with
    | .int .u8 n => bnd (bytesOf rest) fun l => .ok (UInt8.ofNat n.toNat :: l)
    | _ => .error "bytes expected"

/-! ### One operation: what the text says is worked out once -/
inductive AR where
  | val (v : AVal) (h : AHeap)
  | call (f : FuncId) (args : List AVal)

def okV (h : AHeap) (x : E AVal) : E AR := bnd x fun v => .ok (.val v h)
def okVH (x : E (AVal × AHeap)) : E AR := bnd x fun p => .ok (.val p.1 p.2)
def okH (x : E AHeap) : E AR := bnd x fun h => .ok (.val aundef h)

structure Cop where
  run : Tm → AHeap → E AR

def Cop.no (why : String) : Cop := ⟨fun _ _ => .error why⟩

/-- What is worked out ahead of the run. -/
def pre {α : Type} (x : E α) (f : α → Cop) : Cop := Except.rec (fun e => .no e) (fun a => f a) x

def with1 (x : Operand) (f : AVal → AHeap → E AR) : Cop := ⟨fun tm h => bnd (ev x tm) fun a => f a h⟩
def with2 (x y : Operand) (f : AVal → AVal → AHeap → E AR) : Cop := ⟨fun tm h => bnd (ev x tm) fun a => bnd (ev y tm) fun b => f a b h⟩
def with3 (x y z : Operand) (f : AVal → AVal → AVal → AHeap → E AR) : Cop :=
  ⟨fun tm h => bnd (ev x tm) fun a => bnd (ev y tm) fun b => bnd (ev z tm) fun c => f a b c h⟩
def withPs (ps : List (Nat × Operand)) (f : List (Nat × AVal) → AHeap → E AR) : Cop := ⟨fun tm h => bnd (evps tm ps) fun l => f l h⟩
def withL (xs : List Operand) (f : List AVal → AHeap → E AR) : Cop := ⟨fun tm h => bnd (evs tm xs) fun l => f l h⟩

def pickOp (c a b : AVal) (h : AHeap) : E AR :=
  match c with
  | .bool t => .ok (.val (sel t a b) h)
  | _ => .error "pick"

def nilCheck (v : AVal) (h : AHeap) : E AR :=
  match v with
  | .nilPtr => .error "nil dereference"
  | .nilIface => .error "nil dereference"
  | .nilFunc => .error "nil dereference"
  | .func (.func f) a b => .ok (.val (.func (.func f) a b) h)
  | .func _ _ _ => .error "nilCheck: a method value"
  | v => .ok (.val v h)

def callValue (fv : AVal) (args : List AVal) : E AR :=
  match fv with
  | .func (.func f) first captured => .ok (.call f ((first ++ args) ++ captured))
  | _ => .error "call: a function value of another kind"

def extractOp (i : Nat) (v : AVal) (h : AHeap) : E AR :=
  match v with
  | .tuple vs => okV h (opt "extract" vs[i]?)
  | _ => .error "extract"

def zeroFor (P : Program) (t : TypeId) (size : Nat) : E (List AVal) :=
  bnd (tzero P t) fun z => sel (Nat.beq z.cells.length size && !Nat.beq size 0) (.ok z.cells) (.error "zero value")

def copBuild (P : Program) (t : TypeId) (ps : List (Nat × Operand)) : Cop :=
  pre (tzero P t) fun z => pre (uty P t) fun u =>
  match u with
  | .struct fs => pre (placesOf P fs.toList) fun places => withPs ps fun l h => okV h (build z.cells (fun i => places[i]?) l)
  | .array _ elem => pre (tsize P elem) fun size => withPs ps fun l h => okV h (build z.cells (fun i => some (i * size, size)) l)
  | _ => .no "build: type"

def copBuildSlice (P : Program) (t : TypeId) (len : Nat) (ps : List (Nat × Operand)) : Cop :=
  pre (elemOfSlice P t) fun e => pre (tsize P e) fun size => pre (guardE (Nat.ble (len * size) 16777216) "buildSlice: size") fun _ =>
  pre (sel (Nat.beq (len * size) 0) (.ok []) (zeroFor P e size)) fun zero =>
  pre (guardE (!Nat.beq size 0) "buildSlice: size") fun _ =>
  withPs ps fun l h => okVH (buildSlice e size len zero l h)

def copMakeSlice (P : Program) (t : TypeId) (l c : Operand) : Cop :=
  pre (elemOfSlice P t) fun e => pre (tsize P e) fun size => pre (tbytes P e) fun bytes => pre (zeroFor P e size) fun zero =>
  with2 l c fun l c h => okVH (makeSlice e bytes size zero l c h)

def copSlice (P : Program) (t : TypeId) (x : Operand) (lo hi mx : Option Operand) : Cop :=
  pre (uty P t) fun u =>
  let go (elem : E Nat) (arr : Option Nat) (okx : AVal → Bool) : Cop :=
    ⟨fun tm h => bnd (ev x tm) fun x => bnd (evo tm lo) fun lo => bnd (evo tm hi) fun hi => bnd (evo tm mx) fun mx =>
      sel (okx x) (okV h (sliceOp elem arr x lo hi mx h)) (.error "slice: operand")⟩
  match u with
  | .string => go (.error "") none fun | .str _ => true | _ => false
  | .slice e => pre (tsize P e) fun n => go (.ok n) none fun | .slice .. => true | .nilSlice .. => true | .gsl .. => true | _ => false
  | .array n e => pre (tsize P e) fun m => go (.ok m) (some n) fun | .ptr .. => true | _ => false
  | _ => .no "slice: type"

def copFieldAddr (P : Program) (s : TypeId) (x : Operand) (f : Nat) : Cop :=
  pre (fieldOf P s f) fun fd => pre (tsize P fd.type) fun n => pre (guardE (!Nat.beq n 0) "fieldAddr: no size") fun _ =>
  with1 x fun x h => okV h (fieldAddr fd.offset x)

def copField (P : Program) (s : TypeId) (x : Operand) (f : Nat) : Cop :=
  pre (fieldOf P s f) fun fd => pre (tagg P fd.type) fun agg => pre (tsize P fd.type) fun n =>
  with1 x fun x h => okV h (fieldOp agg n fd.offset x)

def copIndexAddr (P : Program) (t : TypeId) (x i : Operand) : Cop :=
  pre (uty P t) fun u =>
  match u with
  | .array n e => pre (tsize P e) fun size => with2 x i fun x i h => match x with
    | .ptr .. => okV h (indexAddr (some n) size x i)
    | _ => .error "indexAddr: operand"
  | .slice e => pre (tsize P e) fun size => with2 x i fun x i h => match x with
    | .ptr .. => .error "indexAddr: operand"
    | _ => okV h (indexAddr none size x i)
  | _ => .no "indexAddr: type"

def copIndex (P : Program) (t : TypeId) (x i : Operand) : Cop :=
  pre (uty P t) fun u =>
  match u with
  | .array len e => pre (tagg P e) fun agg => pre (tsize P e) fun n => with2 x i fun x i h => okV h (indexArr agg n len x i)
  | .string => with2 x i fun x i h => okV h (indexStr x i)
  | _ => .no "index: type"

def copLookup (P : Program) (t : TypeId) (m k : Operand) (ok : Bool) : Cop :=
  pre (keyOf P t) fun ke => pre (keyQ P ke.1) fun q => pre (tzero P ke.2) fun zero =>
  with2 m k fun m k h => okV h (lookup P q zero m k ok h)

def copMapUpdate (P : Program) (t : TypeId) (m k x : Operand) : Cop :=
  pre (keyOf P t) fun ke => pre (keyQ P ke.1) fun q =>
  with3 m k x fun m k x h => okH (mapUpdate P q m k x h)

def copRange (P : Program) (t : TypeId) (x : Operand) : Cop :=
  pre (uty P t) fun u =>
  match u with
  | .string => with1 x fun x h => match x with | .str s => okVH (rangeOp (.str s) h) | _ => .error "range: operand"
  | .map _ _ => with1 x fun x h => match x with | .str _ => .error "range: operand" | x => okVH (rangeOp x h)
  | _ => .no "range: type"

def copConvert (P : Program) (s d : TypeId) (x : Operand) : Cop :=
  pre (uty P s) fun us => pre (uty P d) fun ud =>
  match us, ud with
  | .int _, .int k => with1 x fun x h => match x with | .int _ n => .ok (.val (.int k (wrapK k n)) h) | _ => .error "convert"
  | .int _, .string => with1 x fun x h => match x with | .int _ n => .ok (.val (.str (Utf8.encode n).data.toList) h) | _ => .error "convert"
  | .string, .string => with1 x fun x h => match x with | .str l => .ok (.val (.str l) h) | _ => .error "convert"
  | .string, .slice e => pre (uty P e) fun ue => match ue with
    | .int .u8 => with1 x fun x h => match x with
      | .str l => .ok (.val (.gsl h.next 0 l.length) (h.new (.grown e l.length 1 [.int .u8 0] (fromList 0 (l.map fun b => .int .u8 (.ofNat b.toNat)) .leaf))))
      | _ => .error "convert"
    | _ => .no "convert: string to what"
  | .slice e, .string => pre (uty P e) fun ue => match ue with
    | .int .u8 => with1 x fun x h => match x with
      | .str _ => .error "convert"
      | x => bnd (lenOf x) fun n => bnd (firstCells 1 n h x) fun cs => bnd (bytesOf cs) fun l => .ok (.val (.str l) h)
    | _ => .no "convert: what to string"
  | _, _ => .no "convert"

def lenKind (P : Program) (t : TypeId) : E LK := bnd (uty P t) fun
  | .array n _ => .ok (.num n)
  | .pointer a => bnd (uty P a) fun | .array n _ => .ok (.num n) | _ => .error "len: pointer"
  | .string => .ok .str
  | .slice _ => .ok .slice
  | .map _ _ => .ok .map
  | _ => .error "len: type"

def copBuiltin (P : Program) (b : Builtin) (ts : List TypeId) (args : List Operand) : Cop :=
  match b, ts, args with
  | .append, [sT, xT], [s, x] => pre (elemOfSlice P sT) fun e => pre (tsize P e) fun size => pre (tbytes P e) fun bytes => pre (zeroFor P e size) fun zero =>
    pre (uty P xT) fun ux => match ux with
      | .int _ => .no "append: zeros"
      | _ => pre (guardE (!Nat.beq bytes 0) "append: bytes") fun _ => with2 s x fun s x h => okVH (append e size bytes zero s x h)
  | .copy, [dT, _], [d, s] => pre (elemOfSlice P dT) fun e => pre (tsize P e) fun size => with2 d s fun d s h => okVH (copyOp size d s h)
  | .clear, [t], [x] => pre (uty P t) fun _ => with1 x fun x h => okVH (clearOp x h)
  | .len, t :: _, [x] => pre (lenKind P t) fun k => with1 x fun x h => okV h (lenOp k x h)
  | .delete, [t, _], [m, k] => pre (keyOf P t) fun ke => pre (keyQ P ke.1) fun q =>
    with2 m k fun m k h => bnd (mapDelete P q m k h) fun h => .ok (.val (.tuple []) h)
  | .min, _, x :: xs => withL (x :: xs) fun l h => match l with | y :: ys => okV h (foldMM false y ys) | [] => .error "min"
  | .max, _, x :: xs => withL (x :: xs) fun l h => match l with | y :: ys => okV h (foldMM true y ys) | [] => .error "max"
  | _, _, _ => .no "builtin"

def copCall (P : Program) (c : Call) : Cop :=
  match c.callee with
  | .builtin b => copBuiltin P b c.argTypes.toList c.args.toList
  | .value f => ⟨fun tm _ => bnd (evs tm c.args.toList) fun args => bnd (ev f tm) fun fv => callValue fv args⟩
  | .invoke _ _ => .no "call: a method through an interface"

def cop (P : Program) (op : Op) : Cop :=
  match op with
  | .move x => with1 x fun v h => .ok (.val v h)
  | .assign x => with1 x fun v h => .ok (.val v h)
  | .pick c a b => with3 c a b pickOp
  | .alloc e => pre (tzero P e) fun z => ⟨fun _ h => .ok (.val (.ptr h.next 0) (newRow h e z.cells))⟩
  | .box e x => with1 x fun v h => .ok (.val (.ptr h.next 0) (newRow h e v.cells))
  | .build t ps => copBuild P t ps.toList
  | .buildSlice t n ps => copBuildSlice P t n ps.toList
  | .load t a => pre (tagg P t) fun agg => pre (tsize P t) fun n => with1 a fun v h => okV h (loadVar agg n v h)
  | .store t a x => pre (tsize P t) fun n => with2 a x fun a v h => okH (storeVar n a v h)
  | .nilCheck x => with1 x nilCheck
  | .binOp op t x y _ => with2 x y fun a b h => okV h (binOp P op t (isConst x || isConst y) a b h)
  | .unOp op _ x => with1 x fun v h => okV h (unOp op v)
  | .convert s d x => copConvert P s d x
  | .makeInterface t x => pre (uty P t) fun u => match u with
    | .interface _ => .no "makeInterface"
    | _ => with1 x fun v h => .ok (.val (.iface t v) h)
  | .makeFunc fn first captured => ⟨fun tm h => bnd (evs tm first.toList) fun a => bnd (evs tm captured.toList) fun b => .ok (.val (.func fn a b) h)⟩
  | .makeMap _ none => ⟨fun _ h => .ok (.val (.map h.next) (h.new (.map [] 0)))⟩
  | .makeMap t (some x) => pre (keyOf P t) fun _ => with1 x fun v h => bnd (asI v) fun _ => .ok (.val (.map h.next) (h.new (.map [] 0)))
  | .makeSlice t l c => copMakeSlice P t l c
  | .slice t x lo hi mx => copSlice P t x lo hi mx
  | .fieldAddr s x f => copFieldAddr P s x f
  | .field s x f => copField P s x f
  | .indexAddr t x i => copIndexAddr P t x i
  | .index t x i => copIndex P t x i
  | .lookup t m k ok => copLookup P t m k ok
  | .mapUpdate t m k x => copMapUpdate P t m k x
  | .insert t m k x => copMapUpdate P t m k x
  | .range t x => copRange P t x
  | .next it isString => with1 it fun v h => okVH (nextOp isString v h)
  | .extract t i => with1 t fun v h => extractOp i v h
  | .call c => copCall P c
  | _ => .no "an operation of another kind"

def aop (P : Program) (op : Op) (tm : Tm) (h : AHeap) : E AR := (cop P op).run tm h

/-! ### Code -/
inductive Ex where
  | normal
  | exit (id : Nat)
  | goto (l : Nat)
  | ret

structure St where
  tm : Tm
  heap : AHeap

abbrev CallF := FuncId → List AVal → AHeap → E (AVal × AHeap)

/-- The evaluator at some depth: of code, and of calls. -/
structure Fns where
  code : Code → St → E (Ex × St)
  call : CallF

def boolIs (v : AVal) (want : Bool) : Bool :=
  match v with
  | .bool b => b == want
  | _ => false

def wanted (ops : Array Oper) (o : Oper) (tm : Tm) : Bool :=
  match o.guard with
  | none => true
  | some (j, want) => match (ops[j]?).bind (·.dst) with
    | some d => boolIs (tm.get d) want
    | none => false

def done (call : CallF) (h : AHeap) (r : AR) : E (AVal × AHeap) :=
  match r with
  | .val v h => .ok (v, h)
  | .call f args => call f args h

/-- One operation of a region: what it yields, and the heap behind it. -/
def one (P : Program) (call : CallF) (ops : Array Oper) (o : Oper) (tm : Tm) (h : AHeap) : E (AVal × AHeap) :=
  sel (wanted ops o tm) (bnd (aop P o.op tm h) fun r => done call h r) (.ok (aundef, h))

def seqOps (P : Program) (call : CallF) (ops : Array Oper) (l : List Oper) : Tm → AHeap → E St :=
  List.rec (fun tm h => .ok ⟨tm, h⟩) (fun o _ ih tm h => bnd (one P call ops o tm h) fun p => ih (tm.put o.dst p.1) p.2) l

def resultOf (P : Program) (tm : Tm) (h : AHeap) : ResultVar → E AVal
  | .tmp t => .ok (tm.get t)
  | .cell a t => bnd (tagg P t) fun agg => bnd (tsize P t) fun n => loadVar agg n (tm.get a) h

def results (P : Program) (fn : Func) (s : St) : E (AVal × AHeap) :=
  bnd (mapE (resultOf P s.tm s.heap) fn.results.toList) fun vs =>
  match vs with
  | [v] => .ok (v, s.heap)
  | vs => .ok (.tuple vs, s.heap)

/-! ### A region whose order is open -/
/-- It makes a block of its own, and does nothing else. -/
def isAlloc (P : Program) : Op → Bool
  | .alloc _ | .box .. | .buildSlice .. | .makeMap .. | .makeSlice .. => true
  | .convert _ d _ => match P.underlying d with | some (.slice _) => true | _ => false
  | _ => false

/-- It may turn what is there. -/
def isHard : Op → Bool
  | .move _ | .assign _ | .pick .. | .build .. | .load .. | .nilCheck _ | .binOp .. | .unOp .. | .makeInterface .. | .makeFunc ..
  | .slice .. | .fieldAddr .. | .field .. | .indexAddr .. | .index .. | .lookup .. | .extract .. | .convert ..
  | .alloc _ | .box .. | .buildSlice .. | .makeMap .. | .makeSlice .. => false
  | .call { callee := .builtin b, .. } => match b with
    | .len | .min | .max => false
    | _ => true
  | _ => true

def tmpsOf (xs : Array Operand) : List Tmp := xs.toList.filterMap fun | .tmp t => some t | _ => none

/-- The temporaries that an operation reads: its operands, its guard. -/
def readsOf (ops : Array Oper) (o : Oper) : List Tmp :=
  tmpsOf o.op.operands ++ (match o.guard with | some (j, _) => ((ops[j]?).bind (·.dst)).toList | none => [])

def clash (ops : Array Oper) (a b : Oper) : Bool :=
  (match a.dst with | some d => (readsOf ops b).contains d || b.dst == some d | none => false) ||
  (match b.dst with | some d => (readsOf ops a).contains d | none => false)

/-- All that an operation waits for has come up. -/
def readyIn (seen : Nat) (o : Oper) : Bool := o.after.all fun e => !Region.binds .any e || seen.testBit e.on

def pickIn (P : Program) (seen : Nat) : List (Oper × Nat) → Option (Oper × Nat) → Option (Oper × Nat)
  | [], best => best
  | p :: l, best => sel (readyIn seen p.1)
      (sel (isAlloc P p.1.op) (pickIn P seen l (match best with | some q => some q | none => some p)) (some p))
      (pickIn P seen l best)

/-- The order in which the region is gone through: what makes a block comes as late as can be. -/
def orderIn (P : Program) : Nat → List (Oper × Nat) → Nat → List (Oper × Nat)
  | 0, _, _ => []
  | f + 1, l, seen => match pickIn P seen l none with
    | some p => p :: orderIn P f (l.filter fun q => !Nat.beq q.2 p.2) (seen + 2 ^ p.2)
    | none => []

def orderOf (P : Program) (ops : Array Oper) : List (Oper × Nat) := orderIn P ops.size ops.toList.zipIdx 0

/-- Whom each waits for, from first to last. -/
def ancOf (acc : T Nat) (o : Oper) : Nat :=
  o.after.toList.foldl (fun s e => sel (Region.binds .any e) (s ||| (2 ^ e.on ||| (T.get acc e.on).getD 0)) s) 0

def ancsIn : List (Oper × Nat) → T Nat → T Nat
  | [], acc => acc
  | p :: l, acc => ancsIn l (T.set acc p.2 (ancOf acc p.1))

def waitsFor (anc : T Nat) (j i : Nat) : Bool := ((T.get anc j).getD 0).testBit i

/-- p comes ahead of q: q waits for p, or they have nothing to do with each other. -/
def pairOk (P : Program) (ops : Array Oper) (anc : T Nat) (p q : Oper × Nat) : Bool :=
  waitsFor anc q.2 p.2 || (!clash ops p.1 q.1 && !((isAlloc P p.1.op || isHard p.1.op) && isHard q.1.op))

def orderOk (P : Program) (ops : Array Oper) (anc : T Nat) : List (Oper × Nat) → Nat → Bool
  | [], seen => Nat.beq seen (2 ^ ops.size - 1)
  | p :: l, seen => !seen.testBit p.2 && readyIn seen p.1 && l.all (pairOk P ops anc p) && orderOk P ops anc l (Nat.lor seen (2 ^ p.2))

structure Plan where
  ord : List (Oper × Nat)
  anc : T Nat
  good : Bool

def planOf (P : Program) (ops : Array Oper) : Plan :=
  let ord := orderOf P ops
  let anc := ancsIn ord .leaf
  ⟨ord, anc, orderOk P ops anc ord 0⟩

def countBits (m : Nat) : List Nat → Nat
  | [] => 0
  | i :: l => sel (m.testBit i) 1 0 + countBits m l

def sameVal (v : AVal) : E AR → Bool
  | .ok (.val v' _) => aeq v v'
  | _ => false

/-- An operation that reads alone, once more over another heap. -/
def again (P : Program) (ops : Array Oper) (o : Oper) (tm : Tm) (v : AVal) (h : AHeap) : Bool :=
  sel (wanted ops o tm) (sameVal v (aop P o.op tm h)) true

/-- What is to be asked of a read when all is done. -/
structure Chk where
  o : Oper
  i : Nat
  tm : Tm
  v : AVal

/-- A block that was made. -/
structure Mad where
  i : Nat
  id : Nat
  o : AObj

structure Drawn where
  tm : Tm
  heap : AHeap
  evs : List Nat
  hs : List AHeap
  ms : List Mad
  cs : List Chk

def madeOf (i id : Nat) (h : AHeap) : List Mad :=
  sel (Nat.blt id h.next) (match h.get id with
  | some o => [⟨i, id, o⟩]
  | none => []) []

def drawStep (P : Program) (call : CallF) (ops : Array Oper) (p : Oper × Nat) (d : Drawn) : E Drawn :=
  bnd (one P call ops p.1 d.tm d.heap) fun r =>
    sel (isHard p.1.op) (.ok ⟨d.tm.put p.1.dst r.1, r.2, d.evs ++ [p.2], d.hs ++ [r.2], d.ms, d.cs⟩)
      (sel (isAlloc P p.1.op) (.ok ⟨d.tm.put p.1.dst r.1, r.2, d.evs, d.hs, d.ms ++ madeOf p.2 d.heap.next r.2, d.cs⟩)
        (.ok ⟨d.tm.put p.1.dst r.1, d.heap, d.evs, d.hs, d.ms, ⟨p.1, p.2, d.tm, r.1⟩ :: d.cs⟩))

def drawRun (P : Program) (call : CallF) (ops : Array Oper) : List (Oper × Nat) → Drawn → E Drawn
  | [], d => .ok d
  | p :: rest, d => bnd (drawStep P call ops p d) fun d => drawRun P call ops rest d

/-- The blocks that were made and that a read waits for are laid beside a heap. -/
def besides (anc : T Nat) (i : Nat) (base : AHeap) : List Mad → T AObj → T AObj
  | [], t => t
  | m :: ms, t => besides anc i base ms (sel (waitsFor anc i m.i && Nat.ble base.next m.id) (T.set t m.id m.o) t)

def meets (anc : T Nat) (i : Nat) (ms : List Mad) (next : Nat) (base : AHeap) : AHeap := ⟨next, besides anc i base ms base.t⟩

/-- The heaps that a read may meet: from behind the events that it waits for to ahead of the first that waits for it. -/
def mayMeet (anc : T Nat) (i : Nat) (evs : List Nat) (hs : List AHeap) : List AHeap :=
  let lo := countBits ((T.get anc i).getD 0) evs
  let hi := (evs.filter fun e => !waitsFor anc e i).length
  (hs.drop lo).take (hi + 1 - lo)

def checkAll (P : Program) (ops : Array Oper) (anc : T Nat) (d : Drawn) : Bool :=
  d.cs.all fun c => (mayMeet anc c.i d.evs d.hs).all fun h => again P ops c.o c.tm c.v (meets anc c.i d.ms d.heap.next h)

def drawEnd (P : Program) (ops : Array Oper) (anc : T Nat) (d : Drawn) : E St :=
  sel ((d.evs.isEmpty && d.ms.isEmpty) || checkAll P ops anc d) (.ok ⟨d.tm, d.heap⟩) (.error "draw: a read hangs on the order")

def drawOps (P : Program) (call : CallF) (ops : Array Oper) (tm : Tm) (h : AHeap) : E St :=
  let plan := planOf P ops
  sel plan.good (bnd (drawRun P call ops plan.ord ⟨tm, h, [], [h], [], []⟩) fun d => drawEnd P ops plan.anc d) (.error "draw: the region does not fit")

abbrev Ctr := FuncId → Option (List AVal → AHeap → E (AVal × AHeap))

def frame (args : List AVal) (n : Nat) : Tm := ⟨max n args.length, fromList 0 args .leaf⟩

def okN (x : E St) : E (Ex × St) := bnd x fun s => .ok (.normal, s)

def codeRegion (P : Program) (F : Fns) (ops : Array Oper) (draw : Bool) (s : St) : E (Ex × St) :=
  okN (sel draw (drawOps P F.call ops s.tm s.heap) (seqOps P F.call ops ops.toList s.tm s.heap))

def codeSeq (F : Fns) (a b : Code) (s : St) : E (Ex × St) := bnd (F.code a s) fun r =>
  match r.1 with
  | .normal => F.code b r.2
  | e => .ok (e, r.2)

def codeCond (F : Fns) (c : Operand) (a b : Code) (s : St) : E (Ex × St) := bnd (ev c s.tm) fun v => bnd (asB v) fun t =>
  sel t (F.code a s) (F.code b s)

def codeBlock (F : Fns) (id : Nat) (b : Code) (s : St) : E (Ex × St) := bnd (F.code b s) fun r =>
  match r.1 with
  | .exit id' => sel (Nat.beq id' id) (.ok (.normal, r.2)) (.ok (.exit id', r.2))
  | e => .ok (e, r.2)

def codeLoop (F : Fns) (b : Code) (s : St) : E (Ex × St) := bnd (F.code b s) fun r =>
  match r.1 with
  | .normal => F.code (.loop b) r.2
  | e => .ok (e, r.2)

/-- A scope that no jump goes round in. -/
def codeScope (F : Fns) (b : Code) (s : St) : E (Ex × St) := bnd (F.code b s) fun r =>
  match r.1 with
  | .goto _ => .error "a jump in a scope"
  | e => .ok (e, r.2)

def codeStep (P : Program) (F : Fns) (c : Code) (s : St) : E (Ex × St) :=
  match c with
  | .skip => .ok (.normal, s)
  | .label _ => .ok (.normal, s)
  | .region _ ops draw => codeRegion P F ops draw s
  | .seq a b => codeSeq F a b s
  | .cond c a b => codeCond F c a b s
  | .block id b => codeBlock F id b s
  | .loop b => codeLoop F b s
  | .exit id => .ok (.exit id, s)
  | .goto l => .ok (.goto l, s)
  | .scope b => codeScope F b s
  | .ret => .ok (.ret, s)
  | .rangeFunc .. => .error "rangeFunc"
  | .refuse _ => .error "refused"

def callBody (P : Program) (F : Fns) (fn : Func) (body : Code) (args : List AVal) (h : AHeap) : E (AVal × AHeap) :=
  bnd (F.code body ⟨frame args fn.ntmps, h⟩) fun r =>
  match r.1 with
  | .ret => results P fn r.2
  | .normal => results P fn r.2
  | _ => .error "call: a jump out of the body"

def callStep (P : Program) (C : Ctr) (F : Fns) (f : FuncId) (args : List AVal) (h : AHeap) : E (AVal × AHeap) :=
  match C f with
  | some g => g args h
  | none => bnd (opt "call: no such function" P.funcs[f]?) fun fn => bnd (opt "call: no body" fn.body) fun body => callBody P F fn body args h

def stepF (P : Program) (C : Ctr) (F : Fns) : Fns := ⟨codeStep P F, callStep P C F⟩

def baseF : Fns := ⟨fun _ _ => .error "no fuel", fun _ _ _ => .error "no fuel"⟩

def evalF (P : Program) (C : Ctr) (n : Nat) : Fns := Nat.rec baseF (fun _ F => stepF P C F) n

end
end Go.AM
