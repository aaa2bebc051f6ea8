/- A reckoner of straight Go code over memory that is known in part: values are told apart by place ('ptr i o': cell o of the i-th known block), every test that is not decided becomes a branch, every call, loop or foreign operation a node. Its soundness stands in the next text. -/
import Derived.Test.YtglafgpjgkphkaaGreatDoorBase
import Derived.Orders
import Derived.Laws.CopyRow
namespace Go.Proofs.YtglafgpjgkphkaaGreatDoor
open Go.RowKit

/-- A part of memory that is known by what holds of it: its blocks, and what is said of them. -/
structure Res where
  fp : List Nat
  R : World → Prop
  stable : ∀ w w' : World, (∀ k ∈ fp, w'.heap[k]? = w.heap[k]?) → R w → R w'

inductive SV where
  | res (r : Res)
  | lit (b : Bool)
  | bool (b : Bool)
  | int (k : IntKind) (n : Int)
  | str (s : ByteArray)
  | ptr (i : Nat) (o : Nat)
  | nilp
  | undef
  | agg (cs : List SV)
  | tup (vs : List SV)
  | sl (i : Nat) (o len cap : Nat)
  | iface (t : TypeId) (x : SV)
  | fn (f : Fn) (first captured : List SV)
  | raw (v : Value)

mutual
def den (ids : List Nat) : SV → Option Value
  | .res _ => none
  | .lit b => some (.bool b)
  | .bool b => some (.bool b)
  | .int k n => some (.int k n)
  | .str s => some (.string s)
  | .ptr i o => match ids[i]? with | some b => some (.pointer (some ⟨b, o, none⟩)) | none => none
  | .nilp => some (.pointer none)
  | .undef => some Go.undef
  | .agg cs => match denL ids cs with | some l => some (.agg l.toArray) | none => none
  | .tup vs => match denL ids vs with | some l => some (.tuple l.toArray) | none => none
  | .sl i o n c => match ids[i]? with | some b => some (.slice (some ⟨b, o, none⟩) n c) | none => none
  | .iface t x => match den ids x with | some v => some (.iface t v) | none => none
  | .fn f first captured => match denL ids first, denL ids captured with | some a, some b => some (.func f a.toArray b.toArray) | _, _ => none
  | .raw v => some v
def denL (ids : List Nat) : List SV → Option (List Value)
  | [] => some []
  | x :: xs => match den ids x, denL ids xs with | some v, some l => some (v :: l) | _, _ => none
end

structure SBlk where
  ty : TypeId
  cells : List SV
  rw : Bool

/-- Is it such a part? -/
@[simp] def resOf (b : SBlk) : Option Res := match b.cells with
  | .res r :: _ => some r
  | _ => none
def wrB (b : SBlk) : Bool := match b.rw with | true => (match resOf b with | some _ => false | none => true) | false => false

abbrev Fr := List (Nat × SV)
abbrev Mem := List SBlk

/-- An order in which a drawn region's operations are looked at: each with the loads that it may overtake; where several may come up, a way for each. -/
inductive Odr where
  | nil
  | cons (i : Nat) (rc : List Nat) (r : Odr)
  | fork (i : Nat) (rc : List Nat) (r other : Odr)
def Odr.then : List (Nat × List Nat) → Odr → Odr
  | [], t => t
  | (i, rc) :: r, t => .cons i rc (Odr.then r t)
def Odr.of : List (Nat × List Nat) → Odr
  | [] => .nil
  | (i, rc) :: r => .cons i rc (Odr.of r)

structure Ctx where
  P : Program
  N : Nat
  os : List (Nat × Odr)
  S : List Nat
  w0 : World

def nth {α : Type} : List α → Nat → Option α
  | [], _ => none
  | x :: _, 0 => some x
  | _ :: xs, n + 1 => nth xs n

def setNth {α : Type} : List α → Nat → α → List α
  | [], _, _ => []
  | _ :: xs, 0, y => y :: xs
  | x :: xs, n + 1, y => x :: setNth xs n y

/-- ys in the place of the cells from o on; none: they do not all lie there. -/
def over {α : Type} : List α → List α → Option (List α)
  | xs, [] => some xs
  | [], _ :: _ => none
  | _ :: xs, y :: ys => match over xs ys with | some r => some (y :: r) | none => none
def overwrite {α : Type} : List α → Nat → List α → Option (List α)
  | xs, 0, ys => over xs ys
  | [], _ + 1, _ => none
  | x :: xs, n + 1, ys => match overwrite xs n ys with | some r => some (x :: r) | none => none

def takeN {α : Type} : List α → Nat → Option (List α)
  | _, 0 => some []
  | [], _ + 1 => none
  | x :: xs, n + 1 => match takeN xs n with | some r => some (x :: r) | none => none

def dropN {α : Type} : List α → Nat → Option (List α)
  | xs, 0 => some xs
  | [], _ + 1 => none
  | _ :: xs, n + 1 => dropN xs n

def look : Fr → Nat → SV
  | [], _ => .raw Go.undef
  | (k, v) :: r, t => match Nat.beq k t with | true => v | false => look r t

def has : Fr → Nat → Bool
  | [], _ => false
  | (k, _) :: r, t => match Nat.beq k t with | true => true | false => has r t

def lookO : List (Nat × Odr) → Nat → Option Odr
  | [], _ => none
  | (k, v) :: r, t => match Nat.beq k t with | true => some v | false => lookO r t

def memN : List Nat → Nat → Bool
  | [], _ => false
  | k :: r, t => match Nat.beq k t with | true => true | false => memN r t

def ofV : Value → SV
  | .bool b => .lit b
  | .int k n => .int k n
  | .string s => .str s
  | .pointer none => .nilp
  | v => .raw v

/-- A value as a list of cells. -/
def svCells : SV → List SV
  | .agg cs => cs
  | x => [x]

def oneSV : SV → Bool
  | .res _ => false
  | .agg _ => false
  | .tup _ => false
  | .undef => false
  | .raw v => v.oneCell'
  | _ => true

def allOne : List SV → Bool
  | [] => true
  | x :: xs => match oneSV x with | true => allOne xs | false => false

/-- Its cells, each known to be one cell. -/
def cells1 (x : SV) : Option (List SV) := match allOne (svCells x) with | true => some (svCells x) | false => none

def ev (fr : Fr) : Operand → Option SV
  | .tmp t => match has fr t with | true => some (look fr t) | false => none
  | .const v => some (ofV v)
  | .global g => some (.raw (.pointer (some ⟨g, 0, none⟩)))
  | .func f => some (.fn (.func f) [] [])

def evL (fr : Fr) : List Operand → Option (List SV)
  | [] => some []
  | x :: xs => match ev fr x with
    | some v => match evL fr xs with | some l => some (v :: l) | none => none
    | none => none

/-- What a pure operation comes to. -/
inductive Ev where
  | ok (r : SV)
  | must (b : Bool) (r : SV)
  | pick (b : Bool) (x y : SV)
  | ld (t : TypeId) (a : Addr)
  | no

def ofOpt : Option SV → Ev
  | some r => .ok r
  | none => .no

def kEq : IntKind → IntKind → Bool
  | .i8, .i8 => true | .i16, .i16 => true | .i32, .i32 => true | .i64, .i64 => true
  | .u8, .u8 => true | .u16, .u16 => true | .u32, .u32 => true | .u64, .u64 => true
  | _, _ => false

def andI (k : IntKind) (a b : Int) : Int := k.wrap ((BitVec.ofInt k.bits a &&& BitVec.ofInt k.bits b).toNat : Int)
def orI (k : IntKind) (a b : Int) : Int := k.wrap ((BitVec.ofInt k.bits a ||| BitVec.ofInt k.bits b).toNat : Int)
def shlI (k : IntKind) (a b : Int) : Int := k.wrap (a * 2 ^ min b.toNat k.bits)
def shrI (k : IntKind) (a b : Int) : Int := a.fdiv (2 ^ min b.toNat k.bits)
def binInt (op : BinOp) (k : IntKind) (a b : Int) : Ev :=
  match op with
  | .add => .ok (.int k (k.wrap (a + b)))
  | .sub => .ok (.int k (k.wrap (a - b)))
  | .mul => .ok (.int k (k.wrap (a * b)))
  | .quo => .must (decide (b ≠ 0)) (.int k (k.wrap (a.tdiv b)))
  | .rem => .must (decide (b ≠ 0)) (.int k (a.tmod b))
  | .eql => .ok (.bool (a == b))
  | .neq => .ok (.bool (a != b))
  | .lss => .ok (.bool (decide (a < b)))
  | .leq => .ok (.bool (decide (a ≤ b)))
  | .gtr => .ok (.bool (decide (b < a)))
  | .geq => .ok (.bool (decide (b ≤ a)))
  | .and => .ok (.int k (andI k a b))
  | .or => .ok (.int k (orI k a b))
  | .shl => .must (decide (0 ≤ b)) (.int k (shlI k a b))
  | .shr => .must (decide (0 ≤ b)) (.int k (shrI k a b))
  | _ => .no

def binStr (op : BinOp) (a b : ByteArray) : Ev :=
  match op with
  | .eql => .ok (.bool (a.toList == b.toList))
  | .neq => .ok (.bool (!(a.toList == b.toList)))
  | .lss => .ok (.bool (Op.bytesLess a.toList b.toList))
  | .geq => .ok (.bool (!Op.bytesLess a.toList b.toList))
  | .gtr => .ok (.bool (!Op.bytesLess a.toList b.toList && !(a.toList == b.toList)))
  | .leq => .ok (.bool (Op.bytesLess a.toList b.toList || a.toList == b.toList))
  | _ => .no

def isPtrB (P : Program) (t : TypeId) : Bool := match P.underlying t with | some (.pointer _) => true | _ => false

/-- Is it a pointer's value, and not nil? none: unknown. -/
def nilness : SV → Option Bool
  | .nilp => some true
  | .ptr _ _ => some false
  | .raw (.pointer (some _)) => some false
  | .raw (.pointer none) => some true
  | _ => none

def eqB (op : BinOp) (b : Bool) : Ev :=
  match op with
  | .eql => .ok (.lit b)
  | .neq => .ok (.lit (!b))
  | _ => .no

def boolTB (P : Program) (t : TypeId) : Bool := match P.underlying t with | some .bool => true | _ => false
def boolOf : SV → Option Bool
  | .lit b => some b
  | .bool b => some b
  | _ => none
def eqBool (op : BinOp) (a b : Bool) : Ev :=
  match op with
  | .eql => .ok (.bool (a == b))
  | .neq => .ok (.bool (!(a == b)))
  | _ => .no
def litEq : Bool → Bool → SV
  | true, true => .lit true | true, false => .lit false | false, true => .lit false | false, false => .lit true
def litNe : Bool → Bool → SV
  | true, true => .lit false | true, false => .lit true | false, true => .lit true | false, false => .lit false
def eqLit (op : BinOp) (a b : Bool) : Ev :=
  match op with
  | .eql => .ok (litEq a b)
  | .neq => .ok (litNe a b)
  | _ => .no

def unEv (op : UnOp) (x : SV) : Ev :=
  match op, x with
  | .not, .lit b => match b with | true => .ok (.lit false) | false => .ok (.lit true)
  | .not, .bool b => .ok (.bool (!b))
  | .neg, .int k n => .ok (.int k (k.wrap (0 - n)))
  | _, _ => .no

def aggB (P : Program) (t : TypeId) : Option Bool :=
  match P.underlying t with
  | some (.struct _) => some true
  | some (.array _ _) => some true
  | some _ => some false
  | none => none

def forceIn {α : Type} : List Nat → Nat → (Nat → α) → α
  | [], n, k => k n
  | m :: r, n, k => match Nat.beq n m with | true => k m | false => forceIn r n k
def forceNat {α : Type} (n : Nat) (k : Nat → α) : α := forceIn [0, 1, 2, 3, 4, 5, 6, 7, 8, 9, 10, 11, 12, 13, 14, 15, 16, 17, 18, 19, 20, 21, 22, 23, 24, 25, 26, 27, 28, 29, 30, 31] n k
def sizeB (P : Program) (t : TypeId) : Option Nat := match P.info? t with | some i => forceNat i.size some | none => none

def partEv (P : Program) (t : TypeId) (cs : List SV) (off : Nat) : Option SV :=
  match aggB P t, sizeB P t with
  | some true, some n => match dropN cs off with
    | some r => match takeN r n with | some l => some (.agg l) | none => none
    | none => none
  | some false, some _ => nth cs off
  | _, _ => none

/-! Structs compared: cell by cell; the second Bool: what the program's types owe (proved apart). -/
def eqLeaf (P : Program) (t : TypeId) (x y : SV) : Option Bool :=
  match P.underlying t with
  | some (.int _) => match x, y with | .int k a, .int k' b => (match kEq k k' with | true => some (a == b) | false => none) | _, _ => none
  | some .bool => match boolOf x, boolOf y with | some a, some b => some (a == b) | _, _ => none
  | some .string => match x, y with | .str a, .str b => some (a.toList == b.toList) | _, _ => none
  | _ => none
def eqFs (g : Field → Option (Bool × Bool)) : List Field → Option (Bool × Bool)
  | [] => some (true, true)
  | f :: fs => match g f, eqFs g fs with
    | some (a, p), some (b, q) => some (a && b, !(f.name == "_") && p && q)
    | _, _ => none
def eqV (P : Program) : Nat → TypeId → SV → SV → Option (Bool × Bool)
  | 0, _, _, _ => none
  | n + 1, t, x, y => match P.underlying t with
    | some (.struct fs) => match x, y with
      | .agg xs, .agg ys => match eqFs (fun f => match partEv P f.type xs f.offset, partEv P f.type ys f.offset with | some u, some v => eqV P n f.type u v | _, _ => none) fs.toList with
        | some (b, p) => some (b, !(P.stoodInHeld t) && p)
        | none => none
      | _, _ => none
    | _ => match eqLeaf P t x y with | some b => some (b, true) | none => none
def eqAns (op : BinOp) (b p : Bool) : Ev :=
  match op with
  | .eql => .must p (.bool b)
  | .neq => .must p (.bool (!b))
  | _ => .no

def binEv (c : Ctx) (op : BinOp) (t : TypeId) (x y : SV) : Ev :=
  match x, y with
  | .int k a, .int k' b => match kEq k k' with | true => binInt op k a b | false => .no
  | .str a, .str b => binStr op a b
  | .nilp, y => match isPtrB c.P t, nilness y with | true, some b => eqB op b | _, _ => .no
  | x, .nilp => match isPtrB c.P t, nilness x with | true, some b => eqB op b | _, _ => .no
  | .agg xs, .agg ys => match eqV c.P 8 t (.agg xs) (.agg ys) with | some (b, p) => eqAns op b (!(c.P.eqGuardType c.P.depth t) && p) | none => .no
  | .lit a, .lit b => match boolTB c.P t with | true => eqLit op a b | false => .no
  | x, y => match boolTB c.P t, boolOf x, boolOf y with | true, some a, some b => eqBool op a b | _, _, _ => .no

def blkAt (mem : Mem) (i : Nat) : Option SBlk := match nth mem i with
  | some b => match resOf b with | some _ => none | none => some b
  | none => none

def loadEv (c : Ctx) (mem : Mem) (t : TypeId) (a : SV) : Ev :=
  match a with
  | .ptr i o => match blkAt mem i with | some b => ofOpt (partEv c.P t b.cells o) | none => .no
  | .raw (.pointer (some a)) => .ld t a
  | _ => .no

def fieldOf (P : Program) (s : TypeId) (f : Nat) : Option Field :=
  match P.underlying s with
  | some (.struct fs) => fs[f]?
  | _ => none

def fieldAddrEv (c : Ctx) (s : TypeId) (x : SV) (f : Nat) : Ev :=
  match fieldOf c.P s f with
  | some fl => match sizeB c.P fl.type with
    | some (_ + 1) => match x with
      | .ptr i o => .ok (.ptr i (o + fl.offset))
      | .raw (.pointer (some a)) => .ok (.raw (.pointer (some (a.add fl.offset))))
      | _ => .no
    | _ => .no
  | none => .no

def fieldEv (c : Ctx) (s : TypeId) (x : SV) (f : Nat) : Ev :=
  match fieldOf c.P s f, x with
  | some fl, .agg cs => ofOpt (partEv c.P fl.type cs fl.offset)
  | _, _ => .no

def arrLen (P : Program) (t : TypeId) : Option (Nat × TypeId) :=
  match P.underlying t with
  | some (.array n e) => some (n, e)
  | _ => none

def sliceElem (P : Program) (t : TypeId) : Option TypeId :=
  match P.underlying t with
  | some (.slice e) => some e
  | _ => none

/-- An element of an array by value. -/
def indexEv (c : Ctx) (t : TypeId) (x ix : SV) : Ev :=
  match ix with
  | .int _ n => match x with
    | .agg cs => match arrLen c.P t with
      | some (len, e) => match sizeB c.P e with
        | some s => match partEv c.P e cs (n.toNat * s) with
          | some r => .must (decide (0 ≤ n ∧ n < (len : Int))) r
          | none => .no
        | none => .no
      | none => .no
    | .raw (.agg cs) => match arrLen c.P t with
      | some (len, e) => match aggB c.P e, sizeB c.P e with
        | some false, some s => .must (decide (0 ≤ n ∧ n < (len : Int)) && decide (n.toNat * s < cs.size)) (.raw (cs.getD (n.toNat * s) Go.undef))
        | _, _ => .no
      | none => .no
    | _ => .no
  | _ => .no

def indexAddrEv (c : Ctx) (t : TypeId) (x ix : SV) : Ev :=
  match ix with
  | .int _ n => match x with
    | .ptr i o => match arrLen c.P t with
      | some (len, e) => match sizeB c.P e with
        | some s => .must (decide (0 ≤ n ∧ n < (len : Int))) (.ptr i (o + n.toNat * s))
        | none => .no
      | none => .no
    | .sl i o len _ => match sliceElem c.P t with
      | some e => match sizeB c.P e with
        | some s => .must (decide (0 ≤ n ∧ n < (len : Int))) (.ptr i (o + n.toNat * s))
        | none => .no
      | none => .no
    | .raw (.slice (some a) len _) => match sliceElem c.P t with
      | some e => match sizeB c.P e with
        | some s => .must (decide (0 ≤ n ∧ n < (len : Int))) (.raw (.pointer (some (a.add (n.toNat * s)))))
        | none => .no
      | none => .no
    | .raw (.pointer (some a)) => match arrLen c.P t with
      | some (len, e) => match sizeB c.P e with
        | some s => .must (decide (0 ≤ n ∧ n < (len : Int))) (.raw (.pointer (some (a.add (n.toNat * s)))))
        | none => .no
      | none => .no
    | _ => .no
  | _ => .no

def zeroSV (P : Program) (t : TypeId) : Option SV :=
  match P.info? t with
  | some i => match i.zero with
    | some (.agg cs) => some (.agg (cs.toList.map ofV))
    | some (.tuple _) => none
    | some v => some (ofV v)
    | none => none
  | none => none

/-- The parts of a struct or an array laid into its cells. -/
def fillEv (place : Nat → Option (Nat × Nat)) : List SV → List (Nat × SV) → Option (List SV)
  | cells, [] => some cells
  | cells, (i, x) :: rest => match place i, cells1 x with
    | some (off, size), some xs => match Nat.beq xs.length size with
      | true => match overwrite cells off xs with
        | some r => fillEv place r rest
        | none => none
      | false => none
    | _, _ => none

def placesL (P : Program) : List Field → Option (List (Nat × Nat))
  | [] => some []
  | f :: fs => match sizeB P f.type with
    | some s => match placesL P fs with | some l => some ((f.offset, s) :: l) | none => none
    | none => none

def evParts (fr : Fr) : List (Nat × Operand) → Option (List (Nat × SV))
  | [] => some []
  | (i, x) :: xs => match ev fr x with
    | some v => match evParts fr xs with | some l => some ((i, v) :: l) | none => none
    | none => none

def buildEv (c : Ctx) (t : TypeId) (parts : List (Nat × SV)) : Option SV :=
  match zeroSV c.P t with
  | some z => match c.P.underlying t, cells1 z with
    | some (.struct fs), some zs => match placesL c.P fs.toList with
      | some l => match fillEv (nth l) zs parts with | some r => some (.agg r) | none => none
      | none => none
    | some (.array _ e), some zs => match sizeB c.P e with
      | some s => match fillEv (fun i => some (i * s, s)) zs parts with | some r => some (.agg r) | none => none
      | none => none
    | _, _ => none
  | none => none

def i64Of : SV → Option Int
  | .int k b => match kEq k .i64 with | true => some b | false => none
  | _ => none
def foldMin : Int → List SV → Option Int
  | a, [] => some a
  | a, y :: r => match i64Of y with | some b => foldMin (min a b) r | none => none
def foldMax : Int → List SV → Option Int
  | a, [] => some a
  | a, y :: r => match i64Of y with | some b => foldMax (max a b) r | none => none

def builtinEv (c : Ctx) (b : Builtin) (ts : Array TypeId) (args : List SV) : Ev :=
  match b, args with
  | .len, [.str s] => match ts[0]? with
    | some t => match c.P.underlying t with | some .string => .ok (.int .i64 (s.size : Int)) | _ => .no
    | none => .no
  | .len, [.sl _ _ n _] => match ts[0]? with
    | some t => match sliceElem c.P t with | some _ => .ok (.int .i64 (n : Int)) | none => .no
    | none => .no
  | .len, [.raw (.slice _ n _)] => match ts[0]? with
    | some t => match sliceElem c.P t with | some _ => .ok (.int .i64 (n : Int)) | none => .no
    | none => .no
  | .min, .int .i64 a :: r => match foldMin a r with | some m => .ok (.int .i64 m) | none => .no
  | .max, .int .i64 a :: r => match foldMax a r with | some m => .ok (.int .i64 m) | none => .no
  | _, _ => .no

def ifaceB (P : Program) (t : TypeId) : Option Bool :=
  match P.underlying t with
  | some (.interface _) => some true
  | some _ => some false
  | none => none

def intB (P : Program) (t : TypeId) : Option IntKind :=
  match P.underlying t with
  | some (.int k) => some k
  | _ => none

/-- The operations that neither write nor make memory nor run code. -/
def pureEv (c : Ctx) (fr : Fr) (mem : Mem) (o : Op) : Ev :=
  match o with
  | .move x => ofOpt (ev fr x)
  | .assign x => ofOpt (ev fr x)
  | .pick x a b => match ev fr x with
    | some (.lit true) => ofOpt (ev fr a)
    | some (.lit false) => ofOpt (ev fr b)
    | some (.bool t) => match ev fr a, ev fr b with
      | some va, some vb => .pick t va vb
      | _, _ => .no
    | _ => .no
  | .nilCheck x => match ev fr x with
    | some (.ptr i o) => .ok (.ptr i o)
    | some (.raw (.pointer (some a))) => .ok (.raw (.pointer (some a)))
    | _ => .no
  | .load t a => match ev fr a with | some x => loadEv c mem t x | none => .no
  | .binOp op t x y _ => match ev fr x, ev fr y with
    | some a, some b => binEv c op t a b
    | _, _ => .no
  | .unOp op _ x => match ev fr x with | some a => unEv op a | none => .no
  | .fieldAddr s x f => match ev fr x with | some a => fieldAddrEv c s a f | none => .no
  | .field s x f => match ev fr x with | some a => fieldEv c s a f | none => .no
  | .indexAddr t x ix => match ev fr x, ev fr ix with
    | some a, some b => indexAddrEv c t a b
    | _, _ => .no
  | .index t x ix => match ev fr x, ev fr ix with
    | some a, some b => indexEv c t a b
    | _, _ => .no
  | .extract x i => match ev fr x with
    | some (.tup vs) => ofOpt (nth vs i)
    | _ => .no
  | .build t parts => match evParts fr parts.toList with | some ps => ofOpt (buildEv c t ps) | none => .no
  | .makeInterface t x => match ifaceB c.P t, ev fr x with
    | some false, some v => .ok (.iface t v)
    | _, _ => .no
  | .makeFunc f first captured => match evL fr first.toList, evL fr captured.toList with
    | some a, some b => .ok (.fn f a b)
    | _, _ => .no
  | .convert src dst x => match aggB c.P src, intB c.P dst, ev fr x with
    | some false, some k, some (.int _ n) => .ok (.int k (k.wrap n))
    | _, _, _ => .no
  | .call { callee := .builtin b, args, argTypes } => match evL fr args.toList with
    | some l => builtinEv c b argTypes l
    | none => .no
  | _ => .no

inductive SExit where
  | normal
  | exit (id : Nat)
  | ret

inductive Tree where
  | fin (x : SExit) (fr : Fr) (mem : Mem)
  | br (b : Bool) (t f : Tree)
  | both (t f : Tree)
  | must (b : Bool) (t : Tree)
  | chk (b : Bool) (t : Tree)
  | ld (t : TypeId) (a : Addr) (mem : Mem) (k : SV → Tree)
  | call (f : FuncId) (args : List SV) (mem : Mem) (k : SV → Mem → Tree)
  | same (x y : SV) (t : Tree)
  | op (o : Oper) (fr : Fr) (mem : Mem) (k : SV → Mem → Tree)
  | region (id : Nat) (ops : Array Oper) (fr : Fr) (mem : Mem) (k : Fr → Mem → Tree)
  | loop (body : Code) (fr : Fr) (mem : Mem) (k : SExit → Fr → Mem → Tree)
  | stuck (why : String)

def stepEv (e : Ev) (mem : Mem) (k : SV → Tree) (no : Tree) : Tree :=
  match e with
  | .ok r => k r
  | .must b r => .must b (k r)
  | .pick b x y => .br b (k x) (k y)
  | .ld t a => .ld t a mem k
  | .no => no

/-! ### Values are brought to their form before they are laid down (else the terms grow) -/
mutual
def forceSV {α : Type} : SV → (SV → α) → α
  | .res r, k => k (.res r)
  | .lit true, k => k (.lit true)
  | .lit false, k => k (.lit false)
  | .bool b, k => k (.bool b)
  | .int i n, k => k (.int i n)
  | .str s, k => k (.str s)
  | .ptr i o, k => forceNat i fun i => forceNat o fun o => k (.ptr i o)
  | .nilp, k => k .nilp
  | .undef, k => k .undef
  | .agg cs, k => forceL cs fun cs => k (.agg cs)
  | .tup cs, k => forceL cs fun cs => k (.tup cs)
  | .sl i o n m, k => forceNat i fun i => forceNat o fun o => k (.sl i o n m)
  | .iface t x, k => forceSV x fun x => k (.iface t x)
  | .fn f a b, k => forceL a fun a => forceL b fun b => k (.fn f a b)
  | .raw v, k => k (.raw v)
def forceL {α : Type} : List SV → (List SV → α) → α
  | [], k => k []
  | x :: xs, k => forceSV x fun x => forceL xs fun xs => k (x :: xs)
end
def forceMem {α : Type} : Mem → (Mem → α) → α
  | [], k => k []
  | b :: r, k => match b with
    | ⟨t, cs, true⟩ => forceL cs fun cs => forceMem r fun r => k (⟨t, cs, true⟩ :: r)
    | ⟨t, cs, false⟩ => forceL cs fun cs => forceMem r fun r => k (⟨t, cs, false⟩ :: r)

def putK (c : Ctx) (dst : Option Nat) (r : SV) (fr : Fr) (k : Fr → Tree) : Tree :=
  match dst with
  | none => k fr
  | some d => match Nat.blt d c.N with | true => forceSV r fun r => k ((d, r) :: fr) | false => .stuck "slot"

/-- Does a guard let the operation run? An undecided one parts the way; the temporary is then known. -/
def guardK (ops : List Oper) (fr : Fr) (g : Option (Nat × Bool)) (yes no : Fr → Tree) : Tree :=
  match g with
  | none => yes fr
  | some (j, want) => match nth ops j with
    | none => .stuck "guard"
    | some oj => match oj.dst with
      | none => .stuck "guard"
      | some d => match has fr d with
        | false => .stuck "guard"
        | true => match look fr d with
          | .lit true => match want with | true => yes fr | false => no fr
          | .lit false => match want with | true => no fr | false => yes fr
          | .undef => no fr
          | .bool b => match want with
            | true => .br b (yes ((d, .lit true) :: fr)) (no ((d, .lit false) :: fr))
            | false => .br b (no ((d, .lit true) :: fr)) (yes ((d, .lit false) :: fr))
          | _ => .stuck "guard"

def setCells : Mem → Nat → List SV → Mem
  | [], _, _ => []
  | ⟨t, _, rw⟩ :: xs, 0, cs => ⟨t, cs, rw⟩ :: xs
  | x :: xs, n + 1, cs => x :: setCells xs n cs

def calleeOk (P : Program) (f : FuncId) : Bool :=
  match P.funcs[f]? with
  | some fn => !(fn.name == "runtime.NumGoroutine") && fn.body.isSome
  | none => false

def storeEv (c : Ctx) (mem : Mem) (t : TypeId) (a v : SV) : Option Mem :=
  match a with
  | .ptr i o => match blkAt mem i with
    | some b => match b.rw, cells1 v, sizeB c.P t with
      | true, some xs, some n => match Nat.beq xs.length n with
        | true => match overwrite b.cells o xs with
          | some cs => some (setCells mem i cs)
          | none => none
        | false => none
      | _, _, _ => none
    | none => none
  | _ => none

def boxEv (mem : Mem) (t : TypeId) (v : SV) : Option Mem :=
  match cells1 v with
  | some xs => some (mem ++ [{ ty := t, cells := xs, rw := true }])
  | none => none

def doOp (c : Ctx) (fr : Fr) (mem : Mem) (o : Oper) (k : SV → Mem → Tree) : Tree :=
  match o.op with
  | .store t a v => match ev fr a, ev fr v with
    | some x, some y => match storeEv c mem t x y with
      | some mem' => forceMem mem' fun mem' => k .undef mem'
      | none => .op o fr mem k
    | _, _ => .op o fr mem k
  | .alloc t => match zeroSV c.P t with
    | some z => match boxEv mem t z with
      | some mem' => forceMem mem' fun mem' => k (.ptr mem.length 0) mem'
      | none => .op o fr mem k
    | none => .op o fr mem k
  | .box t x => match ev fr x with
    | some v => match boxEv mem t v with
      | some mem' => forceMem mem' fun mem' => k (.ptr mem.length 0) mem'
      | none => .op o fr mem k
    | none => .op o fr mem k
  | .call { callee := .value f, args, .. } => match ev fr f, evL fr args.toList with
    | some (.fn (.func g) first captured), some l => match calleeOk c.P g with
      | true => forceL (first ++ l ++ captured) fun l => .call g l mem fun r mem => forceMem mem fun mem => k r mem
      | false => .op o fr mem k
    | _, _ => .op o fr mem k
  | op => stepEv (pureEv c fr mem op) mem (fun r => k r mem) (.op o fr mem k)

/-- The operations of a region in the text's order. -/
def execOps (c : Ctx) (ops : List Oper) : List Oper → Fr → Mem → (Fr → Mem → Tree) → Tree
  | [], fr, mem, k => k fr mem
  | o :: rest, fr, mem, k => guardK ops fr o.guard
      (fun fr => doOp c fr mem o fun r mem => putK c o.dst r fr fun fr => execOps c ops rest fr mem k)
      (fun fr => putK c o.dst .undef fr fun fr => execOps c ops rest fr mem k)

def loud : Op → Bool
  | .store _ _ _ => true
  | .alloc _ => true
  | .box _ _ => true
  | .mapUpdate _ _ _ _ => true
  | .lookup _ _ _ _ => true
  | .slice _ _ _ _ _ => true
  | .buildSlice _ _ _ => true
  | .makeSlice _ _ _ => true
  | .makeMap _ _ => true
  | .call { callee := .builtin b, .. } => match b with | .len => false | .min => false | .max => false | _ => true
  | .call _ => true
  | _ => false

def isLoad : Op → Bool
  | .load _ _ => true
  | _ => false

/-- A load that has been taken: its number, the frame it was reckoned in, the operation, what it came to. -/
structure Rec where
  i : Nat
  fr : Fr
  o : Oper
  r : SV

/-- What is no load reads no memory. -/
def tame (ld : Bool) (e : Ev) : Ev :=
  match ld, e with
  | false, .ld _ _ => .no
  | _, e => e

def keepR (rc : List Nat) : List Rec → List Rec
  | [] => []
  | r :: rs => match memN rc r.i with | true => r :: keepR rc rs | false => keepR rc rs

def keepRK {α : Type} (rc : List Nat) : List Rec → (List Rec → α) → α
  | [], k => k []
  | r :: rs, k => match memN rc r.i with | true => keepRK rc rs fun l => k (r :: l) | false => keepRK rc rs k
def pushR {α : Type} (b : Bool) (x : Rec) (rs : List Rec) (k : List Rec → α) : α := match b with | true => k (x :: rs) | false => k rs

/-- Loads that may as well come behind what has just been written: they must come to the same there. -/
def recheck (c : Ctx) (mem : Mem) : List Rec → Tree → Tree
  | [], t => t
  | r :: rs, t => stepEv (tame (isLoad r.o.op) (pureEv c r.fr mem r.o.op)) mem (fun r' => .same r' r.r (recheck c mem rs t)) (.stuck "recheck")

/-- The operations of a region that draws its order, in an order that is allowed (each with the loads that it may overtake). -/
def stepD (c : Ctx) (ops : List Oper) (i : Nat) (rc : List Nat) (go : Fr → Mem → List Rec → Tree) (fr : Fr) (mem : Mem) (rs : List Rec) : Tree :=
  match nth ops i with
    | none => .stuck "order"
    | some o => match loud o.op with
      | true => keepRK rc rs fun rs => guardK ops fr o.guard
        (fun fr => doOp c fr mem o fun r mem' => putK c o.dst r fr fun fr => recheck c mem' rs (go fr mem' rs))
        (fun fr => putK c o.dst .undef fr fun fr => go fr mem rs)
      | false => guardK ops fr o.guard
        (fun fr' => stepEv (tame (isLoad o.op) (pureEv c fr' mem o.op)) mem (fun r => forceSV r fun r => putK c o.dst r fr' fun fr => pushR (isLoad o.op) ⟨i, fr', o, r⟩ rs fun rs => go fr mem rs) (.stuck "draw"))
        (fun fr => putK c o.dst .undef fr fun fr => go fr mem rs)

def execD (c : Ctx) (ops : List Oper) : Odr → Fr → Mem → List Rec → (Fr → Mem → Tree) → Tree
  | .nil, fr, mem, _, k => k fr mem
  | .cons i rc rest, fr, mem, rs, k => stepD c ops i rc (fun fr mem rs => execD c ops rest fr mem rs k) fr mem rs
  | .fork i rc rest other, fr, mem, rs, k => .both (stepD c ops i rc (fun fr mem rs => execD c ops rest fr mem rs k) fr mem rs) (execD c ops other fr mem rs k)

def ordL : List Oper → Nat → Odr
  | [], _ => .nil
  | _ :: r, n => .cons n [] (ordL r (n + 1))

/-- Does operation j wait for operation i, by however many steps? -/
def depF (ops : Array Oper) : Nat → Nat → Nat → Bool
  | 0, _, _ => false
  | n + 1, j, i => match ops[j]? with
    | some o => o.after.any fun e => Region.binds .any e && (e.on == i || depF ops n e.on i)
    | none => false
def dep (ops : Array Oper) (j i : Nat) : Bool := depF ops ops.size j i
def freeD (ops : Array Oper) (listed : Array Bool) (i : Nat) (oi : Oper) : Bool :=
  (List.range ops.size).all fun j => j == i || listed.getD j true || dep ops j i || (match ops[j]? with | some oj => oi.apart ops oj | none => true)
def heads : Odr → List Nat
  | .nil => []
  | .cons i _ _ => [i]
  | .fork i _ _ o => i :: heads o
/-- alt: it is one of several ways. n: how many operations are left. -/
def ordOk (ops : Array Oper) : Bool → Array Bool → List Nat → Odr → Nat → Bool
  | alt, listed, _, .nil, n => !alt && Nat.beq n 0 && (Region.ready .any ops listed).isEmpty
  | _, _, _, .cons _ _ _, 0 => false
  | _, _, _, .fork _ _ _ _, 0 => false
  | alt, listed, loads, .cons i rc rest, n + 1 => match ops[i]? with
    | none => false
    | some o => if loud o.op then (alt || (Region.ready .any ops listed) == [i]) && loads.all (fun j => dep ops i j || rc.contains j) && ordOk ops false (listed.setIfInBounds i true) (loads.filter rc.contains) rest n
        else !alt && (Region.ready .any ops listed).contains i && freeD ops listed i o && ordOk ops false (listed.setIfInBounds i true) (if isLoad o.op then i :: loads else loads) rest n
  | alt, listed, loads, .fork i rc rest other, n + 1 => match ops[i]? with
    | none => false
    | some o => loud o.op && (alt || (Region.ready .any ops listed) == i :: heads other) && loads.all (fun j => dep ops i j || rc.contains j) && ordOk ops false (listed.setIfInBounds i true) (loads.filter rc.contains) rest n && ordOk ops true listed loads other (n + 1)
def drawOk (ops : List Oper) (ord : Odr) : Bool :=
  Region.noSelect ops.toArray && ordOk ops.toArray false (Array.replicate ops.length false) [] ord ops.length

def execDraw (c : Ctx) (id : Nat) (ops : List Oper) (fr : Fr) (mem : Mem) (k : Fr → Mem → Tree) : Tree :=
  match lookO c.os id with
  | some ord => .chk (drawOk ops ord) (execD c ops ord fr mem [] k)
  | none => .chk (drawOk ops (ordL ops 0)) (execD c ops (ordL ops 0) fr mem [] k)

def exec (c : Ctx) : Code → Fr → Mem → (SExit → Fr → Mem → Tree) → Tree
  | .skip, fr, mem, k => k .normal fr mem
  | .label _, fr, mem, k => k .normal fr mem
  | .region id ops draw, fr, mem, k => match draw with
    | false => execOps c ops.toList ops.toList fr mem (k .normal)
    | true => execDraw c id ops.toList fr mem (k .normal)
  | .seq a b, fr, mem, k => exec c a fr mem fun x fr mem => match x with
    | .normal => exec c b fr mem k
    | .exit i => k (.exit i) fr mem
    | .ret => k .ret fr mem
  | .cond t a b, fr, mem, k => match ev fr t with
    | some (.lit true) => exec c a fr mem k
    | some (.lit false) => exec c b fr mem k
    | some (.bool p) => .br p (exec c a fr mem k) (exec c b fr mem k)
    | _ => .stuck "cond"
  | .block id a, fr, mem, k => exec c a fr mem fun x fr mem => match x with
    | .exit i => match Nat.beq i id with | true => k .normal fr mem | false => k (.exit i) fr mem
    | .normal => k .normal fr mem
    | .ret => k .ret fr mem
  | .loop b, fr, mem, k => .loop b fr mem k
  | .scope a, fr, mem, k => exec c a fr mem k
  | .exit i, fr, mem, k => k (.exit i) fr mem
  | .ret, fr, mem, k => k .ret fr mem
  | _, _, _, _ => .stuck "code"

end Go.Proofs.YtglafgpjgkphkaaGreatDoor
