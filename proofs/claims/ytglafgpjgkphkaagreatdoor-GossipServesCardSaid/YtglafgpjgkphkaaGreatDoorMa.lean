/- The reckoner as a machine: its states are plain data, so that a step of a proof is an equation between data. -/
import Derived.Test.YtglafgpjgkphkaaGreatDoorSx
namespace Go.Proofs.YtglafgpjgkphkaaGreatDoor
open Go.RowKit

inductive Task where
  | code (c : Code)
  | blk (id : Nat)
  | ops (all rest : List Oper)
  | draw (all : List Oper) (ord : Odr) (rs : List Rec)
  | rc (rs : List Rec)

structure St where
  fr : Fr
  mem : Mem
  todo : List Task

inductive Node where
  | fin (x : SExit) (fr : Fr) (mem : Mem)
  | br (b : Bool) (s t : St)
  | both (s t : St)
  | must (b : Bool) (s : St)
  | chk (b : Bool) (s : St)
  | ld (t : TypeId) (a : Addr) (dst : Option Nat) (s : St)
  | ldD (t : TypeId) (a : Addr) (i : Nat) (o : Oper) (s : St)
  | ldR (t : TypeId) (a : Addr) (r : SV) (s : St)
  | call (f : FuncId) (args : List SV) (dst : Option Nat) (s : St)
  | same (x y : SV) (s : St)
  | op (o : Oper) (s : St)
  | loop (body : Code) (s : St)
  | stuck (why : String)

def putN (c : Ctx) (dst : Option Nat) (r : SV) (fr : Fr) (k : Fr → Node) : Node :=
  match dst with
  | none => k fr
  | some d => match Nat.blt d c.N with | true => forceSV r fun r => k ((d, r) :: fr) | false => .stuck "slot"

def guardN (ops : List Oper) (fr : Fr) (g : Option (Nat × Bool)) (mem : Mem) (todo : List Task) (yes no : Fr → Node) : Node :=
  match g with
  | none => yes fr
  | some (j, want) => match nth ops j with
    | none => .stuck "guard"
    | some oj => match oj.dst with
      | none => .stuck "guard"
      | some d => match has fr d with
        | false => .stuck "guard"
        | true => match look fr d with
          | .lit true => match want with | true => yes fr | false => no fr
          | .lit false => match want with | true => no fr | false => yes fr
          | .undef => no fr
          | .bool b => .br b ⟨(d, .lit true) :: fr, mem, todo⟩ ⟨(d, .lit false) :: fr, mem, todo⟩
          | _ => .stuck "guard"

/-- A pure operation's end: rest is what is left to do. -/
def stepN (c : Ctx) (e : Ev) (dst : Option Nat) (fr : Fr) (mem : Mem) (rest : List Task) (k : Fr → Node) (no : Node) : Node :=
  match e with
  | .ok r => putN c dst r fr k
  | .must b r => putN c dst r fr fun fr => .must b ⟨fr, mem, rest⟩
  | .pick b x y => putN c dst x fr fun f1 => putN c dst y fr fun f2 => .br b ⟨f1, mem, rest⟩ ⟨f2, mem, rest⟩
  | .ld t a => .ld t a dst ⟨fr, mem, rest⟩
  | .no => no

def opN (c : Ctx) (fr : Fr) (mem : Mem) (o : Oper) (rest : List Task) (k : Fr → Mem → Node) : Node :=
  match o.op with
  | .store t a v => match ev fr a, ev fr v with
    | some x, some y => match storeEv c mem t x y with
      | some mem' => forceMem mem' fun mem' => putN c o.dst .undef fr fun fr => k fr mem'
      | none => .op o ⟨fr, mem, rest⟩
    | _, _ => .op o ⟨fr, mem, rest⟩
  | .alloc t => match zeroSV c.P t with
    | some z => match boxEv mem t z with
      | some mem' => forceMem mem' fun mem' => putN c o.dst (.ptr mem.length 0) fr fun fr => k fr mem'
      | none => .op o ⟨fr, mem, rest⟩
    | none => .op o ⟨fr, mem, rest⟩
  | .box t x => match ev fr x with
    | some v => match boxEv mem t v with
      | some mem' => forceMem mem' fun mem' => putN c o.dst (.ptr mem.length 0) fr fun fr => k fr mem'
      | none => .op o ⟨fr, mem, rest⟩
    | none => .op o ⟨fr, mem, rest⟩
  | .call { callee := .value f, args, .. } => match ev fr f, evL fr args.toList with
    | some (.fn (.func g) first captured), some l => match calleeOk c.P g with
      | true => forceL (first ++ l ++ captured) fun l => .call g l o.dst ⟨fr, mem, rest⟩
      | false => .op o ⟨fr, mem, rest⟩
    | _, _ => .op o ⟨fr, mem, rest⟩
  | op => stepN c (pureEv c fr mem op) o.dst fr mem rest (fun fr => k fr mem) (.op o ⟨fr, mem, rest⟩)

def quietN (c : Ctx) (fr : Fr) (mem : Mem) (i : Nat) (o : Oper) (rs : List Rec) (td : List Rec → List Task) (k : Fr → List Rec → Node) : Node :=
  match tame (isLoad o.op) (pureEv c fr mem o.op) with
  | .ok r => forceSV r fun r => putN c o.dst r fr fun fr' => pushR (isLoad o.op) ⟨i, fr, o, r⟩ rs fun rs => k fr' rs
  | .must b r => forceSV r fun r => putN c o.dst r fr fun fr' => pushR (isLoad o.op) ⟨i, fr, o, r⟩ rs fun rs => .must b ⟨fr', mem, td rs⟩
  | .pick b x y => forceSV x fun x => forceSV y fun y => putN c o.dst x fr fun f1 => putN c o.dst y fr fun f2 => pushR (isLoad o.op) ⟨i, fr, o, x⟩ rs fun r1 => pushR (isLoad o.op) ⟨i, fr, o, y⟩ rs fun r2 => .br b ⟨f1, mem, td r1⟩ ⟨f2, mem, td r2⟩
  | .ld t a => .ldD t a i o ⟨fr, mem, td rs⟩
  | .no => .stuck "draw"

def popTo (i : Nat) : List Task → Option (List Task)
  | [] => none
  | .blk j :: r => match Nat.beq i j with | true => some r | false => popTo i r
  | _ :: r => popTo i r

def ordK {α : Type} : List Oper → Nat → (Odr → α) → α
  | [], _, k => k .nil
  | _ :: r, n, k => forceNat n fun n => ordK r (n + 1) fun l => k (.cons n [] l)

def run (c : Ctx) : Nat → Fr → Mem → List Task → Node
  | 0, _, _, _ => .stuck "fuel"
  | _ + 1, fr, mem, [] => .fin .normal fr mem
  | n + 1, fr, mem, .code code :: r => match code with
    | .skip => run c n fr mem r
    | .label _ => run c n fr mem r
    | .scope a => run c n fr mem (.code a :: r)
    | .region id ⟨ops⟩ draw => match draw with
      | false => run c n fr mem (.ops ops ops :: r)
      | true => match lookO c.os id with
        | some ord => .chk (drawOk ops ord) ⟨fr, mem, .draw ops ord [] :: r⟩
        | none => ordK ops 0 fun ord => .chk (drawOk ops ord) ⟨fr, mem, .draw ops ord [] :: r⟩
    | .seq a b => run c n fr mem (.code a :: .code b :: r)
    | .cond t a b => match ev fr t with
      | some (.lit true) => run c n fr mem (.code a :: r)
      | some (.lit false) => run c n fr mem (.code b :: r)
      | some (.bool p) => .br p ⟨fr, mem, .code a :: r⟩ ⟨fr, mem, .code b :: r⟩
      | _ => .stuck "cond"
    | .block id a => run c n fr mem (.code a :: .blk id :: r)
    | .loop b => .loop b ⟨fr, mem, r⟩
    | .exit i => match popTo i r with
      | some r => run c n fr mem r
      | none => .fin (.exit i) fr mem
    | .ret => .fin .ret fr mem
    | _ => .stuck "code"
  | n + 1, fr, mem, .blk _ :: r => run c n fr mem r
  | n + 1, fr, mem, .ops _ [] :: r => run c n fr mem r
  | n + 1, fr, mem, .ops all (o :: rest) :: r => guardN all fr o.guard mem (.ops all (o :: rest) :: r)
    (fun fr => opN c fr mem o (.ops all rest :: r) fun fr mem => run c n fr mem (.ops all rest :: r))
    (fun fr => putN c o.dst .undef fr fun fr => run c n fr mem (.ops all rest :: r))
  | n + 1, fr, mem, .draw _ .nil _ :: r => run c n fr mem r
  | _ + 1, fr, mem, .draw ops (.fork i rc rest other) rs :: r => .both ⟨fr, mem, .draw ops (.cons i rc rest) rs :: r⟩ ⟨fr, mem, .draw ops other rs :: r⟩
  | n + 1, fr, mem, .draw ops (.cons i rc rest) rs :: r => match nth ops i with
    | none => .stuck "order"
    | some o => match loud o.op with
      | true => keepRK rc rs fun rs' => guardN ops fr o.guard mem (.draw ops (.cons i rc rest) rs :: r)
        (fun fr => opN c fr mem o (.rc rs' :: .draw ops rest rs' :: r) fun fr mem => run c n fr mem (.rc rs' :: .draw ops rest rs' :: r))
        (fun fr => putN c o.dst .undef fr fun fr => run c n fr mem (.draw ops rest rs' :: r))
      | false => guardN ops fr o.guard mem (.draw ops (.cons i rc rest) rs :: r)
        (fun fr => quietN c fr mem i o rs (fun rs => .draw ops rest rs :: r) fun fr rs => run c n fr mem (.draw ops rest rs :: r))
        (fun fr => putN c o.dst .undef fr fun fr => run c n fr mem (.draw ops rest rs :: r))
  | n + 1, fr, mem, .rc [] :: r => run c n fr mem r
  | _ + 1, fr, mem, .rc (x :: xs) :: r => match tame (isLoad x.o.op) (pureEv c x.fr mem x.o.op) with
    | .ok r' => forceSV r' fun r' => .same r' x.r ⟨fr, mem, .rc xs :: r⟩
    | .ld t a => .ldR t a x.r ⟨fr, mem, .rc xs :: r⟩
    | _ => .stuck "recheck"

end Go.Proofs.YtglafgpjgkphkaaGreatDoor
