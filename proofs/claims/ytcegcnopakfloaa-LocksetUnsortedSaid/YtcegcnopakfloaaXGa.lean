/- Texts of this claim, laid together: M1 M2 M3 M4 M5 M6 M7 M8 M9. -/
import Derived.Calls
import Derived.Laws.Append
import Derived.Below
import Derived.Laws.Rows
import Derived.Laws.Tables
import Derived.Laws.StructEq
section
set_option linter.unusedSimpArgs false
/- A small deterministic machine over an abstract heap: definitions. -/
namespace Go.Mx
open Go

inductive BMode where
  | rw | ro | dead
  deriving DecidableEq

structure Blk where
  cells : List Value
  esz : Nat
  mode : BMode
  ver : Nat

structure AHeap where
  get : Nat → Option Blk
  next : Nat

def AHeap.put (H : AHeap) (i : Nat) (b : Blk) : AHeap := { get := fun j => if j = i then some b else H.get j, next := H.next }
def AHeap.bump (H : AHeap) (n : Nat) : AHeap := { get := H.get, next := H.next + n }
def AHeap.newId (H : AHeap) : Option Nat → Nat
  | none => H.next
  | some i => i
def AHeap.alloc (H : AHeap) (slot : Option Nat) (b : Blk) : AHeap :=
  match slot with
  | none => { get := fun j => if j = H.next then some b else H.get j, next := H.next + 1 }
  | some i => { get := fun j => if j = i then some b else H.get j, next := H.next }

/-- the cell at an address -/
def AHeap.cell (H : AHeap) (i o : Nat) : Option Value :=
  match H.get i with
  | some b => if b.mode = .dead then none else b.cells[o]?
  | none => none

/-- n cells from an address on -/
def AHeap.row (H : AHeap) (i o n : Nat) : Option (List Value) :=
  match H.get i with
  | some b => if b.mode ≠ .dead ∧ o + n ≤ b.cells.length then some ((b.cells.drop o).take n) else none
  | none => none

def splice (l : List Value) (o : Nat) (vs : List Value) : List Value := l.take o ++ vs ++ l.drop (o + vs.length)

/-- cells written from an address on -/
def AHeap.wr (H : AHeap) (i o : Nat) (vs : List Value) : Option AHeap :=
  match H.get i with
  | some b => if b.mode = .rw ∧ o + vs.length ≤ b.cells.length then some (H.put i { b with cells := splice b.cells o vs, ver := b.ver + 1 }) else none
  | none => none

def asI (k : IntKind) : Value → Option Int
  | .int k' n => if k = k' then some n else none
  | _ => none
def asB : Value → Option Bool
  | .bool b => some b
  | _ => none
def asS : Value → Option ByteArray
  | .string s => some s
  | _ => none
def asSl : Value → Option (Option Addr × Nat × Nat)
  | .slice a l c => some (a, l, c)
  | _ => none
def asPt : Value → Option (Option Addr)
  | .pointer a => some a
  | _ => none
def asAg : Value → Option (Array Value)
  | .agg a => some a
  | _ => none
def asTp : Value → Option (Array Value)
  | .tuple a => some a
  | _ => none

def ldI (k : IntKind) (H : AHeap) (i o : Nat) : Option Int := (H.cell i o).bind (asI k)
def ldB (H : AHeap) (i o : Nat) : Option Bool := (H.cell i o).bind asB
def ldS (H : AHeap) (i o : Nat) : Option ByteArray := (H.cell i o).bind asS
def ldSl (H : AHeap) (i o : Nat) : Option (Option Addr × Nat × Nat) := (H.cell i o).bind asSl
def ldPt (H : AHeap) (i o : Nat) : Option (Option Addr) := (H.cell i o).bind asPt

section
variable {R : Type}

/-- a value of a known type, taken apart and put together again -/
def normK (d : Option TypeDesc) (v : Value) (K : Value → Option R) : Option R :=
  match d with
  | some (.int k) => (asI k v).bind fun n => K (.int k n)
  | some .bool => (asB v).bind fun b => K (.bool b)
  | some .string => (asS v).bind fun s => K (.string s)
  | some (.slice _) => (asSl v).bind fun s => K (.slice s.1 s.2.1 s.2.2)
  | some (.pointer _) => (asPt v).bind fun p => K (.pointer p)
  | some (.struct _) => (asAg v).bind fun a => K (.agg a)
  | some (.array _ _) => (asAg v).bind fun a => K (.agg a)
  | some (.tuple _) => (asTp v).bind fun a => K (.tuple a)
  | _ => K v

def loadK (P : Program) (t : TypeId) (i o : Nat) (H : AHeap) (K : Value → Option R) : Option R :=
  match P.underlying t with
  | some (.int k) => (ldI k H i o).bind fun n => K (.int k n)
  | some .bool => (ldB H i o).bind fun b => K (.bool b)
  | some .string => (ldS H i o).bind fun s => K (.string s)
  | some (.slice _) => (ldSl H i o).bind fun s => K (.slice s.1 s.2.1 s.2.2)
  | some (.pointer _) => (ldPt H i o).bind fun p => K (.pointer p)
  | some (.struct _) | some (.array _ _) =>
    match P.info? t with
    | some inf => (H.row i o inf.size).bind fun l => K (.agg l.toArray)
    | none => none
  | some _ => (H.cell i o).bind K
  | none => none

def oneCell : Value → Bool
  | .agg _ | .tuple _ => false
  | _ => true

def closedV : Value → Bool
  | .bool _ | .int _ _ | .string _ | .nilFunc | .nilIface => true
  | .pointer a => a.isNone
  | .slice a l c => a.isNone && l == 0 && c == 0
  | .map r => r.isNone
  | _ => false

def aev (t : List Value) : Operand → Option Value
  | .tmp i => some (t.getD i undef)
  | .const v => if closedV v then some v else none
  | .func f => some (.func (.func f) #[] #[])
  | .global _ => none

def aevs (t : List Value) : List Operand → Option (List Value)
  | [] => some []
  | x :: xs => match aev t x, aevs t xs with
    | some v, some vs => some (v :: vs)
    | _, _ => none

def apartsev (t : List Value) : List (Nat × Operand) → Option (List (Nat × Value))
  | [] => some []
  | (i, x) :: xs => match aev t x, apartsev t xs with
    | some v, some vs => some ((i, v) :: vs)
    | _, _ => none

def notTup : Value → Bool
  | .tuple _ => false
  | _ => true
def basicV : Value → Bool
  | .bool _ | .int _ _ | .string _ | .pointer _ | .slice _ _ _ | .nilFunc | .nilIface => true
  | _ => false

/-- parts laid into cells -/
def afill (place : Nat → Option (Nat × Nat)) (cells : List Value) : List (Nat × Value) → Option (List Value)
  | [] => some cells
  | (i, v) :: rest =>
    match place i with
    | none => none
    | some (off, size) => if notTup v = true ∧ v.cells.toList.length = size ∧ off + size ≤ cells.length then afill place (splice cells off v.cells.toList) rest else none

def szOf (P : Program) (t : TypeId) : Option Nat :=
  match P.info? t with
  | some i => some i.size
  | none => none

def places (P : Program) : List Field → Option (List (Nat × Nat))
  | [] => some []
  | f :: fs => match szOf P f.type, places P fs with
    | some n, some l => some ((f.offset, n) :: l)
    | _, _ => none

/-- the zero value's cells, all closed -/
def zeroCellsOf (P : Program) (t : TypeId) : Option (List Value) :=
  match P.info? t with
  | some i => match i.zero with
    | some z => if z.cells.toList.all closedV && z.cells.toList.length == i.size then some z.cells.toList else none
    | none => none
  | none => none

def rep (l : List Value) : Nat → List Value
  | 0 => []
  | n + 1 => l ++ rep l n

def isAggD : TypeDesc → Bool
  | .struct _ | .array _ _ => true
  | _ => false

/-- a part of a struct or an array -/
def partV (P : Program) (ty : TypeId) (cs : List Value) (off : Nat) : Option Value :=
  match P.underlying ty with
  | some d => bif isAggD d then
      (match szOf P ty with
       | some n => if off + n ≤ cs.length then some (.agg ((cs.drop off).take n).toArray) else none
       | none => none)
    else cs[off]?
  | none => none

def eqFs (P : Program) (eq : TypeId → Value → Value → Option Bool) (xs ys : List Value) : List Field → Option Bool
  | [] => some true
  | f :: fs =>
    if f.name == "_" then none else
    match partV P f.type xs f.offset, partV P f.type ys f.offset with
    | some a, some b => (eq f.type a b).bind fun r => (eqFs P eq xs ys fs).bind fun s => some (r && s)
    | _, _ => none

/-- ==, one comparison of values of a type (no interfaces, no pointers but nil) -/
def eqV (P : Program) : Nat → TypeId → Value → Value → Option Bool
  | 0, _, _, _ => none
  | d + 1, t, x, y =>
    match P.underlying t with
    | some .bool => (asB x).bind fun a => (asB y).bind fun b => some (a == b)
    | some (.int k) => (asI k x).bind fun a => (asI k y).bind fun b => some (a == b)
    | some .string => (asS x).bind fun a => (asS y).bind fun b => some (a == b)
    | some (.slice _) => (asSl x).bind fun a => (asSl y).bind fun b => if a.1.isNone then some b.1.isNone else if b.1.isNone then some false else none
    | some (.struct fs) => (asAg x).bind fun xs => (asAg y).bind fun ys => if P.stoodInHeld t then none else eqFs P (eqV P d) xs.toList ys.toList fs.toList
    | _ => none

def addrOff (a : Addr) (n : Nat) : Addr := ⟨a.block, a.off + n, a.spot⟩

/-- append(s, x): the slices' own cells -/
def apnd (P : Program) (elem : TypeId) (H : AHeap) (base : Option Addr) (sLen sCap : Nat) (news : List Value) (n : Nat) : Option (Value × AHeap) :=
  match P.info? elem with
  | none => none
  | some inf =>
    if inf.size = 0 ∨ news.length ≠ n * inf.size ∨ ¬ (sLen ≤ sCap) then none else
    if sLen + n ≤ sCap then
      if n = 0 then some (.slice base sLen sCap, H) else
      match base with
      | none => none
      | some a => (H.wr a.block (a.off + sLen * inf.size) news).bind fun H' => some (.slice base (sLen + n) sCap, H')
    else if (zeroCellsOf P elem).isNone ∨ ¬ ((sLen + n) * inf.bytes ≤ 70368744177664) ∨ ¬ (sLen + n ≤ 70368744177664) then none else
      match base with
      | none => some (.slice (some ⟨H.next, 0, none⟩) (sLen + n) (sLen + n), H.alloc none ⟨news, inf.size, .rw, 0⟩)
      | some a =>
        match H.get a.block with
        | none => none
        | some b =>
          if b.mode = .dead ∨ ¬ (a.off + sCap * inf.size ≤ b.cells.length) then none else
          let olds := (b.cells.drop a.off).take (sLen * inf.size)
          if a.spot.isSome then
            some (.slice (some ⟨H.next, 0, none⟩) (sLen + n) (sLen + n), H.alloc none ⟨olds ++ news, inf.size, .rw, 0⟩)
          else if b.mode = .rw ∧ b.esz = inf.size ∧ a.off + sCap * inf.size = b.cells.length then
            some (.slice (some ⟨H.next, 0, none⟩) (sLen + n) (sLen + n), (H.put a.block { b with mode := .dead, ver := b.ver + 1 }).alloc none ⟨olds ++ news, inf.size, .rw, 0⟩)
          else none

/-- the first n cells of a slice or a string -/
def firstC (H : AHeap) (size n : Nat) : Value → Option (List Value)
  | .slice (some a) l _ => if n ≤ l then H.row a.block a.off (n * size) else none
  | .slice none _ _ => if n = 0 then some [] else none
  | .string s => if n = s.size then some (s.data.toList.map fun b => .int .u8 b.toNat) else none
  | _ => none

def apndV (P : Program) (tys : List TypeId) (H : AHeap) (s x : Value) : Option (Value × AHeap) :=
  match tys with
  | [t, u] =>
    match P.underlying t, s with
    | some (.slice elem), .slice base sLen sCap =>
      match P.underlying u, x with
      | some (.slice _), .slice xa xl xc => match P.info? elem with
        | some inf => (firstC H inf.size xl (.slice xa xl xc)).bind fun news => apnd P elem H base sLen sCap news xl
        | none => none
      | some .string, .string s => match P.info? elem with
        | some inf => if inf.size = 1 then (firstC H 1 s.size (.string s)).bind fun news => apnd P elem H base sLen sCap news s.size else none
        | none => none
      | _, _ => none
    | _, _ => none
  | _ => none

def copyV (P : Program) (tys : List TypeId) (H : AHeap) (d x : Value) : Option (Value × AHeap) :=
  match tys with
  | t :: _ =>
    match P.underlying t, d, x with
    | some (.slice elem), .slice base dLen _, .slice xa xl xc => match P.info? elem with
      | some inf => (firstC H inf.size (min xl dLen) (.slice xa xl xc)).bind fun cells =>
        match base with
        | none => some (.int .i64 (min xl dLen : Nat), H)
        | some a => if min xl dLen = 0 then some (.int .i64 (min xl dLen : Nat), H) else (H.wr a.block a.off cells).bind fun H' => some (.int .i64 (min xl dLen : Nat), H')
      | none => none
    | _, _, _ => none
  | [] => none

def clearV (P : Program) (tys : List TypeId) (H : AHeap) (x : Value) : Option AHeap :=
  match tys with
  | [t] =>
    match P.underlying t, x with
    | some (.slice elem), .slice a n _ =>
      if n = 0 then some H else
      match a with
      | some a => (zeroCellsOf P elem).bind fun z => if z.length = 0 then none else H.wr a.block a.off (rep z n)
      | none => some H
    | _, _ => none
  | _ => none

def cutBounds (len cap : Nat) (lo hi mx : Option Int) : Option (Nat × Nat × Nat) :=
  match mx, hi with
  | some m, some h => if 0 ≤ m ∧ m ≤ cap ∧ 0 ≤ h ∧ h ≤ m ∧ 0 ≤ lo.getD 0 ∧ lo.getD 0 ≤ h then some ((lo.getD 0).toNat, h.toNat, m.toNat) else none
  | none, some h => if 0 ≤ h ∧ h ≤ cap ∧ 0 ≤ lo.getD 0 ∧ lo.getD 0 ≤ h then some ((lo.getD 0).toNat, h.toNat, cap) else none
  | none, none => if len ≤ cap ∧ 0 ≤ lo.getD 0 ∧ lo.getD 0 ≤ len then some ((lo.getD 0).toNat, len, cap) else none
  | some _, none => none

/-- x[lo:hi:mx] of a slice -/
def cutSl (size : Nat) (a : Option Addr) (len cap : Nat) (lo hi mx : Option Int) : Option (Option Addr × Nat × Nat) :=
  (cutBounds len cap lo hi mx).bind fun r =>
    some (a.map fun a => ⟨a.block, a.off + r.1 * size, if mx.isSome then some 0 else a.spot⟩, r.2.1 - r.1, r.2.2 - r.1)

def optInt (t : List Value) : Option Operand → Option (Option Int)
  | none => some none
  | some x => match aev t x with
    | some (.int .i64 n) => some (some n)
    | _ => none

def binIntK (op : BinOp) (k : IntKind) (x y : Int) (K : Value → Option R) : Option R :=
  match op with
  | .add => K (.int k (k.wrap (x + y)))
  | .sub => K (.int k (k.wrap (x - y)))
  | .mul => K (.int k (k.wrap (x * y)))
  | .quo => if y = 0 then none else K (.int k (k.wrap (x.tdiv y)))
  | .rem => if y = 0 then none else K (.int k (x.tmod y))
  | .and => K (.int k (k.wrap ((BitVec.ofInt k.bits x &&& BitVec.ofInt k.bits y).toNat : Int)))
  | .or => K (.int k (k.wrap ((BitVec.ofInt k.bits x ||| BitVec.ofInt k.bits y).toNat : Int)))
  | .xor => K (.int k (k.wrap ((BitVec.ofInt k.bits x ^^^ BitVec.ofInt k.bits y).toNat : Int)))
  | .eql => K (.bool (x == y))
  | .neq => K (.bool (x != y))
  | .lss => K (.bool (x < y))
  | .leq => K (.bool (x ≤ y))
  | .gtr => K (.bool (x > y))
  | .geq => K (.bool (x ≥ y))
  | _ => none

def binStrK (op : BinOp) (x y : ByteArray) (K : Value → Option R) : Option R :=
  match op with
  | .add => if x.size + y.size ≤ 140737488355328 then K (.string (x ++ y)) else none
  | .eql => K (.bool (x.toList == y.toList))
  | .neq => K (.bool (!(x.toList == y.toList)))
  | .lss => K (.bool (Op.bytesLess x.toList y.toList))
  | .leq => K (.bool (Op.bytesLess x.toList y.toList || x.toList == y.toList))
  | .gtr => K (.bool (!(Op.bytesLess x.toList y.toList || x.toList == y.toList)))
  | .geq => K (.bool (!Op.bytesLess x.toList y.toList))
  | _ => none

def binK (P : Program) (op : BinOp) (t : TypeId) (v w : Value) (K : Value → Option R) : Option R :=
  match v with
  | .int k x =>
    match w with
    | .int k' y =>
      match op with
      | .shl => if y < 0 then none else K (.int k (k.wrap (x * 2 ^ (min y.toNat k.bits))))
      | .shr => if y < 0 then none else K (.int k (x.fdiv (2 ^ (min y.toNat k.bits))))
      | _ => if k = k' then binIntK op k x y K else none
    | _ => none
  | .string x => (asS w).bind fun y => binStrK op x y K
  | .bool x => (asB w).bind fun y =>
    match P.underlying t with
    | some .bool => match op with
      | .eql => K (.bool (x == y))
      | .neq => K (.bool (!(x == y)))
      | _ => none
    | _ => none
  | .agg xs => (asAg w).bind fun ys =>
    if P.eqGuardType P.depth t then none else
    match op with
    | .eql => (eqV P 40 t (.agg xs) (.agg ys)).bind fun b => K (.bool b)
    | .neq => (eqV P 40 t (.agg xs) (.agg ys)).bind fun b => K (.bool (!b))
    | _ => none
  | .slice a l c => (asSl w).bind fun s =>
    match op with
    | .eql => (eqV P 40 t (.slice a l c) (.slice s.1 s.2.1 s.2.2)).bind fun b => K (.bool b)
    | .neq => (eqV P 40 t (.slice a l c) (.slice s.1 s.2.1 s.2.2)).bind fun b => K (.bool (!b))
    | _ => none
  | _ => none

def unK (op : UnOp) (v : Value) (K : Value → Option R) : Option R :=
  match op, v with
  | .neg, .int k n => K (.int k (k.wrap (0 - n)))
  | .not, .bool b => K (.bool (!b))
  | _, _ => none

/-- the smaller, the greater of integers -/
def foldInt (big : Bool) : Value → List Value → Option Value
  | v, [] => some v
  | .int k x, .int k' y :: rest => if k = k' then foldInt big (.int k (if big then (if y > x then y else x) else (if y < x then y else x))) rest else none
  | _, _ => none

abbrev CallF := FuncId → List Value → AHeap → Option (Value × AHeap)

/-- the functions of the program's text that have a body (a call of any other function is not taken) -/
def hasBody (P : Program) (f : FuncId) : Bool :=
  match P.funcs[f]? with
  | some fn => fn.body.isSome && fn.name != "runtime.NumGoroutine"
  | none => false

def callK (P : Program) (call : CallF) (o : Oper) (c : Call) (t : List Value) (H : AHeap) (K : Value → AHeap → Option R) : Option R :=
  match aevs t c.args.toList with
  | none => none
  | some args =>
    match c.callee with
    | .value f =>
      match aev t f with
      | some (.func (.func g) first captured) =>
        if hasBody P g then
          (call g (first.toList ++ args ++ captured.toList) H).bind fun p => normK (P.underlying o.type) p.1 fun v => K v p.2
        else none
      | _ => none
    | .invoke _ _ => none
    | .builtin b =>
      match b, args with
      | .len, [.string s] => match (c.argTypes.toList.head?).bind P.underlying with
        | some .string => K (.int .i64 (s.size : Int)) H
        | _ => none
      | .len, [.slice _ l _] => match (c.argTypes.toList.head?).bind P.underlying with
        | some (.slice _) => K (.int .i64 (l : Int)) H
        | _ => none
      | .append, [s, x] => (apndV P c.argTypes.toList H s x).bind fun p => normK (P.underlying o.type) p.1 fun v => K v p.2
      | .copy, [d, x] => (copyV P c.argTypes.toList H d x).bind fun p => K p.1 p.2
      | .clear, [x] => (clearV P c.argTypes.toList H x).bind fun H' => K (.tuple #[]) H'
      | .max, v :: rest => (foldInt true v rest).bind fun v => K v H
      | .min, v :: rest => (foldInt false v rest).bind fun v => K v H
      | _, _ => none

/-- one operation -/
def aopK (P : Program) (call : CallF) (slot : Option Nat) (o : Oper) (t : List Value) (H : AHeap) (K : Value → AHeap → Option R) : Option R :=
  match o.op with
  | .move x | .assign x => match aev t x with
    | some v => K v H
    | none => none
  | .pick c a b => match aev t c with
    | some (.bool s) => bif s then (match aev t a with | some v => K v H | none => none) else (match aev t b with | some v => K v H | none => none)
    | _ => none
  | .alloc elem => match zeroCellsOf P elem with
    | some z => K (.pointer (some ⟨H.newId slot, 0, none⟩)) (H.alloc slot ⟨z, 0, .rw, 0⟩)
    | none => none
  | .box _ x => match aev t x with
    | some v => bif notTup v then K (.pointer (some ⟨H.newId slot, 0, none⟩)) (H.alloc slot ⟨v.cells.toList, 0, .rw, 0⟩) else none
    | none => none
  | .build ty parts =>
    match zeroCellsOf P ty, apartsev t parts.toList with
    | some z, some vs =>
      match P.underlying ty with
      | some (.struct fs) => match places P fs.toList with
        | some pl => match afill (pl[·]?) z vs with
          | some cells => K (.agg cells.toArray) H
          | none => none
        | none => none
      | some (.array _ e) => match szOf P e with
        | some n => match afill (fun i => some (i * n, n)) z vs with
          | some cells => K (.agg cells.toArray) H
          | none => none
        | none => none
      | _ => none
    | _, _ => none
  | .buildSlice ty len parts =>
    match P.underlying ty with
    | some (.slice e) =>
      match zeroCellsOf P e, apartsev t parts.toList with
      | some z, some vs =>
        if z.length = 0 ∨ 65536 < len * z.length then none else
        match afill (fun i => some (i * z.length, z.length)) (rep z len) vs with
        | some cells => K (.slice (some ⟨H.newId slot, 0, none⟩) len len) (H.alloc slot ⟨cells, z.length, .rw, 0⟩)
        | none => none
      | _, _ => none
    | _ => none
  | .load ty x => match aev t x with
    | some (.pointer (some a)) => loadK P ty a.block a.off H fun v => K v H
    | _ => none
  | .store ty x y => match aev t x, aev t y with
    | some (.pointer (some a)), some v => match szOf P ty with
      | some n => if notTup v = true ∧ v.cells.toList.length = n then (H.wr a.block a.off v.cells.toList).bind fun H' => K undef H' else none
      | none => none
    | _, _ => none
  | .nilCheck x => match aev t x with
    | some (.pointer p) => p.bind fun a => K (.pointer (some a)) H
    | some (.func (.func f) first captured) => K (.func (.func f) first captured) H
    | _ => none
  | .binOp op ty x y _ => match aev t x, aev t y with
    | some v, some w => binK P op ty v w fun u => K u H
    | _, _ => none
  | .unOp op _ x => match aev t x with
    | some v => unK op v fun u => K u H
    | none => none
  | .convert src dst x => match aev t x with
    | some (.int _ n) => match P.underlying src, P.underlying dst with
      | some (.int _), some (.int k) => K (.int k (k.wrap n)) H
      | _, _ => none
    | _ => none
  | .makeSlice ty l c => match aev t l, aev t c with
    | some (.int .i64 n), some (.int .i64 m) =>
      if n = m then
        match P.underlying ty with
        | some (.slice e) => match zeroCellsOf P e, P.info? e with
          | some z, some inf => if z.length = 0 then none else if 0 ≤ n ∧ n * inf.bytes ≤ 70368744177664 ∧ n ≤ 70368744177664 then
              K (.slice (some ⟨H.newId slot, 0, none⟩) n.toNat n.toNat) (H.alloc slot ⟨rep z n.toNat, z.length, .rw, 0⟩)
            else none
          | _, _ => none
        | _ => none
      else none
    | _, _ => none
  | .slice ty x lo hi mx => match aev t x, optInt t lo, optInt t hi, optInt t mx with
    | some (.slice a l c), some lo, some hi, some mx => match P.underlying ty with
      | some (.slice e) => match szOf P e with
        | some n => (cutSl n a l c lo hi mx).bind fun r => K (.slice r.1 r.2.1 r.2.2) H
        | none => none
      | _ => none
    | some (.string s), some lo, some hi, some none => match P.underlying ty with
      | some .string => (cutBounds s.size s.size lo hi none).bind fun r => K (.string (s.extract r.1 r.2.1)) H
      | _ => none
    | _, _, _, _ => none
  | .fieldAddr ty x f => match aev t x with
    | some (.pointer (some a)) => match P.underlying ty with
      | some (.struct fs) => match fs.toList[f]? with
        | some fl => match szOf P fl.type with
          | some n => if n = 0 then none else K (.pointer (some ⟨a.block, a.off + fl.offset, none⟩)) H
          | none => none
        | none => none
      | _ => none
    | _ => none
  | .field ty x f => match aev t x with
    | some (.agg cs) => match P.underlying ty with
      | some (.struct fs) => match fs.toList[f]? with
        | some fl => (partV P fl.type cs.toList fl.offset).bind fun v => normK (P.underlying fl.type) v fun v => K v H
        | none => none
      | _ => none
    | _ => none
  | .indexAddr ty x ix => match aev t x, aev t ix with
    | some (.slice a l _), some (.int _ i) => match P.underlying ty with
      | some (.slice e) => match szOf P e with
        | some n => a.bind fun a => if 0 ≤ i ∧ i < (l : Int) then K (.pointer (some ⟨a.block, a.off + i.toNat * n, none⟩)) H else none
        | none => none
      | _ => none
    | some (.pointer (some a)), some (.int _ i) => match P.underlying ty with
      | some (.array l e) => match szOf P e with
        | some n => if 0 ≤ i ∧ i < (l : Int) then K (.pointer (some ⟨a.block, a.off + i.toNat * n, none⟩)) H else none
        | none => none
      | _ => none
    | _, _ => none
  | .index ty x ix => match aev t ix with
    | some (.int _ i) => match aev t x with
      | some (.agg cs) => match P.underlying ty with
        | some (.array l e) => match szOf P e with
          | some n => if 0 ≤ i ∧ i < (l : Int) then
              (partV P e cs.toList (i.toNat * n)).bind fun v => normK (P.underlying e) v fun v => K v H
            else none
          | none => none
        | _ => none
      | some (.string s) => match P.underlying ty with
        | some .string => if 0 ≤ i then (s[i.toNat]?).bind fun b => K (.int .u8 (b.toNat : Int)) H else none
        | _ => none
      | _ => none
    | _ => none
  | .extract x i => match aev t x with
    | some (.tuple vs) => (vs.toList[i]?).bind fun v => normK (P.underlying o.type) v fun v => K v H
    | _ => none
  | .makeFunc (.func f) first captured => match aevs t first.toList, aevs t captured.toList with
    | some [], some cs => bif cs.all basicV then K (.func (.func f) #[] cs.toArray) H else none
    | _, _ => none
  | .call c => callK P call o c t H K
  | _ => none

def putT (t : List Value) : Option Tmp → Value → List Value
  | some d, v => t.set d v
  | none, _ => t

/-- has the block stayed as it was? -/
def sameB (H0 H : AHeap) (i : Nat) : Bool :=
  match H0.get i, H.get i with
  | some b, some b' => b.ver == b'.ver
  | none, some b' => b'.ver == 0
  | _, none => false

/-- in a region that draws its order: a load reads what was there when the region began -/
def ldGuard (g : Option AHeap) (o : Oper) (t : List Value) (H : AHeap) (X : Option R) : Option R :=
  match g with
  | none => X
  | some H0 => match o.op with
    | .load _ x => match aev t x with
      | some (.pointer (some a)) => bif sameB H0 H a.block then X else none
      | _ => none
    | _ => X

def runOps (P : Program) (call : CallF) (g : Option AHeap) (all : List Oper) : List (Option Nat × Oper) → (List Value → AHeap → Option R) → List Value → AHeap → Option R
  | [], K, t, H => K t H
  | (s, o) :: rest, K, t, H =>
    match o.guard with
    | none => ldGuard g o t H (aopK P call s o t H fun v H' => runOps P call g all rest K (putT t o.dst v) H')
    | some (j, want) =>
      match (all[j]?).bind (·.dst) with
      | none => runOps P call g all rest K (putT t o.dst undef) H
      | some d =>
        match t[d]? with
        | some (.bool s') => bif s' then
            (bif want then ldGuard g o (t.set d (.bool true)) H (aopK P call s o (t.set d (.bool true)) H fun v H' => runOps P call g all rest K (putT (t.set d (.bool true)) o.dst v) H')
             else runOps P call g all rest K (putT (t.set d (.bool true)) o.dst undef) H)
          else
            (bif want then runOps P call g all rest K (putT (t.set d (.bool false)) o.dst undef) H
             else ldGuard g o (t.set d (.bool false)) H (aopK P call s o (t.set d (.bool false)) H fun v H' => runOps P call g all rest K (putT (t.set d (.bool false)) o.dst v) H'))
        | _ => runOps P call g all rest K (putT t o.dst undef) H

inductive Ex where
  | normal | exit (id : Nat) | ret

abbrev Kont (R : Type) := Ex → List Value → AHeap → Option R

def seqQ (K : List Value → AHeap → Option R) (Q : Kont R) : Kont R
  | .normal => K
  | .exit i => Q (.exit i)
  | .ret => Q .ret
def blkQ (id : Nat) (Q : Kont R) : Kont R
  | .normal => Q .normal
  | .exit i => if i = id then Q .normal else Q (.exit i)
  | .ret => Q .ret

def iter (body : Kont R → List Value → AHeap → Option R) (Q : Kont R) : Nat → List Value → AHeap → Option R
  | 0 => fun _ _ => none
  | k + 1 => body (seqQ (iter body Q k) Q)

/-- the operations that write memory or run other functions' text -/
def isEff (o : Oper) : Bool :=
  match o.op with
  | .store _ _ _ => true
  | .call c => match c.callee with
    | .builtin .len => false
    | .builtin .max => false
    | .builtin .min => false
    | _ => true
  | _ => false

def predMasks : List Oper → List Nat → List Nat
  | [], acc => acc
  | o :: os, acc => predMasks os (acc ++ [o.after.toList.foldl (fun s e => if Region.binds .any e then s ||| 2 ^ e.on ||| acc.getD e.on 0 else s) 0])

def effOrder (ops : List Oper) (masks : List Nat) : List Nat → List Nat → List Nat
  | [], acc => acc ++ (List.range ops.length).filter fun j => !acc.contains j
  | i :: is, acc =>
    match ops[i]? with
    | some o => if isEff o && !acc.contains i then
        effOrder ops masks is (acc ++ ((List.range ops.length).filter fun j => Nat.testBit (masks.getD i 0) j && !acc.contains j) ++ [i])
      else effOrder ops masks is acc
    | none => effOrder ops masks is acc

def drawOrder (ops : List Oper) : List Nat := effOrder ops (predMasks ops []) (List.range ops.length) []

def tmpsOf (l : List Operand) : List Tmp := l.filterMap fun | .tmp t => some t | _ => none

def looks (ops : List Oper) (o : Oper) : List Tmp :=
  tmpsOf o.op.operands.toList ++ (match o.guard with
    | some (j, _) => ((ops[j]?).bind (·.dst)).toList
    | none => [])

def apart2 (ops : List Oper) (x y : Oper) : Bool :=
  (match x.dst with
   | some d => !(looks ops y).contains d && y.dst != some d
   | none => true) &&
  (match y.dst with
   | some d => !(looks ops x).contains d
   | none => true)

/-- two operations, x ahead of y in the order that is run: either bound so, or free to change places -/
def okPair (ops : List Oper) (masks : List Nat) (i j : Nat) : Bool :=
  match ops[i]?, ops[j]? with
  | some x, some y => !Nat.testBit (masks.getD i 0) j && (Nat.testBit (masks.getD j 0) i || (apart2 ops x y && !isEff y))
  | _, _ => false

def okPairs (ops : List Oper) (masks : List Nat) : List Nat → Bool
  | [] => true
  | i :: is => is.all (okPair ops masks i) && okPairs ops masks is

def drawOk (ops : List Oper) : Bool :=
  okPairs ops (predMasks ops []) (drawOrder ops) && (drawOrder ops).length == ops.length && (List.range ops.length).all (drawOrder ops).contains &&
    (List.range ops.length).all (fun i => !Nat.testBit ((predMasks ops []).getD i 0) i) && ops.all fun o => o.after.toList.all fun e => !Region.binds .any e || decide (e.on < ops.length)

def slots (ops : List Oper) (base : Nat) (ord : List Nat) : List (Option Nat × Oper) :=
  ord.filterMap fun i => match ops[i]? with
    | some o => some (some (base + i), o)
    | none => none

def plainOps (ops : List Oper) : List (Option Nat × Oper) := ops.map fun o => (none, o)

/-! Where the text's run is cut: the rest behind a part that ends in more than one way. -/

/-- how many exits of a name -/
def exitsTo (id : Nat) : Code → Nat
  | .exit i => if i = id then 1 else 0
  | .seq a b => exitsTo id a + exitsTo id b
  | .cond _ a b => exitsTo id a + exitsTo id b
  | .block _ c => exitsTo id c
  | .loop c => exitsTo id c
  | _ => 0
/-- how many ways to the end -/
def waysOut : Code → Nat
  | .skip => 1
  | .region _ ops _ => if ops.toList.any (fun o => o.guard.isSome) then 2 else 1
  | .seq a b => waysOut a * waysOut b
  | .cond _ a b => waysOut a + waysOut b
  | .block id c => waysOut c + exitsTo id c
  | _ => 0
def codeOps : Code → Nat
  | .region _ ops _ => ops.size
  | .seq a b => codeOps a + codeOps b + 1
  | .cond _ a b => codeOps a + codeOps b + 1
  | .block _ c => codeOps c + 1
  | .loop c => codeOps c + 1
  | _ => 1
def loopy : Code → Bool
  | .seq a b => loopy a || loopy b
  | .cond _ a b => loopy a || loopy b
  | .block _ c => loopy c
  | .loop _ => true
  | _ => false
def cutAt (a b : Code) : Bool := Nat.blt 1 (waysOut a) && (Nat.blt 24 (waysOut a * codeOps b) || loopy b)
def gate {α : Type} (n : Nat) (x : α) : α :=
  match n with
  | 0 => x
  | _ + 1 => x
/-- a gate stands still where n is no number: there the kernel compares without running on -/
def gateC {α : Type} (a b : Code) (n : Nat) (x : α) : α := bif cutAt a b then gate n x else x
theorem gate_eq {α : Type} (n : Nat) (x : α) : gate n x = x := by cases n <;> rfl
theorem gateC_eq {α : Type} (a b : Code) (n : Nat) (x : α) : gateC a b n x = x := by
  unfold gateC
  cases cutAt a b
  · rfl
  · exact gate_eq n x

/-- the text's body -/
def run (P : Program) (call : CallF) (n : Nat) : Code → Kont R → List Value → AHeap → Option R
  | .skip => fun Q t H => Q .normal t H
  | .region _ ops draw => fun Q t H =>
    bif draw then
      (bif drawOk ops.toList then runOps P call (some H) ops.toList (slots ops.toList H.next (drawOrder ops.toList)) (Q .normal) t (H.bump ops.toList.length) else none)
    else runOps P call none ops.toList (plainOps ops.toList) (Q .normal) t H
  | .seq a b => fun Q t H => run P call n a (seqQ (gateC a b n (run P call n b Q)) Q) t H
  | .cond c x y => fun Q t H => match aev t c with
    | some (.bool s) => bif s then run P call n x Q t H else run P call n y Q t H
    | _ => none
  | .block id c => fun Q t H => run P call n c (blkQ id Q) t H
  | .loop c => fun Q t H => iter (run P call n c) Q n t H
  | .exit id => fun Q t H => Q (.exit id) t H
  | .ret => fun Q t H => Q .ret t H
  | _ => fun _ _ _ => none

theorem run_seq {P : Program} {call : CallF} {n : Nat} {a b : Code} {Q : Kont R} : run P call n (.seq a b) Q = run P call n a (seqQ (run P call n b Q) Q) := by
  funext t H
  simp only [run, gateC_eq]

def resK (P : Program) (t : List Value) (H : AHeap) : List ResultVar → List Value → (List Value → Option R) → Option R
  | [], acc, K => K acc
  | .tmp i :: rest, acc, K => resK P t H rest (acc ++ [t.getD i undef]) K
  | .cell a ty :: rest, acc, K => match t.getD a undef with
    | .pointer (some ad) => loadK P ty ad.block ad.off H fun v => resK P t H rest (acc ++ [v]) K
    | _ => none

end

def retV (H : AHeap) : List Value → Option (Value × AHeap)
  | [v] => some (v, H)
  | vs => bif vs.all notTup then some (.tuple vs.toArray, H) else none

def retQ (P : Program) (fn : Func) : Kont (Value × AHeap) := fun e t H =>
  match e with
  | .exit _ => none
  | _ => resK P t H fn.results.toList [] (retV H)

def runF (P : Program) (call : CallF) (n : Nat) (fn : Func) (args : List Value) (H : AHeap) : Option (Value × AHeap) :=
  match fn.body with
  | some c => if args.length ≤ fn.ntmps then run P call n c (retQ P fn) (args ++ List.replicate (fn.ntmps - args.length) undef) H else none
  | none => none

/-- a call, k: how deep calls may lie in each other and how often a loop may go round; O: the functions without parameters of which the answer is known -/
def acallO (O : FuncId → Option Bool) (P : Program) : Nat → CallF
  | 0 => fun _ _ _ => none
  | k + 1 => fun f args H => match O f with
    | some b => (match args with
      | [] => some (.bool b, H)
      | _ => none)
    | none => match P.funcs[f]? with
      | some fn => runF P (acallO O P k) k fn args H
      | none => none

abbrev acall (P : Program) : Nat → CallF := acallO (fun _ => none) P

end Go.Mx
end

section
set_option linter.unusedSimpArgs false
/- The relation between the abstract heap and the model's world. -/
namespace Go.Mx
open Go Go.RowKit

inductive All2 {α β : Type} (R : α → β → Prop) : List α → List β → Prop where
  | nil : All2 R [] []
  | cons {x y l l'} : R x y → All2 R l l' → All2 R (x :: l) (y :: l')

section
variable {α β : Type} {R S : α → β → Prop}
theorem All2.length {l : List α} {l' : List β} (h : All2 R l l') : l.length = l'.length := by
  induction h with
  | nil => rfl
  | cons _ _ ih => simp [ih]
theorem All2.mono {l : List α} {l' : List β} (h : All2 R l l') (k : ∀ x y, R x y → S x y) : All2 S l l' := by
  induction h with
  | nil => exact .nil
  | cons h1 _ ih => exact .cons (k _ _ h1) ih
theorem All2.append {a c : List α} {b d : List β} (h : All2 R a b) (k : All2 R c d) : All2 R (a ++ c) (b ++ d) := by
  induction h with
  | nil => exact k
  | cons h1 _ ih => exact .cons h1 ih
theorem All2.get {l : List α} {l' : List β} (h : All2 R l l') : ∀ (i : Nat) (x : α), l[i]? = some x → ∃ y, l'[i]? = some y ∧ R x y := by
  induction h with
  | nil => intro i x h; simp at h
  | cons h1 _ ih =>
    intro i x hx
    cases i with
    | zero => simp at hx; subst hx; exact ⟨_, by simp, h1⟩
    | succ i => simp at hx; simpa using ih i x hx
theorem All2.of_get {l : List α} : ∀ {l' : List β}, l.length = l'.length → (∀ (i : Nat) (x : α) (y : β), l[i]? = some x → l'[i]? = some y → R x y) → All2 R l l' := by
  induction l with
  | nil => intro l' hl _; cases l' with
    | nil => exact .nil
    | cons _ _ => simp at hl
  | cons a l ih =>
    intro l' hl h
    cases l' with
    | nil => simp at hl
    | cons b l' =>
      exact .cons (h 0 a b (by simp) (by simp)) (ih (by simpa using hl) fun i x y hx hy => h (i + 1) x y (by simpa using hx) (by simpa using hy))
theorem All2.take {l : List α} {l' : List β} (h : All2 R l l') : ∀ n, All2 R (l.take n) (l'.take n) := by
  induction h with
  | nil => intro n; simp; exact .nil
  | cons h1 _ ih => intro n; cases n with
    | zero => exact .nil
    | succ n => exact .cons h1 (ih n)
theorem All2.drop {l : List α} {l' : List β} (h : All2 R l l') : ∀ n, All2 R (l.drop n) (l'.drop n) := by
  induction h with
  | nil => intro n; simp; exact .nil
  | cons h1 h2 ih => intro n; cases n with
    | zero => exact .cons h1 h2
    | succ n => exact ih n
theorem All2.set {l : List α} {l' : List β} (h : All2 R l l') {x : α} {y : β} (hr : R x y) : ∀ n, All2 R (l.set n x) (l'.set n y) := by
  induction h with
  | nil => intro n; simp; exact .nil
  | cons h1 h2 ih => intro n; cases n with
    | zero => exact .cons hr h2
    | succ n => exact .cons h1 (ih n)
theorem All2.getD {l : List α} {l' : List β} (h : All2 R l l') {x : α} {y : β} (hr : R x y) (n : Nat) : R (l.getD n x) (l'.getD n y) := by
  cases hn : l[n]? with
  | some v =>
    obtain ⟨v', hv', hR⟩ := h.get n v hn
    simpa [List.getD, hn, hv'] using hR
  | none =>
    have : l'[n]? = none := by
      rw [List.getElem?_eq_none_iff] at hn ⊢
      rw [← h.length]; exact hn
    simpa [List.getD, hn, this] using hr
theorem All2.replicate {x : α} {y : β} (hr : R x y) : ∀ n, All2 R (List.replicate n x) (List.replicate n y)
  | 0 => .nil
  | n + 1 => by simp only [List.replicate_succ]; exact .cons hr (All2.replicate hr n)
end

abbrev Ren := Nat → Option (Addr × Nat)

def BRel (ρ : Ren) : Value → Value → Prop
  | .bool b, v' => v' = .bool b
  | .int k n, v' => v' = .int k n
  | .string s, v' => v' = .string s
  | .nilFunc, v' => v' = .nilFunc
  | .nilIface, v' => v' = .nilIface
  | .map none, v' => v' = .map none
  | .pointer none, v' => v' = .pointer none
  | .pointer (some a), v' => a.spot = none ∧ ∃ ad sl, ρ a.block = some (ad, sl) ∧ v' = .pointer (some (ad.add a.off))
  | .slice none l c, v' => l = 0 ∧ c = 0 ∧ v' = .slice none 0 0
  | .slice (some a) l c, v' => l ≤ c ∧ ((c = 0 ∧ ∃ a', v' = .slice (some a') 0 0) ∨
      ∃ ad sl, ρ a.block = some (ad, sl) ∧ v' = .slice (some (ad.add a.off)) l (c + if a.spot.isSome then 0 else sl))
  | _, _ => False

def SRel (ρ : Ren) (v v' : Value) : Prop :=
  BRel ρ v v' ∨ ∃ f cs cs', v = .func (.func f) #[] cs ∧ v' = .func (.func f) #[] cs' ∧ All2 (BRel ρ) cs.toList cs'.toList

def VR1 (ρ : Ren) (v v' : Value) : Prop :=
  SRel ρ v v' ∨ ∃ cs cs' : Array Value, v = .agg cs ∧ v' = .agg cs' ∧ All2 (SRel ρ) cs.toList cs'.toList

def VRel (ρ : Ren) (v v' : Value) : Prop :=
  VR1 ρ v v' ∨ ∃ cs cs' : Array Value, v = .tuple cs ∧ v' = .tuple cs' ∧ All2 (VR1 ρ) cs.toList cs'.toList

def Ren.le (ρ ρ' : Ren) : Prop := ∀ i x, ρ i = some x → ρ' i = some x
theorem Ren.le_refl (ρ : Ren) : ρ.le ρ := fun _ _ h => h
theorem Ren.le_trans {a b c : Ren} (h : a.le b) (k : b.le c) : a.le c := fun i x hx => k i x (h i x hx)

theorem BRel.mono {ρ ρ' : Ren} (hle : ρ.le ρ') : ∀ {v v' : Value}, BRel ρ v v' → BRel ρ' v v' := by
  intro v v' h
  cases v with
  | pointer a => cases a with
    | none => exact h
    | some a => obtain ⟨hs, ad, sl, hr, hv⟩ := h; exact ⟨hs, ad, sl, hle _ _ hr, hv⟩
  | slice a l c => cases a with
    | none => exact h
    | some a =>
      obtain ⟨hlc, h⟩ := h
      refine ⟨hlc, ?_⟩
      rcases h with h | ⟨ad, sl, hr, hv⟩
      · exact .inl h
      · exact .inr ⟨ad, sl, hle _ _ hr, hv⟩
  | map r => cases r with
    | none => exact h
    | some _ => exact h.elim
  | _ => exact h

theorem SRel.mono {ρ ρ' : Ren} (hle : ρ.le ρ') {v v' : Value} (h : SRel ρ v v') : SRel ρ' v v' := by
  rcases h with h | ⟨f, cs, cs', h1, h2, h3⟩
  · exact .inl (h.mono hle)
  · exact .inr ⟨f, cs, cs', h1, h2, h3.mono fun _ _ => BRel.mono hle⟩

theorem VR1.mono {ρ ρ' : Ren} (hle : ρ.le ρ') {v v' : Value} (h : VR1 ρ v v') : VR1 ρ' v v' := by
  rcases h with h | ⟨cs, cs', h1, h2, h3⟩
  · exact .inl (h.mono hle)
  · exact .inr ⟨cs, cs', h1, h2, h3.mono fun _ _ => SRel.mono hle⟩

theorem VRel.mono {ρ ρ' : Ren} (hle : ρ.le ρ') {v v' : Value} (h : VRel ρ v v') : VRel ρ' v v' := by
  rcases h with h | ⟨cs, cs', h1, h2, h3⟩
  · exact .inl (h.mono hle)
  · exact .inr ⟨cs, cs', h1, h2, h3.mono fun _ _ => VR1.mono hle⟩

theorem BRel.v {ρ : Ren} {v v' : Value} (h : BRel ρ v v') : VRel ρ v v' := .inl (.inl (.inl h))
theorem SRel.v {ρ : Ren} {v v' : Value} (h : SRel ρ v v') : VRel ρ v v' := .inl (.inl h)
theorem VR1.v {ρ : Ren} {v v' : Value} (h : VR1 ρ v v') : VRel ρ v v' := .inl h
theorem VRel.undef (ρ : Ren) : VRel ρ undef undef := .inr ⟨#[], #[], rfl, rfl, .nil⟩

theorem closedV_rel (ρ : Ren) : ∀ {v : Value}, closedV v = true → BRel ρ v v := by
  intro v h
  cases v with
  | pointer a => cases a with
    | none => rfl
    | some _ => simp [closedV] at h
  | slice a l c => cases a with
    | none => simp [closedV] at h; obtain ⟨rfl, rfl⟩ := h; exact ⟨rfl, rfl, rfl⟩
    | some _ => simp [closedV] at h
  | map r => cases r with
    | none => rfl
    | some _ => simp [closedV] at h
  | bool _ => rfl
  | int _ _ => rfl
  | string _ => rfl
  | nilFunc => rfl
  | nilIface => rfl
  | _ => simp [closedV] at h

/-! what the related value looks like -/
section inv
variable {ρ : Ren} {v' : Value}
theorem VRel.int {k : IntKind} {n : Int} (h : VRel ρ (.int k n) v') : v' = .int k n := by
  rcases h with ((h | ⟨_, _, _, h, _⟩) | ⟨_, _, h, _⟩) | ⟨_, _, h, _⟩
  · exact h
  all_goals cases h
theorem VRel.bool {b : Bool} (h : VRel ρ (.bool b) v') : v' = .bool b := by
  rcases h with ((h | ⟨_, _, _, h, _⟩) | ⟨_, _, h, _⟩) | ⟨_, _, h, _⟩
  · exact h
  all_goals cases h
theorem VRel.string {s : ByteArray} (h : VRel ρ (.string s) v') : v' = .string s := by
  rcases h with ((h | ⟨_, _, _, h, _⟩) | ⟨_, _, h, _⟩) | ⟨_, _, h, _⟩
  · exact h
  all_goals cases h
theorem VRel.nilFunc (h : VRel ρ .nilFunc v') : v' = .nilFunc := by
  rcases h with ((h | ⟨_, _, _, h, _⟩) | ⟨_, _, h, _⟩) | ⟨_, _, h, _⟩
  · exact h
  all_goals cases h
theorem VRel.ptr {p : Option Addr} (h : VRel ρ (.pointer p) v') : BRel ρ (.pointer p) v' := by
  rcases h with ((h | ⟨_, _, _, h, _⟩) | ⟨_, _, h, _⟩) | ⟨_, _, h, _⟩
  · exact h
  all_goals cases h
theorem VRel.slice {a : Option Addr} {l c : Nat} (h : VRel ρ (.slice a l c) v') : BRel ρ (.slice a l c) v' := by
  rcases h with ((h | ⟨_, _, _, h, _⟩) | ⟨_, _, h, _⟩) | ⟨_, _, h, _⟩
  · exact h
  all_goals cases h
theorem VRel.agg {cs : Array Value} (h : VRel ρ (.agg cs) v') : ∃ cs', v' = .agg cs' ∧ All2 (SRel ρ) cs.toList cs'.toList := by
  rcases h with ((h | ⟨_, _, _, h, _⟩) | ⟨_, _, h, h2, h3⟩) | ⟨_, _, h, _⟩
  · exact h.elim
  · cases h
  · cases h; exact ⟨_, h2, h3⟩
  · cases h
theorem VRel.tuple {cs : Array Value} (h : VRel ρ (.tuple cs) v') : ∃ cs', v' = .tuple cs' ∧ All2 (VR1 ρ) cs.toList cs'.toList := by
  rcases h with ((h | ⟨_, _, _, h, _⟩) | ⟨_, _, h, h2, h3⟩) | ⟨_, _, h, h2, h3⟩
  · exact h.elim
  · cases h
  · cases h
  · cases h; exact ⟨_, h2, h3⟩
theorem VRel.fn {f : FuncId} {first cs : Array Value} (h : VRel ρ (.func (.func f) first cs) v') :
    first = #[] ∧ ∃ cs', v' = .func (.func f) #[] cs' ∧ All2 (BRel ρ) cs.toList cs'.toList := by
  rcases h with ((h | ⟨_, _, _, h, h2, h3⟩) | ⟨_, _, h, _⟩) | ⟨_, _, h, _⟩
  · exact h.elim
  · cases h; exact ⟨rfl, _, h2, h3⟩
  · cases h
  · cases h
/-- the cells of related values -/
theorem VRel.cells {v : Value} (h : VRel ρ v v') (hnt : ∀ a, v ≠ .tuple a) : All2 (SRel ρ) v.cells.toList v'.cells.toList := by
  rcases h with (h | ⟨cs, cs', rfl, rfl, h⟩) | ⟨_, _, rfl, _⟩
  · have e1 : v.cells = #[v] := by
      rcases h with h | ⟨_, _, _, rfl, _⟩
      · cases v <;> first | rfl | exact h.elim
      · rfl
    have e2 : v'.cells = #[v'] := by
      rcases h with h | ⟨_, _, _, _, rfl, _⟩
      · cases v with
        | pointer a => cases a with
          | none => rw [show v' = _ from h]; rfl
          | some a => obtain ⟨_, _, _, _, rfl⟩ := h; rfl
        | slice a l c => cases a with
          | none => obtain ⟨_, _, rfl⟩ := h; rfl
          | some a => obtain ⟨_, ⟨_, _, rfl⟩ | ⟨_, _, _, rfl⟩⟩ := h <;> rfl
        | map r => cases r with
          | none => rw [show v' = _ from h]; rfl
          | some _ => exact h.elim
        | bool _ => rw [show v' = _ from h]; rfl
        | int _ _ => rw [show v' = _ from h]; rfl
        | string _ => rw [show v' = _ from h]; rfl
        | nilFunc => rw [show v' = _ from h]; rfl
        | nilIface => rw [show v' = _ from h]; rfl
        | _ => exact h.elim
      · rfl
    rw [e1, e2]
    exact .cons h .nil
  · exact h
  · exact absurd rfl (hnt _)
/-- a cell's value is no struct -/
theorem SRel.one {v : Value} (h : SRel ρ v v') : v'.oneCell' = true := by
  rcases h with h | ⟨_, _, _, _, rfl, _⟩
  · cases v with
    | pointer a => cases a with
      | none => rw [show v' = _ from h]; rfl
      | some a => obtain ⟨_, _, _, _, rfl⟩ := h; rfl
    | slice a l c => cases a with
      | none => obtain ⟨_, _, rfl⟩ := h; rfl
      | some a => obtain ⟨_, ⟨_, _, rfl⟩ | ⟨_, _, _, rfl⟩⟩ := h <;> rfl
    | map r => cases r with
      | none => rw [show v' = _ from h]; rfl
      | some _ => exact h.elim
    | bool _ => rw [show v' = _ from h]; rfl
    | int _ _ => rw [show v' = _ from h]; rfl
    | string _ => rw [show v' = _ from h]; rfl
    | nilFunc => rw [show v' = _ from h]; rfl
    | nilIface => rw [show v' = _ from h]; rfl
    | _ => exact h.elim
  · rfl
end inv

/-! the heap -/
def BlkRel (ρ : Ren) (w : World) (B : Nat) (b : Blk) (ad : Addr) (sl : Nat) : Prop :=
  match b.mode with
  | .dead => True
  | .ro => (b.cells ≠ [] → ad.block < B) ∧ ∀ m v, b.cells[m]? = some v → ∃ v', w.cell? (ad.add m) = some v' ∧ SRel ρ v v'
  | .rw => ad.spot = none ∧ B ≤ ad.block ∧ ∃ cs' e, w.heap[ad.block]? = some (.cells cs' e (0, 0)) ∧
      cs'.size = ad.off + b.cells.length + sl * b.esz ∧ All2 (SRel ρ) b.cells ((cs'.toList.drop ad.off).take b.cells.length)

structure Rel (w0 : World) (ρ : Ren) (H : AHeap) (w : World) : Prop where
  below : Below w0.heap.size w0 w
  dom : ∀ i, H.get i = none ↔ ρ i = none
  blk : ∀ i b, H.get i = some b → ∃ ad sl, ρ i = some (ad, sl) ∧ BlkRel ρ w w0.heap.size b ad sl
  inj : ∀ i j b b' ad sl ad' sl', H.get i = some b → b.mode = .rw → H.get j = some b' → b'.mode = .rw → i ≠ j →
    ρ i = some (ad, sl) → ρ j = some (ad', sl') → ad.block ≠ ad'.block
  fresh : ∀ i, H.next ≤ i → H.get i = none

abbrev TRel (ρ : Ren) (t : List Value) (a : Act) : Prop := All2 (VRel ρ) t a.tmps.toList ∧ a.defers = []

theorem BlkRel.mono {ρ ρ' : Ren} (hle : ρ.le ρ') {w : World} {B : Nat} {b : Blk} {ad : Addr} {sl : Nat} (h : BlkRel ρ w B b ad sl) : BlkRel ρ' w B b ad sl := by
  unfold BlkRel at *
  split
  · trivial
  · rename_i hm; rw [hm] at h
    exact ⟨h.1, fun m v hv => let ⟨v', h1, h2⟩ := h.2 m v hv; ⟨v', h1, h2.mono hle⟩⟩
  · rename_i hm; rw [hm] at h
    obtain ⟨h1, h2, cs', e, h3, h4, h5⟩ := h
    exact ⟨h1, h2, cs', e, h3, h4, h5.mono fun _ _ => SRel.mono hle⟩

theorem Rel.drew {w0 : World} {ρ : Ren} {H : AHeap} {w : World} (h : Rel w0 ρ H w) : Rel w0 ρ H { w with drawn := w.drawn + 1 } :=
  ⟨⟨h.below.os, h.below.tape, h.below.output, h.below.size, h.below.block⟩, h.dom, h.blk, h.inj, h.fresh⟩
theorem Rel.bump {w0 : World} {ρ : Ren} {H : AHeap} {w : World} (h : Rel w0 ρ H w) (n : Nat) : Rel w0 ρ (H.bump n) w :=
  ⟨h.below, h.dom, h.blk, h.inj, fun i hi => h.fresh i (by simp only [AHeap.bump] at hi; omega)⟩

theorem Addr.add_add (a : Addr) (m n : Nat) : (a.add m).add n = a.add (m + n) := by
  unfold Addr.add
  split
  · rename_i h; subst h; simp
  · split
    · rename_i h2; subst h2; simp [*]
    · rw [if_neg (by omega)]; simp [Nat.add_assoc]
theorem Addr.add_block (a : Addr) (m : Nat) : (a.add m).block = a.block := by unfold Addr.add; split <;> rfl

/-- a cell of the abstract heap is a cell of the world -/
theorem Rel.cell {w0 : World} {ρ : Ren} {H : AHeap} {w : World} (h : Rel w0 ρ H w) {i o : Nat} {v : Value} (hc : H.cell i o = some v)
    {ad : Addr} {sl : Nat} (hr : ρ i = some (ad, sl)) : ∃ v', w.cell? (ad.add o) = some v' ∧ SRel ρ v v' := by
  unfold AHeap.cell at hc
  cases hg : H.get i with
  | none => simp [hg] at hc
  | some b =>
    simp only [hg] at hc
    obtain ⟨ad', sl', hr', hb⟩ := h.blk i b hg
    rw [hr] at hr'
    obtain ⟨rfl, rfl⟩ : ad = ad' ∧ sl = sl' := by simpa using hr'
    by_cases hd : b.mode = .dead
    · simp [hd] at hc
    · rw [if_neg hd] at hc
      unfold BlkRel at hb
      split at hb
      · rename_i hm; exact absurd hm hd
      · exact hb.2 o v hc
      · obtain ⟨hs, _, cs', e, hh, hz, ha⟩ := hb
        obtain ⟨v', hv', hR⟩ := ha.get o v hc
        refine ⟨v', ?_, hR⟩
        have hlt : o < b.cells.length := by
          rcases Nat.lt_or_ge o b.cells.length with h | h
          · exact h
          · rw [List.getElem?_eq_none h] at hc; cases hc
        rw [List.getElem?_take, if_pos hlt, List.getElem?_drop] at hv'
        obtain ⟨blk, off, spot⟩ := ad
        simp only at hs; subst hs
        rw [Addr.add_lit]
        simp only [World.cell?, hh]
        simpa using hv'

theorem Rel.row {w0 : World} {ρ : Ren} {H : AHeap} {w : World} (h : Rel w0 ρ H w) {i o n : Nat} {l : List Value} (hc : H.row i o n = some l)
    {ad : Addr} {sl : Nat} (hr : ρ i = some (ad, sl)) :
    ∃ l', All2 (SRel ρ) l l' ∧ l.length = n ∧ ∀ j v, l'[j]? = some v → w.cell? ((ad.add o).add j) = some v := by
  unfold AHeap.row at hc
  cases hg : H.get i with
  | none => simp [hg] at hc
  | some b =>
    simp only [hg] at hc
    split at hc
    · rename_i hcond
      obtain ⟨hd, hle⟩ := hcond
      have hl : l = (b.cells.drop o).take n := by simpa using hc.symm
      have hlen : l.length = n := by rw [hl]; simp; omega
      have key : ∀ m, m < n → ∃ v', w.cell? (ad.add (o + m)) = some v' ∧ ∃ v, l[m]? = some v ∧ SRel ρ v v' := by
        intro m hm
        have hlt : o + m < b.cells.length := by omega
        have hcell : H.cell i (o + m) = some b.cells[o + m] := by
          simp [AHeap.cell, hg, hd, List.getElem?_eq_getElem hlt]
        obtain ⟨v', h1, h2⟩ := h.cell hcell hr
        refine ⟨v', h1, b.cells[o + m], ?_, h2⟩
        rw [hl, List.getElem?_take, if_pos hm, List.getElem?_drop, List.getElem?_eq_getElem hlt]
      refine ⟨(List.range n).map fun m => (w.cell? (ad.add (o + m))).getD undef, ?_, hlen, ?_⟩
      · apply All2.of_get
        · simp [hlen]
        · intro m x y hx hy
          have hm : m < n := by
            rcases Nat.lt_or_ge m n with h | h
            · exact h
            · rw [List.getElem?_eq_none (by omega)] at hx; cases hx
          obtain ⟨v', h1, v, h2, h3⟩ := key m hm
          rw [hx] at h2; cases h2
          simp [hm, h1] at hy
          subst hy
          exact h3
      · intro m v hv
        have hm : m < n := by
          rcases Nat.lt_or_ge m n with h | h
          · exact h
          · rw [List.getElem?_eq_none (by simp; omega)] at hv; cases hv
        obtain ⟨v', h1, _⟩ := key m hm
        simp [hm, h1] at hv
        subst hv
        rw [Addr.add_add]
        exact h1
    · cases hc

/-- a new block -/
def Ren.ext (ρ : Ren) (i : Nat) (x : Addr × Nat) : Ren := fun j => if j = i then some x else ρ j
theorem Ren.ext_le {ρ : Ren} {i : Nat} (h : ρ i = none) (x : Addr × Nat) : ρ.le (ρ.ext i x) := by
  intro j y hy
  unfold Ren.ext
  split
  · rename_i e; subst e; rw [h] at hy; cases hy
  · exact hy
theorem Ren.ext_self (ρ : Ren) (i : Nat) (x : Addr × Nat) : ρ.ext i x i = some x := by simp [Ren.ext]

theorem AHeap.get_alloc (H : AHeap) (slot : Option Nat) (b : Blk) (j : Nat) : (H.alloc slot b).get j = if j = H.newId slot then some b else H.get j := by
  cases slot <;> rfl
theorem AHeap.next_alloc (H : AHeap) (slot : Option Nat) (b : Blk) : (H.alloc slot b).next = if slot.isNone then H.next + 1 else H.next := by
  cases slot <;> rfl

theorem BlkRel.below {ρ : Ren} {w w' : World} {B : Nat} {b : Blk} {ad : Addr} {sl : Nat} (h : BlkRel ρ w B b ad sl)
    (hb : ∀ k, k < B → w'.heap[k]? = w.heap[k]?) (hk : b.mode = .rw → w'.heap[ad.block]? = w.heap[ad.block]?) : BlkRel ρ w' B b ad sl := by
  unfold BlkRel at *
  split
  · trivial
  · rename_i hm; rw [hm] at h
    refine ⟨h.1, fun m v hv => ?_⟩
    obtain ⟨v', h1, h2⟩ := h.2 m v hv
    refine ⟨v', ?_, h2⟩
    have hlt : ad.block < B := h.1 (by intro e; rw [e] at hv; simp at hv)
    rw [World.cell?_of_block (w := w) (by rw [Addr.add_block]; exact hb _ hlt)]
    exact h1
  · rename_i hm; rw [hm] at h
    obtain ⟨h1, h2, cs', e, h3, h4, h5⟩ := h
    exact ⟨h1, h2, cs', e, by rw [hk hm]; exact h3, h4, h5⟩

theorem Rel.rho_some {w0 : World} {ρ : Ren} {H : AHeap} {w : World} (h : Rel w0 ρ H w) {i : Nat} {b : Blk} (hb : H.get i = some b) : ∃ x, ρ i = some x := by
  obtain ⟨ad, sl, hr, _⟩ := h.blk i b hb
  exact ⟨_, hr⟩

theorem Rel.alloc {w0 : World} {ρ : Ren} {H : AHeap} {w : World} (h : Rel w0 ρ H w) (slot : Option Nat) (hf : H.get (H.newId slot) = none)
    (hs : ∀ i, slot = some i → i < H.next) (b : Blk) (hbm : b.mode = .rw) (cs' : Array Value) (e : TypeId) (sl : Nat)
    (hz : cs'.size = b.cells.length + sl * b.esz) (ha : All2 (SRel ρ) b.cells (cs'.toList.take b.cells.length)) :
    Rel w0 (ρ.ext (H.newId slot) (⟨w.heap.size, 0, none⟩, sl)) (H.alloc slot b) (w.alloc (.cells cs' e)) ∧ ρ.le (ρ.ext (H.newId slot) (⟨w.heap.size, 0, none⟩, sl)) := by
  have hρ : ρ (H.newId slot) = none := (h.dom _).1 hf
  have hle := Ren.ext_le hρ (⟨w.heap.size, 0, none⟩, sl)
  refine ⟨⟨h.below.alloc h.below.size _, ?_, ?_, ?_, ?_⟩, hle⟩
  · intro i
    rw [AHeap.get_alloc]
    unfold Ren.ext
    split
    · simp
    · exact h.dom i
  · intro i b' hb'
    rw [AHeap.get_alloc] at hb'
    split at hb'
    · rename_i e1; subst e1
      obtain rfl : b = b' := by simpa using hb'
      refine ⟨_, _, Ren.ext_self _ _ _, ?_⟩
      unfold BlkRel
      rw [hbm]
      refine ⟨rfl, h.below.size, cs', e, heap_alloc_new w _, by simpa using hz, ?_⟩
      simpa using ha.mono fun _ _ => SRel.mono hle
    · rename_i e1
      obtain ⟨ad, sl', hr, hb⟩ := h.blk i b' hb'
      refine ⟨ad, sl', hle _ _ hr, (hb.mono hle).below (fun k hk => heap_alloc_old w _ k (Nat.lt_of_lt_of_le hk h.below.size)) ?_⟩
      intro hm
      unfold BlkRel at hb
      rw [hm] at hb
      obtain ⟨_, _, cs2, e2, h3, _⟩ := hb
      exact heap_alloc_old w _ _ (Array.getElem?_eq_some_iff.1 h3).1
  · intro i j b1 b2 ad1 sl1 ad2 sl2 h1 m1 h2 m2 hne r1 r2
    have old : ∀ (i : Nat) (b1 : Blk) (ad1 : Addr) (sl1 : Nat), H.get i = some b1 → b1.mode = .rw → ρ i = some (ad1, sl1) → ad1.block < w.heap.size := by
      intro i b1 ad1 sl1 h1 m1 r1
      obtain ⟨ad, sl', hr, hb⟩ := h.blk i b1 h1
      rw [r1] at hr; cases hr
      unfold BlkRel at hb
      rw [m1] at hb
      obtain ⟨_, _, cs2, e2, h3, _⟩ := hb
      exact (Array.getElem?_eq_some_iff.1 h3).1
    rw [AHeap.get_alloc] at h1 h2
    unfold Ren.ext at r1 r2
    split at h1
    · rename_i e1; subst e1
      rw [if_neg (fun e => hne e.symm)] at h2 r2
      simp at r1
      obtain ⟨rfl, rfl⟩ := r1
      have := old j b2 ad2 sl2 h2 m2 r2
      simp only; omega
    · rename_i e1
      rw [if_neg e1] at r1
      split at h2
      · rename_i e2; subst e2
        simp at r2
        obtain ⟨rfl, rfl⟩ := r2
        have := old i b1 ad1 sl1 h1 m1 r1
        simp only; omega
      · rename_i e2
        rw [if_neg e2] at r2
        exact h.inj i j b1 b2 ad1 sl1 ad2 sl2 h1 m1 h2 m2 hne r1 r2
  · intro i hi
    rw [AHeap.get_alloc]
    cases slot with
    | none =>
      have hi' : H.next + 1 ≤ i := hi
      exact (if_neg (show ¬ i = H.newId none from fun e => by have e' : i = H.next := e; omega)).trans (h.fresh i (by omega))
    | some j =>
      have hj := hs j rfl
      have hi' : H.next ≤ i := hi
      exact (if_neg (show ¬ i = H.newId (some j) from fun e => by have e' : i = j := e; omega)).trans (h.fresh i hi')

theorem splice_length {l : List Value} {o : Nat} {vs : List Value} (h : o + vs.length ≤ l.length) : (splice l o vs).length = l.length := by
  simp [splice]; omega

theorem All2.splice {R : Value → Value → Prop} {l l' vs vs' : List Value} (h : All2 R l l') (k : All2 R vs vs') (o : Nat) : All2 R (splice l o vs) (splice l' o vs') := by
  unfold Mx.splice
  rw [← k.length]
  exact ((h.take o).append k).append (h.drop _)

/-- cells written -/
theorem Rel.wr {w0 : World} {ρ : Ren} {H H' : AHeap} {w : World} (h : Rel w0 ρ H w) {i o : Nat} {vs vs' : List Value} (hw : H.wr i o vs = some H')
    (hv : All2 (SRel ρ) vs vs') {ad : Addr} {sl : Nat} (hr : ρ i = some (ad, sl)) (P : Program) :
    ∃ w', (storeCells (ad.add o) vs').run P w = .ok () w' ∧ Rel w0 ρ H' w' := by
  unfold AHeap.wr at hw
  cases hg : H.get i with
  | none => simp [hg] at hw
  | some b =>
    simp only [hg] at hw
    split at hw
    · rename_i hcond
      obtain ⟨hm, hle⟩ := hcond
      obtain rfl := Option.some.inj hw
      obtain ⟨ad', sl', hr', hb⟩ := h.blk i b hg
      rw [hr] at hr'
      obtain ⟨rfl, rfl⟩ : ad = ad' ∧ sl = sl' := by simpa using hr'
      have hb0 := hb
      unfold BlkRel at hb
      rw [hm] at hb
      obtain ⟨hs, hB, cs', e, hh, hz, ha⟩ := hb
      obtain ⟨g, off, spot⟩ := ad
      simp only at hs hB hh hz ha; subst hs
      have hlen := hv.length
      have hst := run_storeCells_at P g (off + o) e vs' 0 cs' w hh (by omega) (fun v hvm => by
        obtain ⟨k, hk, rfl⟩ := List.getElem_of_mem hvm
        have hk2 : k < vs.length := by omega
        obtain ⟨y, hy, hR⟩ := hv.get k vs[k] (List.getElem?_eq_getElem hk2)
        rw [List.getElem?_eq_getElem hk] at hy
        obtain rfl := Option.some.inj hy
        exact hR.one)
      rw [Addr.add_lit]
      refine ⟨_, hst, ?_⟩
      simp only [Nat.add_zero]
      have hnew : (cs'.toList.take (off + o) ++ vs' ++ cs'.toList.drop (off + o + vs'.length)) = splice cs'.toList (off + o) vs' := rfl
      have hcl : cs'.toList.length = cs'.size := Array.length_toList
      have key : (splice cs'.toList (off + o) vs').drop off = splice (cs'.toList.drop off) o vs' := by
        unfold splice
        apply List.ext_getElem?
        intro m
        rw [List.getElem?_drop]
        simp only [List.getElem?_append, List.length_append, List.length_take, List.length_drop, List.getElem?_take, List.getElem?_drop]
        repeat' split
        all_goals first | omega | (congr 1; done) | (congr 1; omega)
      have key2 : (splice (cs'.toList.drop off) o vs').take b.cells.length = splice ((cs'.toList.drop off).take b.cells.length) o vs' := by
        unfold splice
        apply List.ext_getElem?
        intro m
        simp only [List.getElem?_append, List.length_append, List.length_take, List.length_drop, List.getElem?_take, List.getElem?_drop]
        repeat' split
        all_goals first | omega | rfl | skip
        all_goals (first | (congr 1; omega) | (rw [List.getElem?_eq_none]; omega) | (symm; rw [List.getElem?_eq_none]; omega))
      refine ⟨?_, ?_, ?_, ?_, ?_⟩
      · refine h.below.trans ⟨rfl, rfl, rfl, by simp [World.setRow], fun k hk => setRow_other w g k _ (by omega)⟩
      · intro j
        simp only [AHeap.put]
        split
        · rename_i e1; subst e1; simp [hr]
        · exact h.dom j
      · intro j b' hb'
        simp only [AHeap.put] at hb'
        split at hb'
        · rename_i e1; subst e1
          obtain rfl := Option.some.inj hb'
          refine ⟨_, _, hr, ?_⟩
          unfold BlkRel
          simp only [hm]
          refine ⟨trivial, hB, _, e, setRow_heap w g cs' _ e (0, 0) hh, ?_, ?_⟩
          · rw [splice_length hle]
            simp only [List.size_toArray, hnew]
            rw [splice_length (by omega)]
            omega
          · rw [splice_length hle, hnew]
            show All2 _ _ (List.take _ (List.drop _ (splice _ _ _)))
            rw [key, key2]
            exact ha.splice hv o
        · rename_i e1
          obtain ⟨ad2, sl2, hr2, hb2⟩ := h.blk j b' hb'
          refine ⟨ad2, sl2, hr2, hb2.below (fun k hk => setRow_other w g k _ (by omega)) ?_⟩
          intro hm2
          refine setRow_other w g _ _ ?_
          exact h.inj j i b' b ad2 sl2 _ _ hb' hm2 hg hm e1 hr2 hr
      · intro j1 j2 b1 b2 ad1 sl1 ad2 sl2 h1 m1 h2 m2 hne r1 r2
        simp only [AHeap.put] at h1 h2
        have : ∀ j bb, (if j = i then some ({ b with cells := splice b.cells o vs, ver := b.ver + 1 } : Blk) else H.get j) = some bb → bb.mode = .rw → ∃ bb', H.get j = some bb' ∧ bb'.mode = .rw := by
          intro j bb hj hmj
          split at hj
          · rename_i e1; subst e1; exact ⟨b, hg, hm⟩
          · exact ⟨bb, hj, hmj⟩
        obtain ⟨c1, k1, l1⟩ := this _ _ h1 m1
        obtain ⟨c2, k2, l2⟩ := this _ _ h2 m2
        exact h.inj j1 j2 c1 c2 ad1 sl1 ad2 sl2 k1 l1 k2 l2 hne r1 r2
      · intro j hj
        simp only [AHeap.put] at hj ⊢
        split
        · rename_i e1; subst e1; rw [h.fresh _ hj] at hg; cases hg
        · exact h.fresh j hj
    · cases hw
end Go.Mx
end

section
set_option linter.unusedSimpArgs false
/- Each operation of the machine is an operation of the model. -/
namespace Go.Mx
open Go Go.RowKit

section cps
variable {R : Type}
theorem normK_cps (d : Option TypeDesc) (v : Value) (K : Value → Option R) : normK d v K = (normK d v some).bind K := by
  unfold normK
  split <;> simp [Option.bind_assoc]
theorem normK_id {d : Option TypeDesc} {v v' : Value} (h : normK d v some = some v') : v' = v := by
  unfold normK at h
  split at h
  · cases v with
    | int k' n =>
      simp only [asI] at h
      split at h
      · rename_i e; subst e; simpa using h.symm
      · simp at h
    | _ => simp [asI] at h
  · cases v <;> simp [asB] at h
    exact h.symm
  · cases v <;> simp [asS] at h
    exact h.symm
  · cases v <;> simp [asSl] at h
    exact h.symm
  · cases v <;> simp [asPt] at h
    exact h.symm
  · cases v <;> simp [asAg] at h
    exact h.symm
  · cases v <;> simp [asAg] at h
    exact h.symm
  · cases v <;> simp [asTp] at h
    exact h.symm
  · exact (Option.some.inj h).symm
theorem loadK_cps (P : Program) (t : TypeId) (i o : Nat) (H : AHeap) (K : Value → Option R) : loadK P t i o H K = (loadK P t i o H some).bind K := by
  unfold loadK
  split <;> (try split) <;> simp [Option.bind_assoc]
theorem binIntK_cps (op : BinOp) (k : IntKind) (x y : Int) (K : Value → Option R) : binIntK op k x y K = (binIntK op k x y some).bind K := by
  cases op <;> simp only [binIntK] <;> (try split) <;> simp
theorem binStrK_cps (op : BinOp) (x y : ByteArray) (K : Value → Option R) : binStrK op x y K = (binStrK op x y some).bind K := by
  cases op <;> simp only [binStrK] <;> (try split) <;> simp
theorem binK_cps (P : Program) (op : BinOp) (t : TypeId) (v w : Value) (K : Value → Option R) : binK P op t v w K = (binK P op t v w some).bind K := by
  unfold binK
  cases v <;> (try rfl)
  case int k x =>
    cases w <;> (try rfl)
    simp only []
    split
    · split <;> simp
    · split <;> simp
    · split
      · exact binIntK_cps _ _ _ _ _
      · simp
  case string x =>
    simp only [Option.bind_assoc]
    exact congrArg _ (funext fun y => binStrK_cps _ _ _ _)
  case bool x =>
    simp only [Option.bind_assoc]
    refine congrArg _ (funext fun y => ?_)
    split
    · split <;> simp
    · rfl
  case agg xs =>
    simp only [Option.bind_assoc]
    refine congrArg _ (funext fun y => ?_)
    split
    · rfl
    · split <;> simp [Option.bind_assoc]
  case slice a l c =>
    simp only [Option.bind_assoc]
    refine congrArg _ (funext fun y => ?_)
    split <;> simp [Option.bind_assoc]
theorem unK_cps (op : UnOp) (v : Value) (K : Value → Option R) : unK op v K = (unK op v some).bind K := by
  unfold unK
  split <;> simp
end cps

/-- one operation, its result as a pair -/
def opS (P : Program) (call : CallF) (slot : Option Nat) (o : Oper) (t : List Value) (H : AHeap) : Option (Value × AHeap) :=
  aopK P call slot o t H fun v H => some (v, H)

section
variable {R : Type} {P : Program} {call : CallF}
theorem callK_cps (o : Oper) (c : Call) (t : List Value) (H : AHeap) (K : Value → AHeap → Option R) :
    callK P call o c t H K = (callK P call o c t H fun v H => some (v, H)).bind fun p => K p.1 p.2 := by
  unfold callK
  split
  · rfl
  · split
    · split
      · split
        · rw [Option.bind_assoc]
          congr 1; funext p
          rw [normK_cps, normK_cps _ _ fun v => some (v, p.2)]
          simp [Option.bind_assoc]
        · rfl
      · rfl
    · rfl
    · split <;> (try split) <;> first
        | rfl
        | (simp [Option.bind_assoc]; done)
        | (rw [Option.bind_assoc]
           congr 1; funext p
           rw [normK_cps, normK_cps _ _ fun v => some (v, p.2)]
           simp [Option.bind_assoc])

theorem aopK_cps (slot : Option Nat) (o : Oper) (t : List Value) (H : AHeap) (K : Value → AHeap → Option R) :
    aopK P call slot o t H K = (opS P call slot o t H).bind fun p => K p.1 p.2 := by
  unfold opS
  obtain ⟨dst, op, type, pos, after, guard⟩ := o
  cases op
  case call c => exact callK_cps _ _ _ _ _
  case load ty x =>
    simp only [aopK]
    split
    · rw [loadK_cps, loadK_cps _ _ _ _ _ fun v => some (v, H)]; simp [Option.bind_assoc]
    · rfl
  case binOp op ty x y u =>
    simp only [aopK]
    split
    · rw [binK_cps, binK_cps _ _ _ _ _ fun v => some (v, H)]; simp [Option.bind_assoc]
    · rfl
  case unOp op ty x =>
    simp only [aopK]
    split
    · rw [unK_cps, unK_cps _ _ fun v => some (v, H)]; simp [Option.bind_assoc]
    · rfl
  case pick c a b =>
    simp only [aopK]
    split
    · rename_i s _; cases s <;> simp only [cond] <;> split <;> rfl
    · rfl
  case field ty x f =>
    simp only [aopK]
    repeat' split
    all_goals first
      | rfl
      | (rw [Option.bind_assoc]
         congr 1; funext p
         rw [normK_cps, normK_cps _ _ fun v => some (v, H)]
         simp [Option.bind_assoc])
  case index ty x ix =>
    simp only [aopK]
    repeat' split
    all_goals first
      | rfl
      | (simp [Option.bind_assoc]; done)
      | (rw [Option.bind_assoc]
         congr 1; funext p
         rw [normK_cps, normK_cps _ _ fun v => some (v, H)]
         simp [Option.bind_assoc])
  case extract x i =>
    simp only [aopK]
    repeat' split
    all_goals first
      | rfl
      | (rw [Option.bind_assoc]
         congr 1; funext p
         rw [normK_cps, normK_cps _ _ fun v => some (v, H)]
         simp [Option.bind_assoc])
  case indexAddr ty x ix =>
    simp only [aopK]
    repeat' split
    all_goals first
      | rfl
      | (rw [Option.bind_assoc]
         refine congrArg _ (funext fun p => ?_)
         first | rfl | (split <;> rfl))
  case makeFunc fn first captured =>
    cases fn <;> simp only [aopK] <;> (try split) <;> first
      | rfl
      | (rename_i cs _ _; cases cs.all basicV <;> rfl)
  case box e x =>
    simp only [aopK]
    split
    · rename_i u _; cases notTup u <;> rfl
    · rfl
  case go c => rfl
  case defer c => rfl
  all_goals
    simp only [aopK]
    repeat' split
    all_goals first
      | rfl
      | (simp [Option.bind_assoc]; done)
end
end Go.Mx
end

section
set_option linter.unusedSimpArgs false
/- Simulation of single operations, part 1. -/
namespace Go.Mx
open Go Go.RowKit

def CallSound (P : Program) (call : CallF) (w0 : World) : Prop :=
  ∀ f args H v H', call f args H = some (v, H') → ∀ ρ w (args' : Array Value), Rel w0 ρ H w → All2 (VRel ρ) args args'.toList →
    Calls P f args' w fun e w' => ∃ v' ρ', e = .returned v' ∧ VRel ρ' v v' ∧ Rel w0 ρ' H' w' ∧ Ren.le ρ ρ'

def OpGoal (w0 : World) (ρ : Ren) (o : Oper) (a : Act) (v : Value) (H' : AHeap) : Act → World → Prop := fun a' w' =>
  ∃ v' ρ', a' = a.put o.dst v' ∧ VRel ρ' v v' ∧ Rel w0 ρ' H' w' ∧ Ren.le ρ ρ'

section
variable {P : Program} {call : CallF} {w0 w : World} {ρ : Ren} {t : List Value} {H H' : AHeap} {a : Act} {o : Oper} {slot : Option Nat} {v : Value}
  {Q : Exit → Act → World → Prop}

theorem wp_val {v' : Value} {w' : World} {next : Act → World → Prop} (h : (execOp a.eval o).run P w = .ok (.value v') w') (k : next (a.put o.dst v') w') : o.wp P a w next Q := by
  unfold Oper.wp
  rw [h]
  exact k

theorem aev_rel (hT : TRel ρ t a) {x : Operand} (h : aev t x = some v) : VRel ρ v (a.eval x) := by
  cases x with
  | tmp i =>
    simp only [aev, Option.some.injEq] at h
    subst h
    have := hT.1.getD (VRel.undef ρ) i
    simpa [Act.eval, List.getD, Array.getD_eq_getD_getElem?] using this
  | const u =>
    simp only [aev] at h
    split at h
    · rename_i hc; obtain rfl := Option.some.inj h; exact (closedV_rel ρ hc).v
    · cases h
  | func f =>
    simp only [aev, Option.some.injEq] at h
    subst h
    exact .inl (.inl (.inr ⟨f, #[], #[], rfl, rfl, .nil⟩))
  | global g => cases h

theorem aevs_rel (hT : TRel ρ t a) : ∀ {l : List Operand} {vs : List Value}, aevs t l = some vs → All2 (VRel ρ) vs (l.map a.eval) := by
  intro l
  induction l with
  | nil => intro vs h; simp only [aevs, Option.some.injEq] at h; subst h; exact .nil
  | cons x xs ih =>
    intro vs h
    simp only [aevs] at h
    split at h
    · rename_i v1 vs1 h1 h2
      obtain rfl := Option.some.inj h
      exact .cons (aev_rel hT h1) (ih h2)
    · cases h

theorem sim_same (v' : Value) (hR : Rel w0 ρ H w) (hv : VRel ρ v v') (h : (execOp a.eval o).run P w = .ok (.value v') w) : o.wp P a w (OpGoal w0 ρ o a v H) Q :=
  wp_val h ⟨v', ρ, rfl, hv, hR, Ren.le_refl _⟩

theorem sim_move {x : Operand} (ho : o.op = .move x) (h : opS P call slot o t H = some (v, H')) (hR : Rel w0 ρ H w) (hT : TRel ρ t a) : o.wp P a w (OpGoal w0 ρ o a v H') Q := by
  simp only [opS, aopK, ho] at h
  split at h
  · rename_i u hx
    simp only [Option.some.injEq, Prod.mk.injEq] at h
    obtain ⟨rfl, rfl⟩ := h
    exact sim_same _ hR (aev_rel hT hx) (by simp [execOp, ho])
  · cases h
theorem sim_assign {x : Operand} (ho : o.op = .assign x) (h : opS P call slot o t H = some (v, H')) (hR : Rel w0 ρ H w) (hT : TRel ρ t a) : o.wp P a w (OpGoal w0 ρ o a v H') Q := by
  simp only [opS, aopK, ho] at h
  split at h
  · rename_i u hx
    simp only [Option.some.injEq, Prod.mk.injEq] at h
    obtain ⟨rfl, rfl⟩ := h
    exact sim_same _ hR (aev_rel hT hx) (by simp [execOp, ho])
  · cases h
theorem sim_pick {c x y : Operand} (ho : o.op = .pick c x y) (h : opS P call slot o t H = some (v, H')) (hR : Rel w0 ρ H w) (hT : TRel ρ t a) : o.wp P a w (OpGoal w0 ρ o a v H') Q := by
  simp only [opS, aopK, ho] at h
  split at h
  · rename_i s hc
    have hcv := (aev_rel hT hc).bool
    cases s
    · simp only [cond] at h
      split at h
      · rename_i u hx
        simp only [Option.some.injEq, Prod.mk.injEq] at h
        obtain ⟨rfl, rfl⟩ := h
        exact sim_same _ hR (aev_rel hT hx) (by simp [execOp, ho, hcv, asBool])
      · cases h
    · simp only [cond] at h
      split at h
      · rename_i u hx
        simp only [Option.some.injEq, Prod.mk.injEq] at h
        obtain ⟨rfl, rfl⟩ := h
        exact sim_same _ hR (aev_rel hT hx) (by simp [execOp, ho, hcv, asBool])
      · cases h
  · cases h

theorem loadK_val {ty : TypeId} {i k : Nat} (h : loadK P ty i k H some = some v) :
    ∃ d, P.underlying ty = some d ∧ ((isAggD d = false ∧ H.cell i k = some v) ∨ (isAggD d = true ∧ ∃ inf l, P.info? ty = some inf ∧ H.row i k inf.size = some l ∧ v = .agg l.toArray)) := by
  have gen : ∀ {α : Type} (f : Value → Option α) (g : α → Value) (_ : ∀ u z, f u = some z → u = g z), ((H.cell i k).bind f).bind (fun z => some (g z)) = some v → H.cell i k = some v := by
    intro α f g hfg hh
    cases hc : H.cell i k with
    | none => rw [hc] at hh; cases hh
    | some u =>
      rw [hc] at hh
      simp only [Option.bind_some] at hh
      cases hf : f u with
      | none => rw [hf] at hh; cases hh
      | some z => rw [hf] at hh; rw [hfg u z hf]; simpa using hh
  have isI : ∀ k u z, asI k u = some z → u = .int k z := by
    intro k u z hu
    cases u with
    | int k' n => simp only [asI] at hu; split at hu
                  · rename_i e; subst e; simpa using hu
                  · cases hu
    | _ => cases hu
  unfold loadK at h
  split at h
  · rename_i kk hd; exact ⟨_, hd, .inl ⟨rfl, gen (asI kk) _ (isI kk) h⟩⟩
  · rename_i hd; exact ⟨_, hd, .inl ⟨rfl, gen asB _ (by intro u z hu; cases u <;> simp [asB] at hu; rw [hu]) h⟩⟩
  · rename_i hd; exact ⟨_, hd, .inl ⟨rfl, gen asS _ (by intro u z hu; cases u <;> simp [asS] at hu; rw [hu]) h⟩⟩
  · rename_i hd; exact ⟨_, hd, .inl ⟨rfl, gen asSl (fun s => .slice s.1 s.2.1 s.2.2) (by intro u z hu; cases u <;> simp [asSl] at hu; subst hu; rfl) h⟩⟩
  · rename_i hd; exact ⟨_, hd, .inl ⟨rfl, gen asPt _ (by intro u z hu; cases u <;> simp [asPt] at hu; rw [hu]) h⟩⟩
  · rename_i hd
    split at h
    · rename_i inf hi
      cases hr : H.row i k inf.size with
      | none => rw [hr] at h; cases h
      | some l => rw [hr] at h; exact ⟨_, hd, .inr ⟨rfl, inf, l, hi, hr, by simpa using h.symm⟩⟩
    · cases h
  · rename_i hd
    split at h
    · rename_i inf hi
      cases hr : H.row i k inf.size with
      | none => rw [hr] at h; cases h
      | some l => rw [hr] at h; exact ⟨_, hd, .inr ⟨rfl, inf, l, hi, hr, by simpa using h.symm⟩⟩
    · cases h
  · rename_i d _ _ _ _ _ h6 h7 hd
    refine ⟨_, hd, .inl ⟨?_, ?_⟩⟩
    · cases d <;> first | rfl | exact absurd rfl (h6 _) | exact absurd rfl (h7 _ _)
    · cases hc : H.cell i k with
      | none => rw [hc] at h; cases h
      | some u => rw [hc] at h; exact h
  · cases h

/-- a variable's load -/
theorem load_sim {ty : TypeId} {i k : Nat} (h : loadK P ty i k H some = some v) (hR : Rel w0 ρ H w) {ad : Addr} {sl : Nat} (hr : ρ i = some (ad, sl)) :
    ∃ v', (loadVar ty (ad.add k)).run P w = .ok v' w ∧ VR1 ρ v v' := by
  obtain ⟨d, hd, ⟨hg, hc⟩ | ⟨hg, inf, l, hi, hrow, rfl⟩⟩ := loadK_val h
  · obtain ⟨v', h1, h2⟩ := hR.cell hc hr
    refine ⟨v', ?_, .inl h2⟩
    have hag : (isAgg ty).run P w = .ok false w := by
      simp only [isAgg, run_underlying hd, Sem.run_bind]
      cases d <;> first | rfl | cases hg
    simp [loadVar, hag, load, Sem.run, h1]
  · obtain ⟨l', h1, h2, h3⟩ := hR.row hrow hr
    refine ⟨.agg l'.toArray, ?_, .inr ⟨_, _, rfl, rfl, by simpa using h1⟩⟩
    have hag : (isAgg ty).run P w = .ok true w := by
      simp only [isAgg, run_underlying hd, Sem.run_bind]
      cases d <;> first | rfl | cases hg
    have hl := run_loadCells_list (P := P) w (ad.add k) l' h3
    have hlen : l'.length = inf.size := by rw [← h1.length, h2]
    rw [hlen] at hl
    simp [loadVar, hag, sizeOf, typeInfo, hi, hl]

theorem sim_load {ty : TypeId} {x : Operand} (ho : o.op = .load ty x) (h : opS P call slot o t H = some (v, H')) (hR : Rel w0 ρ H w) (hT : TRel ρ t a) : o.wp P a w (OpGoal w0 ρ o a v H') Q := by
  simp only [opS, aopK, ho] at h
  split at h
  · rename_i ad hx
    rw [loadK_cps] at h
    obtain ⟨u, hu, h⟩ := Option.bind_eq_some_iff.1 h
    simp only [Option.some.injEq, Prod.mk.injEq] at h
    obtain ⟨rfl, rfl⟩ := h
    have hp := (aev_rel hT hx).ptr
    obtain ⟨hs, ad', sl, hr, he⟩ := hp
    obtain ⟨v', h1, h2⟩ := load_sim hu hR hr
    exact sim_same v' hR h2.v (by simp [execOp, ho, he, Instr.loadAt, Instr.sureAddr, h1])
  · cases h

end
end Go.Mx
end

section
set_option linter.unusedSimpArgs false
/- Simulation of single operations, part 2. -/
namespace Go.Mx
open Go Go.RowKit

section
variable {P : Program} {call : CallF} {w0 w : World} {ρ : Ren} {t : List Value} {H H' : AHeap} {a : Act} {o : Oper} {slot : Option Nat} {v : Value}
  {Q : Exit → Act → World → Prop}

theorem zeroCellsOf_spec {e : TypeId} {z : List Value} (h : zeroCellsOf P e = some z) :
    ∃ inf zv, P.info? e = some inf ∧ inf.zero = some zv ∧ zv.cells.toList = z ∧ z.length = inf.size ∧ All2 (SRel ρ) z z := by
  unfold zeroCellsOf at h
  split at h
  · rename_i inf hi
    split at h
    · rename_i zv hz
      split at h
      · rename_i hc
        obtain rfl := Option.some.inj h
        simp only [Bool.and_eq_true, List.all_eq_true, beq_iff_eq] at hc
        refine ⟨inf, zv, hi, hz, rfl, hc.2, All2.of_get rfl ?_⟩
        intro i x y hx hy
        rw [hx] at hy
        obtain rfl := Option.some.inj hy
        exact .inl (closedV_rel ρ (hc.1 x (List.mem_of_getElem? hx)))
      · cases h
    · cases h
  · cases h

theorem ptr_new (ρ : Ren) (i : Nat) (b : Nat) (sl : Nat) : VRel (ρ.ext i (⟨b, 0, none⟩, sl)) (.pointer (some ⟨i, 0, none⟩)) (.pointer (some ⟨b, 0, none⟩)) :=
  .inl (.inl (.inl ⟨rfl, _, _, Ren.ext_self _ _ _, rfl⟩))
theorem slice_new (ρ : Ren) (i : Nat) (b : Nat) (sl n : Nat) : VRel (ρ.ext i (⟨b, 0, none⟩, sl)) (.slice (some ⟨i, 0, none⟩) n n) (.slice (some ⟨b, 0, none⟩) n (n + sl)) :=
  .inl (.inl (.inl ⟨Nat.le_refl _, .inr ⟨_, _, Ren.ext_self _ _ _, rfl⟩⟩))

/-- a block of known cells -/
theorem sim_new {v' : Value} {b : Blk} {cs' : Array Value} {e : TypeId} {sl : Nat} (hR : Rel w0 ρ H w) (hf : H.get (H.newId slot) = none) (hs : ∀ i, slot = some i → i < H.next)
    (hbm : b.mode = .rw) (hz : cs'.size = b.cells.length + sl * b.esz) (ha : All2 (SRel ρ) b.cells (cs'.toList.take b.cells.length))
    (hv : VRel (ρ.ext (H.newId slot) (⟨w.heap.size, 0, none⟩, sl)) v v')
    (h : (execOp a.eval o).run P w = .ok (.value v') (w.alloc (.cells cs' e))) : o.wp P a w (OpGoal w0 ρ o a v (H.alloc slot b)) Q := by
  obtain ⟨h1, h2⟩ := hR.alloc slot hf hs b hbm cs' e sl hz ha
  exact wp_val h ⟨v', _, rfl, hv, h1, h2⟩

theorem sim_alloc {e : TypeId} (ho : o.op = .alloc e) (h : opS P call slot o t H = some (v, H')) (hR : Rel w0 ρ H w)
    (hf : H.get (H.newId slot) = none) (hs : ∀ i, slot = some i → i < H.next) : o.wp P a w (OpGoal w0 ρ o a v H') Q := by
  simp only [opS, aopK, ho] at h
  split at h
  · rename_i z hz
    obtain ⟨inf, zv, h1, h2, h3, h4, h5⟩ := zeroCellsOf_spec (ρ := ρ) hz
    simp only [Option.some.injEq, Prod.mk.injEq] at h
    obtain ⟨rfl, rfl⟩ := h
    refine sim_new (sl := 0) hR hf hs rfl (cs' := zv.cells) (e := e) ?_ ?_ (ptr_new _ _ _ _) ?_
    · simp only [← h3, Array.length_toList]; omega
    · simp only [h3, List.take_length]; exact h5
    · simp [execOp, ho, Instr.alloc, zeroValue, typeInfo, h1, h2, newVar, newRow, newObj, Sem.run]
  · cases h

theorem sim_box {e : TypeId} {x : Operand} (ho : o.op = .box e x) (h : opS P call slot o t H = some (v, H')) (hR : Rel w0 ρ H w) (hT : TRel ρ t a)
    (hf : H.get (H.newId slot) = none) (hs : ∀ i, slot = some i → i < H.next) : o.wp P a w (OpGoal w0 ρ o a v H') Q := by
  simp only [opS, aopK, ho] at h
  split at h
  · rename_i u hx
    cases hnt : notTup u with
    | false => rw [hnt] at h; cases h
    | true =>
    rw [hnt] at h
    simp only [cond_true, Option.some.injEq, Prod.mk.injEq] at h
    obtain ⟨rfl, rfl⟩ := h
    have hc := (aev_rel hT hx).cells (fun b e => by subst e; cases hnt)
    have hl := hc.length
    refine sim_new (sl := 0) hR hf hs rfl (cs' := (a.eval x).cells) (e := e) ?_ ?_ (ptr_new _ _ _ _) ?_
    · simp only [Array.length_toList] at hl ⊢; omega
    · simp only [hl, List.take_length]; exact hc
    · simp [execOp, ho, Instr.box, newVar, newRow, newObj, Sem.run]
  · cases h

theorem sim_store {ty : TypeId} {x y : Operand} (ho : o.op = .store ty x y) (h : opS P call slot o t H = some (v, H')) (hR : Rel w0 ρ H w) (hT : TRel ρ t a) : o.wp P a w (OpGoal w0 ρ o a v H') Q := by
  simp only [opS, aopK, ho] at h
  split at h
  · rename_i ad u hx hy
    split at h
    · rename_i n hn
      split at h
      · rename_i hlen
        obtain ⟨hnt, hlen⟩ := hlen
        obtain ⟨H1, hw, h⟩ := Option.bind_eq_some_iff.1 h
        simp only [Option.some.injEq, Prod.mk.injEq] at h
        obtain ⟨rfl, rfl⟩ := h
        obtain ⟨hs, ad', sl, hr, he⟩ := (aev_rel hT hx).ptr
        have hc := (aev_rel hT hy).cells (fun b e => by subst e; cases hnt)
        obtain ⟨w', h1, h2⟩ := hR.wr hw hc hr P
        have hsz : (a.eval y).cells.size = n := by
          have := hc.length; simp only [Array.length_toList] at this hlen; omega
        unfold szOf at hn
        split at hn
        · rename_i inf hi
          obtain rfl := Option.some.inj hn
          unfold Oper.wp
          have hrun : (execOp a.eval o).run P w = .ok .skip w' := by
            simp [execOp, ho, he, Instr.storeAt, Instr.sureAddr, storeVar, sizeOf, typeInfo, hi, hsz, h1]
          rw [hrun]
          exact ⟨undef, ρ, rfl, VRel.undef ρ, h2, Ren.le_refl _⟩
        · cases hn
      · cases h
    · cases h
  · cases h

theorem sim_fieldAddr {ty : TypeId} {x : Operand} {f : Nat} (ho : o.op = .fieldAddr ty x f) (h : opS P call slot o t H = some (v, H')) (hR : Rel w0 ρ H w) (hT : TRel ρ t a) : o.wp P a w (OpGoal w0 ρ o a v H') Q := by
  simp only [opS, aopK, ho] at h
  split at h
  · rename_i ad hx
    split at h
    · rename_i fs hu
      split at h
      · rename_i fl hf
        split at h
        · rename_i n hn
          split at h
          · cases h
          · rename_i hn0
            simp only [Option.some.injEq, Prod.mk.injEq] at h
            obtain ⟨rfl, rfl⟩ := h
            obtain ⟨hs, ad', sl, hr, he⟩ := (aev_rel hT hx).ptr
            unfold szOf at hn
            split at hn
            · rename_i inf hi
              obtain rfl := Option.some.inj hn
              have hf' : fs[f]? = some fl := by simpa using hf
              refine sim_same (.pointer (some (ad'.add (ad.off + fl.offset)))) hR (.inl (.inl (.inl ⟨rfl, ad', sl, hr, rfl⟩))) ?_
              simp [execOp, ho, he, Instr.fieldAt, run_underlying hu, hf', Instr.sureAddr, fieldPlace, sizeOf, typeInfo, hi, hn0, Addr.add_add]
            · cases hn
        · cases h
      · cases h
    · cases h
  · cases h

theorem szOf_spec {e : TypeId} {n : Nat} (h : szOf P e = some n) : ∃ inf, P.info? e = some inf ∧ inf.size = n := by
  unfold szOf at h
  split at h
  · rename_i inf hi; exact ⟨inf, hi, Option.some.inj h⟩
  · cases h

theorem sim_indexAddr {ty : TypeId} {x ix : Operand} (ho : o.op = .indexAddr ty x ix) (h : opS P call slot o t H = some (v, H')) (hR : Rel w0 ρ H w) (hT : TRel ρ t a) : o.wp P a w (OpGoal w0 ρ o a v H') Q := by
  simp only [opS, aopK, ho] at h
  split at h
  · rename_i ad l c k i hx hix
    split at h
    · rename_i e hu
      split at h
      · rename_i n hn
        obtain ⟨ad, rfl, h⟩ := Option.bind_eq_some_iff.1 h
        split at h
        · rename_i hb
          cases h
          have hi := (aev_rel hT hix).int
          obtain ⟨hlc, ⟨h0, _⟩ | ⟨ad', sl, hr, he⟩⟩ := (aev_rel hT hx).slice
          · omega
          · obtain ⟨inf, hinf, rfl⟩ := szOf_spec hn
            refine sim_same (.pointer (some (ad'.add (ad.off + i.toNat * inf.size)))) hR (.inl (.inl (.inl ⟨rfl, ad', sl, hr, rfl⟩))) ?_
            simp [execOp, ho, he, hi, Instr.indexAt, asIntOf, run_underlying hu, hb.1, hb.2, sizeOf, typeInfo, hinf, Addr.add_add]
        · cases h
      · cases h
    · cases h
  · rename_i ad k i hx hix
    split at h
    · rename_i l e hu
      split at h
      · rename_i n hn
        split at h
        · rename_i hb
          simp only [Option.some.injEq, Prod.mk.injEq] at h
          obtain ⟨rfl, rfl⟩ := h
          have hi := (aev_rel hT hix).int
          obtain ⟨hs, ad', sl, hr, he⟩ := (aev_rel hT hx).ptr
          obtain ⟨inf, hinf, rfl⟩ := szOf_spec hn
          refine sim_same (.pointer (some (ad'.add (ad.off + i.toNat * inf.size)))) hR (.inl (.inl (.inl ⟨rfl, ad', sl, hr, rfl⟩))) ?_
          simp [execOp, ho, he, hi, Instr.indexAt, asIntOf, Instr.sureAddr, run_underlying hu, hb.1, hb.2, sizeOf, typeInfo, hinf, Addr.add_add]
        · cases h
      · cases h
    · cases h
  · cases h

theorem sim_nilCheck {x : Operand} (ho : o.op = .nilCheck x) (h : opS P call slot o t H = some (v, H')) (hR : Rel w0 ρ H w) (hT : TRel ρ t a) : o.wp P a w (OpGoal w0 ρ o a v H') Q := by
  simp only [opS, aopK, ho] at h
  split at h
  · rename_i p hx
    obtain ⟨ad, rfl, h⟩ := Option.bind_eq_some_iff.1 h
    cases h
    have hr := aev_rel hT hx
    obtain ⟨hs, ad', sl, hr', he⟩ := hr.ptr
    exact sim_same _ hR hr (by simp [execOp, ho, he])
  · rename_i f first cs hx
    simp only [Option.some.injEq, Prod.mk.injEq] at h
    obtain ⟨rfl, rfl⟩ := h
    have hr := aev_rel hT hx
    obtain ⟨rfl, cs', he, _⟩ := hr.fn
    exact sim_same _ hR hr (by simp [execOp, ho, he])
  · cases h

theorem sim_extract {x : Operand} {i : Nat} (ho : o.op = .extract x i) (h : opS P call slot o t H = some (v, H')) (hR : Rel w0 ρ H w) (hT : TRel ρ t a) : o.wp P a w (OpGoal w0 ρ o a v H') Q := by
  simp only [opS, aopK, ho] at h
  split at h
  · rename_i vs hx
    obtain ⟨u, hu, h⟩ := Option.bind_eq_some_iff.1 h
    rw [normK_cps] at h
    obtain ⟨u2, hu2, h⟩ := Option.bind_eq_some_iff.1 h
    simp only [Option.some.injEq, Prod.mk.injEq] at h
    obtain ⟨rfl, rfl⟩ := h
    obtain rfl := normK_id hu2
    obtain ⟨cs', he, hc⟩ := (aev_rel hT hx).tuple
    obtain ⟨u', hu', hru⟩ := hc.get i _ hu
    have hu'' : cs'[i]? = some u' := by simpa using hu'
    exact sim_same u' hR hru.v (by simp [execOp, ho, he, Instr.extract, hu''])
  · cases h

theorem sim_unOp {op : UnOp} {ty : TypeId} {x : Operand} (ho : o.op = .unOp op ty x) (h : opS P call slot o t H = some (v, H')) (hR : Rel w0 ρ H w) (hT : TRel ρ t a) : o.wp P a w (OpGoal w0 ρ o a v H') Q := by
  simp only [opS, aopK, ho] at h
  split at h
  · rename_i u hx
    unfold unK at h
    split at h
    · simp only [Option.some.injEq, Prod.mk.injEq] at h
      obtain ⟨rfl, rfl⟩ := h
      exact sim_same _ hR (.inl (.inl (.inl rfl))) (by simp [execOp, ho, (aev_rel hT hx).int, Op.unary, Op.intArith])
    · simp only [Option.some.injEq, Prod.mk.injEq] at h
      obtain ⟨rfl, rfl⟩ := h
      exact sim_same _ hR (.inl (.inl (.inl rfl))) (by simp [execOp, ho, (aev_rel hT hx).bool, Op.unary])
    · cases h
  · cases h

theorem sim_convert {src dst : TypeId} {x : Operand} (ho : o.op = .convert src dst x) (h : opS P call slot o t H = some (v, H')) (hR : Rel w0 ρ H w) (hT : TRel ρ t a) : o.wp P a w (OpGoal w0 ρ o a v H') Q := by
  simp only [opS, aopK, ho] at h
  split at h
  · rename_i k n hx
    split at h
    · rename_i k1 k2 hs hd
      simp only [Option.some.injEq, Prod.mk.injEq] at h
      obtain ⟨rfl, rfl⟩ := h
      exact sim_same _ hR (.inl (.inl (.inl rfl))) (by simp [execOp, ho, (aev_rel hT hx).int, convert, run_underlying hs, run_underlying hd, Conv.intToInt])
    · cases h
  · cases h

theorem sim_makeFunc {fn : Fn} {first captured : Array Operand} (ho : o.op = .makeFunc fn first captured) (h : opS P call slot o t H = some (v, H')) (hR : Rel w0 ρ H w) (hT : TRel ρ t a) : o.wp P a w (OpGoal w0 ρ o a v H') Q := by
  cases fn with
  | func f =>
    simp only [opS, aopK, ho] at h
    split at h
    · rename_i cs h1 h2
      cases hall : cs.all basicV with
      | false => rw [hall] at h; cases h
      | true =>
      rw [hall] at h
      simp only [cond_true, Option.some.injEq, Prod.mk.injEq] at h
      obtain ⟨rfl, rfl⟩ := h
      have hb : ∀ u ∈ cs, ∀ u', VRel ρ u u' → BRel ρ u u' := by
        intro u hu u' hr
        have h1 := List.all_eq_true.1 hall u hu
        rcases hr with ((h | ⟨_, _, _, h, _⟩) | ⟨_, _, h, _⟩) | ⟨_, _, h, _⟩
        · exact h
        all_goals (subst h; cases h1)
      have hc := aevs_rel hT h2
      have hfst : first = #[] := by
        have := (aevs_rel hT h1).length
        simpa using this.symm
      subst hfst
      refine sim_same (.func (.func f) #[] (captured.map a.eval)) hR (.inl (.inl (.inr ⟨f, _, _, rfl, rfl, ?_⟩))) (by simp [execOp, ho, Instr.makeFunc])
      simp only [Array.toList_map]
      refine All2.of_get hc.length ?_
      intro i x y hx hy
      obtain ⟨y', hy', hR'⟩ := hc.get i x (by simpa using hx)
      rw [hy] at hy'
      obtain rfl := Option.some.inj hy'
      exact hb x (List.mem_of_getElem? (by simpa using hx)) _ hR'
    · cases h
  | _ => simp [opS, aopK, ho] at h

end
end Go.Mx
end

section
set_option linter.unusedSimpArgs false
/- Simulation of single operations, part 3. -/
namespace Go.Mx
open Go Go.RowKit

theorem fold_splice (off : Nat) : ∀ (l : List Value) (k : Nat) (cells : Array Value), off + k + l.length ≤ cells.size →
    ((l.zipIdx k).foldl (fun (cs : Array Value) (p : Value × Nat) => cs.setIfInBounds (off + p.2) p.1) cells).toList = splice cells.toList (off + k) l := by
  intro l
  induction l with
  | nil => intro k cells _; simp [splice]
  | cons c l ih =>
    intro k cells h
    simp only [List.length_cons] at h
    simp only [List.zipIdx_cons, List.foldl_cons]
    rw [ih (k + 1) _ (by simp; omega)]
    simp only [splice, Array.toList_setIfInBounds, List.length_cons]
    apply List.ext_getElem?
    intro m
    have hlen : cells.toList.length = cells.size := Array.length_toList
    simp only [List.getElem?_append, List.length_append, List.length_take, List.getElem?_take, List.getElem?_drop, List.length_set, List.getElem?_set, List.length_cons, hlen]
    by_cases h1 : m < off + k
    · rw [if_pos (by omega), if_pos (by omega), if_pos (by omega), if_neg (by omega), if_pos (by omega), if_pos (by omega), if_pos (by omega)]
    · by_cases h2 : m = off + k
      · subst h2
        rw [if_pos (by omega), if_pos (by omega), if_pos (by omega), if_pos rfl, if_pos (by omega), if_pos (by omega), if_neg (by omega)]
        rw [show off + k - min (off + k) cells.size = 0 from by omega]
        rfl
      · by_cases h3 : m < off + k + 1 + l.length
        · rw [if_pos (by omega), if_neg (by omega), if_pos (by omega), if_neg (by omega)]
          have e : m - min (off + k) cells.size = (m - min (off + k + 1) cells.size) + 1 := by omega
          rw [show off + (k + 1) = off + k + 1 from by omega, e]
          simp
        · rw [if_neg (by omega), if_neg (by omega), if_neg (by omega)]
          congr 1
          omega

theorem foldl_splice (off : Nat) (v cells : Array Value) (h : off + v.size ≤ cells.size) :
    (v.zipIdx.foldl (fun cs (x : Value × Nat) => match x with | (c, j) => cs.setIfInBounds (off + j) c) cells).toList = splice cells.toList off v.toList := by
  rw [← Array.foldl_toList]
  have := fold_splice off v.toList 0 cells (by simpa using h)
  simpa using this

section
variable {P : Program} {call : CallF} {w0 w : World} {ρ : Ren} {t : List Value} {H H' : AHeap} {a : Act} {o : Oper} {slot : Option Nat} {v : Value}
  {Q : Exit → Act → World → Prop}

theorem afill_sim {place : Nat → Option (Nat × Nat)} : ∀ {parts : List (Nat × Value)} {parts' : List (Nat × Value)} {cells r : List Value} {cells' : Array Value},
    afill place cells parts = some r → All2 (SRel ρ) cells cells'.toList → All2 (fun p p' => p.1 = p'.1 ∧ VRel ρ p.2 p'.2) parts parts' →
    ∃ r', Instr.fill place cells' parts' = some r' ∧ All2 (SRel ρ) r r'.toList := by
  intro parts
  induction parts with
  | nil =>
    intro parts' cells r cells' h hc hp
    cases hp
    simp only [afill, Option.some.injEq] at h
    subst h
    exact ⟨cells', rfl, hc⟩
  | cons x rest ih =>
    intro parts' cells r cells' h hc hp
    cases hp with
    | @cons _ y _ rest' h1 h2 =>
      obtain ⟨i, v⟩ := x
      obtain ⟨i', v'⟩ := y
      obtain ⟨rfl, hv⟩ := h1
      simp only [afill] at h
      split at h
      · cases h
      · rename_i off size hpl
        split at h
        · rename_i hcond
          obtain ⟨hnt, hl, hle⟩ := hcond
          have hcells := hv.cells (fun b e => by subst e; cases hnt)
          have hl' := hcells.length
          have hcl := hc.length
          simp only [Array.length_toList] at hl hl' hcl
          have hvz : v'.cells.size = size := by omega
          have hcz : off + v'.cells.size ≤ cells'.size := by omega
          have hsp : All2 (SRel ρ) (splice cells off v.cells.toList) (v'.cells.zipIdx.foldl (fun cs (x : Value × Nat) => match x with | (c, j) => cs.setIfInBounds (off + j) c) cells').toList := by
            rw [foldl_splice off _ _ hcz]
            exact hc.splice hcells off
          obtain ⟨r', h3, h4⟩ := ih h hsp h2
          refine ⟨r', ?_, h4⟩
          simp only [Instr.fill, hpl]
          rw [if_neg (by simp; omega)]
          exact h3
        · cases h

theorem apartsev_rel (hT : TRel ρ t a) : ∀ {l : List (Nat × Operand)} {vs : List (Nat × Value)}, apartsev t l = some vs →
    All2 (fun p p' => p.1 = p'.1 ∧ VRel ρ p.2 p'.2) vs (l.map fun (i, x) => (i, a.eval x)) := by
  intro l
  induction l with
  | nil => intro vs h; simp only [apartsev, Option.some.injEq] at h; subst h; exact .nil
  | cons x xs ih =>
    intro vs h
    obtain ⟨i, x⟩ := x
    simp only [apartsev] at h
    split at h
    · rename_i v1 vs1 h1 h2
      obtain rfl := Option.some.inj h
      exact .cons ⟨rfl, aev_rel hT h1⟩ (ih h2)
    · cases h

theorem places_spec : ∀ {fs : List Field} {pl : List (Nat × Nat)}, places P fs = some pl → fs.mapM (fun f => (P.info? f.type).map fun i => (f.offset, i.size)) = some pl := by
  intro fs
  induction fs with
  | nil => intro pl h; simp only [places, Option.some.injEq] at h; subst h; rfl
  | cons f fs ih =>
    intro pl h
    simp only [places] at h
    split at h
    · rename_i n l h1 h2
      obtain rfl := Option.some.inj h
      obtain ⟨inf, hi, rfl⟩ := szOf_spec h1
      simp [List.mapM_cons, hi, ih h2]
    · cases h

theorem sim_build {ty : TypeId} {parts : Array (Nat × Operand)} (ho : o.op = .build ty parts) (h : opS P call slot o t H = some (v, H')) (hR : Rel w0 ρ H w) (hT : TRel ρ t a) : o.wp P a w (OpGoal w0 ρ o a v H') Q := by
  simp only [opS, aopK, ho] at h
  split at h
  · rename_i z vs hz hvs
    obtain ⟨inf, zv, h1, h2, h3, h4, h5⟩ := zeroCellsOf_spec (ρ := ρ) hz
    have hp := apartsev_rel hT hvs
    have hzr : All2 (SRel ρ) z zv.cells.toList := by rw [h3]; exact h5
    have key : ∀ (r : Array Value), P.built ty (parts.map fun (i, x) => (i, a.eval x)).toList = some r →
        (execOp a.eval o).run P w = .ok (.value (.agg r)) w := by
      intro r hb
      simp [execOp, ho, run_build w ty _ r hb]
    have hmap : (parts.map fun (i, x) => (i, a.eval x)).toList = parts.toList.map fun (i, x) => (i, a.eval x) := Array.toList_map
    split at h
    · rename_i fs hu
      split at h
      · rename_i pl hpl
        split at h
        · rename_i cells hc
          simp only [Option.some.injEq, Prod.mk.injEq] at h
          obtain ⟨rfl, rfl⟩ := h
          obtain ⟨r', h6, h7⟩ := afill_sim hc hzr hp
          refine sim_same (.agg r') hR (.inl (.inr ⟨_, _, rfl, rfl, by simpa using h7⟩)) (key r' ?_)
          have hfn : (fun x : Nat => pl[x]?) = fun x : Nat => pl.toArray[x]? := by funext x; simp
          rw [hfn] at h6
          simp only [Program.built, h1, hu, h2, places_spec hpl, hmap]
          exact h6
        · cases h
      · cases h
    · rename_i n e hu
      split at h
      · rename_i sz hsz
        obtain ⟨ie, hie, rfl⟩ := szOf_spec hsz
        split at h
        · rename_i cells hc
          simp only [Option.some.injEq, Prod.mk.injEq] at h
          obtain ⟨rfl, rfl⟩ := h
          obtain ⟨r', h6, h7⟩ := afill_sim hc hzr hp
          refine sim_same (.agg r') hR (.inl (.inr ⟨_, _, rfl, rfl, by simpa using h7⟩)) (key r' ?_)
          simp only [Program.built, h1, hu, h2, hie, hmap]
          exact h6
        · cases h
      · cases h
    · cases h
  · cases h

theorem rep_length (z : List Value) : ∀ n, (rep z n).length = n * z.length
  | 0 => by simp [rep]
  | n + 1 => by simp [rep, rep_length z n, Nat.succ_mul]; omega

theorem rep_get (z : List Value) (hz : 0 < z.length) : ∀ n i, i < n * z.length → (rep z n)[i]? = z[i % z.length]?
  | 0, i, h => by simp at h
  | n + 1, i, h => by
    simp only [rep, List.getElem?_append]
    rw [Nat.succ_mul] at h
    split
    · rename_i hi; rw [Nat.mod_eq_of_lt hi]
    · rename_i hi
      rw [rep_get z hz n (i - z.length) (by omega)]
      have : i % z.length = (i - z.length) % z.length := Nat.mod_eq_sub_mod (by omega)
      rw [this]

theorem zeros_rep (z : Array Value) (hz : 0 < z.size) (n : Nat) : ((Array.range (n * z.size)).map (z[· % z.size]!)).toList = rep z.toList n := by
  apply List.ext_getElem?
  intro i
  simp only [Array.toList_map, Array.toList_range, List.getElem?_map]
  by_cases h : i < n * z.size
  · rw [List.getElem?_range h, rep_get z.toList (by simpa using hz) n i (by simpa using h)]
    have hm : i % z.size < z.size := Nat.mod_lt _ hz
    simp [hm]
  · rw [List.getElem?_eq_none (by simp; omega), List.getElem?_eq_none (by rw [rep_length]; simp; omega)]
    rfl

theorem rep_rel {z : List Value} (h : All2 (SRel ρ) z z) : ∀ n, All2 (SRel ρ) (rep z n) (rep z n)
  | 0 => .nil
  | n + 1 => h.append (rep_rel h n)

theorem run_bs (w : World) (t e : TypeId) (len : Nat) (parts : Array (Nat × Value)) (cells : Array Value) (ie : TypeInfo) (z : Value)
    (hu : P.underlying t = some (.slice e)) (hie : P.info? e = some ie) (hz : ie.zero = some z) (hsmall : ¬ len * ie.size > 2 ^ 24) (hpos : ¬ len * ie.size = 0)
    (h : Instr.fill (fun i => some (i * ie.size, ie.size)) ((Array.range (len * ie.size)).map (z.cells[· % z.cells.size]!)) parts.toList = some cells) :
    (Instr.buildSlice t len parts).run P w = .ok (.slice (some ⟨w.heap.size, 0, none⟩) len len) (w.alloc (.cells cells e)) := by
  simp [Instr.buildSlice, run_underlying hu, sizeOf, typeInfo, zeroValue, hie, hz, hsmall, hpos, h, newRow]

theorem sim_buildSlice {ty : TypeId} {len : Nat} {parts : Array (Nat × Operand)} (ho : o.op = .buildSlice ty len parts) (h : opS P call slot o t H = some (v, H')) (hR : Rel w0 ρ H w) (hT : TRel ρ t a)
    (hf : H.get (H.newId slot) = none) (hs : ∀ i, slot = some i → i < H.next) : o.wp P a w (OpGoal w0 ρ o a v H') Q := by
  simp only [opS, aopK, ho] at h
  split at h
  · rename_i e hu
    split at h
    · rename_i z vs hz hvs
      obtain ⟨inf, zv, h1, h2, h3, h4, h5⟩ := zeroCellsOf_spec (ρ := ρ) hz
      split at h
      · cases h
      · rename_i hcond
        split at h
        · rename_i cells hc
          simp only [Option.some.injEq, Prod.mk.injEq] at h
          obtain ⟨rfl, rfl⟩ := h
          have hzs : zv.cells.size = z.length := by rw [← h3]; simp
          have hpos : 0 < z.length := by omega
          have hp := apartsev_rel hT hvs
          have hzr : All2 (SRel ρ) (rep z len) ((Array.range (len * inf.size)).map (zv.cells[· % zv.cells.size]!)).toList := by
            rw [← h4, ← hzs, zeros_rep _ (by omega), h3]
            exact rep_rel h5 len
          obtain ⟨r', h6, h7⟩ := afill_sim hc hzr hp
          have hmap : (parts.map fun (i, x) => (i, a.eval x)).toList = parts.toList.map fun (i, x) => (i, a.eval x) := Array.toList_map
          have hl7 := h7.length
          refine sim_new (sl := 0) hR hf hs rfl (cs' := r') (e := e) ?_ ?_ (slice_new _ _ _ _ _) ?_
          · simp only [Array.length_toList] at hl7
            show r'.size = cells.length + 0 * _
            omega
          · show All2 (SRel ρ) cells (r'.toList.take cells.length)
            rw [hl7, List.take_length]; exact h7
          · have hb : (Instr.buildSlice ty len (parts.map fun (i, x) => (i, a.eval x))).run P w = .ok (.slice (some ⟨w.heap.size, 0, none⟩) len len) (w.alloc (.cells r' e)) := by
              by_cases h0 : len * inf.size = 0
              · have hl0 : len = 0 := by
                  rcases Nat.mul_eq_zero.1 h0 with h | h
                  · exact h
                  · omega
                subst hl0
                have e0 : Array.range 0 = #[] := rfl
                simp only [Nat.zero_mul, h4, e0, Array.map_empty] at h6
                simp [Instr.buildSlice, run_underlying hu, sizeOf, typeInfo, h1, h6, newRow, e0]
              · have hsmall : ¬ len * inf.size > 2 ^ 24 := by rw [← h4]; omega
                refine run_bs w ty e len _ r' inf zv hu h1 h2 hsmall h0 ?_
                rw [hmap]
                simp only [h4] at h6
                exact h6
            simp [execOp, ho, hb]
        · cases h
    · cases h
  · cases h

theorem run_ms (w : World) (t e : TypeId) (n : Int) (ie : TypeInfo) (z : Value) (hu : P.underlying t = some (.slice e)) (hi : P.info? e = some ie) (hz : ie.zero = some z)
    (h0 : 0 ≤ n) (hb : n * ie.bytes ≤ 70368744177664) (hn : n ≤ 70368744177664) :
    (Instr.makeSlice t (.int .i64 n) (.int .i64 n)).run P w =
      .ok (.slice (some ⟨w.heap.size, 0, none⟩) n.toNat n.toNat) (w.alloc (.cells ((Array.range (n.toNat * ie.size)).map (z.cells[· % z.cells.size]!)) e)) := by
  have hwrap : IntKind.i64.wrap n = n := by simp [IntKind.wrap, IntKind.bits, IntKind.signed]; omega
  have hmul : ((ie.bytes : Int) * n) = n * ie.bytes := Int.mul_comm _ _
  have hroom : n.toNat * ie.bytes ≤ 140737488355328 := by
    have : ((n.toNat * ie.bytes : Nat) : Int) ≤ 70368744177664 := by
      rw [Int.natCast_mul, Int.toNat_of_nonneg h0]; omega
    omega
  have hg : ¬ (281474976710656 < (ie.bytes : Int) * n) := by rw [hmul]; omega
  have hn0 : ¬ n < 0 := by omega
  have hroom' : ¬ (140737488355328 < n.toNat * ie.bytes) := by omega
  have e0 : Array.range 0 = #[] := rfl
  by_cases hc : n.toNat * ie.size = 0
  · simp [Instr.makeSlice, run_underlying hu, asInt, asIntOf, typeInfo, hi, hwrap, hn0, hg, askRoom, roomBytes, sizeOf, hc, newRow, e0]
  · simp [Instr.makeSlice, run_underlying hu, asInt, asIntOf, typeInfo, hi, hwrap, hn0, hg, askRoom, roomBytes, sizeOf, hc, zeroValue, hz, newRow]

theorem sim_makeSlice {ty : TypeId} {l c : Operand} (ho : o.op = .makeSlice ty l c) (h : opS P call slot o t H = some (v, H')) (hR : Rel w0 ρ H w) (hT : TRel ρ t a)
    (hf : H.get (H.newId slot) = none) (hs : ∀ i, slot = some i → i < H.next) : o.wp P a w (OpGoal w0 ρ o a v H') Q := by
  simp only [opS, aopK, ho] at h
  split at h
  · rename_i n m hn hm
    split at h
    · rename_i hnm
      subst hnm
      split at h
      · rename_i e hu
        split at h
        · rename_i z inf' hz hi'
          obtain ⟨inf, zv, h1, h2, h3, h4, h5⟩ := zeroCellsOf_spec (ρ := ρ) hz
          rw [hi'] at h1
          obtain rfl := Option.some.inj h1
          split at h
          · cases h
          · rename_i hz0
            split at h
            · rename_i hb
              simp only [Option.some.injEq, Prod.mk.injEq] at h
              obtain ⟨rfl, rfl⟩ := h
              obtain ⟨hn0, hnb, hnm⟩ := hb
              have hzs : zv.cells.size = z.length := by rw [← h3]; simp
              have e1 := (aev_rel hT hn).int
              have e2 := (aev_rel hT hm).int
              refine sim_new (sl := 0) hR hf hs rfl (cs' := ((Array.range (n.toNat * inf'.size)).map (zv.cells[· % zv.cells.size]!))) (e := e) ?_ ?_ (slice_new _ _ _ _ _) ?_
              · simp [rep_length, h4]
              · have : ((Array.range (n.toNat * inf'.size)).map (zv.cells[· % zv.cells.size]!)).toList = rep z n.toNat := by
                  rw [← h4, ← hzs, zeros_rep _ (by omega), h3]
                simp only [this, List.take_length]
                exact rep_rel h5 _
              · simp [execOp, ho, e1, e2, run_ms w ty e n inf' zv hu hi' h2 hn0 hnb hnm]
            · cases h
        · cases h
      · cases h
    · cases h
  · cases h

end
end Go.Mx
end

section
set_option linter.unusedSimpArgs false
/- Simulation of single operations, part 4. -/
namespace Go.Mx
open Go Go.RowKit

section
variable {P : Program} {call : CallF} {w0 w : World} {ρ : Ren} {t : List Value} {H H' : AHeap} {a : Act} {o : Oper} {slot : Option Nat} {v : Value}
  {Q : Exit → Act → World → Prop}

theorem part_sim {ty : TypeId} {cs : List Value} {cs' : Array Value} {off : Nat} (h : partV P ty cs off = some v) (hc : All2 (SRel ρ) cs cs'.toList) :
    ∃ v', (part ty cs' off).run P w = .ok v' w ∧ VR1 ρ v v' := by
  unfold partV at h
  split at h
  · rename_i d hd
    cases hg : isAggD d with
    | true =>
      rw [hg] at h
      simp only [cond_true] at h
      split at h
      · rename_i n hn
        obtain ⟨inf, hi, rfl⟩ := szOf_spec hn
        split at h
        · rename_i hle
          obtain rfl := Option.some.inj h
          have hag : (isAgg ty).run P w = .ok true w := by
            simp only [isAgg, run_underlying hd, Sem.run_bind]
            cases d <;> first | rfl | cases hg
          refine ⟨.agg (cs'.extract off (off + inf.size)), ?_, .inr ⟨_, _, rfl, rfl, ?_⟩⟩
          · simp [part, hag, sizeOf, typeInfo, hi]
          · have : (cs'.extract off (off + inf.size)).toList = (cs'.toList.drop off).take inf.size := by
              simp [List.extract_eq_take_drop]
            rw [this]
            exact (hc.drop off).take inf.size
        · cases h
      · cases h
    | false =>
      rw [hg] at h
      simp only [cond_false] at h
      obtain ⟨v', h1, h2⟩ := hc.get off v h
      have hag : (isAgg ty).run P w = .ok false w := by
        simp only [isAgg, run_underlying hd, Sem.run_bind]
        cases d <;> first | rfl | cases hg
      have h1' : cs'[off]? = some v' := by simpa using h1
      exact ⟨v', by simp [part, hag, h1'], .inl h2⟩
  · cases h

theorem sim_field {ty : TypeId} {x : Operand} {f : Nat} (ho : o.op = .field ty x f) (h : opS P call slot o t H = some (v, H')) (hR : Rel w0 ρ H w) (hT : TRel ρ t a) : o.wp P a w (OpGoal w0 ρ o a v H') Q := by
  simp only [opS, aopK, ho] at h
  split at h
  · rename_i cs hx
    split at h
    · rename_i fs hu
      split at h
      · rename_i fl hf
        obtain ⟨u, hp, h⟩ := Option.bind_eq_some_iff.1 h
        rw [normK_cps] at h
        obtain ⟨u2, hu2, h⟩ := Option.bind_eq_some_iff.1 h
        cases h
        obtain rfl := normK_id hu2
        obtain ⟨cs', he, hc⟩ := (aev_rel hT hx).agg
        obtain ⟨v', h1, h2⟩ := part_sim (w := w) hp hc
        have hf' : fs[f]? = some fl := by simpa using hf
        exact sim_same v' hR h2.v (by simp [execOp, ho, he, Instr.field, run_underlying hu, hf', asAgg, h1])
      · cases h
    · cases h
  · cases h

theorem sim_index {ty : TypeId} {x ix : Operand} (ho : o.op = .index ty x ix) (h : opS P call slot o t H = some (v, H')) (hR : Rel w0 ρ H w) (hT : TRel ρ t a) : o.wp P a w (OpGoal w0 ρ o a v H') Q := by
  simp only [opS, aopK, ho] at h
  split at h
  · rename_i k i hix
    split at h
    · rename_i cs hx
      split at h
      · rename_i l e hu
        split at h
        · rename_i n hn
          split at h
          · rename_i hb
            obtain ⟨u, hp, h⟩ := Option.bind_eq_some_iff.1 h
            rw [normK_cps] at h
            obtain ⟨u2, hu2, h⟩ := Option.bind_eq_some_iff.1 h
            cases h
            obtain rfl := normK_id hu2
            obtain ⟨cs', he, hc⟩ := (aev_rel hT hx).agg
            obtain ⟨v', h1, h2⟩ := part_sim (w := w) hp hc
            obtain ⟨inf, hinf, rfl⟩ := szOf_spec hn
            exact sim_same v' hR h2.v (by simp [execOp, ho, he, (aev_rel hT hix).int, Instr.index, asIntOf, run_underlying hu, hb.1, hb.2, sizeOf, typeInfo, hinf, h1])
          · cases h
        · cases h
      · cases h
    · rename_i s hx
      split at h
      · rename_i hu
        split at h
        · rename_i hb
          obtain ⟨u, hp, h⟩ := Option.bind_eq_some_iff.1 h
          cases h
          exact sim_same _ hR (.inl (.inl (.inl rfl))) (by simp [execOp, ho, (aev_rel hT hx).string, (aev_rel hT hix).int, Instr.index, asIntOf, run_underlying hu, hb, hp])
        · cases h
      · cases h
    · cases h
  · cases h

theorem eqFs_sim {eq : TypeId → Value → Value → Option Bool} {D : Nat} (he : ∀ ty x y b x' y', eq ty x y = some b → VRel ρ x x' → VRel ρ y y' → (Op.equalIn D ty x' y').run P w = .ok b w)
    {xs ys : List Value} {xs' ys' : Array Value} (hx : All2 (SRel ρ) xs xs'.toList) (hy : All2 (SRel ρ) ys ys'.toList) :
    ∀ {fs : List Field} {b : Bool}, eqFs P eq xs ys fs = some b → (Op.eqFields D xs' ys' fs).run P w = .ok b w := by
  intro fs
  induction fs with
  | nil => intro b h; simp only [eqFs, Option.some.injEq] at h; subst h; simp [Op.eqFields]
  | cons f fs ih =>
    intro b h
    simp only [eqFs] at h
    split at h
    · cases h
    · rename_i hn
      split at h
      · rename_i u1 u2 h1 h2
        obtain ⟨r, hr, h⟩ := Option.bind_eq_some_iff.1 h
        obtain ⟨s, hs, h⟩ := Option.bind_eq_some_iff.1 h
        cases h
        obtain ⟨v1, p1, q1⟩ := part_sim (w := w) h1 hx
        obtain ⟨v2, p2, q2⟩ := part_sim (w := w) h2 hy
        have e1 := he _ _ _ _ _ _ hr q1.v q2.v
        have hn' : f.name ≠ "_" := by simpa using hn
        rw [Op.eqFields]
        simp only [if_pos hn', Sem.run_bind, p1, p2, e1, Result.andThen_ok]
        cases r
        · simp
        · simpa using ih hs
      · cases h

theorem asI_some {k : IntKind} {n : Int} (h : asI k v = some n) : v = .int k n := by
  cases v with
  | int k' m => simp only [asI] at h; split at h
                · rename_i e; subst e; simpa using h
                · cases h
  | _ => cases h
theorem asB_some {b : Bool} (h : asB v = some b) : v = .bool b := by cases v <;> simp [asB] at h; rw [h]
theorem asS_some {b : ByteArray} (h : asS v = some b) : v = .string b := by cases v <;> simp [asS] at h; rw [h]
theorem asSl_some {s : Option Addr × Nat × Nat} (h : asSl v = some s) : v = .slice s.1 s.2.1 s.2.2 := by cases v <;> simp [asSl] at h; subst h; rfl
theorem asAg_some {s : Array Value} (h : asAg v = some s) : v = .agg s := by cases v <;> simp [asAg] at h; rw [h]

theorem slice_shape {x : Option Addr} {l c : Nat} {v' : Value} (h : VRel ρ (.slice x l c) v') : ∃ y m d, v' = .slice y m d ∧ y.isNone = x.isNone := by
  have hz := h.slice
  cases x with
  | none => obtain ⟨_, _, rfl⟩ := hz; exact ⟨_, _, _, rfl, rfl⟩
  | some a => obtain ⟨_, ⟨_, _, rfl⟩ | ⟨_, _, _, rfl⟩⟩ := hz <;> exact ⟨_, _, _, rfl, rfl⟩

theorem eqV_sim : ∀ (d k : Nat) (ty : TypeId) (x y : Value) (b : Bool) (x' y' : Value), eqV P d ty x y = some b → VRel ρ x x' → VRel ρ y y' →
    (Op.equalIn (d + k) ty x' y').run P w = .ok b w := by
  intro d
  induction d with
  | zero => intro k ty x y b x' y' h; cases h
  | succ d ih =>
    intro k ty x y b x' y' h hx hy
    rw [show d + 1 + k = (d + k) + 1 from by omega]
    simp only [eqV] at h
    split at h
    · rename_i hd
      obtain ⟨a1, h1, h3⟩ := Option.bind_eq_some_iff.1 h
      obtain ⟨b1, h2, h4⟩ := Option.bind_eq_some_iff.1 h3
      clear h h3
      cases asB_some h1; cases asB_some h2; cases h4
      rw [hx.bool, hy.bool]
      simp [Op.equalIn, run_underlying hd]
    · rename_i k1 hd
      obtain ⟨a1, h1, h3⟩ := Option.bind_eq_some_iff.1 h
      obtain ⟨b1, h2, h4⟩ := Option.bind_eq_some_iff.1 h3
      clear h h3
      cases asI_some h1; cases asI_some h2; cases h4
      rw [hx.int, hy.int]
      simp [Op.equalIn, run_underlying hd]
    · rename_i hd
      obtain ⟨a1, h1, h3⟩ := Option.bind_eq_some_iff.1 h
      obtain ⟨b1, h2, h4⟩ := Option.bind_eq_some_iff.1 h3
      clear h h3
      cases asS_some h1; cases asS_some h2; cases h4
      rw [hx.string, hy.string]
      simp [Op.equalIn, run_underlying hd]
    · rename_i hd
      obtain ⟨a1, h1, h3⟩ := Option.bind_eq_some_iff.1 h
      obtain ⟨b1, h2, h4⟩ := Option.bind_eq_some_iff.1 h3
      clear h h3
      cases asSl_some h1; cases asSl_some h2
      obtain ⟨x1, m1, c1, e1, n1⟩ := slice_shape hx
      obtain ⟨x2, m2, c2, e2, n2⟩ := slice_shape hy
      rw [e1, e2]
      split at h4
      · rename_i hn
        cases h4
        rw [hn] at n1
        cases x1 with
        | none => rw [← n2]; simp [Op.equalIn, run_underlying hd]
        | some _ => cases n1
      · rename_i hn
        split at h4
        · rename_i hn2
          cases h4
          rw [hn2] at n2
          cases x2 with
          | none =>
            cases x1 with
            | none => rw [← n1] at hn; simp at hn
            | some _ => simp [Op.equalIn, run_underlying hd]
          | some _ => cases n2
        · cases h4
    · rename_i fs hd
      obtain ⟨xs, h1, h3⟩ := Option.bind_eq_some_iff.1 h
      obtain ⟨ys, h2, h4⟩ := Option.bind_eq_some_iff.1 h3
      clear h h3
      cases asAg_some h1; cases asAg_some h2
      split at h4
      · cases h4
      · rename_i hst
        obtain ⟨xs', e1, h1⟩ := hx.agg
        obtain ⟨ys', e2, h2⟩ := hy.agg
        rw [e1, e2]
        have hf : P.fieldsOf ty = fs := by simp [Program.fieldsOf, hd]
        rw [run_equalIn_struct (P := P) w (d + k) ty xs' ys' (by rw [hf]; exact hd) (by simpa using hst), hf]
        exact eqFs_sim (fun ty x y b x' y' he hx hy => ih k ty x y b x' y' he hx hy) h1 h2 h4
    · cases h

theorem run_eq_of {ty : TypeId} {x y : Value} {b : Bool} (h : ∀ w : World, (Op.equalIn 10000 ty x y).run P w = .ok b w)
    (hk : (∃ a c, x = .bool a ∧ y = .bool c) ∨ (∃ a l c b m d, x = .slice a l c ∧ y = .slice b m d) ∨ (∃ a c, x = .agg a ∧ y = .agg c)) :
    (binOp .eql ty x y).run P w = .ok (.bool b) w ∧ (binOp .neq ty x y).run P w = .ok (.bool (!b)) w := by
  rcases hk with ⟨a, c, rfl, rfl⟩ | ⟨_, _, _, _, _, _, rfl, rfl⟩ | ⟨_, _, rfl, rfl⟩ <;>
    (constructor <;> (simp only [binOp, Op.equal, Op.maxDepth, Sem.run_bind]; rw [h w]; rfl))

theorem run_eqGuard_other {op : BinOp} {ty : TypeId} {x y : Operand} {v w1 : Value} (h : ∀ xs, v ≠ .agg xs) (h2 : v ≠ .nilIface) : (eqGuard op ty x y v w1).run P w = .ok () w := by
  unfold eqGuard
  cases op <;> simp <;> (cases v <;> first | (exact absurd rfl (h _)) | (exact absurd rfl h2) | simp)

theorem binIntK_run {op : BinOp} {k : IntKind} {x y : Int} {ty : TypeId} (hns : op ≠ .shl) (hnr : op ≠ .shr) (h : binIntK op k x y some = some v) :
    (binOp op ty (.int k x) (.int k y)).run P w = .ok v w ∧ SRel ρ v v := by
  cases op <;> simp only [binIntK] at h <;> first
    | (cases h; refine ⟨?_, .inl rfl⟩; simp [binOp, Op.intArith, Op.intCmp, Op.intBits])
    | (split at h
       · cases h
       · rename_i h0; cases h; refine ⟨?_, .inl rfl⟩; simp [binOp, Op.intDiv, h0])
    | cases h

theorem binStrK_run {op : BinOp} {x y : ByteArray} {ty : TypeId} (h : binStrK op x y some = some v) :
    (binOp op ty (.string x) (.string y)).run P w = .ok v w ∧ SRel ρ v v := by
  cases op
  case add =>
    simp only [binStrK] at h
    split at h
    · rename_i hs; cases h; refine ⟨?_, .inl rfl⟩
      have : ¬ (9223372036854775807 < ((x.size : Int) + (y.size : Int))) := by omega
      simp [binOp, Op.stringOp, IntKind.max, IntKind.signed, IntKind.bits, this]
    · cases h
  all_goals
    simp only [binStrK] at h
    first
      | (cases h; refine ⟨?_, .inl rfl⟩; simp [binOp, Op.stringOp]; done)
      | cases h

theorem binK_sim {op : BinOp} {ty : TypeId} {x y x' y' : Value} {ox oy : Operand} (h : binK P op ty x y some = some v) (hx : VRel ρ x x') (hy : VRel ρ y y') :
    ∃ v', (eqGuard op ty ox oy x' y').run P w = .ok () w ∧ (binOp op ty x' y').run P w = .ok v' w ∧ SRel ρ v v' := by
  unfold binK at h
  cases x <;> (try (cases h; done))
  case int k x1 =>
    cases y with
    | int k' y1 =>
    simp only [] at h
    rw [hx.int, hy.int]
    have hg : ∀ op', (eqGuard op' ty ox oy (.int k x1) (.int k' y1)).run P w = .ok () w := fun op' => run_eqGuard_other (by intro xs e; cases e) (by intro e; cases e)
    split at h
    · split at h
      · cases h
      · rename_i h0; cases h
        exact ⟨_, hg _, by simp [binOp, Op.shift, h0], .inl rfl⟩
    · split at h
      · cases h
      · rename_i h0; cases h
        exact ⟨_, hg _, by simp [binOp, Op.shift, h0], .inl rfl⟩
    · rename_i h1 h2
      split at h
      · rename_i e; subst e
        obtain ⟨p, q⟩ := binIntK_run (w := w) (ρ := ρ) (ty := ty) (P := P) (fun e => h1 e) (fun e => h2 e) h
        exact ⟨_, hg _, p, q⟩
      · cases h
    | _ => cases h
  case string x1 =>
    obtain ⟨y1, h1, h5⟩ := Option.bind_eq_some_iff.1 h
    clear h
    cases asS_some h1
    clear h1
    have h := h5
    clear h5
    rw [hx.string, hy.string]
    obtain ⟨p, q⟩ := binStrK_run (w := w) (ρ := ρ) (ty := ty) (P := P) h
    exact ⟨_, run_eqGuard_other (by intro xs e; cases e) (by intro e; cases e), p, q⟩
  case bool x1 =>
    obtain ⟨y1, h1, h5⟩ := Option.bind_eq_some_iff.1 h
    clear h
    cases asB_some h1
    clear h1
    have h := h5
    clear h5
    rw [hx.bool, hy.bool]
    split at h
    · rename_i hd
      split at h
      · cases h
        exact ⟨_, run_eqGuard_other (by intro xs e; cases e) (by intro e; cases e), (run_eq_of (fun w => eqV_sim (w := w) (ρ := ρ) 1 9999 ty (.bool x1) (.bool y1) (x1 == y1) _ _ (by simp [eqV, hd, asB]) (.inl (.inl (.inl rfl))) (.inl (.inl (.inl rfl)))) (.inl ⟨_, _, rfl, rfl⟩)).1, .inl rfl⟩
      · cases h
        exact ⟨_, run_eqGuard_other (by intro xs e; cases e) (by intro e; cases e), (run_eq_of (fun w => eqV_sim (w := w) (ρ := ρ) 1 9999 ty (.bool x1) (.bool y1) (x1 == y1) _ _ (by simp [eqV, hd, asB]) (.inl (.inl (.inl rfl))) (.inl (.inl (.inl rfl)))) (.inl ⟨_, _, rfl, rfl⟩)).2, .inl rfl⟩
      · cases h
    · cases h
  case agg xs =>
    obtain ⟨ys, h1, h5⟩ := Option.bind_eq_some_iff.1 h
    clear h
    cases asAg_some h1
    clear h1
    have h := h5
    clear h5
    split at h
    · cases h
    · rename_i hgt
      obtain ⟨xs', e1, h1⟩ := hx.agg
      obtain ⟨ys', e2, h2⟩ := hy.agg
      split at h
      · obtain ⟨b, hb, h⟩ := Option.bind_eq_some_iff.1 h
        cases h
        have he : ∀ w : World, (Op.equalIn 10000 ty x' y').run P w = .ok b w := fun w => eqV_sim (w := w) 40 9960 ty _ _ _ _ _ hb hx hy
        subst e1; subst e2
        exact ⟨_, by simp [eqGuard, hgt], (run_eq_of he (.inr (.inr ⟨_, _, rfl, rfl⟩))).1, .inl rfl⟩
      · obtain ⟨b, hb, h⟩ := Option.bind_eq_some_iff.1 h
        cases h
        have he : ∀ w : World, (Op.equalIn 10000 ty x' y').run P w = .ok b w := fun w => eqV_sim (w := w) 40 9960 ty _ _ _ _ _ hb hx hy
        subst e1; subst e2
        exact ⟨_, by simp [eqGuard, hgt], (run_eq_of he (.inr (.inr ⟨_, _, rfl, rfl⟩))).2, .inl rfl⟩
      · cases h
  case slice a1 l1 c1 =>
    obtain ⟨s, h1, h5⟩ := Option.bind_eq_some_iff.1 h
    clear h
    cases asSl_some h1
    clear h1
    have h := h5
    clear h5
    obtain ⟨b1, m1, d1, e1, _⟩ := slice_shape hx
    obtain ⟨b2, m2, d2, e2, _⟩ := slice_shape hy
    split at h
    · obtain ⟨b, hb, h⟩ := Option.bind_eq_some_iff.1 h
      cases h
      have he : ∀ w : World, (Op.equalIn 10000 ty x' y').run P w = .ok b w := fun w => eqV_sim (w := w) 40 9960 ty _ _ _ _ _ hb hx hy
      subst e1; subst e2
      exact ⟨_, run_eqGuard_other (by intro xs e; cases e) (by intro e; cases e), (run_eq_of he (.inr (.inl ⟨_, _, _, _, _, _, rfl, rfl⟩))).1, .inl rfl⟩
    · obtain ⟨b, hb, h⟩ := Option.bind_eq_some_iff.1 h
      cases h
      have he : ∀ w : World, (Op.equalIn 10000 ty x' y').run P w = .ok b w := fun w => eqV_sim (w := w) 40 9960 ty _ _ _ _ _ hb hx hy
      subst e1; subst e2
      exact ⟨_, run_eqGuard_other (by intro xs e; cases e) (by intro e; cases e), (run_eq_of he (.inr (.inl ⟨_, _, _, _, _, _, rfl, rfl⟩))).2, .inl rfl⟩
    · cases h

theorem sim_binOp {op : BinOp} {ty uty : TypeId} {x y : Operand} (ho : o.op = .binOp op ty x y uty) (h : opS P call slot o t H = some (v, H')) (hR : Rel w0 ρ H w) (hT : TRel ρ t a) : o.wp P a w (OpGoal w0 ρ o a v H') Q := by
  simp only [opS, aopK, ho] at h
  split at h
  · rename_i u1 u2 h1 h2
    rw [binK_cps] at h
    obtain ⟨u, hu, h⟩ := Option.bind_eq_some_iff.1 h
    cases h
    obtain ⟨v', p, q, r⟩ := binK_sim (w := w) (ox := x) (oy := y) hu (aev_rel hT h1) (aev_rel hT h2)
    exact sim_same v' hR r.v (by simp [execOp, ho, p, q])
  · cases h

theorem optInt_spec (hT : TRel ρ t a) {x : Option Operand} {i : Option Int} (h : optInt t x = some i) : x.map a.eval = i.map (.int .i64) := by
  cases x with
  | none => simp only [optInt, Option.some.injEq] at h; subst h; rfl
  | some x =>
    simp only [optInt] at h
    split at h
    · rename_i n hn; cases h; simp [(aev_rel hT hn).int]
    · cases h

theorem cutBounds_run {len cap cap' : Nat} {lo hi mx : Option Int} {r : Nat × Nat × Nat} (isS : Bool) (h : cutBounds len cap lo hi mx = some r) (hc : cap ≤ cap') :
    (Instr.sliceBounds isS len cap' (lo.map (.int .i64)) (hi.map (.int .i64)) (mx.map (.int .i64))).run P w = .ok (r.1, r.2.1, if mx.isSome then r.2.2 else cap') w ∧
      r.1 ≤ r.2.1 ∧ r.2.1 ≤ r.2.2 ∧ r.2.2 ≤ cap ∧ (mx = none → r.2.2 = cap) := by
  unfold cutBounds at h
  split at h
  · rename_i m h1
    split at h
    · rename_i hb; cases h
      refine ⟨?_, by simp; omega, by simp; omega, by simp; omega, by simp⟩
      obtain ⟨m, rfl⟩ := Int.eq_ofNat_of_zero_le hb.1
      obtain ⟨h1, rfl⟩ := Int.eq_ofNat_of_zero_le hb.2.2.1
      have c1 : m ≤ cap' := by omega
      have c2 : h1 ≤ m := by omega
      cases lo with
      | none => simp [Instr.sliceBounds, Instr.sliceBound, asIntOf, c1, c2]
      | some lo =>
        simp only [Option.getD_some] at hb
        obtain ⟨lo, rfl⟩ := Int.eq_ofNat_of_zero_le hb.2.2.2.2.1
        have c3 : lo ≤ h1 := by omega
        simp [Instr.sliceBounds, Instr.sliceBound, asIntOf, c1, c2, c3]
    · cases h
  · rename_i h1
    split at h
    · rename_i hb; cases h
      refine ⟨?_, by simp; omega, by simp; omega, by simp, by simp⟩
      obtain ⟨h1, rfl⟩ := Int.eq_ofNat_of_zero_le hb.1
      have c2 : h1 ≤ cap' := by omega
      cases lo with
      | none => simp [Instr.sliceBounds, Instr.sliceBound, asIntOf, c2]
      | some lo =>
        simp only [Option.getD_some] at hb
        obtain ⟨lo, rfl⟩ := Int.eq_ofNat_of_zero_le hb.2.2.1
        have c3 : lo ≤ h1 := by omega
        simp [Instr.sliceBounds, Instr.sliceBound, asIntOf, c2, c3]
    · cases h
  · split at h
    · rename_i hb; cases h
      refine ⟨?_, by simp; omega, by simp; omega, by simp, by simp⟩
      cases lo with
      | none => simp [Instr.sliceBounds]
      | some lo =>
        simp only [Option.getD_some] at hb
        obtain ⟨lo, rfl⟩ := Int.eq_ofNat_of_zero_le hb.2.1
        have c3 : lo ≤ len := by omega
        simp [Instr.sliceBounds, Instr.sliceBound, asIntOf, c3]
    · cases h
  · cases h

theorem sim_slice {ty : TypeId} {x : Operand} {lo hi mx : Option Operand} (ho : o.op = .slice ty x lo hi mx) (h : opS P call slot o t H = some (v, H')) (hR : Rel w0 ρ H w) (hT : TRel ρ t a) : o.wp P a w (OpGoal w0 ρ o a v H') Q := by
  simp only [opS, aopK, ho] at h
  split at h
  · rename_i ad l c ilo ihi imx hx hlo hhi hmx
    split at h
    · rename_i e hu
      split at h
      · rename_i n hn
        obtain ⟨r, hr, h⟩ := Option.bind_eq_some_iff.1 h
        cases h
        obtain ⟨q, hq, hr⟩ := Option.bind_eq_some_iff.1 hr
        cases hr
        obtain ⟨inf, hinf, rfl⟩ := szOf_spec hn
        have e1 := optInt_spec hT hlo
        have e2 := optInt_spec hT hhi
        have e3 := optInt_spec hT hmx
        cases ad with
        | none =>
          obtain ⟨rfl, rfl, he⟩ := (aev_rel hT hx).slice
          obtain ⟨hrun, k1, k2, k3, k4⟩ := cutBounds_run (w := w) (P := P) true hq (Nat.le_refl _)
          refine sim_same (.slice none 0 0) hR (.inl (.inl (.inl ⟨by simp; omega, by simp; omega, rfl⟩))) ?_
          have z1 : q.1 = 0 := by omega
          have z2 : q.2.1 = 0 := by omega
          have z3 : q.2.2 = 0 := by omega
          have z4 : (if imx.isSome = true then q.2.2 else 0) = 0 := by rw [z3]; simp
          simp [execOp, ho, he, e1, e2, e3, Instr.sliceAt, Instr.slice, run_underlying hu, hrun, sizeOf, typeInfo, hinf, z1, z2, z3]
        | some ad =>
          obtain ⟨hlc, ⟨rfl, a', he⟩ | ⟨ad', sl, hρ, he⟩⟩ := (aev_rel hT hx).slice
          · obtain rfl : l = 0 := by omega
            obtain ⟨hrun, k1, k2, k3, k4⟩ := cutBounds_run (w := w) (P := P) true hq (Nat.le_refl _)
            have z1 : q.1 = 0 := by omega
            have z2 : q.2.1 = 0 := by omega
            have z3 : q.2.2 = 0 := by omega
            refine sim_same (.slice (some a') 0 0) hR (.inl (.inl (.inl ⟨by simp; omega, .inl ⟨by simp; omega, a', rfl⟩⟩))) ?_
            simp [execOp, ho, he, e1, e2, e3, Instr.sliceAt, Instr.slice, run_underlying hu, hrun, sizeOf, typeInfo, hinf, z1, z2, z3]
          · obtain ⟨hrun, k1, k2, k3, k4⟩ := cutBounds_run (w := w) (P := P) (cap' := c + if ad.spot.isSome then 0 else sl) true hq (Nat.le_add_right _ _)
            have hexec : ∀ m, m = (if imx.isSome = true then q.2.2 else c + if ad.spot.isSome then 0 else sl) →
                (execOp a.eval o).run P w = .ok (.value (.slice (some (if m = q.1 then ad'.add ad.off else (ad'.add ad.off).add (q.1 * inf.size))) (q.2.1 - q.1) (m - q.1))) w := by
              intro m hm
              subst hm
              by_cases hm : (if imx.isSome = true then q.2.2 else c + if ad.spot.isSome then 0 else sl) = q.1
              · rw [if_pos hm]
                simp [execOp, ho, he, e1, e2, e3, Instr.sliceAt, Instr.slice, run_underlying hu, hrun, sizeOf, typeInfo, hinf, hm]
              · rw [if_neg hm]
                simp [execOp, ho, he, e1, e2, e3, Instr.sliceAt, Instr.slice, run_underlying hu, hrun, sizeOf, typeInfo, hinf, hm]
            cases imx with
            | some m3 =>
              simp only [Option.isSome_some, if_true] at hexec
              have hx2 := hexec _ rfl
              by_cases hm : q.2.2 = q.1
              · rw [if_pos hm] at hx2
                refine sim_same (.slice (some (ad'.add ad.off)) 0 0) hR (.inl (.inl (.inl ⟨by simp; omega, .inl ⟨by simp; omega, _, rfl⟩⟩))) ?_
                rw [hx2, hm, show q.2.1 = q.1 from by omega, Nat.sub_self]
              · rw [if_neg hm] at hx2
                refine sim_same _ hR (.inl (.inl (.inl ⟨by simp; omega, .inr ⟨ad', sl, hρ, rfl⟩⟩))) ?_
                rw [hx2, Addr.add_add]
                simp
            | none =>
              have hq2 := k4 rfl
              simp only [Option.isSome_none, Bool.false_eq_true, if_false] at hexec
              have hx2 := hexec _ rfl
              by_cases hm : (c + if ad.spot.isSome then 0 else sl) = q.1
              · rw [if_pos hm] at hx2
                refine sim_same (.slice (some (ad'.add ad.off)) 0 0) hR (.inl (.inl (.inl ⟨by simp; omega, .inl ⟨by simp; omega, _, rfl⟩⟩))) ?_
                rw [hx2, hm, show q.2.1 = q.1 from by omega, Nat.sub_self]
              · rw [if_neg hm] at hx2
                refine sim_same _ hR (.inl (.inl (.inl ⟨by simp; omega, .inr ⟨ad', sl, hρ, rfl⟩⟩))) ?_
                rw [hx2, Addr.add_add]
                simp only [Option.isSome_none, Bool.false_eq_true, if_false]
                rw [show c + (if ad.spot.isSome = true then 0 else sl) - q.1 = q.2.2 - q.1 + (if ad.spot.isSome = true then 0 else sl) from by omega]
      · cases h
    · cases h
  · rename_i s ilo ihi hx hlo hhi hmx
    split at h
    · rename_i hu
      obtain ⟨r, hr, h⟩ := Option.bind_eq_some_iff.1 h
      cases h
      have e1 := optInt_spec hT hlo
      have e2 := optInt_spec hT hhi
      have e3 := optInt_spec hT hmx
      obtain ⟨hrun, _⟩ := cutBounds_run (w := w) (P := P) false hr (Nat.le_refl _)
      simp only [Option.map_none] at hrun
      exact sim_same _ hR (.inl (.inl (.inl rfl))) (by simp [execOp, ho, (aev_rel hT hx).string, e1, e2, e3, Instr.sliceAt, Instr.slice, run_underlying hu, hrun])
    · cases h
  · cases h

end
end Go.Mx
end

section
set_option linter.unusedSimpArgs false
/- Simulation of calls of built-in functions. -/
namespace Go.Mx
open Go Go.RowKit

section
variable {P : Program} {call : CallF} {w0 w : World} {ρ : Ren} {t : List Value} {H H' : AHeap} {a : Act} {o : Oper} {slot : Option Nat} {v : Value}
  {Q : Exit → Act → World → Prop}

theorem append_room {t u elem : TypeId} {ty : TypeId} {inf : TypeInfo} {d : TypeDesc} (hu : P.underlying t = some (.slice elem)) (hi : P.info? elem = some inf)
    (hx : P.underlying u = some d) (hd : ∀ k, d ≠ .int k) {base : Option Addr} {sLen sCap n : Nat} {x : Value} {news : List Value}
    (hl : (Builtin.lenOf x).run P w = .ok n w) (hf : (Builtin.firstCells inf.size n x).run P w = .ok news.toArray w) (hroom : sLen + n ≤ sCap) {w' : World}
    (hs : ∀ ad, base = some ad → (storeCells (ad.add (sLen * inf.size)) news).run P w = .ok () w') (hn : base = none → w' = w) :
    (Builtin.append_ #[t, u] ty #[.slice base sLen sCap, x]).run P w = .ok (.slice base (sLen + n) sCap) w' := by
  cases base with
  | none =>
    rw [hn rfl]
    simp [Builtin.append_, run_underlying hu, run_underlying hx, sizeOf, typeInfo, hi, hl, hf, hroom]
  | some ad =>
    simp [Builtin.append_, run_underlying hu, run_underlying hx, sizeOf, typeInfo, hi, hl, hf, hroom, hs ad rfl]

theorem append_grow {t u elem : TypeId} {ty : TypeId} {inf : TypeInfo} {z : Value} {d : TypeDesc} (hu : P.underlying t = some (.slice elem)) (hi : P.info? elem = some inf) (hz : inf.zero = some z)
    (hx : P.underlying u = some d) (hd : ∀ k, d ≠ .int k) {base : Option Addr} {sLen sCap n : Nat} {x : Value} {news olds : List Value}
    (hl : (Builtin.lenOf x).run P w = .ok n w) (hf : (Builtin.firstCells inf.size n x).run P w.drew = .ok news.toArray w.drew)
    (ho : (Builtin.firstCells inf.size sLen (.slice base sLen sCap)).run P w.drew = .ok olds.toArray w.drew)
    (hroom : sCap < sLen + n) (h63 : sLen + n ≤ 70368744177664) (hb : (sLen + n) * inf.bytes ≤ 70368744177664) :
    (Builtin.append_ #[t, u] ty #[.slice base sLen sCap, x]).run P w =
      .ok (.slice (some ⟨w.heap.size, 0, none⟩) (sLen + n) (grownCap w (sLen + n) sCap elem))
        (w.drew.alloc (.cells (olds.toArray ++ news.toArray ++ Builtin.zeroCells z.cells (grownCap w (sLen + n) sCap elem - (sLen + n))) elem)) := by
  have hn : ¬ (sLen + n ≤ sCap) := by omega
  have h63' : ¬ (9223372036854775807 < ((sLen : Int) + (n : Int))) := by omega
  have h48' : ¬ (281474976710656 < Builtin.nextslicecap (sLen + n) sCap * inf.bytes) := by
    have := growslice_fits (bytes := inf.bytes) hroom (by omega)
    omega
  simp [Builtin.append_, run_underlying hu, run_underlying hx, sizeOf, typeInfo, zeroValue, hi, hz, hl, hn, h63', h48', Question.forced, hf, ho, newRow, grownCap]
  congr 2
  apply Array.ext'
  simp [List.append_assoc]

theorem firstC_sim {size n : Nat} {x x' : Value} {news : List Value} (h : firstC H size n x = some news) (hx : VRel ρ x x') (hR : Rel w0 ρ H w) :
    ∃ news', (Builtin.firstCells size n x').run P w = .ok news'.toArray w ∧ All2 (SRel ρ) news news' ∧ ((∃ s, x = .string s) ∨ news.length = n * size) := by
  unfold firstC at h
  split at h
  · rename_i ad l c
    split at h
    · rename_i hnl
      obtain ⟨hlc, ⟨rfl, a', he⟩ | ⟨ad', sl, hr, he⟩⟩ := hx.slice
      · obtain rfl : n = 0 := by omega
        have hnil : news = [] := by
          unfold AHeap.row at h
          split at h
          · split at h
            · cases h; simp
            · cases h
          · cases h
        subst hnil
        exact ⟨[], by rw [he]; simp [Builtin.firstCells, loadCells, loadCellsFrom], .nil, .inr (by simp)⟩
      · obtain ⟨l', h1, h2, h3⟩ := hR.row h hr
        refine ⟨l', ?_, h1, .inr h2⟩
        rw [he]
        exact run_firstCells_some (P := P) w size n _ _ _ l' (by rw [← h1.length, h2]) h3
    · cases h
  · split at h
    · rename_i hn
      subst hn
      cases h
      obtain ⟨_, _, he⟩ := hx.slice
      exact ⟨[], by rw [he]; simp [Builtin.firstCells], .nil, .inr (by simp)⟩
    · cases h
  · rename_i s
    split at h
    · rename_i hn
      subst hn
      cases h
      rw [hx.string]
      refine ⟨s.data.toList.map fun b => .int .u8 b.toNat, ?_, ?_, .inl ⟨s, rfl⟩⟩
      · have hx : (Array.map (fun b : UInt8 => Value.int IntKind.u8 (b.toNat : Int)) (s.extract 0 s.size).data) = (s.data.toList.map fun b => Value.int .u8 b.toNat).toArray := by
          have : s.extract 0 s.size = s := ByteArray.extract_zero_size
          rw [this]
          apply Array.ext'
          simp
        simp only [Builtin.firstCells]
        rw [hx]
        simp
      · exact All2.of_get rfl fun i x y hx hy => by
          rw [hx] at hy; cases hy
          simp only [List.getElem?_map, Option.map_eq_some_iff] at hx
          obtain ⟨b, _, rfl⟩ := hx
          exact .inl rfl
    · cases h
  · cases h

theorem Rel.kill {w0 : World} {ρ : Ren} {H : AHeap} {w : World} (h : Rel w0 ρ H w) {i : Nat} {b : Blk} (hg : H.get i = some b) (n : Nat) : Rel w0 ρ (H.put i { b with mode := .dead, ver := n }) w := by
  refine ⟨h.below, ?_, ?_, ?_, ?_⟩
  · intro j
    simp only [AHeap.put]
    split
    · rename_i e1; subst e1
      obtain ⟨x, hx⟩ := h.rho_some hg
      simp [hx]
    · exact h.dom j
  · intro j b' hb'
    simp only [AHeap.put] at hb'
    split at hb'
    · rename_i e1; subst e1
      cases hb'
      obtain ⟨ad, sl, hr, _⟩ := h.blk j b hg
      exact ⟨ad, sl, hr, by unfold BlkRel; trivial⟩
    · exact h.blk j b' hb'
  · intro j1 j2 b1 b2 ad1 sl1 ad2 sl2 h1 m1 h2 m2 hne r1 r2
    simp only [AHeap.put] at h1 h2
    split at h1
    · cases h1; cases m1
    · split at h2
      · cases h2; cases m2
      · exact h.inj j1 j2 b1 b2 ad1 sl1 ad2 sl2 h1 m1 h2 m2 hne r1 r2
  · intro j hj
    simp only [AHeap.put]
    split
    · rename_i e1; subst e1; rw [h.fresh _ hj] at hg; cases hg
    · exact h.fresh j hj

theorem get_grow (H : AHeap) (i : Nat) (b b2 : Blk) (j : Nat) : ((H.put i b).alloc none b2).get j = if j = H.next then some b2 else (H.put i b).get j := rfl

theorem zeroCells_size (z : Array Value) (n : Nat) : (Builtin.zeroCells z n).size = n * z.size := by simp [Builtin.zeroCells]

/-- a new block behind an append -/
theorem Rel.grown {w0 : World} {ρ : Ren} {H : AHeap} {w : World} (h : Rel w0 ρ H w) {cells : List Value} {cells' : Array Value} (hc : All2 (SRel ρ) cells cells'.toList) {z : Array Value} {elem : TypeId} {esz n cap : Nat}
    (hz : z.size = esz) (hn : n ≤ cap) :
    Rel w0 (ρ.ext H.next (⟨w.heap.size, 0, none⟩, cap - n)) (H.alloc none ⟨cells, esz, .rw, 0⟩) (w.drew.alloc (.cells (cells' ++ Builtin.zeroCells z (cap - n)) elem)) ∧
      ρ.le (ρ.ext H.next (⟨w.heap.size, 0, none⟩, cap - n)) ∧
      VRel (ρ.ext H.next (⟨w.heap.size, 0, none⟩, cap - n)) (.slice (some ⟨H.next, 0, none⟩) n n) (.slice (some ⟨w.heap.size, 0, none⟩) n cap) := by
  have hl := hc.length
  simp only [Array.length_toList] at hl
  obtain ⟨h1, h2⟩ := (Rel.drew h).alloc none (h.fresh _ (Nat.le_refl _)) (by intro i hi; cases hi) ⟨cells, esz, .rw, 0⟩ rfl (cells' ++ Builtin.zeroCells z (cap - n)) elem (cap - n)
    (by simp only [Array.size_append, zeroCells_size, hz, hl]) (by
      have : (cells' ++ Builtin.zeroCells z (cap - n)).toList.take cells.length = cells'.toList := by
        rw [Array.toList_append, List.take_append_of_le_length (by simp [hl])]
        rw [List.take_of_length_le (by simp [hl])]
      rw [this]; exact hc)
  refine ⟨h1, h2, ?_⟩
  have := slice_new ρ H.next w.heap.size (cap - n) n
  rwa [show n + (cap - n) = cap from by omega] at this

theorem apnd_sim {t u elem : TypeId} {ty : TypeId} {d : TypeDesc} (hu : P.underlying t = some (.slice elem)) (hx : P.underlying u = some d) (hd : ∀ k, d ≠ .int k)
    {base : Option Addr} {sLen sCap n : Nat} {s' x x' : Value} {news : List Value} {inf : TypeInfo} (hi : P.info? elem = some inf)
    (h : apnd P elem H base sLen sCap news n = some (v, H')) (hs : VRel ρ (.slice base sLen sCap) s') (hxr : VRel ρ x x') (hR : Rel w0 ρ H w)
    (hf : firstC H inf.size n x = some news) (hl : ∀ w : World, (Builtin.lenOf x').run P w = .ok n w) :
    ∃ v' w' ρ', (Builtin.append_ #[t, u] ty #[s', x']).run P w = .ok v' w' ∧ VRel ρ' v v' ∧ Rel w0 ρ' H' w' ∧ ρ.le ρ' := by
  obtain ⟨news', f1, f2, f3⟩ := firstC_sim (P := P) (w := w) hf hxr hR
  obtain ⟨newsD, g1, g2, g3⟩ := firstC_sim (P := P) (w := w.drew) hf hxr (Rel.drew hR)
  unfold apnd at h
  rw [hi] at h
  simp only [] at h
  split at h
  · cases h
  · rename_i hc0
    have hsz : inf.size ≠ 0 := fun e => hc0 (.inl e)
    have hnl : news.length = n * inf.size := Decidable.byContradiction fun e => hc0 (.inr (.inl e))
    have hlc : sLen ≤ sCap := Decidable.byContradiction fun e => hc0 (.inr (.inr e))
    split at h
    · rename_i hroom
      split at h
      · rename_i hn0
        subst hn0
        cases h
        have hnil : news' = [] := by
          have := f2.length; rw [hnl] at this; simp at this
          exact List.eq_nil_of_length_eq_zero this.symm
        subst hnil
        cases base with
        | none =>
          obtain ⟨rfl, rfl, he⟩ := hs.slice
          subst he
          exact ⟨_, w, ρ, append_room hu hi hx hd (hl w) f1 (by simp) (fun ad e => by cases e) (fun _ => rfl), hs, hR, Ren.le_refl _⟩
        | some ad =>
          obtain ⟨_, ⟨rfl, a', he⟩ | ⟨ad', sl, hr, he⟩⟩ := hs.slice
          · obtain rfl : sLen = 0 := by omega
            subst he
            exact ⟨_, w, ρ, append_room hu hi hx hd (hl w) f1 (by simp) (w' := w) (fun ad e => by simp [storeCells]) (fun e => by cases e), hs, hR, Ren.le_refl _⟩
          · subst he
            exact ⟨_, w, ρ, append_room hu hi hx hd (hl w) f1 (by omega) (w' := w) (fun ad e => by simp [storeCells]) (fun e => by cases e), hs, hR, Ren.le_refl _⟩
      · rename_i hn0
        split at h
        · cases h
        · rename_i ad
          obtain ⟨H1, hw, h⟩ := Option.bind_eq_some_iff.1 h
          cases h
          obtain ⟨_, ⟨rfl, a', he⟩ | ⟨ad', sl, hr, he⟩⟩ := hs.slice
          · omega
          · subst he
            obtain ⟨w', h1, h2⟩ := hR.wr hw f2 hr P
            refine ⟨_, w', ρ, append_room hu hi hx hd (hl w) f1 (by omega) (w' := w') (fun ad2 e => ?_) (fun e => by cases e), ?_, h2, Ren.le_refl _⟩
            · cases e
              rw [Addr.add_add]
              exact h1
            · exact .inl (.inl (.inl ⟨hroom, .inr ⟨ad', sl, hr, rfl⟩⟩))
    · rename_i hroom
      split at h
      · cases h
      · rename_i hc1
        have hzs : (zeroCellsOf P elem).isSome := by
          cases hzz : zeroCellsOf P elem with
          | some _ => rfl
          | none => exact absurd (.inl (by rw [hzz]; rfl)) hc1
        have hb1 : (sLen + n) * inf.bytes ≤ 70368744177664 := Decidable.byContradiction fun e => hc1 (.inr (.inl e))
        have hb2 : sLen + n ≤ 70368744177664 := Decidable.byContradiction fun e => hc1 (.inr (.inr e))
        obtain ⟨zc, hzc⟩ := Option.isSome_iff_exists.1 hzs
        obtain ⟨inf2, zv, k1, k2, k3, k4, k5⟩ := zeroCellsOf_spec (ρ := ρ) hzc
        rw [hi] at k1
        cases k1
        have hzsz : zv.cells.size = inf.size := by rw [← k4, ← k3]; simp
        split at h
        · -- nil
          cases h
          obtain ⟨rfl, rfl, he⟩ := hs.slice
          subst he
          have hrun := append_grow (ty := ty) hu hi k2 hx hd (base := none) (sLen := 0) (sCap := 0) (n := n) (news := newsD) (olds := []) (hl w) g1 (by simp [Builtin.firstCells]) (by omega) hb2 hb1
          have hg := grownCap_ge w (0 + n) 0 elem
          obtain ⟨r1, r2, r3⟩ := Rel.grown hR (cells := news) (cells' := newsD.toArray) (by simpa using g2) (z := zv.cells) (elem := elem) (n := 0 + n) (cap := grownCap w (0 + n) 0 elem) hzsz hg
          refine ⟨_, _, _, hrun, r3, ?_, r2⟩
          simpa using r1
        · rename_i ad
          split at h
          · cases h
          · rename_i b hgb
            split at h
            · cases h
            · rename_i hc2
              have hlive : b.mode ≠ .dead := fun e => hc2 (.inl e)
              have hfit : ad.off + sCap * inf.size ≤ b.cells.length := Decidable.byContradiction fun e => hc2 (.inr e)
              have hmul : sLen * inf.size ≤ sCap * inf.size := Nat.mul_le_mul_right _ hlc
              have hrow : H.row ad.block ad.off (sLen * inf.size) = some ((b.cells.drop ad.off).take (sLen * inf.size)) := by
                unfold AHeap.row
                rw [hgb]
                simp only []
                rw [if_pos ⟨hlive, by omega⟩]
              -- the old cells, in a world behind a draw
              have hold : ∀ b0 c0, s' = .slice (some b0) sLen c0 → ∃ olds', (Builtin.firstCells inf.size sLen (.slice (some b0) sLen c0)).run P w.drew = .ok olds'.toArray w.drew ∧ All2 (SRel ρ) ((b.cells.drop ad.off).take (sLen * inf.size)) olds' := by
                intro b0 c0 e0
                obtain ⟨_, ⟨h0, a', he⟩ | ⟨ad', sl, hr, he⟩⟩ := hs.slice
                · obtain rfl : sLen = 0 := by omega
                  exact ⟨[], by simp [Builtin.firstCells, loadCells, loadCellsFrom], by simp; exact .nil⟩
                · rw [e0] at he
                  cases he
                  obtain ⟨l', h1, h2, h3⟩ := (Rel.drew hR).row hrow hr
                  exact ⟨l', run_firstCells_some (P := P) w.drew inf.size sLen _ _ _ l' (by rw [← h1.length, h2]) h3, h1⟩
              -- the case of a new block
              have hnew : ∀ (H1 : AHeap) b0 c0, s' = .slice (some b0) sLen c0 → c0 < sLen + n → Rel w0 ρ H1 w → H1.next = H.next →
                  ∃ v' w' ρ', (Builtin.append_ #[t, u] ty #[s', x']).run P w = .ok v' w' ∧ VRel ρ' (.slice (some ⟨H.next, 0, none⟩) (sLen + n) (sLen + n)) v' ∧
                    Rel w0 ρ' (H1.alloc none ⟨(b.cells.drop ad.off).take (sLen * inf.size) ++ news, inf.size, .rw, 0⟩) w' ∧ ρ.le ρ' := by
                intro H1 b0 c0 e0 hc hR1 hnx
                obtain ⟨olds', q1, q2⟩ := hold b0 c0 e0
                have hrun := append_grow (ty := ty) hu hi k2 hx hd (base := some b0) (sLen := sLen) (sCap := c0) (n := n) (news := newsD) (olds := olds') (hl w) g1 q1 hc hb2 hb1
                have hg := grownCap_ge w (sLen + n) c0 elem
                obtain ⟨r1, r2, r3⟩ := Rel.grown hR1 (cells := (b.cells.drop ad.off).take (sLen * inf.size) ++ news) (cells' := olds'.toArray ++ newsD.toArray) (by simpa using q2.append g2) (z := zv.cells) (elem := elem) (n := sLen + n) (cap := grownCap w (sLen + n) c0 elem) hzsz hg
                rw [hnx] at r3
                refine ⟨_, _, _, by rw [e0]; exact hrun, r3, ?_, ?_⟩
                · rw [hnx] at r1; exact r1
                · rw [hnx] at r2; exact r2
              split at h
              · -- a slice whose capacity is its own
                rename_i hsp
                cases h
                obtain ⟨_, ⟨h0, a', he⟩ | ⟨ad', sl, hr, he⟩⟩ := hs.slice
                · obtain rfl : sLen = 0 := by omega
                  exact hnew H a' 0 he (by omega) hR rfl
                · rw [if_pos hsp] at he
                  exact hnew H _ _ he (by omega) hR rfl
              · rename_i hsp
                split at h
                · rename_i hcond
                  obtain ⟨hm, hesz, hend⟩ := hcond
                  cases h
                  have hRk := Rel.kill hR hgb (b.ver + 1)
                  obtain ⟨_, ⟨h0, a', he⟩ | ⟨ad', sl, hr, he⟩⟩ := hs.slice
                  · obtain rfl : sLen = 0 := by omega
                    exact hnew _ a' 0 he (by omega) hRk rfl
                  · rw [if_neg hsp] at he
                    by_cases hfits : sLen + n ≤ sCap + sl
                    · -- in place
                      subst he
                      obtain ⟨adb, slb, hrb, hbb⟩ := hR.blk _ _ hgb
                      rw [hr] at hrb
                      cases hrb
                      unfold BlkRel at hbb
                      rw [hm] at hbb
                      obtain ⟨hs0, hB, cs', e, hh, hzz, ha⟩ := hbb
                      obtain ⟨g, off, spot⟩ := ad'
                      simp only at hs0 hB hh hzz ha
                      subst hs0
                      have hlen2 := f2.length
                      have hmn : (sLen + n) * inf.size ≤ (sCap + sl) * inf.size := Nat.mul_le_mul_right _ hfits
                      rw [Nat.add_mul, Nat.add_mul] at hmn
                      rw [hesz] at hzz
                      have hst := run_storeCells_at P g (off + ad.off + sLen * inf.size) e news' 0 cs' w hh (by omega) (fun v hvm => by
                        obtain ⟨k, hk, rfl⟩ := List.getElem_of_mem hvm
                        have hk2 : k < news.length := by omega
                        obtain ⟨y, hy, hRy⟩ := f2.get k news[k] (List.getElem?_eq_getElem hk2)
                        rw [List.getElem?_eq_getElem hk] at hy
                        obtain rfl := Option.some.inj hy
                        exact hRy.one)
                      simp only [Nat.add_zero] at hst
                      have hcl : cs'.toList.length = cs'.size := Array.length_toList
                      refine ⟨_, w.setRow g (cs'.toList.take (off + ad.off + sLen * inf.size) ++ news' ++ cs'.toList.drop (off + ad.off + sLen * inf.size + news'.length)).toArray, ρ.ext H.next (⟨g, off + ad.off, none⟩, sCap + sl - (sLen + n)), append_room hu hi hx hd (hl w) f1 hfits (fun ad2 e2 => ?_) (fun e => by cases e), ?_, ?_, ?_⟩
                      · cases e2
                        rw [Addr.add_lit, Addr.add_lit]
                        exact hst
                      · refine .inl (.inl (.inl ⟨Nat.le_refl _, .inr ⟨_, _, Ren.ext_self _ _ _, ?_⟩⟩))
                        rw [Addr.add_lit, Addr.add_lit]
                        simp only [Nat.add_zero, Option.isSome_none, Bool.false_eq_true, if_false]
                        rw [show sLen + n + (sCap + sl - (sLen + n)) = sCap + sl from by omega]
                      · have hρ : ρ H.next = none := (hR.dom _).1 (hR.fresh _ (Nat.le_refl _))
                        have hle := Ren.ext_le hρ (⟨g, off + ad.off, none⟩, sCap + sl - (sLen + n))
                        have hne : ad.block ≠ H.next := fun e => by rw [e, hR.fresh _ (Nat.le_refl _)] at hgb; cases hgb
                        have hsp2 : (cs'.toList.take (off + ad.off + sLen * inf.size) ++ news' ++ cs'.toList.drop (off + ad.off + sLen * inf.size + news'.length)) = splice cs'.toList (off + ad.off + sLen * inf.size) news' := rfl
                        refine ⟨?_, ?_, ?_, ?_, ?_⟩
                        · exact hR.below.trans ⟨rfl, rfl, rfl, by simp [World.setRow], fun k hk => setRow_other w g k _ (by omega)⟩
                        · intro j
                          have := hRk.dom j
                          rw [get_grow]
                          unfold Ren.ext
                          by_cases e1 : j = H.next
                          · subst e1
                            rw [if_pos rfl]
                            simp
                          · rw [if_neg e1, if_neg e1]
                            exact this
                        · intro j b' hb'
                          rw [get_grow] at hb'
                          by_cases e1 : j = H.next
                          · subst e1
                            rw [if_pos rfl] at hb'
                            cases hb'
                            refine ⟨_, _, Ren.ext_self _ _ _, ?_⟩
                            unfold BlkRel
                            refine ⟨rfl, hB, _, e, setRow_heap w g cs' _ e (0, 0) hh, ?_, ?_⟩
                            · simp only [List.size_toArray, hsp2]
                              rw [splice_length (by omega)]
                              simp only [List.length_append, List.length_take, List.length_drop, hnl]
                              rw [Nat.sub_mul, Nat.add_mul, Nat.add_mul]
                              have : min (sLen * inf.size) (b.cells.length - ad.off) = sLen * inf.size := by omega
                              omega
                            · have hlo : ((b.cells.drop ad.off).take (sLen * inf.size)).length = sLen * inf.size := by simp; omega
                              have heq : (List.take (((b.cells.drop ad.off).take (sLen * inf.size)) ++ news).length (List.drop (off + ad.off) (splice cs'.toList (off + ad.off + sLen * inf.size) news'))) =
                                  ((cs'.toList.drop off).take b.cells.length |>.drop ad.off |>.take (sLen * inf.size)) ++ news' := by
                                apply List.ext_getElem?
                                intro m
                                unfold splice
                                simp only [List.getElem?_append, List.length_append, List.length_take, List.length_drop, List.getElem?_take, List.getElem?_drop, hnl]
                                repeat' split
                                all_goals first | omega | (congr 1; done) | (congr 1; omega) | (rw [List.getElem?_eq_none]; omega) | (symm; rw [List.getElem?_eq_none]; omega) | skip
                              have hfin : All2 (SRel ρ) (((b.cells.drop ad.off).take (sLen * inf.size)) ++ news) (((cs'.toList.drop off).take b.cells.length |>.drop ad.off |>.take (sLen * inf.size)) ++ news') :=
                                ((ha.drop ad.off).take _).append f2
                              rw [← heq] at hfin
                              exact hfin.mono fun _ _ => SRel.mono hle
                          · rw [if_neg e1] at hb'
                            obtain ⟨ad2, sl2, hr2, hb2⟩ := hRk.blk j b' hb'
                            refine ⟨ad2, sl2, hle _ _ hr2, (hb2.mono hle).below (fun k hk => setRow_other w g k _ (by omega)) ?_⟩
                            intro hm2
                            refine setRow_other w g _ _ ?_
                            have hjb : j ≠ ad.block := by
                              intro e2; subst e2
                              simp only [AHeap.put, if_true] at hb'
                              cases hb'
                              cases hm2
                            have hb3 : H.get j = some b' := by
                              simp only [AHeap.put] at hb'
                              rwa [if_neg hjb] at hb'
                            exact hR.inj j ad.block b' b ad2 sl2 _ _ hb3 hm2 hgb hm hjb hr2 hr
                        · intro j1 j2 b1 b2 ad1 sl1 ad2 sl2 h1 m1 h2 m2 hne12 r1 r2
                          rw [get_grow] at h1 h2
                          unfold Ren.ext at r1 r2
                          have oldne : ∀ j b1 ad1 sl1, j ≠ H.next → (H.put ad.block { b with mode := .dead, ver := b.ver + 1 }).get j = some b1 → b1.mode = .rw → ρ j = some (ad1, sl1) → ad1.block ≠ g := by
                            intro j b1 ad1 sl1 hj hb1 hm1 hr1
                            have hjb : j ≠ ad.block := by
                              intro e2; subst e2
                              simp only [AHeap.put, if_true] at hb1
                              cases hb1
                              cases hm1
                            have hb3 : H.get j = some b1 := by
                              simp only [AHeap.put] at hb1
                              rwa [if_neg hjb] at hb1
                            exact hR.inj j ad.block b1 b ad1 sl1 _ _ hb3 hm1 hgb hm hjb hr1 hr
                          by_cases e1 : j1 = H.next
                          · subst e1
                            have e2 : ¬ j2 = H.next := fun e => hne12 e.symm
                            rw [if_pos rfl] at r1
                            rw [if_neg e2] at r2
                            rw [if_neg e2] at h2
                            cases r1
                            exact (oldne j2 b2 ad2 sl2 e2 h2 m2 r2).symm
                          · rw [if_neg e1] at r1
                            rw [if_neg e1] at h1
                            by_cases e2 : j2 = H.next
                            · subst e2
                              rw [if_pos rfl] at r2
                              cases r2
                              exact oldne j1 b1 ad1 sl1 e1 h1 m1 r1
                            · rw [if_neg e2] at r2
                              rw [if_neg e2] at h2
                              exact hRk.inj j1 j2 b1 b2 ad1 sl1 ad2 sl2 h1 m1 h2 m2 hne12 r1 r2
                        · intro j hj
                          have hj' : H.next + 1 ≤ j := hj
                          rw [get_grow, if_neg (by omega)]
                          exact hRk.fresh j (by show H.next ≤ j; omega)
                      · have hρ : ρ H.next = none := (hR.dom _).1 (hR.fresh _ (Nat.le_refl _))
                        exact Ren.ext_le hρ _
                    · exact hnew _ _ _ he (by omega) hRk rfl
                · cases h

end
end Go.Mx
end

section
set_option linter.unusedSimpArgs false
/- Simulation of calls; all operations. -/
namespace Go.Mx
open Go Go.RowKit

section
variable {P : Program} {call : CallF} {w0 w : World} {ρ : Ren} {t : List Value} {H H' : AHeap} {a : Act} {o : Oper} {slot : Option Nat} {v : Value}
  {Q : Exit → Act → World → Prop}

theorem arr_of_toList {α : Type} {x : Array α} {l : List α} (h : x.toList = l) : x = l.toArray := by subst h; simp

theorem sim_len_str {c : Call} {s : ByteArray} {t0 : TypeId} (ho : o.op = .call c) (hb : c.callee = .builtin .len) (ha : aevs t c.args.toList = some [.string s]) (hty : c.argTypes.toList.head? = some t0)
    (hu : P.underlying t0 = some .string) (hR : Rel w0 ρ H w) (hT : TRel ρ t a) : o.wp P a w (OpGoal w0 ρ o a (.int .i64 (s.size : Int)) H) Q := by
  have hr := aevs_rel hT ha
  cases hl : c.args.toList.map a.eval with
  | nil => rw [hl] at hr; cases hr
  | cons x' r =>
    rw [hl] at hr
    cases hr with
    | cons h1 h2 =>
      cases h2
      cases h1.string
      have hm : c.args.map a.eval = #[.string s] := arr_of_toList (by rw [Array.toList_map, hl])
      have ht : c.argTypes[0]? = some t0 := by
        rw [← Array.getElem?_toList, ← List.head?_eq_getElem?]; exact hty
      exact sim_same _ hR (.inl (.inl (.inl rfl))) (by simp [execOp, ho, resolve, hb, hm, invoke, builtin, Builtin.len_, ht, run_underlying hu, goInt])

theorem sim_len_slice {c : Call} {ad : Option Addr} {l cap : Nat} {t0 e : TypeId} (ho : o.op = .call c) (hb : c.callee = .builtin .len) (ha : aevs t c.args.toList = some [.slice ad l cap]) (hty : c.argTypes.toList.head? = some t0)
    (hu : P.underlying t0 = some (.slice e)) (hR : Rel w0 ρ H w) (hT : TRel ρ t a) : o.wp P a w (OpGoal w0 ρ o a (.int .i64 (l : Int)) H) Q := by
  have hr := aevs_rel hT ha
  cases hl : c.args.toList.map a.eval with
  | nil => rw [hl] at hr; cases hr
  | cons x' r =>
    rw [hl] at hr
    cases hr with
    | cons h1 h2 =>
      cases h2
      have hsh : ∃ b d, x' = .slice b l d := by
        have hz := h1.slice
        cases ad with
        | none => obtain ⟨rfl, _, rfl⟩ := hz; exact ⟨_, _, rfl⟩
        | some ad => obtain ⟨hlc, ⟨h0, _, rfl⟩ | ⟨_, _, _, rfl⟩⟩ := hz
                     · obtain rfl : l = 0 := by omega
                       exact ⟨_, _, rfl⟩
                     · exact ⟨_, _, rfl⟩
      obtain ⟨b, d, rfl⟩ := hsh
      have hm : c.args.map a.eval = #[.slice b l d] := arr_of_toList (by rw [Array.toList_map, hl])
      have ht : c.argTypes[0]? = some t0 := by
        rw [← Array.getElem?_toList, ← List.head?_eq_getElem?]; exact hty
      exact sim_same _ hR (.inl (.inl (.inl rfl))) (by simp [execOp, ho, resolve, hb, hm, invoke, builtin, Builtin.len_, ht, run_underlying hu, goInt])

theorem two_args {c : Call} {x y : Value} (ha : aevs t c.args.toList = some [x, y]) (hT : TRel ρ t a) :
    ∃ x' y', c.args.map a.eval = #[x', y'] ∧ VRel ρ x x' ∧ VRel ρ y y' := by
  have hr := aevs_rel hT ha
  cases hl : c.args.toList.map a.eval with
  | nil => rw [hl] at hr; cases hr
  | cons x' r =>
    rw [hl] at hr
    cases hr with
    | cons h1 h2 =>
      cases h2 with
      | @cons _ y' _ _ h3 h4 =>
        cases h4
        exact ⟨x', y', arr_of_toList (by rw [Array.toList_map, hl]), h1, h3⟩

theorem one_arg {c : Call} {x : Value} (ha : aevs t c.args.toList = some [x]) (hT : TRel ρ t a) :
    ∃ x', c.args.map a.eval = #[x'] ∧ VRel ρ x x' := by
  have hr := aevs_rel hT ha
  cases hl : c.args.toList.map a.eval with
  | nil => rw [hl] at hr; cases hr
  | cons x' r =>
    rw [hl] at hr
    cases hr with
    | cons h1 h2 =>
      cases h2
      exact ⟨x', arr_of_toList (by rw [Array.toList_map, hl]), h1⟩

theorem apndV_sim {tys : List TypeId} {s x s' x' : Value} {ty : TypeId} (h : apndV P tys H s x = some (v, H')) (hs : VRel ρ s s') (hx : VRel ρ x x') (hR : Rel w0 ρ H w) :
    ∃ v' w' ρ', (Builtin.append_ tys.toArray ty #[s', x']).run P w = .ok v' w' ∧ VRel ρ' v v' ∧ Rel w0 ρ' H' w' ∧ ρ.le ρ' := by
  unfold apndV at h
  split at h
  · rename_i t u
    split at h
    · rename_i elem base sLen sCap hu
      split at h
      · rename_i e2 xa xl xc hu2
        split at h
        · rename_i inf hi
          obtain ⟨news, hf, h⟩ := Option.bind_eq_some_iff.1 h
          refine apnd_sim hu hu2 (by intro k e; cases e) hi h hs hx hR hf ?_
          intro w
          obtain ⟨b, d, e⟩ : ∃ b d, x' = .slice b xl d := by
            have hz := hx.slice
            cases xa with
            | none => obtain ⟨rfl, _, rfl⟩ := hz; exact ⟨_, _, rfl⟩
            | some ad => obtain ⟨hlc, ⟨h0, _, rfl⟩ | ⟨_, _, _, rfl⟩⟩ := hz
                         · obtain rfl : xl = 0 := by omega
                           exact ⟨_, _, rfl⟩
                         · exact ⟨_, _, rfl⟩
          rw [e]
          simp [Builtin.lenOf]
        · cases h
      · rename_i s2 hu2
        split at h
        · rename_i inf hi
          split at h
          · rename_i h1
            obtain ⟨news, hf, h⟩ := Option.bind_eq_some_iff.1 h
            rw [← h1] at hf
            refine apnd_sim hu hu2 (by intro k e; cases e) hi h hs hx hR hf ?_
            intro w
            rw [hx.string]
            simp [Builtin.lenOf]
          · cases h
        · cases h
      · cases h
    · cases h
  · cases h

theorem sim_append {c : Call} {s x : Value} {ty : Option TypeDesc} (ho : o.op = .call c) (hb : c.callee = .builtin .append) (ha : aevs t c.args.toList = some [s, x])
    (h : ((apndV P c.argTypes.toList H s x).bind fun p => normK ty p.1 fun v => some (v, p.2)) = some (v, H')) (hR : Rel w0 ρ H w) (hT : TRel ρ t a) : o.wp P a w (OpGoal w0 ρ o a v H') Q := by
  obtain ⟨p, hp, h⟩ := Option.bind_eq_some_iff.1 h
  rw [normK_cps] at h
  obtain ⟨u, hu, h⟩ := Option.bind_eq_some_iff.1 h
  cases h
  cases normK_id hu
  obtain ⟨s', x', hm, h1, h2⟩ := two_args ha hT
  obtain ⟨v', w', ρ', hrun, h3, h4, h5⟩ := apndV_sim (ty := o.type) hp h1 h2 hR
  simp only [Array.toArray_toList] at hrun
  exact wp_val (by simp [execOp, ho, resolve, hb, hm, invoke, builtin, hrun]) ⟨v', ρ', rfl, h3, h4, h5⟩

theorem run_copy {tys : Array TypeId} {t0 elem ty : TypeId} {inf : TypeInfo} (ht : tys[0]? = some t0) (hu : P.underlying t0 = some (.slice elem)) (hi : P.info? elem = some inf)
    {base : Option Addr} {dLen dc xl : Nat} {x' : Value} {cells' : List Value} (hl : (Builtin.lenOf x').run P w = .ok xl w)
    (f1 : (Builtin.firstCells inf.size (Nat.min xl dLen) x').run P w = .ok cells'.toArray w) {w' : World}
    (hs : ∀ ad, base = some ad → (storeCells ad cells').run P w = .ok () w') (hn : base = none → w' = w) :
    (Builtin.copy_ tys ty #[.slice base dLen dc, x']).run P w = .ok (.int .i64 (min xl dLen : Nat)) w' := by
  have hmin : Nat.min xl dLen = min xl dLen := rfl
  rw [hmin] at f1
  cases base with
  | none => rw [hn rfl]; simp [Builtin.copy_, ht, run_underlying hu, sizeOf, typeInfo, hi, hl, hmin, f1, goInt]
  | some ad => simp [Builtin.copy_, ht, run_underlying hu, sizeOf, typeInfo, hi, hl, hmin, f1, goInt, hs ad rfl]

theorem sim_copy {c : Call} {d x : Value} (ho : o.op = .call c) (hb : c.callee = .builtin .copy) (ha : aevs t c.args.toList = some [d, x])
    (h : copyV P c.argTypes.toList H d x = some (v, H')) (hR : Rel w0 ρ H w) (hT : TRel ρ t a) : o.wp P a w (OpGoal w0 ρ o a v H') Q := by
  obtain ⟨d', x', hm, h1, h2⟩ := two_args ha hT
  unfold copyV at h
  split at h
  · rename_i t0 tl hty
    have ht : c.argTypes[0]? = some t0 := by
      rw [← Array.getElem?_toList, hty]; rfl
    split at h
    · rename_i elem base dLen dc xa xl xc hu
      split at h
      · rename_i inf hi
        obtain ⟨cells, hf, h⟩ := Option.bind_eq_some_iff.1 h
        obtain ⟨cells', f1, f2, f3⟩ := firstC_sim (P := P) (w := w) hf h2 hR
        have hl : ∀ w : World, (Builtin.lenOf x').run P w = .ok xl w := by
          intro w
          obtain ⟨b, d, e⟩ : ∃ b d, x' = .slice b xl d := by
            have hz := h2.slice
            cases xa with
            | none => obtain ⟨rfl, _, rfl⟩ := hz; exact ⟨_, _, rfl⟩
            | some ad => obtain ⟨hlc, ⟨h0, _, rfl⟩ | ⟨_, _, _, rfl⟩⟩ := hz
                         · obtain rfl : xl = 0 := by omega
                           exact ⟨_, _, rfl⟩
                         · exact ⟨_, _, rfl⟩
          rw [e]
          simp [Builtin.lenOf]
        have fin : ∀ (b' : Option Addr) (dd : Nat) (w' : World), d' = .slice b' dLen dd → (∀ ad, b' = some ad → (storeCells ad cells').run P w = .ok () w') → (b' = none → w' = w) →
            (execOp a.eval o).run P w = .ok (.value (.int .i64 (min xl dLen : Nat))) w' := by
          intro b' dd w' e1 hs hn
          subst e1
          simp [execOp, ho, resolve, hb, hm, invoke, builtin, run_copy ht hu hi (hl w) f1 hs hn]
        split at h
        · cases h
          obtain ⟨rfl, _, e⟩ := h1.slice
          exact sim_same _ hR (.inl (.inl (.inl rfl))) (fin none 0 w e (fun ad e => by cases e) (fun _ => rfl))
        · rename_i ad
          split at h
          · rename_i hn0
            cases h
            have hnil : cells' = [] := by
              rcases f3 with ⟨s, e⟩ | f3
              · cases e
              · have := f2.length; rw [f3, hn0] at this; simp at this
                exact List.eq_nil_of_length_eq_zero this.symm
            obtain ⟨b, dd, e⟩ : ∃ b dd, d' = .slice (some b) dLen dd := by
              obtain ⟨hlc, ⟨h0, _, rfl⟩ | ⟨_, _, _, rfl⟩⟩ := h1.slice
              · obtain rfl : dLen = 0 := by omega
                exact ⟨_, _, rfl⟩
              · exact ⟨_, _, rfl⟩
            exact sim_same _ hR (.inl (.inl (.inl rfl))) (fin (some b) dd w e (fun ad _ => by subst hnil; simp [storeCells]) (fun e => by cases e))
          · rename_i hn0
            obtain ⟨H1, hw, h⟩ := Option.bind_eq_some_iff.1 h
            cases h
            obtain ⟨hlc, ⟨h0, _, e⟩ | ⟨ad', sl, hr, e⟩⟩ := h1.slice
            · exact absurd (show min xl dLen = 0 by omega) hn0
            · obtain ⟨w', k1, k2⟩ := hR.wr hw f2 hr P
              exact wp_val (fin _ _ w' e (fun ad2 e2 => by cases e2; exact k1) (fun e => by cases e)) ⟨_, ρ, rfl, .inl (.inl (.inl rfl)), k2, Ren.le_refl _⟩
      · cases h
    · cases h
  · cases h

theorem sim_clear {c : Call} {x : Value} (ho : o.op = .call c) (hb : c.callee = .builtin .clear) (ha : aevs t c.args.toList = some [x])
    (h : clearV P c.argTypes.toList H x = some H') (hR : Rel w0 ρ H w) (hT : TRel ρ t a) : o.wp P a w (OpGoal w0 ρ o a (.tuple #[]) H') Q := by
  obtain ⟨x', hm, h1⟩ := one_arg ha hT
  unfold clearV at h
  split at h
  · rename_i t0 hty
    have ht : c.argTypes[0]? = some t0 := by
      rw [← Array.getElem?_toList, hty]; rfl
    split at h
    · rename_i elem ad n cap hu
      split at h
      · rename_i hn
        cases h
        subst hn
        obtain ⟨b, d, e⟩ : ∃ b d, x' = .slice b 0 d := by
          have hz := h1.slice
          cases ad with
          | none => obtain ⟨_, _, rfl⟩ := hz; exact ⟨_, _, rfl⟩
          | some ad => obtain ⟨hlc, ⟨h0, _, rfl⟩ | ⟨_, _, _, rfl⟩⟩ := hz <;> exact ⟨_, _, rfl⟩
        subst e
        refine sim_same (.tuple #[]) hR (VRel.undef ρ) ?_
        cases b <;> simp [execOp, ho, resolve, hb, hm, invoke, builtin, Builtin.clear_, ht, run_underlying hu]
      · rename_i hn
        split at h
        · rename_i ad
          obtain ⟨z, hz, h⟩ := Option.bind_eq_some_iff.1 h
          split at h
          · cases h
          · rename_i hz0
            obtain ⟨inf, zv, k1, k2, k3, k4, k5⟩ := zeroCellsOf_spec (ρ := ρ) hz
            obtain ⟨hlc, ⟨h0, _, rfl⟩ | ⟨ad', sl, hr, rfl⟩⟩ := h1.slice
            · omega
            · obtain ⟨w', q1, q2⟩ := hR.wr h (rep_rel k5 n) hr P
              have hzc : (Builtin.zeroCells zv.cells n).toList = rep z n := by
                rw [← k3]; exact zeros_rep zv.cells (by rw [← Array.length_toList, k3]; omega) n
              refine wp_val (v' := .tuple #[]) (w' := w') ?_ ⟨_, ρ, rfl, VRel.undef ρ, q2, Ren.le_refl _⟩
              cases n with
              | zero => exact absurd rfl hn
              | succ n => simp [execOp, ho, resolve, hb, hm, invoke, builtin, Builtin.clear_, ht, run_underlying hu, zeroValue, typeInfo, k1, k2, hzc, q1]
        · cases h
          obtain ⟨rfl, _, _⟩ := h1.slice
          exact absurd rfl hn
    · cases h
  · cases h

theorem foldInt_sim (big : Bool) : ∀ {l l' : List Value} {x x' v : Value}, foldInt big x l = some v → VRel ρ x x' → All2 (VRel ρ) l l' →
    ∃ v', (l'.foldlM (if big then Builtin.max2 else Builtin.min2) x').run P w = .ok v' w ∧ VRel ρ v v' := by
  intro l
  induction l with
  | nil =>
    intro l' x x' v h hx hl
    cases hl
    have e : x = v := by cases x <;> simpa [foldInt] using h
    subst e
    exact ⟨x', by simp, hx⟩
  | cons y rest ih =>
    intro l' x x' v h hx hl
    cases hl with
    | cons h1 h2 =>
      cases x with
      | int k n =>
        cases y with
        | int k' m =>
          simp only [foldInt] at h
          split at h
          · rename_i e
            subst e
            rw [hx.int, h1.int]
            obtain ⟨v', q1, q2⟩ := ih h (.inl (.inl (.inl rfl))) h2
            refine ⟨v', ?_, q2⟩
            simp only [List.foldlM_cons, Sem.run_bind]
            cases big
            · simpa [Builtin.min2] using q1
            · simpa [Builtin.max2] using q1
          · cases h
        | _ => simp [foldInt] at h
      | _ => simp [foldInt] at h

theorem sim_maxmin (big : Bool) {c : Call} {x : Value} {rest : List Value} (ho : o.op = .call c) (hb : c.callee = .builtin (if big then .max else .min)) (ha : aevs t c.args.toList = some (x :: rest))
    (h : foldInt big x rest = some v) (hR : Rel w0 ρ H w) (hT : TRel ρ t a) : o.wp P a w (OpGoal w0 ρ o a v H) Q := by
  have hr := aevs_rel hT ha
  cases hl : c.args.toList.map a.eval with
  | nil => rw [hl] at hr; cases hr
  | cons x' r =>
    rw [hl] at hr
    cases hr with
    | cons h1 h2 =>
      have hm : c.args.map a.eval = (x' :: r).toArray := arr_of_toList (by rw [Array.toList_map, hl])
      obtain ⟨v', q1, q2⟩ := foldInt_sim (P := P) (w := w) big h h1 h2
      refine sim_same v' hR q2 ?_
      cases big
      · simp only [Bool.false_eq_true, if_false] at q1 hb
        simp [execOp, ho, resolve, hb, hm, invoke, builtin, Builtin.min_, q1]
      · simp only [if_true] at q1 hb
        simp [execOp, ho, resolve, hb, hm, invoke, builtin, Builtin.max_, q1]

theorem sim_func {c : Call} {f : Operand} {g : FuncId} {first captured : Array Value} {args : List Value} {ty : Option TypeDesc} (hc : CallSound P call w0) (ho : o.op = .call c) (hb : c.callee = .value f)
    (hf : aev t f = some (.func (.func g) first captured)) (ha : aevs t c.args.toList = some args) (hbody : hasBody P g = true)
    (h : ((call g (first.toList ++ args ++ captured.toList) H).bind fun p => normK ty p.1 fun v => some (v, p.2)) = some (v, H')) (hR : Rel w0 ρ H w) (hT : TRel ρ t a) : o.wp P a w (OpGoal w0 ρ o a v H') Q := by
  obtain ⟨p, hp, h⟩ := Option.bind_eq_some_iff.1 h
  rw [normK_cps] at h
  obtain ⟨u, hu, h⟩ := Option.bind_eq_some_iff.1 h
  cases h
  cases normK_id hu
  obtain ⟨rfl, cs', he, hcs⟩ := (aev_rel hT hf).fn
  have hargs : All2 (VRel ρ) args (c.args.map a.eval).toList := by rw [Array.toList_map]; exact aevs_rel hT ha
  have hall : All2 (VRel ρ) (#[].toList ++ args ++ captured.toList) (#[] ++ c.args.map a.eval ++ cs').toList := by
    simp only [Array.toList_append, List.nil_append]
    exact hargs.append (hcs.mono fun _ _ h => h.v)
  have hcall := hc g _ H p.1 p.2 hp ρ w (#[] ++ c.args.map a.eval ++ cs') hR hall
  have hexec : (execOp a.eval o).run P w = .ok (.enter g (#[] ++ c.args.map a.eval ++ cs')) w := by
    unfold hasBody at hbody
    split at hbody
    · rename_i fn hfn
      simp only [Bool.and_eq_true, bne_iff_ne, ne_eq] at hbody
      obtain ⟨h1, h2⟩ := hbody
      have h1' : fn.body ≠ none := by intro e; rw [e] at h1; cases h1
      simp [execOp, ho, resolve, hb, Deferred.ofValue, he, invoke, callFunc, hfn, h1', h2]
    · cases hbody
  unfold Oper.wp
  rw [hexec]
  refine hcall.mono fun e w' hh => ?_
  obtain ⟨v', ρ', rfl, h1, h2, h3⟩ := hh
  exact ⟨v', ρ', rfl, h1, h2, h3⟩

/-- every operation -/
theorem op_sim (hc : CallSound P call w0) (h : opS P call slot o t H = some (v, H')) (hR : Rel w0 ρ H w) (hT : TRel ρ t a)
    (hf : H.get (H.newId slot) = none) (hs : ∀ i, slot = some i → i < H.next) : o.wp P a w (OpGoal w0 ρ o a v H') Q := by
  cases ho : o.op with
  | move x => exact sim_move ho h hR hT
  | assign x => exact sim_assign ho h hR hT
  | pick c x y => exact sim_pick ho h hR hT
  | alloc e => exact sim_alloc ho h hR hf hs
  | box e x => exact sim_box ho h hR hT hf hs
  | build ty parts => exact sim_build ho h hR hT
  | buildSlice ty n parts => exact sim_buildSlice ho h hR hT hf hs
  | load ty x => exact sim_load ho h hR hT
  | store ty x y => exact sim_store ho h hR hT
  | nilCheck x => exact sim_nilCheck ho h hR hT
  | binOp op ty x y u => exact sim_binOp ho h hR hT
  | unOp op ty x => exact sim_unOp ho h hR hT
  | convert s d x => exact sim_convert ho h hR hT
  | makeSlice ty l c => exact sim_makeSlice ho h hR hT hf hs
  | slice ty x lo hi mx => exact sim_slice ho h hR hT
  | fieldAddr ty x f => exact sim_fieldAddr ho h hR hT
  | field ty x f => exact sim_field ho h hR hT
  | indexAddr ty x ix => exact sim_indexAddr ho h hR hT
  | index ty x ix => exact sim_index ho h hR hT
  | extract x i => exact sim_extract ho h hR hT
  | makeFunc fn first captured => exact sim_makeFunc ho h hR hT
  | call c =>
    simp only [opS, aopK, ho, callK] at h
    split at h
    · cases h
    · rename_i args ha
      split at h
      · rename_i f hb
        split at h
        · rename_i g first captured hf'
          split at h
          · rename_i hbody
            exact sim_func hc ho hb hf' ha hbody h hR hT
          · cases h
        · cases h
      · cases h
      · rename_i b hb
        split at h
        · split at h
          · rename_i hu
            obtain ⟨t0, h1, h2⟩ := Option.bind_eq_some_iff.1 hu
            cases h
            exact sim_len_str ho hb ha h1 h2 hR hT
          · cases h
        · split at h
          · rename_i hu
            obtain ⟨t0, h1, h2⟩ := Option.bind_eq_some_iff.1 hu
            cases h
            exact sim_len_slice ho hb ha h1 h2 hR hT
          · cases h
        · exact sim_append ho hb ha h hR hT
        · obtain ⟨p, hp, h⟩ := Option.bind_eq_some_iff.1 h
          cases h
          exact sim_copy ho hb ha hp hR hT
        · obtain ⟨p, hp, h⟩ := Option.bind_eq_some_iff.1 h
          cases h
          exact sim_clear ho hb ha hp hR hT
        · obtain ⟨p, hp, h⟩ := Option.bind_eq_some_iff.1 h
          cases h
          exact sim_maxmin true ho hb ha hp hR hT
        · obtain ⟨p, hp, h⟩ := Option.bind_eq_some_iff.1 h
          cases h
          exact sim_maxmin false ho hb ha hp hR hT
        · cases h
  | _ => simp [opS, aopK, ho] at h

end
end Go.Mx
end
