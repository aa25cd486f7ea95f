/- A small deterministic machine over an abstract heap: definitions. -/
import Derived.Calls
import Derived.Laws.Append
import Derived.Below
namespace Go.Mx
open Go

inductive BMode where
  | rw | ro | dead
  deriving DecidableEq

structure Blk where
  cells : List Value
  esz : Nat
  mode : BMode
  ver : Nat

structure AHeap where
  get : Nat → Option Blk
  next : Nat

def AHeap.put (H : AHeap) (i : Nat) (b : Blk) : AHeap := { get := fun j => if j = i then some b else H.get j, next := H.next }
def AHeap.bump (H : AHeap) (n : Nat) : AHeap := { get := H.get, next := H.next + n }
def AHeap.newId (H : AHeap) : Option Nat → Nat
  | none => H.next
  | some i => i
def AHeap.alloc (H : AHeap) (slot : Option Nat) (b : Blk) : AHeap :=
  match slot with
  | none => { get := fun j => if j = H.next then some b else H.get j, next := H.next + 1 }
  | some i => { get := fun j => if j = i then some b else H.get j, next := H.next }

/-- the cell at an address -/
def AHeap.cell (H : AHeap) (i o : Nat) : Option Value :=
  match H.get i with
  | some b => if b.mode = .dead then none else b.cells[o]?
  | none => none

/-- n cells from an address on -/
def AHeap.row (H : AHeap) (i o n : Nat) : Option (List Value) :=
  match H.get i with
  | some b => if b.mode ≠ .dead ∧ o + n ≤ b.cells.length then some ((b.cells.drop o).take n) else none
  | none => none

def splice (l : List Value) (o : Nat) (vs : List Value) : List Value := l.take o ++ vs ++ l.drop (o + vs.length)

/-- cells written from an address on -/
def AHeap.wr (H : AHeap) (i o : Nat) (vs : List Value) : Option AHeap :=
  match H.get i with
  | some b => if b.mode = .rw ∧ o + vs.length ≤ b.cells.length then some (H.put i { b with cells := splice b.cells o vs, ver := b.ver + 1 }) else none
  | none => none

def asI (k : IntKind) : Value → Option Int
  | .int k' n => if k = k' then some n else none
  | _ => none
def asB : Value → Option Bool
  | .bool b => some b
  | _ => none
def asS : Value → Option ByteArray
  | .string s => some s
  | _ => none
def asSl : Value → Option (Option Addr × Nat × Nat)
  | .slice a l c => some (a, l, c)
  | _ => none
def asPt : Value → Option (Option Addr)
  | .pointer a => some a
  | _ => none
def asAg : Value → Option (Array Value)
  | .agg a => some a
  | _ => none
def asTp : Value → Option (Array Value)
  | .tuple a => some a
  | _ => none

def ldI (k : IntKind) (H : AHeap) (i o : Nat) : Option Int := (H.cell i o).bind (asI k)
def ldB (H : AHeap) (i o : Nat) : Option Bool := (H.cell i o).bind asB
def ldS (H : AHeap) (i o : Nat) : Option ByteArray := (H.cell i o).bind asS
def ldSl (H : AHeap) (i o : Nat) : Option (Option Addr × Nat × Nat) := (H.cell i o).bind asSl
def ldPt (H : AHeap) (i o : Nat) : Option (Option Addr) := (H.cell i o).bind asPt

section
variable {R : Type}

/-- a value of a known type, taken apart and put together again -/
def normK (d : Option TypeDesc) (v : Value) (K : Value → Option R) : Option R :=
  match d with
  | some (.int k) => (asI k v).bind fun n => K (.int k n)
  | some .bool => (asB v).bind fun b => K (.bool b)
  | some .string => (asS v).bind fun s => K (.string s)
  | some (.slice _) => (asSl v).bind fun s => K (.slice s.1 s.2.1 s.2.2)
  | some (.pointer _) => (asPt v).bind fun p => K (.pointer p)
  | some (.struct _) => (asAg v).bind fun a => K (.agg a)
  | some (.array _ _) => (asAg v).bind fun a => K (.agg a)
  | some (.tuple _) => (asTp v).bind fun a => K (.tuple a)
  | _ => K v

def loadK (P : Program) (t : TypeId) (i o : Nat) (H : AHeap) (K : Value → Option R) : Option R :=
  match P.underlying t with
  | some (.int k) => (ldI k H i o).bind fun n => K (.int k n)
  | some .bool => (ldB H i o).bind fun b => K (.bool b)
  | some .string => (ldS H i o).bind fun s => K (.string s)
  | some (.slice _) => (ldSl H i o).bind fun s => K (.slice s.1 s.2.1 s.2.2)
  | some (.pointer _) => (ldPt H i o).bind fun p => K (.pointer p)
  | some (.struct _) | some (.array _ _) =>
    match P.info? t with
    | some inf => (H.row i o inf.size).bind fun l => K (.agg l.toArray)
    | none => none
  | some _ => (H.cell i o).bind K
  | none => none

def oneCell : Value → Bool
  | .agg _ | .tuple _ => false
  | _ => true

def closedV : Value → Bool
  | .bool _ | .int _ _ | .string _ | .nilFunc | .nilIface => true
  | .pointer a => a.isNone
  | .slice a l c => a.isNone && l == 0 && c == 0
  | .map r => r.isNone
  | _ => false

def aev (t : List Value) : Operand → Option Value
  | .tmp i => some (t.getD i undef)
  | .const v => if closedV v then some v else none
  | .func f => some (.func (.func f) #[] #[])
  | .global _ => none

def aevs (t : List Value) : List Operand → Option (List Value)
  | [] => some []
  | x :: xs => match aev t x, aevs t xs with
    | some v, some vs => some (v :: vs)
    | _, _ => none

def apartsev (t : List Value) : List (Nat × Operand) → Option (List (Nat × Value))
  | [] => some []
  | (i, x) :: xs => match aev t x, apartsev t xs with
    | some v, some vs => some ((i, v) :: vs)
    | _, _ => none

def notTup : Value → Bool
  | .tuple _ => false
  | _ => true
def basicV : Value → Bool
  | .bool _ | .int _ _ | .string _ | .pointer _ | .slice _ _ _ | .nilFunc | .nilIface => true
  | _ => false

/-- parts laid into cells -/
def afill (place : Nat → Option (Nat × Nat)) (cells : List Value) : List (Nat × Value) → Option (List Value)
  | [] => some cells
  | (i, v) :: rest =>
    match place i with
    | none => none
    | some (off, size) => if notTup v = true ∧ v.cells.toList.length = size ∧ off + size ≤ cells.length then afill place (splice cells off v.cells.toList) rest else none

def szOf (P : Program) (t : TypeId) : Option Nat :=
  match P.info? t with
  | some i => some i.size
  | none => none

def places (P : Program) : List Field → Option (List (Nat × Nat))
  | [] => some []
  | f :: fs => match szOf P f.type, places P fs with
    | some n, some l => some ((f.offset, n) :: l)
    | _, _ => none

/-- the zero value's cells, all closed -/
def zeroCellsOf (P : Program) (t : TypeId) : Option (List Value) :=
  match P.info? t with
  | some i => match i.zero with
    | some z => if z.cells.toList.all closedV && z.cells.toList.length == i.size then some z.cells.toList else none
    | none => none
  | none => none

def rep (l : List Value) : Nat → List Value
  | 0 => []
  | n + 1 => l ++ rep l n

def isAggD : TypeDesc → Bool
  | .struct _ | .array _ _ => true
  | _ => false

/-- a part of a struct or an array -/
def partV (P : Program) (ty : TypeId) (cs : List Value) (off : Nat) : Option Value :=
  match P.underlying ty with
  | some d => bif isAggD d then
      (match szOf P ty with
       | some n => if off + n ≤ cs.length then some (.agg ((cs.drop off).take n).toArray) else none
       | none => none)
    else cs[off]?
  | none => none

def eqFs (P : Program) (eq : TypeId → Value → Value → Option Bool) (xs ys : List Value) : List Field → Option Bool
  | [] => some true
  | f :: fs =>
    if f.name == "_" then none else
    match partV P f.type xs f.offset, partV P f.type ys f.offset with
    | some a, some b => (eq f.type a b).bind fun r => (eqFs P eq xs ys fs).bind fun s => some (r && s)
    | _, _ => none

/-- ==, one comparison of values of a type (no interfaces, no pointers but nil) -/
def eqV (P : Program) : Nat → TypeId → Value → Value → Option Bool
  | 0, _, _, _ => none
  | d + 1, t, x, y =>
    match P.underlying t with
    | some .bool => (asB x).bind fun a => (asB y).bind fun b => some (a == b)
    | some (.int k) => (asI k x).bind fun a => (asI k y).bind fun b => some (a == b)
    | some .string => (asS x).bind fun a => (asS y).bind fun b => some (a == b)
    | some (.slice _) => (asSl x).bind fun a => (asSl y).bind fun b => if a.1.isNone then some b.1.isNone else if b.1.isNone then some false else none
    | some (.struct fs) => (asAg x).bind fun xs => (asAg y).bind fun ys => if P.stoodInHeld t then none else eqFs P (eqV P d) xs.toList ys.toList fs.toList
    | _ => none

def addrOff (a : Addr) (n : Nat) : Addr := ⟨a.block, a.off + n, a.spot⟩

/-- append(s, x): the slices' own cells -/
def apnd (P : Program) (elem : TypeId) (H : AHeap) (base : Option Addr) (sLen sCap : Nat) (news : List Value) (n : Nat) : Option (Value × AHeap) :=
  match P.info? elem with
  | none => none
  | some inf =>
    if inf.size = 0 ∨ news.length ≠ n * inf.size ∨ ¬ (sLen ≤ sCap) then none else
    if sLen + n ≤ sCap then
      if n = 0 then some (.slice base sLen sCap, H) else
      match base with
      | none => none
      | some a => (H.wr a.block (a.off + sLen * inf.size) news).bind fun H' => some (.slice base (sLen + n) sCap, H')
    else if (zeroCellsOf P elem).isNone ∨ ¬ ((sLen + n) * inf.bytes ≤ 70368744177664) ∨ ¬ (sLen + n ≤ 70368744177664) then none else
      match base with
      | none => some (.slice (some ⟨H.next, 0, none⟩) (sLen + n) (sLen + n), H.alloc none ⟨news, inf.size, .rw, 0⟩)
      | some a =>
        match H.get a.block with
        | none => none
        | some b =>
          if b.mode = .dead ∨ ¬ (a.off + sCap * inf.size ≤ b.cells.length) then none else
          let olds := (b.cells.drop a.off).take (sLen * inf.size)
          if a.spot.isSome then
            some (.slice (some ⟨H.next, 0, none⟩) (sLen + n) (sLen + n), H.alloc none ⟨olds ++ news, inf.size, .rw, 0⟩)
          else if b.mode = .rw ∧ b.esz = inf.size ∧ a.off + sCap * inf.size = b.cells.length then
            some (.slice (some ⟨H.next, 0, none⟩) (sLen + n) (sLen + n), (H.put a.block { b with mode := .dead, ver := b.ver + 1 }).alloc none ⟨olds ++ news, inf.size, .rw, 0⟩)
          else none

/-- the first n cells of a slice or a string -/
def firstC (H : AHeap) (size n : Nat) : Value → Option (List Value)
  | .slice (some a) l _ => if n ≤ l then H.row a.block a.off (n * size) else none
  | .slice none _ _ => if n = 0 then some [] else none
  | .string s => if n = s.size then some (s.data.toList.map fun b => .int .u8 b.toNat) else none
  | _ => none

def apndV (P : Program) (tys : List TypeId) (H : AHeap) (s x : Value) : Option (Value × AHeap) :=
  match tys with
  | [t, u] =>
    match P.underlying t, s with
    | some (.slice elem), .slice base sLen sCap =>
      match P.underlying u, x with
      | some (.slice _), .slice xa xl xc => match P.info? elem with
        | some inf => (firstC H inf.size xl (.slice xa xl xc)).bind fun news => apnd P elem H base sLen sCap news xl
        | none => none
      | some .string, .string s => match P.info? elem with
        | some inf => if inf.size = 1 then (firstC H 1 s.size (.string s)).bind fun news => apnd P elem H base sLen sCap news s.size else none
        | none => none
      | _, _ => none
    | _, _ => none
  | _ => none

def copyV (P : Program) (tys : List TypeId) (H : AHeap) (d x : Value) : Option (Value × AHeap) :=
  match tys with
  | t :: _ =>
    match P.underlying t, d, x with
    | some (.slice elem), .slice base dLen _, .slice xa xl xc => match P.info? elem with
      | some inf => (firstC H inf.size (min xl dLen) (.slice xa xl xc)).bind fun cells =>
        match base with
        | none => some (.int .i64 (min xl dLen : Nat), H)
        | some a => if min xl dLen = 0 then some (.int .i64 (min xl dLen : Nat), H) else (H.wr a.block a.off cells).bind fun H' => some (.int .i64 (min xl dLen : Nat), H')
      | none => none
    | _, _, _ => none
  | [] => none

def clearV (P : Program) (tys : List TypeId) (H : AHeap) (x : Value) : Option AHeap :=
  match tys with
  | [t] =>
    match P.underlying t, x with
    | some (.slice elem), .slice a n _ =>
      if n = 0 then some H else
      match a with
      | some a => (zeroCellsOf P elem).bind fun z => if z.length = 0 then none else H.wr a.block a.off (rep z n)
      | none => some H
    | _, _ => none
  | _ => none

def cutBounds (len cap : Nat) (lo hi mx : Option Int) : Option (Nat × Nat × Nat) :=
  match mx, hi with
  | some m, some h => if 0 ≤ m ∧ m ≤ cap ∧ 0 ≤ h ∧ h ≤ m ∧ 0 ≤ lo.getD 0 ∧ lo.getD 0 ≤ h then some ((lo.getD 0).toNat, h.toNat, m.toNat) else none
  | none, some h => if 0 ≤ h ∧ h ≤ cap ∧ 0 ≤ lo.getD 0 ∧ lo.getD 0 ≤ h then some ((lo.getD 0).toNat, h.toNat, cap) else none
  | none, none => if len ≤ cap ∧ 0 ≤ lo.getD 0 ∧ lo.getD 0 ≤ len then some ((lo.getD 0).toNat, len, cap) else none
  | some _, none => none

/-- x[lo:hi:mx] of a slice -/
def cutSl (size : Nat) (a : Option Addr) (len cap : Nat) (lo hi mx : Option Int) : Option (Option Addr × Nat × Nat) :=
  (cutBounds len cap lo hi mx).bind fun r =>
    some (a.map fun a => ⟨a.block, a.off + r.1 * size, if mx.isSome then some 0 else a.spot⟩, r.2.1 - r.1, r.2.2 - r.1)

def optInt (t : List Value) : Option Operand → Option (Option Int)
  | none => some none
  | some x => match aev t x with
    | some (.int .i64 n) => some (some n)
    | _ => none

def binIntK (op : BinOp) (k : IntKind) (x y : Int) (K : Value → Option R) : Option R :=
  match op with
  | .add => K (.int k (k.wrap (x + y)))
  | .sub => K (.int k (k.wrap (x - y)))
  | .mul => K (.int k (k.wrap (x * y)))
  | .quo => if y = 0 then none else K (.int k (k.wrap (x.tdiv y)))
  | .rem => if y = 0 then none else K (.int k (x.tmod y))
  | .and => K (.int k (k.wrap ((BitVec.ofInt k.bits x &&& BitVec.ofInt k.bits y).toNat : Int)))
  | .or => K (.int k (k.wrap ((BitVec.ofInt k.bits x ||| BitVec.ofInt k.bits y).toNat : Int)))
  | .xor => K (.int k (k.wrap ((BitVec.ofInt k.bits x ^^^ BitVec.ofInt k.bits y).toNat : Int)))
  | .eql => K (.bool (x == y))
  | .neq => K (.bool (x != y))
  | .lss => K (.bool (x < y))
  | .leq => K (.bool (x ≤ y))
  | .gtr => K (.bool (x > y))
  | .geq => K (.bool (x ≥ y))
  | _ => none

def binStrK (op : BinOp) (x y : ByteArray) (K : Value → Option R) : Option R :=
  match op with
  | .add => if x.size + y.size ≤ 140737488355328 then K (.string (x ++ y)) else none
  | .eql => K (.bool (x.toList == y.toList))
  | .neq => K (.bool (!(x.toList == y.toList)))
  | .lss => K (.bool (Op.bytesLess x.toList y.toList))
  | .leq => K (.bool (Op.bytesLess x.toList y.toList || x.toList == y.toList))
  | .gtr => K (.bool (!(Op.bytesLess x.toList y.toList || x.toList == y.toList)))
  | .geq => K (.bool (!Op.bytesLess x.toList y.toList))
  | _ => none

def binK (P : Program) (op : BinOp) (t : TypeId) (v w : Value) (K : Value → Option R) : Option R :=
  match v with
  | .int k x =>
    match w with
    | .int k' y =>
      match op with
      | .shl => if y < 0 then none else K (.int k (k.wrap (x * 2 ^ (min y.toNat k.bits))))
      | .shr => if y < 0 then none else K (.int k (x.fdiv (2 ^ (min y.toNat k.bits))))
      | _ => if k = k' then binIntK op k x y K else none
    | _ => none
  | .string x => (asS w).bind fun y => binStrK op x y K
  | .bool x => (asB w).bind fun y =>
    match P.underlying t with
    | some .bool => match op with
      | .eql => K (.bool (x == y))
      | .neq => K (.bool (!(x == y)))
      | _ => none
    | _ => none
  | .agg xs => (asAg w).bind fun ys =>
    if P.eqGuardType P.depth t then none else
    match op with
    | .eql => (eqV P 40 t (.agg xs) (.agg ys)).bind fun b => K (.bool b)
    | .neq => (eqV P 40 t (.agg xs) (.agg ys)).bind fun b => K (.bool (!b))
    | _ => none
  | .slice a l c => (asSl w).bind fun s =>
    match op with
    | .eql => (eqV P 40 t (.slice a l c) (.slice s.1 s.2.1 s.2.2)).bind fun b => K (.bool b)
    | .neq => (eqV P 40 t (.slice a l c) (.slice s.1 s.2.1 s.2.2)).bind fun b => K (.bool (!b))
    | _ => none
  | _ => none

def unK (op : UnOp) (v : Value) (K : Value → Option R) : Option R :=
  match op, v with
  | .neg, .int k n => K (.int k (k.wrap (0 - n)))
  | .not, .bool b => K (.bool (!b))
  | _, _ => none

/-- the smaller, the greater of integers -/
def foldInt (big : Bool) : Value → List Value → Option Value
  | v, [] => some v
  | .int k x, .int k' y :: rest => if k = k' then foldInt big (.int k (if big then (if y > x then y else x) else (if y < x then y else x))) rest else none
  | _, _ => none

abbrev CallF := FuncId → List Value → AHeap → Option (Value × AHeap)

/-- the functions of the program's text that have a body (a call of any other function is not taken) -/
def hasBody (P : Program) (f : FuncId) : Bool :=
  match P.funcs[f]? with
  | some fn => fn.body.isSome && fn.name != "runtime.NumGoroutine"
  | none => false

def callK (P : Program) (call : CallF) (o : Oper) (c : Call) (t : List Value) (H : AHeap) (K : Value → AHeap → Option R) : Option R :=
  match aevs t c.args.toList with
  | none => none
  | some args =>
    match c.callee with
    | .value f =>
      match aev t f with
      | some (.func (.func g) first captured) =>
        if hasBody P g then
          (call g (first.toList ++ args ++ captured.toList) H).bind fun p => normK (P.underlying o.type) p.1 fun v => K v p.2
        else none
      | _ => none
    | .invoke _ _ => none
    | .builtin b =>
      match b, args with
      | .len, [.string s] => match (c.argTypes.toList.head?).bind P.underlying with
        | some .string => K (.int .i64 (s.size : Int)) H
        | _ => none
      | .len, [.slice _ l _] => match (c.argTypes.toList.head?).bind P.underlying with
        | some (.slice _) => K (.int .i64 (l : Int)) H
        | _ => none
      | .append, [s, x] => (apndV P c.argTypes.toList H s x).bind fun p => normK (P.underlying o.type) p.1 fun v => K v p.2
      | .copy, [d, x] => (copyV P c.argTypes.toList H d x).bind fun p => K p.1 p.2
      | .clear, [x] => (clearV P c.argTypes.toList H x).bind fun H' => K (.tuple #[]) H'
      | .max, v :: rest => (foldInt true v rest).bind fun v => K v H
      | .min, v :: rest => (foldInt false v rest).bind fun v => K v H
      | _, _ => none

/-- one operation -/
def aopK (P : Program) (call : CallF) (slot : Option Nat) (o : Oper) (t : List Value) (H : AHeap) (K : Value → AHeap → Option R) : Option R :=
  match o.op with
  | .move x | .assign x => match aev t x with
    | some v => K v H
    | none => none
  | .pick c a b => match aev t c with
    | some (.bool s) => bif s then (match aev t a with | some v => K v H | none => none) else (match aev t b with | some v => K v H | none => none)
    | _ => none
  | .alloc elem => match zeroCellsOf P elem with
    | some z => K (.pointer (some ⟨H.newId slot, 0, none⟩)) (H.alloc slot ⟨z, 0, .rw, 0⟩)
    | none => none
  | .box _ x => match aev t x with
    | some v => bif notTup v then K (.pointer (some ⟨H.newId slot, 0, none⟩)) (H.alloc slot ⟨v.cells.toList, 0, .rw, 0⟩) else none
    | none => none
  | .build ty parts =>
    match zeroCellsOf P ty, apartsev t parts.toList with
    | some z, some vs =>
      match P.underlying ty with
      | some (.struct fs) => match places P fs.toList with
        | some pl => match afill (pl[·]?) z vs with
          | some cells => K (.agg cells.toArray) H
          | none => none
        | none => none
      | some (.array _ e) => match szOf P e with
        | some n => match afill (fun i => some (i * n, n)) z vs with
          | some cells => K (.agg cells.toArray) H
          | none => none
        | none => none
      | _ => none
    | _, _ => none
  | .buildSlice ty len parts =>
    match P.underlying ty with
    | some (.slice e) =>
      match zeroCellsOf P e, apartsev t parts.toList with
      | some z, some vs =>
        if z.length = 0 ∨ 65536 < len * z.length then none else
        match afill (fun i => some (i * z.length, z.length)) (rep z len) vs with
        | some cells => K (.slice (some ⟨H.newId slot, 0, none⟩) len len) (H.alloc slot ⟨cells, z.length, .rw, 0⟩)
        | none => none
      | _, _ => none
    | _ => none
  | .load ty x => match aev t x with
    | some (.pointer (some a)) => loadK P ty a.block a.off H fun v => K v H
    | _ => none
  | .store ty x y => match aev t x, aev t y with
    | some (.pointer (some a)), some v => match szOf P ty with
      | some n => if notTup v = true ∧ v.cells.toList.length = n then (H.wr a.block a.off v.cells.toList).bind fun H' => K undef H' else none
      | none => none
    | _, _ => none
  | .nilCheck x => match aev t x with
    | some (.pointer p) => p.bind fun a => K (.pointer (some a)) H
    | some (.func (.func f) first captured) => K (.func (.func f) first captured) H
    | _ => none
  | .binOp op ty x y _ => match aev t x, aev t y with
    | some v, some w => binK P op ty v w fun u => K u H
    | _, _ => none
  | .unOp op _ x => match aev t x with
    | some v => unK op v fun u => K u H
    | none => none
  | .convert src dst x => match aev t x with
    | some (.int _ n) => match P.underlying src, P.underlying dst with
      | some (.int _), some (.int k) => K (.int k (k.wrap n)) H
      | _, _ => none
    | _ => none
  | .makeSlice ty l c => match aev t l, aev t c with
    | some (.int .i64 n), some (.int .i64 m) =>
      if n = m then
        match P.underlying ty with
        | some (.slice e) => match zeroCellsOf P e, P.info? e with
          | some z, some inf => if z.length = 0 then none else if 0 ≤ n ∧ n * inf.bytes ≤ 70368744177664 ∧ n ≤ 70368744177664 then
              K (.slice (some ⟨H.newId slot, 0, none⟩) n.toNat n.toNat) (H.alloc slot ⟨rep z n.toNat, z.length, .rw, 0⟩)
            else none
          | _, _ => none
        | _ => none
      else none
    | _, _ => none
  | .slice ty x lo hi mx => match aev t x, optInt t lo, optInt t hi, optInt t mx with
    | some (.slice a l c), some lo, some hi, some mx => match P.underlying ty with
      | some (.slice e) => match szOf P e with
        | some n => (cutSl n a l c lo hi mx).bind fun r => K (.slice r.1 r.2.1 r.2.2) H
        | none => none
      | _ => none
    | some (.string s), some lo, some hi, some none => match P.underlying ty with
      | some .string => (cutBounds s.size s.size lo hi none).bind fun r => K (.string (s.extract r.1 r.2.1)) H
      | _ => none
    | _, _, _, _ => none
  | .fieldAddr ty x f => match aev t x with
    | some (.pointer (some a)) => match P.underlying ty with
      | some (.struct fs) => match fs.toList[f]? with
        | some fl => match szOf P fl.type with
          | some n => if n = 0 then none else K (.pointer (some ⟨a.block, a.off + fl.offset, none⟩)) H
          | none => none
        | none => none
      | _ => none
    | _ => none
  | .field ty x f => match aev t x with
    | some (.agg cs) => match P.underlying ty with
      | some (.struct fs) => match fs.toList[f]? with
        | some fl => (partV P fl.type cs.toList fl.offset).bind fun v => normK (P.underlying fl.type) v fun v => K v H
        | none => none
      | _ => none
    | _ => none
  | .indexAddr ty x ix => match aev t x, aev t ix with
    | some (.slice a l _), some (.int _ i) => match P.underlying ty with
      | some (.slice e) => match szOf P e with
        | some n => a.bind fun a => if 0 ≤ i ∧ i < (l : Int) then K (.pointer (some ⟨a.block, a.off + i.toNat * n, none⟩)) H else none
        | none => none
      | _ => none
    | some (.pointer (some a)), some (.int _ i) => match P.underlying ty with
      | some (.array l e) => match szOf P e with
        | some n => if 0 ≤ i ∧ i < (l : Int) then K (.pointer (some ⟨a.block, a.off + i.toNat * n, none⟩)) H else none
        | none => none
      | _ => none
    | _, _ => none
  | .index ty x ix => match aev t ix with
    | some (.int _ i) => match aev t x with
      | some (.agg cs) => match P.underlying ty with
        | some (.array l e) => match szOf P e with
          | some n => if 0 ≤ i ∧ i < (l : Int) then
              (partV P e cs.toList (i.toNat * n)).bind fun v => normK (P.underlying e) v fun v => K v H
            else none
          | none => none
        | _ => none
      | some (.string s) => match P.underlying ty with
        | some .string => if 0 ≤ i then (s[i.toNat]?).bind fun b => K (.int .u8 (b.toNat : Int)) H else none
        | _ => none
      | _ => none
    | _ => none
  | .extract x i => match aev t x with
    | some (.tuple vs) => (vs.toList[i]?).bind fun v => normK (P.underlying o.type) v fun v => K v H
    | _ => none
  | .makeFunc (.func f) first captured => match aevs t first.toList, aevs t captured.toList with
    | some [], some cs => bif cs.all basicV then K (.func (.func f) #[] cs.toArray) H else none
    | _, _ => none
  | .call c => callK P call o c t H K
  | _ => none

def putT (t : List Value) : Option Tmp → Value → List Value
  | some d, v => t.set d v
  | none, _ => t

/-- has the block stayed as it was? -/
def sameB (H0 H : AHeap) (i : Nat) : Bool :=
  match H0.get i, H.get i with
  | some b, some b' => b.ver == b'.ver
  | _, _ => false

/-- in a region that draws its order: a load reads what was there when the region began -/
def ldGuard (g : Option AHeap) (o : Oper) (t : List Value) (H : AHeap) (X : Option R) : Option R :=
  match g with
  | none => X
  | some H0 => match o.op with
    | .load _ x => match aev t x with
      | some (.pointer (some a)) => bif sameB H0 H a.block then X else none
      | _ => none
    | _ => X

def runOps (P : Program) (call : CallF) (g : Option AHeap) (all : List Oper) : List (Option Nat × Oper) → (List Value → AHeap → Option R) → List Value → AHeap → Option R
  | [], K, t, H => K t H
  | (s, o) :: rest, K, t, H =>
    match o.guard with
    | none => ldGuard g o t H (aopK P call s o t H fun v H' => runOps P call g all rest K (putT t o.dst v) H')
    | some (j, want) =>
      match (all[j]?).bind (·.dst) with
      | none => runOps P call g all rest K (putT t o.dst undef) H
      | some d =>
        match t[d]? with
        | some (.bool s') => bif s' then
            (bif want then ldGuard g o (t.set d (.bool true)) H (aopK P call s o (t.set d (.bool true)) H fun v H' => runOps P call g all rest K (putT (t.set d (.bool true)) o.dst v) H')
             else runOps P call g all rest K (putT (t.set d (.bool true)) o.dst undef) H)
          else
            (bif want then runOps P call g all rest K (putT (t.set d (.bool false)) o.dst undef) H
             else ldGuard g o (t.set d (.bool false)) H (aopK P call s o (t.set d (.bool false)) H fun v H' => runOps P call g all rest K (putT (t.set d (.bool false)) o.dst v) H'))
        | _ => runOps P call g all rest K (putT t o.dst undef) H

inductive Ex where
  | normal | exit (id : Nat) | ret

abbrev Kont (R : Type) := Ex → List Value → AHeap → Option R

def seqQ (K : List Value → AHeap → Option R) (Q : Kont R) : Kont R
  | .normal => K
  | .exit i => Q (.exit i)
  | .ret => Q .ret
def blkQ (id : Nat) (Q : Kont R) : Kont R
  | .normal => Q .normal
  | .exit i => if i = id then Q .normal else Q (.exit i)
  | .ret => Q .ret

def iter (body : Kont R → List Value → AHeap → Option R) (Q : Kont R) : Nat → List Value → AHeap → Option R
  | 0 => fun _ _ => none
  | k + 1 => body (seqQ (iter body Q k) Q)

/-- the operations that write memory or run other functions' text -/
def isEff (o : Oper) : Bool :=
  match o.op with
  | .store _ _ _ => true
  | .call c => match c.callee with
    | .builtin .len => false
    | .builtin .max => false
    | .builtin .min => false
    | _ => true
  | _ => false

def predMasks : List Oper → List Nat → List Nat
  | [], acc => acc
  | o :: os, acc => predMasks os (acc ++ [o.after.toList.foldl (fun s e => if Region.binds .any e then s ||| 2 ^ e.on ||| acc.getD e.on 0 else s) 0])

def effOrder (ops : List Oper) (masks : List Nat) : List Nat → List Nat → List Nat
  | [], acc => acc ++ (List.range ops.length).filter fun j => !acc.contains j
  | i :: is, acc =>
    match ops[i]? with
    | some o => if isEff o && !acc.contains i then
        effOrder ops masks is (acc ++ ((List.range ops.length).filter fun j => Nat.testBit (masks.getD i 0) j && !acc.contains j) ++ [i])
      else effOrder ops masks is acc
    | none => effOrder ops masks is acc

def drawOrder (ops : List Oper) : List Nat := effOrder ops (predMasks ops []) (List.range ops.length) []

def tmpsOf (l : List Operand) : List Tmp := l.filterMap fun | .tmp t => some t | _ => none

def looks (ops : List Oper) (o : Oper) : List Tmp :=
  tmpsOf o.op.operands.toList ++ (match o.guard with
    | some (j, _) => ((ops[j]?).bind (·.dst)).toList
    | none => [])

def apart2 (ops : List Oper) (x y : Oper) : Bool :=
  (match x.dst with
   | some d => !(looks ops y).contains d && y.dst != some d
   | none => true) &&
  (match y.dst with
   | some d => !(looks ops x).contains d
   | none => true)

/-- two operations, x ahead of y in the order that is run: either bound so, or free to change places -/
def okPair (ops : List Oper) (masks : List Nat) (i j : Nat) : Bool :=
  match ops[i]?, ops[j]? with
  | some x, some y => !Nat.testBit (masks.getD i 0) j && (Nat.testBit (masks.getD j 0) i || (apart2 ops x y && !isEff y))
  | _, _ => false

def okPairs (ops : List Oper) (masks : List Nat) : List Nat → Bool
  | [] => true
  | i :: is => is.all (okPair ops masks i) && okPairs ops masks is

def drawOk (ops : List Oper) : Bool :=
  okPairs ops (predMasks ops []) (drawOrder ops) && (drawOrder ops).length == ops.length && (List.range ops.length).all (drawOrder ops).contains &&
    (List.range ops.length).all (fun i => !Nat.testBit ((predMasks ops []).getD i 0) i) && ops.all fun o => o.after.toList.all fun e => !Region.binds .any e || decide (e.on < ops.length)

def slots (ops : List Oper) (base : Nat) (ord : List Nat) : List (Option Nat × Oper) :=
  ord.filterMap fun i => match ops[i]? with
    | some o => some (some (base + i), o)
    | none => none

def plainOps (ops : List Oper) : List (Option Nat × Oper) := ops.map fun o => (none, o)

/-! Where the text's run is cut: the rest behind a part that ends in more than one way. -/

/-- how many exits of a name -/
def exitsTo (id : Nat) : Code → Nat
  | .exit i => if i = id then 1 else 0
  | .seq a b => exitsTo id a + exitsTo id b
  | .cond _ a b => exitsTo id a + exitsTo id b
  | .block _ c => exitsTo id c
  | .loop c => exitsTo id c
  | _ => 0
/-- how many ways to the end -/
def waysOut : Code → Nat
  | .skip => 1
  | .region _ ops _ => if ops.toList.any (fun o => o.guard.isSome) then 2 else 1
  | .seq a b => waysOut a * waysOut b
  | .cond _ a b => waysOut a + waysOut b
  | .block id c => waysOut c + exitsTo id c
  | _ => 0
def codeOps : Code → Nat
  | .region _ ops _ => ops.size
  | .seq a b => codeOps a + codeOps b + 1
  | .cond _ a b => codeOps a + codeOps b + 1
  | .block _ c => codeOps c + 1
  | .loop c => codeOps c + 1
  | _ => 1
def loopy : Code → Bool
  | .seq a b => loopy a || loopy b
  | .cond _ a b => loopy a || loopy b
  | .block _ c => loopy c
  | .loop _ => true
  | _ => false
def cutAt (a b : Code) : Bool := Nat.blt 1 (waysOut a) && (Nat.blt 24 (waysOut a * codeOps b) || loopy b)
def gate {α : Type} (n : Nat) (x : α) : α :=
  match n with
  | 0 => x
  | _ + 1 => x
/-- a gate stands still where n is no number: there the kernel compares without running on -/
def gateC {α : Type} (a b : Code) (n : Nat) (x : α) : α := bif cutAt a b then gate n x else x
theorem gate_eq {α : Type} (n : Nat) (x : α) : gate n x = x := by cases n <;> rfl
theorem gateC_eq {α : Type} (a b : Code) (n : Nat) (x : α) : gateC a b n x = x := by
  unfold gateC
  cases cutAt a b
  · rfl
  · exact gate_eq n x

/-- the text's body -/
def run (P : Program) (call : CallF) (n : Nat) : Code → Kont R → List Value → AHeap → Option R
  | .skip => fun Q t H => Q .normal t H
  | .region _ ops draw => fun Q t H =>
    bif draw then
      (bif drawOk ops.toList then runOps P call (some H) ops.toList (slots ops.toList H.next (drawOrder ops.toList)) (Q .normal) t (H.bump ops.toList.length) else none)
    else runOps P call none ops.toList (plainOps ops.toList) (Q .normal) t H
  | .seq a b => fun Q t H => run P call n a (seqQ (gateC a b n (run P call n b Q)) Q) t H
  | .cond c x y => fun Q t H => match aev t c with
    | some (.bool s) => bif s then run P call n x Q t H else run P call n y Q t H
    | _ => none
  | .block id c => fun Q t H => run P call n c (blkQ id Q) t H
  | .loop c => fun Q t H => iter (run P call n c) Q n t H
  | .exit id => fun Q t H => Q (.exit id) t H
  | .ret => fun Q t H => Q .ret t H
  | _ => fun _ _ _ => none

theorem run_seq {P : Program} {call : CallF} {n : Nat} {a b : Code} {Q : Kont R} : run P call n (.seq a b) Q = run P call n a (seqQ (run P call n b Q) Q) := by
  funext t H
  simp only [run, gateC_eq]

def resK (P : Program) (t : List Value) (H : AHeap) : List ResultVar → List Value → (List Value → Option R) → Option R
  | [], acc, K => K acc
  | .tmp i :: rest, acc, K => resK P t H rest (acc ++ [t.getD i undef]) K
  | .cell a ty :: rest, acc, K => match t.getD a undef with
    | .pointer (some ad) => loadK P ty ad.block ad.off H fun v => resK P t H rest (acc ++ [v]) K
    | _ => none

end

def retV (H : AHeap) : List Value → Option (Value × AHeap)
  | [v] => some (v, H)
  | vs => bif vs.all notTup then some (.tuple vs.toArray, H) else none

def retQ (P : Program) (fn : Func) : Kont (Value × AHeap) := fun e t H =>
  match e with
  | .exit _ => none
  | _ => resK P t H fn.results.toList [] (retV H)

def runF (P : Program) (call : CallF) (n : Nat) (fn : Func) (args : List Value) (H : AHeap) : Option (Value × AHeap) :=
  match fn.body with
  | some c => if args.length ≤ fn.ntmps then run P call n c (retQ P fn) (args ++ List.replicate (fn.ntmps - args.length) undef) H else none
  | none => none

/-- a call, k: how deep calls may lie in each other and how often a loop may go round; O: the functions without parameters of which the answer is known -/
def acallO (O : FuncId → Option Bool) (P : Program) : Nat → CallF
  | 0 => fun _ _ _ => none
  | k + 1 => fun f args H => match O f with
    | some b => (match args with
      | [] => some (.bool b, H)
      | _ => none)
    | none => match P.funcs[f]? with
      | some fn => runF P (acallO O P k) k fn args H
      | none => none

abbrev acall (P : Program) : Nat → CallF := acallO (fun _ => none) P

end Go.Mx
