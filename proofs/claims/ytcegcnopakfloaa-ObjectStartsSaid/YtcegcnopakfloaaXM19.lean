/- Words in which the functions of a program are printed. -/
import Derived.Test.YtcegcnopakfloaaXM18
namespace Go.Mx
open Go

/-- the code at a path -/
def Sub : Code → List Nat → Code
  | c, [] => c
  | .seq a _, 0 :: p => Sub a p
  | .seq _ b, 1 :: p => Sub b p
  | .block _ a, 0 :: p => Sub a p
  | .loop a, 0 :: p => Sub a p
  | .cond _ a _, 0 :: p => Sub a p
  | .cond _ _ b, 1 :: p => Sub b p
  | c, _ => c
def bodyOf (f : Func) : Code := match f.body with
  | some c => c
  | none => .skip

section
variable {R : Type}
def alK (slot : Option Nat) (H : AHeap) (b : Blk) (K : Nat → AHeap → Option R) : Option R := K (H.newId slot) (H.alloc slot b)
def cI (k : IntKind) (X : Option (Value × AHeap)) (K : Int → AHeap → Option R) : Option R := X.bind fun p => (asI k p.1).bind fun n => K n p.2
def cB (X : Option (Value × AHeap)) (K : Bool → AHeap → Option R) : Option R := X.bind fun p => (asB p.1).bind fun n => K n p.2
def cS (X : Option (Value × AHeap)) (K : ByteArray → AHeap → Option R) : Option R := X.bind fun p => (asS p.1).bind fun n => K n p.2
def cP (X : Option (Value × AHeap)) (K : Option Addr → AHeap → Option R) : Option R := X.bind fun p => (asPt p.1).bind fun n => K n p.2
def cG (X : Option (Value × AHeap)) (K : Array Value → AHeap → Option R) : Option R := X.bind fun p => (asAg p.1).bind fun n => K n p.2
def cT (X : Option (Value × AHeap)) (K : Array Value → AHeap → Option R) : Option R := X.bind fun p => (asTp p.1).bind fun n => K n p.2
def cV (X : Option (Value × AHeap)) (K : Value → AHeap → Option R) : Option R := X.bind fun p => K p.1 p.2
def cSl (X : Option (Value × AHeap)) (K : Option Addr → Nat → Nat → AHeap → Option R) : Option R := X.bind fun p => (asSl p.1).bind fun s => K s.1 s.2.1 s.2.2 p.2
def bSl (X : Option (Option Addr × Nat × Nat)) (K : Option Addr → Nat → Nat → Option R) : Option R := X.bind fun s => K s.1 s.2.1 s.2.2
def exI (k : IntKind) (X : Option Value) (K : Int → Option R) : Option R := X.bind fun v => (asI k v).bind K
def exB (X : Option Value) (K : Bool → Option R) : Option R := X.bind fun v => (asB v).bind K
def exS (X : Option Value) (K : ByteArray → Option R) : Option R := X.bind fun v => (asS v).bind K
def exP (X : Option Value) (K : Option Addr → Option R) : Option R := X.bind fun v => (asPt v).bind K
def exG (X : Option Value) (K : Array Value → Option R) : Option R := X.bind fun v => (asAg v).bind K
def exT (X : Option Value) (K : Array Value → Option R) : Option R := X.bind fun v => (asTp v).bind K
def exSl (X : Option Value) (K : Option Addr → Nat → Nat → Option R) : Option R := X.bind fun v => (asSl v).bind fun s => K s.1 s.2.1 s.2.2
/-- a struct or an array out of parts -/
def buildK (P : Program) (ty : TypeId) (vs : List (Nat × Value)) (K : List Value → Option R) : Option R :=
  match zeroCellsOf P ty with
  | some z =>
    match P.underlying ty with
    | some (.struct fs) => match places P fs.toList with
      | some pl => match afill (pl[·]?) z vs with
        | some cells => K cells
        | none => none
      | none => none
    | some (.array _ e) => match szOf P e with
      | some n => match afill (fun i => some (i * n, n)) z vs with
        | some cells => K cells
        | none => none
      | none => none
    | _ => none
  | none => none
end
end Go.Mx
