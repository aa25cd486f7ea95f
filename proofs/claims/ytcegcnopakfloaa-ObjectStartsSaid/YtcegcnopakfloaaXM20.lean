/- A slice out of parts. -/
import Derived.Test.YtcegcnopakfloaaXM19
set_option linter.unusedVariables false
namespace Go.Mx
open Go
variable {R : Type}
/-- a slice out of parts -/
def buildSK (P : Program) (ty : TypeId) (len : Nat) (vs : List (Nat × Value)) (K : List Value → Nat → Option R) : Option R :=
  match P.underlying ty with
  | some (.slice e) =>
    match zeroCellsOf P e with
    | some z =>
      if z.length = 0 ∨ 65536 < len * z.length then none else
      match afill (fun i => some (i * z.length, z.length)) (rep z len) vs with
      | some cells => K cells z.length
      | none => none
    | none => none
  | _ => none
end Go.Mx
