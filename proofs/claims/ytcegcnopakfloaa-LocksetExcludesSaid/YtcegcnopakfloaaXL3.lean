/- LocksetExcludes: the law. -/
import Derived.Test.YtcegcnopakfloaaXL2
import Derived.Test.YtcegcnopakfloaaXA1
set_option linter.unusedVariables false
namespace Go.Proofs.MxF
open Go Go.Mx Go.Proofs
theorem ag43 : aggT Try.prog 43 = true := by kernel_rfl
def fsOf (d : Option TypeDesc) : Array Field := match d with | some (.struct fs) => fs | _ => #[]
theorem und43 : Try.prog.underlying 43 = some (.struct (fsOf (Try.prog.underlying 43))) := by kernel_rfl
theorem fs43 : (fsOf (Try.prog.underlying 43)).toList.map (·.type) = [26, 26] := by kernel_rfl
theorem und26 : Try.prog.underlying 26 = some (.slice 3) := by kernel_rfl
theorem und3' : Try.prog.underlying 3 = some (.int .i64) := by kernel_rfl
theorem cells3 : Try.prog.cellsOf 3 = 1 := by kernel_rfl
theorem locksetExcludes_ok (n : Nat) : LawOk awk Try.prog 8 (n + 1 + 1 + 1) [43, 43] := by
  intro H vs hF hA
  obtain ⟨v0, _, rfl, h0, hA⟩ := argsV_cons hA
  obtain ⟨v1, _, rfl, h1, hA⟩ := argsV_cons hA
  obtain rfl := argsV_nil hA
  obtain ⟨a1, l1, c1, a2, l2, c2, x1, x2, rfl, i1, i2, b1, b2⟩ := arg_held (n := n) ag43 und43 fs43 und26 und3' cells3 hF h0
  obtain ⟨a3, l3, c3, a4, l4, c4, x3, x4, rfl, i3, i4, b3, b4⟩ := arg_held (n := n) ag43 und43 fs43 und26 und3' cells3 hF h1
  exact f8_any i1 i2 i3 i4 b1 b2 b3 b4
end Go.Proofs.MxF
