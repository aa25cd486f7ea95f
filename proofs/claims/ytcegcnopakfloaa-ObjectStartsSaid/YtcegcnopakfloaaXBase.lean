/- The program's functions whose answer the kernel runs out, and the call. -/
import Derived.Test.YtcegcnopakfloaaXM19
import Derived.Test.YtcegcnopakfloaaProg
import Derived.KernelRfl
namespace Go.Proofs.MxF
open Go Go.Mx Go.Proofs
/-- the sanity checks: functions without parameters -/
def awk (f : FuncId) : Option Bool := bif Nat.beq f 22 || Nat.beq f 28 || Nat.beq f 35 then some true else none
noncomputable abbrev C : Nat → CallF := acallO awk Try.prog
theorem aw22 : ((acall Try.prog 30 22 [] emptyH).map (·.1)) = some (.bool true) := by kernel_rfl
theorem aw28 : ((acall Try.prog 30 28 [] emptyH).map (·.1)) = some (.bool true) := by kernel_rfl
theorem aw35 : ((acall Try.prog 30 35 [] emptyH).map (·.1)) = some (.bool true) := by kernel_rfl
theorem known : Known Try.prog awk := by
  have key : ∀ {x : Option (Value × AHeap)} {v : Value}, x.map (·.1) = some v → ∃ H', x = some (v, H') := by
    intro x v h
    obtain ⟨p, hp, e⟩ := Option.map_eq_some_iff.1 h
    exact ⟨p.2, by rw [hp, ← e]⟩
  intro f b h
  unfold awk at h
  cases hf : (Nat.beq f 22 || Nat.beq f 28 || Nat.beq f 35)
  · rw [hf] at h; cases h
  · rw [hf] at h
    cases h
    rw [Bool.or_eq_true, Bool.or_eq_true] at hf
    rcases hf with (hf | hf) | hf
    · obtain rfl := Nat.eq_of_beq_eq_true hf
      exact ⟨30, key aw22⟩
    · obtain rfl := Nat.eq_of_beq_eq_true hf
      exact ⟨30, key aw28⟩
    · obtain rfl := Nat.eq_of_beq_eq_true hf
      exact ⟨30, key aw35⟩
end Go.Proofs.MxF
