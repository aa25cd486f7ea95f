/- ObjectStarts. -/
import Derived.Test.YtcegcnopakfloaaXO3
import Derived.Test.YtcegcnopakfloaaXA3
set_option linter.unusedVariables false
namespace Go.Proofs.MxF
open Go Go.Mx Go.Proofs
def fsOf' (d : Option TypeDesc) : Array Field := match d with | some (.struct fs) => fs | _ => #[]
theorem ag59 : aggT Try.prog 59 = true := by kernel_rfl
theorem und59 : Try.prog.underlying 59 = some (.struct (fsOf' (Try.prog.underlying 59))) := by kernel_rfl
theorem fs59 : (fsOf' (Try.prog.underlying 59)).toList.map (·.type) = [53, 54, 55, 56, 56, 57] := by kernel_rfl
theorem und53 : Try.prog.underlying 53 = some (.slice 100) := by kernel_rfl
theorem und54 : Try.prog.underlying 54 = some (.slice 102) := by kernel_rfl
theorem und55 : Try.prog.underlying 55 = some (.slice 104) := by kernel_rfl
theorem und56 : Try.prog.underlying 56 = some (.slice 9) := by kernel_rfl
theorem und57 : Try.prog.underlying 57 = some (.slice 158) := by kernel_rfl
theorem f9_any {H : AHeap} (hF : ∀ i, H.next ≤ i → H.get i = none) {a0 : Option Addr} {l0 c0 : Nat} {a1 : Option Addr} {l1 c1 : Nat} {a2 : Option Addr} {l2 c2 : Nat} {a3 : Option Addr} {l3 c3 : Nat} {a4 : Option Addr} {l4 c4 : Nat} {a5 : Option Addr} {l5 c5 : Nat} :
    ∃ k H', C k 9 [.agg #[.slice a0 l0 c0, .slice a1 l1 c1, .slice a2 l2 c2, .slice a3 l3 c3, .slice a4 l4 c4, .slice a5 l5 c5]] H = some (.bool true, H') := by
  have hk : ∀ k, 3000 ≤ k → ∃ H', C (k + 1) 9 [.agg #[.slice a0 l0 c0, .slice a1 l1 c1, .slice a2 l2 c2, .slice a3 l3 c3, .slice a4 l4 c4, .slice a5 l5 c5]] H = some (.bool true, H') ∧ True := by
    intro k hk
    rw [f9_eq]
    refine call_of_ok (ok_al fun i H1 hi n1 A1 B1 => ok_bSl (ldSl_at B1 (by simp) rfl) (ok_bif (fun _ => Ok.ret ⟨rfl, trivial⟩) (fun h1 => ?_)))
    refine ok_bSl (ldSl_at B1 (by simp) rfl) (ok_bif (fun _ => Ok.ret ⟨rfl, trivial⟩) (fun h4 => ?_))
    refine ok_bSl (ldSl_at B1 (by simp) rfl) (ok_bif (fun _ => Ok.ret ⟨rfl, trivial⟩) (fun h3 => ?_))
    rw [decide_eq_false_iff_not] at h1 h3 h4
    have Ab := agree_bump H1 9
    have row : ∀ H', Agree H1 H' → H'.row i 0 6 = some [.slice a0 l0 c0, .slice a1 l1 c1, .slice a2 l2 c2, .slice a3 l3 c3, .slice a4 l4 c4, .slice a5 l5 c5] := fun H' A => row_at (B1.agree A) (by simp) (by simp)
    refine ok_bift (sameB_agree B1 Ab) (ok_bind (row _ Ab) ?_)
    refine ok_cGs (f33_spec (k := k) (l1 := l1) (l3 := l3) (l4 := l4) (by omega) ((A1.trans Ab).fresh hF) (by omega) (by omega) (by omega)) fun cs v H2 hp => ?_
    obtain ⟨S2, A2⟩ := hp
    replace A2 : Agree (H1.bump 9) H2 := A2
    have A12 := Ab.trans A2
    refine ok_bift (sameB_agree B1 A12) (ok_bind (row _ A12) ?_)
    refine ok_cGs (f34_spec (k := k) (l1 := l1) (l3 := l3) (l4 := l4) (by omega) (by omega) (by omega) (by omega)) fun cs' v H3 hp => ?_
    obtain ⟨S3, A3⟩ := hp
    replace A3 : Agree H2 H3 := A3
    refine ok_cB (f32_spec (by omega) (S2.agree A3) S3 ?_ ?_ ?_ ?_) fun H4 A4 => ok_bift rfl (ok_cB0 (awake35 (by omega) H4) (Ok.ret ⟨rfl, trivial⟩))
    · show (startT l4).length ≤ 1000
      unfold startT; rw [List.length_set, List.length_replicate]; omega
    · show (List.replicate l3 false).length ≤ 1000
      rw [List.length_replicate]; omega
    · show (List.replicate l1 _).length ≤ 1000
      rw [List.length_replicate]; omega
    · intro x hx
      have := (List.mem_replicate.1 hx).2
      rw [this]
      simp
  obtain ⟨H', e, _⟩ := hk 3000 (Nat.le_refl _)
  exact ⟨_, H', e⟩
theorem objectStarts_ok (n : Nat) : LawOk awk Try.prog 9 (n + 1 + 1) [59] := by
  intro H vs hF hA
  obtain ⟨v0, _, rfl, h0, hA⟩ := argsV_cons hA
  obtain rfl := argsV_nil hA
  obtain ⟨a0, l0, c0, a1, l1, c1, a2, l2, c2, a3, l3, c3, a4, l4, c4, a5, l5, c5, rfl⟩ := arg_slices6 (n := n) ag59 und59 fs59 und53 und54 und55 und56 und56 und57 h0
  exact f9_any hF
end Go.Proofs.MxF
