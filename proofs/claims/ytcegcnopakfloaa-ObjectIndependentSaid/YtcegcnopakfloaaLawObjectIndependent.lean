/- The row of the law ObjectIndependent. -/
import Derived.Test.YtcegcnopakfloaaRows
import Derived.Test.YtcegcnopakfloaaXGi
import Derived.WalkKit
import Derived.ProofKit
import Derived.OpenShut
import Derived.ShutString
import Derived.ChangeOld
import Derived.Below
import Derived.SizedLaws
namespace Go.Proofs.Ytcegcnopakfloaa.objectIndependent
open Go.ChangeShapes Go.WideShapes Go.ChangeAt Go.RowKit
open Go.ChangeMaps (open_string shut_string)
set_option linter.unusedVariables false
theorem own : ownKnob Try.prog.godebug = none := by kernel_rfl
theorem laidOut : laidOutB Try.prog = true := by kernel_rfl
set_option maxRecDepth 100000 in
theorem lifted (os : Os) (started : os.Started) (H : Type) (enc : TypeId × Value → H) :
    ReturnsInHanded {} Try.checked os 12 .any (Rows.objectIndependentSpec.pre6 enc Try.prog Try.f12 Rows.objectIndependentRow.domain false) (Rows.objectIndependentSpec.post enc Try.prog Try.f12 false true false false) := by
  refine returnsInHanded_of_change_sized (C := Try.checked) own started (by kernel_rfl) Try.func12
    (ChangeSpec.witness6 (enc := enc) (C := Try.checked) false ⟨#[], #[Value.slice none 0 0, .int .u8 0, .int .u8 0], []⟩ 8 (by kernel_rfl) (by kernel_rfl) (by kernel_rfl) (by kernel_rfl)) ?_
  intro W base args ds gs before hval0 hW hcnd hsz0 _
  have hval : ∀ (j : Nat) t v, Try.f12.params[j]? = some t → args[j]? = some v → Value.okWide Try.prog W .any base t v := hval0
  have hW' := hW
  obtain ⟨p, q, hA0, hV, rfl, hfz, hnd⟩ := hW
  have hA : DataW.TrodAll enc Try.prog W 0 (fun _ => true) true Try.f12.params.toList args.toList ds p := hA0
  rw [Try.params12] at hA hval
  obtain ⟨v0, vs0, d0, ds0, p0, q0, hargs, rfl, rfl, h0, r0⟩ := trodAll_cons hA
  obtain ⟨v1, vs1, d1, ds1, p1, q1, rfl, rfl, rfl, h1, r1⟩ := trodAll_cons r0
  obtain ⟨v2, vs2, d2, ds2, p2, q2, rfl, rfl, rfl, h2, r2⟩ := trodAll_cons r1
  obtain ⟨rfl, rfl, rfl⟩ := trodAll_nil r2
  obtain rfl : args = #[v0, v1, v2] := by cases args; simp_all
  obtain ⟨rfl, rfl⟩ := trodVars_none hV
  have k0 := h0
  have lt0 : ∀ x ∈ p0, x.block < W.heap.size := by obtain ⟨m, hm⟩ := k0; exact DataW.trod_lt m _ _ _ hm
  have k1 := h1
  have lt1 : ∀ x ∈ p1, x.block < W.heap.size := by obtain ⟨m, hm⟩ := k1; exact DataW.trod_lt m _ _ _ hm
  have k2 := h2
  have lt2 : ∀ x ∈ p2, x.block < W.heap.size := by obtain ⟨m, hm⟩ := k2; exact DataW.trod_lt m _ _ _ hm
  have wz0 : ∀ w ∈ d0.weights Try.prog 67, w ≤ reachBytes := fun w hw => of_decide_eq_true (List.all_eq_true.1 hsz0 w (DataW.weights_mem_each (j := 0) (show (Try.f12.params.toList ++ Rows.objectIndependentSpec.plain.varTypes Try.prog)[0]? = some 67 by kernel_rfl) rfl w hw))
  have wz1 : ∀ w ∈ d1.weights Try.prog 5, w ≤ reachBytes := fun w hw => of_decide_eq_true (List.all_eq_true.1 hsz0 w (DataW.weights_mem_each (j := 1) (show (Try.f12.params.toList ++ Rows.objectIndependentSpec.plain.varTypes Try.prog)[1]? = some 5 by kernel_rfl) rfl w hw))
  have wz2 : ∀ w ∈ d2.weights Try.prog 5, w ≤ reachBytes := fun w hw => of_decide_eq_true (List.all_eq_true.1 hsz0 w (DataW.weights_mem_each (j := 2) (show (Try.f12.params.toList ++ Rows.objectIndependentSpec.plain.varTypes Try.prog)[2]? = some 5 by kernel_rfl) rfl w hw))
  clear hA0 hval0 hsz0
  refine (Mx.law_calls (enc := enc) (by kernel_rfl) MxF.known (n := (9 + 1 + 1 + 1)) (by kernel_rfl) (MxF.objectIndependent_ok 9) (Mx.All2.cons ⟨⟨_, _, _, _, h0, wz0⟩, _, hval 0 _ v0 rfl rfl⟩ (Mx.All2.cons ⟨⟨_, _, _, _, h1, wz1⟩, _, hval 1 _ v1 rfl rfl⟩ (Mx.All2.cons ⟨⟨_, _, _, _, h2, wz2⟩, _, hval 2 _ v2 rfl rfl⟩ Mx.All2.nil)))).mono fun e W' ⟨he, bel⟩ => ?_
  subst he
  exact ⟨_, rfl, _, _, _, [], _, [], hW', trodAll_mk1 (shut_bool Try.underlying4 _), (trodAll_cons_mk (Below.trod laidOut (by kernel_rfl) (of_decide_eq_true (by kernel_rfl)) k0 bel lt0) (trodAll_cons_mk (Below.trod laidOut (by kernel_rfl) (of_decide_eq_true (by kernel_rfl)) k1 bel lt1) (trodAll_cons_mk (Below.trod laidOut (by kernel_rfl) (of_decide_eq_true (by kernel_rfl)) k2 bel lt2) trodAll_mk0))), rfl, bel.frame _, fun h => by cases h⟩
theorem over : Rows.objectIndependentRow.holds Try.pinned (OpenSpec.ofChange Rows.objectIndependentSpec) :=
  OpenClaim.holds_of_wide 12 Try.f12 rfl rfl rfl rfl rfl rfl rfl ⟨rfl, rfl, rfl, rfl, rfl⟩ rfl rfl rfl rfl rfl (by kernel_rfl) Try.func12 (by kernel_rfl)
    (of_decide_eq_true (by kernel_rfl)) (by unfold Func.isWrapper; first | (rw [if_pos (by decide +kernel)]; kernel_rfl) | (rw [if_neg (by decide +kernel)]; exact ⟨rfl, rfl⟩))
    (fun os started H enc _ => lifted os started H enc)
theorem proved : Rows.ObjectIndependentSaid := over
#print axioms proved
end Go.Proofs.Ytcegcnopakfloaa.objectIndependent
namespace Go.Proofs.Ytcegcnopakfloaa
/-- The row, under a short name, for the claim. -/
theorem objectIndependent_holds : Rows.ObjectIndependentSaid := objectIndependent.proved
end Go.Proofs.Ytcegcnopakfloaa
