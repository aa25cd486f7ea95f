/- The row of the law LocksetUnsorted. -/
import Derived.Test.YtcegcnopakfloaaRows
import Derived.Test.YtcegcnopakfloaaXJg
import Derived.WalkKit
import Derived.ProofKit
import Derived.OpenShut
import Derived.ShutString
import Derived.ChangeOld
import Derived.Below
import Derived.SizedLaws
namespace Go.Proofs.Ytcegcnopakfloaa.locksetUnsorted
open Go.ChangeShapes Go.WideShapes Go.ChangeAt Go.RowKit
open Go.ChangeMaps (open_string shut_string)
set_option linter.unusedVariables false
theorem own : ownKnob Try.prog.godebug = none := by kernel_rfl
theorem laidOut : laidOutB Try.prog = true := by kernel_rfl
set_option maxRecDepth 100000 in
theorem lifted (os : Os) (started : os.Started) (H : Type) (enc : TypeId × Value → H) :
    ReturnsInHanded {} Try.checked os 6 .any (Rows.locksetUnsortedSpec.pre6 enc Try.prog Try.f6 Rows.locksetUnsortedRow.domain false) (Rows.locksetUnsortedSpec.post enc Try.prog Try.f6 false true false false) := by
  refine returnsInHanded_of_change_sized (C := Try.checked) own started (by kernel_rfl) Try.func6
    (ChangeSpec.witness6 (enc := enc) (C := Try.checked) false ⟨#[], #[.int .i64 0, .int .i64 0, .bool false, Value.agg #[.slice none 0 0, .slice none 0 0], Value.agg #[.slice none 0 0, .slice none 0 0]], []⟩ 8 (by kernel_rfl) (by kernel_rfl) (by kernel_rfl) (by kernel_rfl)) ?_
  intro W base args ds gs before hval0 hW hcnd hsz0 _
  have hval : ∀ (j : Nat) t v, Try.f6.params[j]? = some t → args[j]? = some v → Value.okWide Try.prog W .any base t v := hval0
  have hW' := hW
  obtain ⟨p, q, hA0, hV, rfl, hfz, hnd⟩ := hW
  have hA : DataW.TrodAll enc Try.prog W 0 (fun _ => true) true Try.f6.params.toList args.toList ds p := hA0
  rw [Try.params6] at hA hval
  obtain ⟨v0, vs0, d0, ds0, p0, q0, hargs, rfl, rfl, h0, r0⟩ := trodAll_cons hA
  obtain ⟨v1, vs1, d1, ds1, p1, q1, rfl, rfl, rfl, h1, r1⟩ := trodAll_cons r0
  obtain ⟨v2, vs2, d2, ds2, p2, q2, rfl, rfl, rfl, h2, r2⟩ := trodAll_cons r1
  obtain ⟨v3, vs3, d3, ds3, p3, q3, rfl, rfl, rfl, h3, r3⟩ := trodAll_cons r2
  obtain ⟨v4, vs4, d4, ds4, p4, q4, rfl, rfl, rfl, h4, r4⟩ := trodAll_cons r3
  obtain ⟨rfl, rfl, rfl⟩ := trodAll_nil r4
  obtain rfl : args = #[v0, v1, v2, v3, v4] := by cases args; simp_all
  obtain ⟨rfl, rfl⟩ := trodVars_none hV
  have k0 := h0
  have lt0 : ∀ x ∈ p0, x.block < W.heap.size := by obtain ⟨m, hm⟩ := k0; exact DataW.trod_lt m _ _ _ hm
  have k1 := h1
  have lt1 : ∀ x ∈ p1, x.block < W.heap.size := by obtain ⟨m, hm⟩ := k1; exact DataW.trod_lt m _ _ _ hm
  have k2 := h2
  have lt2 : ∀ x ∈ p2, x.block < W.heap.size := by obtain ⟨m, hm⟩ := k2; exact DataW.trod_lt m _ _ _ hm
  have k3 := h3
  have lt3 : ∀ x ∈ p3, x.block < W.heap.size := by obtain ⟨m, hm⟩ := k3; exact DataW.trod_lt m _ _ _ hm
  have k4 := h4
  have lt4 : ∀ x ∈ p4, x.block < W.heap.size := by obtain ⟨m, hm⟩ := k4; exact DataW.trod_lt m _ _ _ hm
  have wz0 : ∀ w ∈ d0.weights Try.prog 3, w ≤ reachBytes := fun w hw => of_decide_eq_true (List.all_eq_true.1 hsz0 w (DataW.weights_mem_each (j := 0) (show (Try.f6.params.toList ++ Rows.locksetUnsortedSpec.plain.varTypes Try.prog)[0]? = some 3 by kernel_rfl) rfl w hw))
  have wz1 : ∀ w ∈ d1.weights Try.prog 3, w ≤ reachBytes := fun w hw => of_decide_eq_true (List.all_eq_true.1 hsz0 w (DataW.weights_mem_each (j := 1) (show (Try.f6.params.toList ++ Rows.locksetUnsortedSpec.plain.varTypes Try.prog)[1]? = some 3 by kernel_rfl) rfl w hw))
  have wz2 : ∀ w ∈ d2.weights Try.prog 4, w ≤ reachBytes := fun w hw => of_decide_eq_true (List.all_eq_true.1 hsz0 w (DataW.weights_mem_each (j := 2) (show (Try.f6.params.toList ++ Rows.locksetUnsortedSpec.plain.varTypes Try.prog)[2]? = some 4 by kernel_rfl) rfl w hw))
  have wz3 : ∀ w ∈ d3.weights Try.prog 43, w ≤ reachBytes := fun w hw => of_decide_eq_true (List.all_eq_true.1 hsz0 w (DataW.weights_mem_each (j := 3) (show (Try.f6.params.toList ++ Rows.locksetUnsortedSpec.plain.varTypes Try.prog)[3]? = some 43 by kernel_rfl) rfl w hw))
  have wz4 : ∀ w ∈ d4.weights Try.prog 43, w ≤ reachBytes := fun w hw => of_decide_eq_true (List.all_eq_true.1 hsz0 w (DataW.weights_mem_each (j := 4) (show (Try.f6.params.toList ++ Rows.locksetUnsortedSpec.plain.varTypes Try.prog)[4]? = some 43 by kernel_rfl) rfl w hw))
  clear hA0 hval0 hsz0
  refine (Mx.law_calls (enc := enc) (by kernel_rfl) MxF.known (n := (9 + 1 + 1 + 1)) (by kernel_rfl) (MxF.locksetUnsorted_ok 9) (Mx.All2.cons ⟨⟨_, _, _, _, h0, wz0⟩, _, hval 0 _ v0 rfl rfl⟩ (Mx.All2.cons ⟨⟨_, _, _, _, h1, wz1⟩, _, hval 1 _ v1 rfl rfl⟩ (Mx.All2.cons ⟨⟨_, _, _, _, h2, wz2⟩, _, hval 2 _ v2 rfl rfl⟩ (Mx.All2.cons ⟨⟨_, _, _, _, h3, wz3⟩, _, hval 3 _ v3 rfl rfl⟩ (Mx.All2.cons ⟨⟨_, _, _, _, h4, wz4⟩, _, hval 4 _ v4 rfl rfl⟩ Mx.All2.nil)))))).mono fun e W' ⟨he, bel⟩ => ?_
  subst he
  exact ⟨_, rfl, _, _, _, [], _, [], hW', trodAll_mk1 (shut_bool Try.underlying4 _), (trodAll_cons_mk (Below.trod laidOut (by kernel_rfl) (of_decide_eq_true (by kernel_rfl)) k0 bel lt0) (trodAll_cons_mk (Below.trod laidOut (by kernel_rfl) (of_decide_eq_true (by kernel_rfl)) k1 bel lt1) (trodAll_cons_mk (Below.trod laidOut (by kernel_rfl) (of_decide_eq_true (by kernel_rfl)) k2 bel lt2) (trodAll_cons_mk (Below.trod laidOut (by kernel_rfl) (of_decide_eq_true (by kernel_rfl)) k3 bel lt3) (trodAll_cons_mk (Below.trod laidOut (by kernel_rfl) (of_decide_eq_true (by kernel_rfl)) k4 bel lt4) trodAll_mk0))))), rfl, bel.frame _, fun h => by cases h⟩
theorem over : Rows.locksetUnsortedRow.holds Try.pinned (OpenSpec.ofChange Rows.locksetUnsortedSpec) :=
  OpenClaim.holds_of_wide 6 Try.f6 rfl rfl rfl rfl rfl rfl rfl ⟨rfl, rfl, rfl, rfl, rfl⟩ rfl rfl rfl rfl rfl (by kernel_rfl) Try.func6 (by kernel_rfl)
    (of_decide_eq_true (by kernel_rfl)) (by unfold Func.isWrapper; first | (rw [if_pos (by decide +kernel)]; kernel_rfl) | (rw [if_neg (by decide +kernel)]; exact ⟨rfl, rfl⟩))
    (fun os started H enc _ => lifted os started H enc)
theorem proved : Rows.LocksetUnsortedSaid := over
#print axioms proved
end Go.Proofs.Ytcegcnopakfloaa.locksetUnsorted
namespace Go.Proofs.Ytcegcnopakfloaa
/-- The row, under a short name, for the claim. -/
theorem locksetUnsorted_holds : Rows.LocksetUnsortedSaid := locksetUnsorted.proved
end Go.Proofs.Ytcegcnopakfloaa
