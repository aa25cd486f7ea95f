/- Histories: what a read of the reference comes to; equal histories. -/
import Derived.Test.YtcegcnopakfloaaXE4
set_option linter.unusedVariables false
namespace Go.Proofs.MxF
open Go Go.Mx Go.Proofs

theorem f20_K2 {k : Nat} (hk : 2000 ≤ k) {H0 H : AHeap} (A : Agree H0 H) {p3 p6 p10 e3 v3 e6 v6 e10 v10 : Nat} {b8 : Bool} {D : List Value} {y0 y1 y2 y3 y4 z0 z1 : Value} {w1 w2 r1 r2 rt n : Int} {rth t : Nat} {a a0 : Option Addr} {l c l0 c0 : Nat} {rd : List Int}
    (h3 : At H p3 ⟨[z0, z1, .int .i64 rt, .int .i64 (rth : Int), .slice a0 l0 c0], e3, .rw, v3⟩)
    (h6 : At H p6 ⟨[y0, y1, y2, y3, y4], e6, .rw, v6⟩) (h10 : At H p10 ⟨[.int .i64 w1, .int .i64 w2, .int .i64 r1, .int .i64 r2, .slice a l c], e10, .rw, v10⟩) (hp : H0.next ≤ p6) (hp' : H0.next ≤ p10) (hne' : p6 ≠ p10) (hne3 : p3 ≠ p10)
    (hI : Ints H a l rd) (hne : ∀ q, a = some q → q.block ≠ p6 ∧ q.block ≠ p10 ∧ H0.next ≤ q.block) (ht : t ≤ 1000) (hr : rth ≤ 1000) (cv : Bool) :
    Ok (f20.K2 k (t : Int) p3 p6 b8 n p10 cv D H) fun r => ∃ a' l' c', r.1 = .tuple #[.agg #[.int .i64 w1, .int .i64 w2, .int .i64 (bif cv then n else 0), .int .i64 (bif cv then (t : Int) else 0), .slice a' l' c'], .bool b8] ∧
      (Ints r.2 a' l' (bif cv then rd else putI (putI [] rth rt) t n) ∧ Agree H0 r.2 ∧ ∀ q, a' = some q → H0.next ≤ q.block) := by
  rw [f20.K2_eq]
  refine ok_bif (fun hc => ?_) (fun hc => ?_)
  · subst hc
    refine ok_wr h10 rfl (by simp) fun H1 W1 => ?_
    exact f20_fin (A.wrote W1 hp') (h6.wrote W1 hne') W1.at' hp (Cells.wrote hI W1 fun q e => (hne q e).2.1) (fun q e => (hne q e).1) (fun q e => (hne q e).2.2)
  · subst hc
    refine ok_wr h10 rfl (by simp) fun H0' W0 => ?_
    have h3' := h3.wrote W0 hne3
    refine ok_bind (ldI_at h3' (by simp) rfl) (ok_bind (ldI_at h3' (by simp) rfl) ?_)
    refine ok_cSl (f53_spec hr (by omega) (Ints.nil H0') (by omega)) fun a1 l1 c1 H1 hq => ?_
    obtain ⟨hl1, o1, A1⟩ := hq
    refine ok_cSl (f53_spec ht (by omega) o1.ints (by omega)) fun a2 l2 c2 H2 hq => ?_
    obtain ⟨hl2, o2, A2⟩ := hq
    have hlt6 := h6.1
    have hlt10 := h10.1
    have hn0 := W0.next
    have hn1 := A1.next
    have A02 := A1.trans A2
    refine ok_wr (W0.at'.agree A02) rfl (by simp [splice]) fun H3 W3 => ?_
    exact f20_fin (((A.wrote W0 hp').trans A02).wrote W3 hp') ((h6.wrote W0 hne').agree A02 |>.wrote W3 hne') W3.at' hp
      (o2.wrote W3 (by omega)).ints (fun q e => by have := o2.block q e; omega) (fun q e => by have := o2.block q e; have := A.next; omega)

/-- the reference's Read -/
theorem f20_spec {k : Nat} (hk : 2001 ≤ k) {H : AHeap} (hF : ∀ i, H.next ≤ i → H.get i = none) {a ac : Option Addr} {l c lc cc : Nat} {rd cl : List Int} (w1 w2 rt : Int) (rth t : Nat) (h : Ints H a l rd) (hc : Ints H ac lc cl) (hl : l ≤ 1000) (ht : t < 4) (hr : rth < 4) :
    ∃ a' l' c' H', C k 20 [.agg #[.int .i64 w1, .int .i64 w2, .int .i64 rt, .int .i64 (rth : Int), .slice a l c], .slice ac lc cc, .int .i64 (t : Int)] H =
      some (.tuple #[.agg #[.int .i64 w1, .int .i64 w2, .int .i64 (rdOut cl rt rth rd t).1, .int .i64 (rdOut cl rt rth rd t).2.1, .slice a' l' c'], .bool (!covers cl w1 w2)], H') ∧ (Ints H' a' l' (rdOut cl rt rth rd t).2.2 ∧ Agree H H' ∧ ∀ q, a' = some q → H.next ≤ q.block) := by
  obtain ⟨k, rfl⟩ : ∃ j, k = j + 1 := ⟨k - 1, by omega⟩
  rw [f20_eq]
  refine calltup_of_ok (f := fun a' l' c' => .tuple #[.agg #[.int .i64 w1, .int .i64 w2, .int .i64 (rdOut cl rt rth rd t).1, .int .i64 (rdOut cl rt rth rd t).2.1, .slice a' l' c'], .bool (!covers cl w1 w2)]) ?_
  refine ok_al fun i H1 hi n1 A1 B1 => ok_al fun i' H2 hi' n2 A2 B2 => ?_
  have A02 := A1.trans A2
  refine ok_bind (row_at (B1.agree A2) (by simp) (by simp)) ?_
  refine ok_cB (f50_spec (by omega) (hc.agree A02) w1 w2) fun H3 A3 => ?_
  have A03 := A02.trans A3
  have B13 := (B1.agree A2).agree A3
  refine ok_cI0 (f46_spec (by omega) (hc.agree A03) _) ?_
  have Ab := agree_bump H3 10
  refine ok_bift (sameB_agree B13 Ab) (ok_bSl (ldSl_at (B13.agree Ab) (by simp) rfl) ?_)
  refine ok_cSl (f45_spec (by omega) ((h.agree A03).agree Ab) (by omega)) fun a5 l5 c5 H5 hq => ?_
  obtain ⟨hl5, o5, k5⟩ := hq
  have A35 : Agree H3 H5 := Ab.trans k5
  have B15 := B13.agree A35
  refine ok_bift (sameB_agree B13 A35) (ok_bind (row_at B15 (by simp) (by simp)) ?_)
  refine ok_bift (sameB_agree B13 A35) (ok_bind (row_at B15 (by simp) (by simp)) ?_)
  refine ok_build28 ?_
  have hfr : Free H5 (H3.next + 8) := (free_bump (A03.fresh hF) (by decide)).agree k5
  have h3n := A3.next
  refine ok_als (A03.trans A35) hfr (by have := A03.next; omega) fun H6 n6 A6 B6 S6 F6 => ?_
  refine ok_if ⟨rfl, rfl⟩ (ok_wr B6 rfl (by simp) fun H7 W7 => ?_)
  have hne1 : i ≠ H3.next + 8 := by have := B13.1; omega
  have hne2 : i' ≠ H3.next + 8 := by have := (B2.agree A3).1; omega
  have B17 : At H7 i ⟨[.int .i64 w1, .int .i64 w2, .int .i64 rt, .int .i64 (rth : Int), .slice a l c], 0, .rw, 0⟩ := (S6 _ _ B15).wrote W7 hne1
  have B27 : At H7 i' _ := (S6 _ _ ((B2.agree A3).agree A35)).wrote W7 hne2
  have hNN : (H3.bump 10).next = H3.next + 10 := rfl
  have A7 : Agree H H7 := A6.wrote W7 (by have := A03.next; omega)
  have hO7 : Own (H3.next + 10) 1 H7 a5 l5 c5 (ints rd) := (o5.sub S6).wrote W7 (by omega)
  have hp : H.next ≤ i' := by have := A1.next; omega
  have hp' : H.next ≤ H3.next + 8 := by have := A03.next; omega
  have q6 : i' < H3.next := (B2.agree A3).1
  have hlen : l = rd.length := h.len
  refine ok_bSl (ldSl_at B17 (by simp) rfl) ?_
  unfold rdOut
  refine ok_bif (fun hc1 => ?_) (fun hc1 => ?_)
  · rw [show decide (0 < rd.length) = true from by simp only [decide_eq_true_eq] at hc1 ⊢; omega]
    refine ok_bSl (ldSl_at B17 (by simp) rfl) ?_
    refine ok_cSl (f53_spec (by omega) (by omega) (h.agree A7) (by omega)) fun a8 l8 c8 H8 hq => ?_
    obtain ⟨hl8, o8, A8⟩ := hq
    refine ok_wr (W7.at'.agree A8) rfl (by simp [splice]) fun H9 W9 => ?_
    have hlt := W7.at'.1
    have hlt2 := B27.1
    exact f20_fin ((A7.trans A8).wrote W9 hp') ((B27.agree A8).wrote W9 hne2) W9.at' hp (o8.wrote W9 hlt).ints (fun q e => by have := o8.block q e; omega) (fun q e => by have := o8.block q e; have := A7.next; omega)
  · rw [show decide (0 < rd.length) = false from by simp only [decide_eq_false_iff_not] at hc1 ⊢; omega]
    refine ok_bind (ldI_at B17 (by simp) rfl) ?_
    have hI := hO7.ints
    have hblk := hO7.block
    refine ok_bif (fun hc2 => ?_) (fun hc2 => ?_)
    · rw [hc2, Bool.true_or]
      exact f20_K2 (by omega) A7 B17 B27 W7.at' hp hp' hne2 hne1 hI (fun q e => by have := hblk q e; omega) (by omega) (by omega) true
    · rw [hc2, Bool.false_or]
      refine ok_bind (row_at B17 (by simp) (by simp)) ?_
      refine ok_cB (f50_spec (by omega) (hc.agree A7) rt (rth : Int)) fun H8 A8 => ?_
      have := fun D => f20_K2 (k := k) (by omega) (A7.trans A8) (D := D) (B17.agree A8) (B27.agree A8) (W7.at'.agree A8) hp hp' hne2 hne1 (n := atI cl t) (b8 := !covers cl w1 w2) (hI.agree A8) (fun q e => by have := hblk q e; omega) (show t ≤ 1000 by omega) (show rth ≤ 1000 by omega) (covers cl rt (rth : Int))
      cases hcv : covers cl rt (rth : Int) <;> rw [hcv] at this <;> exact this _

theorem eq25 (a b d e : Int) : eqV Try.prog 40 25 (.agg #[.int .i64 a, .int .i64 b]) (.agg #[.int .i64 d, .int .i64 e]) = some ((a == d) && ((b == e) && true)) := by kernel_rfl
theorem leqFrom_refl (xs : List Int) : ∀ m i, leqFrom xs xs i m = true := by
  intro m
  induction m with
  | zero => intro i; rfl
  | succ m ih =>
    intro i
    unfold leqFrom
    rw [show decide (atI xs (i : Int) > atI xs (i : Int)) = false from by simp]
    exact ih (i + 1)
theorem same_refl (xs : List Int) : same xs xs = true := by unfold same leq; rw [leqFrom_refl]; rfl

/-- equal histories are told equal -/
theorem f21_spec {k : Nat} (hk : 2001 ≤ k) {H : AHeap} {a a' : Option Addr} {l c l' c' : Nat} {rd : List Int} (w1 w2 r1 r2 : Int) (h : Ints H a l rd) (h' : Ints H a' l' rd) (hl : l ≤ 1000) :
    ∃ H', C k 21 [.agg #[.int .i64 w1, .int .i64 w2, .int .i64 r1, .int .i64 r2, .slice a l c], .agg #[.int .i64 w1, .int .i64 w2, .int .i64 r1, .int .i64 r2, .slice a' l' c']] H = some (.bool true, H') ∧ Agree H H' := by
  obtain ⟨k, rfl⟩ : ∃ j, k = j + 1 := ⟨k - 1, by omega⟩
  rw [f21_eq]
  have hll : l' = l := h'.len.trans h.len.symm
  refine call_of_ok (ok_al fun i H1 hi n1 A1 B1 => ok_al fun i' H2 hi' n2 A2 B2 => ?_)
  have B12 := B1.agree A2
  refine ok_bind (row_at B12 (by simp) (by simp)) (ok_bind (row_at B2 (by simp) (by simp)) ?_)
  refine ok_bind (eq25 w1 w2 w1 w2) (ok_bift (by simp) ?_)
  refine ok_bind (row_at B12 (by simp) (by simp)) (ok_bind (row_at B2 (by simp) (by simp)) ?_)
  refine ok_bind (eq25 r1 r2 r1 r2) (ok_bift (by simp) ?_)
  refine ok_bSl (ldSl_at B12 (by simp) rfl) (ok_bSl (ldSl_at B2 (by simp) rfl) ?_)
  have A02 := A1.trans A2
  refine ok_cB0 (f54_spec (h.agree A02) (h'.agree A02) (by omega) (by omega)) (ok_bift (same_refl rd) ?_)
  refine ok_bSl (ldSl_at B12 (by simp) rfl) (ok_bSl (ldSl_at B2 (by simp) rfl) ?_)
  refine Ok.ret ⟨?_, A02⟩
  rw [hll]
  simp
end Go.Proofs.MxF
