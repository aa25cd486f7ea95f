/- Histories: what a read comes to. -/
import Derived.Test.YtcegcnopakfloaaXE3
set_option linter.unusedVariables false
namespace Go.Proofs.MxF
open Go Go.Mx Go.Proofs

/-- what a read leaves of the last read and of the list -/
def rdOut (cl : List Int) (rt : Int) (rth : Nat) (rd : List Int) (t : Nat) : Int × Int × List Int :=
  bif decide (0 < rd.length) then (rt, (rth : Int), putI rd t (atI cl t))
  else bif (rt == 0) || covers cl rt rth then (atI cl t, (t : Int), rd)
  else (0, 0, putI (putI [] rth rt) t (atI cl t))

theorem build28 {R : Type} (a b d e : Int) (x : Option Addr) (l c : Nat) (K : List Value → Option R) :
    buildK Try.prog 28 [(0, .agg #[.int .i64 a, .int .i64 b]), (1, .agg #[.int .i64 d, .int .i64 e]), (2, .slice x l c)] K = K [.int .i64 a, .int .i64 b, .int .i64 d, .int .i64 e, .slice x l c] := by kernel_rfl
theorem ok_build28 {R : Type} {Q : R → Prop} {a b d e : Int} {x : Option Addr} {l c : Nat} {K : List Value → Option R} (k : Ok (K [.int .i64 a, .int .i64 b, .int .i64 d, .int .i64 e, .slice x l c]) Q) :
    Ok (buildK Try.prog 28 [(0, .agg #[.int .i64 a, .int .i64 b]), (1, .agg #[.int .i64 d, .int .i64 e]), (2, .slice x l c)] K) Q := by
  rw [build28]; exact k

theorem f19_fin {k : Nat} {H0 H : AHeap} (A : Agree H0 H) {p6 p10 e6 v6 e10 v10 : Nat} {b8 : Bool} {D : List Value} {y0 y1 y2 y3 y4 : Value} {w1 w2 r1 r2 : Int} {a : Option Addr} {l c : Nat} {xs : List Int}
    (h6 : At H p6 ⟨[y0, y1, y2, y3, y4], e6, .rw, v6⟩) (h10 : At H p10 ⟨[.int .i64 w1, .int .i64 w2, .int .i64 r1, .int .i64 r2, .slice a l c], e10, .rw, v10⟩) (hp : H0.next ≤ p6)
    (hI : Ints H a l xs) (hne : ∀ q, a = some q → q.block ≠ p6) (hfr : ∀ q, a = some q → H0.next ≤ q.block) :
    Ok (f19.K2 k p6 b8 p10 D H) fun r => ∃ a' l' c', r.1 = .tuple #[.agg #[.int .i64 w1, .int .i64 w2, .int .i64 r1, .int .i64 r2, .slice a' l' c'], .bool b8] ∧ (Ints r.2 a' l' xs ∧ Agree H0 r.2 ∧ ∀ q, a' = some q → H0.next ≤ q.block) := by
  rw [f19.K2_eq]
  refine ok_bind (row_at h10 (by simp) (by simp)) ?_
  refine ok_if ⟨rfl, rfl⟩ ?_
  refine ok_wr h6 rfl (by simp) fun H1 W1 => ?_
  refine ok_bind (row_at W1.at' (by simp) (by simp [splice])) ?_
  exact Ok.ret ⟨a, l, c, rfl, Cells.wrote hI W1 hne, A.wrote W1 hp, hfr⟩

theorem f20_fin {k : Nat} {H0 H : AHeap} (A : Agree H0 H) {p6 p10 e6 v6 e10 v10 : Nat} {b8 : Bool} {D : List Value} {y0 y1 y2 y3 y4 : Value} {w1 w2 r1 r2 : Int} {a : Option Addr} {l c : Nat} {xs : List Int}
    (h6 : At H p6 ⟨[y0, y1, y2, y3, y4], e6, .rw, v6⟩) (h10 : At H p10 ⟨[.int .i64 w1, .int .i64 w2, .int .i64 r1, .int .i64 r2, .slice a l c], e10, .rw, v10⟩) (hp : H0.next ≤ p6)
    (hI : Ints H a l xs) (hne : ∀ q, a = some q → q.block ≠ p6) (hfr : ∀ q, a = some q → H0.next ≤ q.block) :
    Ok (f20.K1 k p6 b8 p10 D H) fun r => ∃ a' l' c', r.1 = .tuple #[.agg #[.int .i64 w1, .int .i64 w2, .int .i64 r1, .int .i64 r2, .slice a' l' c'], .bool b8] ∧ (Ints r.2 a' l' xs ∧ Agree H0 r.2 ∧ ∀ q, a' = some q → H0.next ≤ q.block) := by
  rw [f20.K1_eq]
  refine ok_bind (row_at h10 (by simp) (by simp)) ?_
  refine ok_if ⟨rfl, rfl⟩ ?_
  refine ok_wr h6 rfl (by simp) fun H1 W1 => ?_
  refine ok_bind (row_at W1.at' (by simp) (by simp [splice])) ?_
  exact Ok.ret ⟨a, l, c, rfl, Cells.wrote hI W1 hne, A.wrote W1 hp, hfr⟩


/-- the read's end, of a list of one or none before -/
theorem f19_K3 {k : Nat} (hk : 2000 ≤ k) {H0 H : AHeap} (A : Agree H0 H) {p3 p6 p10 e3 v3 e6 v6 e10 v10 : Nat} {b8 : Bool} {D : List Value} {y0 y1 y2 y3 y4 z0 z1 : Value} {w1 w2 r1 r2 rt n : Int} {rth t : Nat} {a a0 : Option Addr} {l c l0 c0 : Nat} {rd : List Int}
    (h3 : At H p3 ⟨[z0, z1, .int .i64 rt, .int .i64 (rth : Int), .slice a0 l0 c0], e3, .rw, v3⟩)
    (h6 : At H p6 ⟨[y0, y1, y2, y3, y4], e6, .rw, v6⟩) (h10 : At H p10 ⟨[.int .i64 w1, .int .i64 w2, .int .i64 r1, .int .i64 r2, .slice a l c], e10, .rw, v10⟩) (hp : H0.next ≤ p6) (hp' : H0.next ≤ p10) (hne' : p6 ≠ p10)
    (hI : Ints H a l rd) (hne : ∀ q, a = some q → q.block ≠ p6 ∧ q.block ≠ p10 ∧ H0.next ≤ q.block) (ht : t ≤ 1000) (hr : rth ≤ 1000) (cv : Bool) :
    Ok (f19.K3 k (t : Int) p3 p6 b8 n p10 cv D H) fun r => ∃ a' l' c', r.1 = .tuple #[.agg #[.int .i64 w1, .int .i64 w2, .int .i64 (bif cv then n else 0), .int .i64 (bif cv then (t : Int) else 0), .slice a' l' c'], .bool b8] ∧
      (Ints r.2 a' l' (bif cv then rd else putI (putI [] rth rt) t n) ∧ Agree H0 r.2 ∧ ∀ q, a' = some q → H0.next ≤ q.block) := by
  rw [f19.K3_eq]
  refine ok_bif (fun hc => ?_) (fun hc => ?_)
  · subst hc
    refine ok_wr h10 rfl (by simp) fun H1 W1 => ?_
    exact f19_fin (A.wrote W1 hp') (h6.wrote W1 hne') W1.at' hp (Cells.wrote hI W1 fun q e => (hne q e).2.1) (fun q e => (hne q e).1) (fun q e => (hne q e).2.2)
  · subst hc
    refine ok_bind (ldI_at h3 (by simp) rfl) (ok_bind (ldI_at h3 (by simp) rfl) ?_)
    refine ok_cSl (f52_spec (N := H.next) hr (by omega) (xs := []) (Own.nil _ _ _) (Nat.le_refl _) (by omega)) fun a1 l1 c1 H1 hq => ?_
    obtain ⟨hl1, o1, k1, g1⟩ := hq
    have A1 := k1.none
    refine ok_cSl (f52_spec (N := H.next) ht (by omega) o1 A1.next (by omega)) fun a2 l2 c2 H2 hq => ?_
    obtain ⟨hl2, o2, k2, g2⟩ := hq
    have A2 : Agree H H2 := k2.agree A1 o1.block
    refine ok_wr (h10.agree A2) rfl (by simp) fun H3 W3 => ?_
    refine ok_wr W3.at' rfl (by simp [splice]) fun H4 W4 => ?_
    have hlt6 := h6.1
    have hlt10 := h10.1
    exact f19_fin (((A.trans A2).wrote W3 hp').wrote W4 hp') (((h6.agree A2).wrote W3 hne').wrote W4 hne') W4.at' hp
      ((o2.wrote W3 hlt10).wrote W4 hlt10).ints (fun q e => by have := o2.block q e; omega) (fun q e => by have := o2.block q e; have := A.next; omega)

def rdPost (H0 : AHeap) (w1 w2 : Int) (b8 : Bool) (o : Int × Int × List Int) (r : Value × AHeap) : Prop :=
  ∃ a' l' c', r.1 = .tuple #[.agg #[.int .i64 w1, .int .i64 w2, .int .i64 o.1, .int .i64 o.2.1, .slice a' l' c'], .bool b8] ∧ (Ints r.2 a' l' o.2.2 ∧ Agree H0 r.2 ∧ ∀ q, a' = some q → H0.next ≤ q.block)

theorem f19_K1 {k : Nat} (hk : 2000 ≤ k) {H0 H : AHeap} (A : Agree H0 H) {N p3 p6 p10 e3 v3 e6 v6 e10 v10 : Nat} {b8 : Bool} {D : List Value} {y0 y1 y2 y3 y4 z0 z1 : Value} {w1 w2 rt : Int} {rth t : Nat} {a a0 ac : Option Addr} {l c l0 c0 lc cc : Nat} {rd cl : List Int}
    (h3 : At H p3 ⟨[z0, z1, .int .i64 rt, .int .i64 (rth : Int), .slice a0 l0 c0], e3, .rw, v3⟩)
    (h6 : At H p6 ⟨[y0, y1, y2, y3, y4], e6, .rw, v6⟩) (h10 : At H p10 ⟨[.int .i64 w1, .int .i64 w2, .int .i64 rt, .int .i64 (rth : Int), .slice a l c], e10, .rw, v10⟩)
    (hp : H0.next ≤ p6) (hp' : H0.next ≤ p10) (hne' : p6 ≠ p10) (q6 : p6 < N) (q10 : p10 < N) (hN : N ≤ H.next)
    (hO : Own N 1 H a l c (ints rd)) (hI0 : Ints H a0 l0 rd) (hC : Ints H ac lc cl) (ht : t ≤ 1000) (hr : rth ≤ 1000) (hl : l ≤ 1000) :
    Ok (f19.K1 k ac lc cc (t : Int) p3 p6 b8 (atI cl t) p10 false D H) (rdPost H0 w1 w2 b8 (rdOut cl rt rth rd t)) := by
  rw [f19.K1_eq]
  refine ok_biff rfl (ok_bSl (ldSl_at h3 (by simp) rfl) ?_)
  have hlen : l0 = rd.length := hI0.len
  unfold rdPost rdOut
  refine ok_bif (fun hc => ?_) (fun hc => ?_)
  · rw [show decide (0 < rd.length) = true from by simp only [decide_eq_true_eq] at hc ⊢; omega]
    refine ok_bSl (ldSl_at h10 (by simp) rfl) ?_
    refine ok_cSl (f52_spec (N := N) ht (by omega) hO hN (by omega)) fun a1 l1 c1 H1 hq => ?_
    obtain ⟨hl1, o1, k1, g1⟩ := hq
    have hblk := hO.block
    refine ok_wr (h10.keep k1 fun q e => by have := hblk q e; omega) rfl (by simp) fun H2 W2 => ?_
    have A1 : Agree H0 H1 := k1.agree A fun q e => by have := hblk q e; omega
    exact f19_fin (A1.wrote W2 hp') ((h6.keep k1 fun q e => by have := hblk q e; omega).wrote W2 hne') W2.at' hp (o1.wrote W2 q10).ints (fun q e => by have := o1.block q e; omega) (fun q e => by have := o1.block q e; omega)
  · rw [show decide (0 < rd.length) = false from by simp only [decide_eq_false_iff_not] at hc ⊢; omega]
    refine ok_bind (ldI_at h3 (by simp) rfl) ?_
    have hI := hO.ints
    have hblk := hO.block
    refine ok_bif (fun hc2 => ?_) (fun hc2 => ?_)
    · rw [hc2, Bool.true_or]
      exact f19_K3 hk A h3 h6 h10 hp hp' hne' hI (fun q e => by have := hblk q e; omega) ht hr true
    · rw [hc2, Bool.false_or]
      refine ok_bind (row_at h3 (by simp) (by simp)) ?_
      refine ok_cB (f47_spec (by omega) hC rt (rth : Int)) fun H1 A1 => ?_
      have := fun D => f19_K3 hk (A.trans A1) (D := D) (h3.agree A1) (h6.agree A1) (h10.agree A1) hp hp' hne' (n := atI cl t) (b8 := b8) (hI.agree A1) (fun q e => by have := hblk q e; omega) ht hr (covers cl rt (rth : Int))
      cases hcv : covers cl rt (rth : Int) <;> rw [hcv] at this <;> exact this _

theorem calltup_of_ok {X : Option (Value × AHeap)} {f : Option Addr → Nat → Nat → Value} {P : Option Addr → Nat → Nat → AHeap → Prop} (h : Ok X fun r => ∃ a l c, r.1 = f a l c ∧ P a l c r.2) : ∃ a l c H', X = some (f a l c, H') ∧ P a l c H' := by
  obtain ⟨r, e, a, l, c, h1, h2⟩ := h
  exact ⟨a, l, c, r.2, by rw [e, ← h1], h2⟩

/-- epoch.Read -/
theorem f19_spec {k : Nat} (hk : 2001 ≤ k) {H : AHeap} (hF : ∀ i, H.next ≤ i → H.get i = none) {a ac : Option Addr} {l c lc cc : Nat} {rd cl : List Int} (w1 w2 rt : Int) (rth t : Nat) (h : Ints H a l rd) (hc : Ints H ac lc cl) (hl : l ≤ 1000) (ht : t < 4) (hr : rth < 4) :
    ∃ a' l' c' H', C k 19 [.agg #[.int .i64 w1, .int .i64 w2, .int .i64 rt, .int .i64 (rth : Int), .slice a l c], .slice ac lc cc, .int .i64 (t : Int)] H =
      some (.tuple #[.agg #[.int .i64 w1, .int .i64 w2, .int .i64 (rdOut cl rt rth rd t).1, .int .i64 (rdOut cl rt rth rd t).2.1, .slice a' l' c'], .bool (!covers cl w1 w2)], H') ∧ (Ints H' a' l' (rdOut cl rt rth rd t).2.2 ∧ Agree H H' ∧ ∀ q, a' = some q → H.next ≤ q.block) := by
  obtain ⟨k, rfl⟩ : ∃ j, k = j + 1 := ⟨k - 1, by omega⟩
  rw [f19_eq]
  refine calltup_of_ok (f := fun a' l' c' => .tuple #[.agg #[.int .i64 w1, .int .i64 w2, .int .i64 (rdOut cl rt rth rd t).1, .int .i64 (rdOut cl rt rth rd t).2.1, .slice a' l' c'], .bool (!covers cl w1 w2)]) ?_
  refine ok_al fun i H1 hi n1 A1 B1 => ok_al fun i' H2 hi' n2 A2 B2 => ?_
  have A02 := A1.trans A2
  refine ok_bind (row_at (B1.agree A2) (by simp) (by simp)) ?_
  refine ok_cB (f47_spec (by omega) (hc.agree A02) w1 w2) fun H3 A3 => ?_
  have A03 := A02.trans A3
  have B13 := (B1.agree A2).agree A3
  refine ok_cI0 (f49_spec (by omega) (hc.agree A03) _) ?_
  have Ab := agree_bump H3 10
  refine ok_bift (sameB_agree B13 Ab) (ok_bSl (ldSl_at (B13.agree Ab) (by simp) rfl) ?_)
  refine ok_cSl (app_own (by decide) (app26 _ _ _ _ _ _ _) (Own.nil (H3.bump 10).next 1 (H3.bump 10)) (cs' := ints rd) (by rw [Nat.mul_one]; exact (h.agree A03).agree Ab) (Nat.le_refl _) (by omega) (by omega)) fun a5 l5 c5 H5 hq => ?_
  obtain ⟨hl5, o5, k5, _⟩ := hq
  have A35 : Agree H3 H5 := Ab.trans k5.none
  have B15 := B13.agree A35
  refine ok_bift (sameB_agree B13 A35) (ok_bind (row_at B15 (by simp) (by simp)) ?_)
  refine ok_bift (sameB_agree B13 A35) (ok_bind (row_at B15 (by simp) (by simp)) ?_)
  refine ok_build28 ?_
  have hfr : Free H5 (H3.next + 8) := (free_bump (A03.fresh hF) (by decide)).agree k5.none
  have h3n := A3.next
  refine ok_als (A03.trans A35) hfr (by have := A03.next; omega) fun H6 n6 A6 B6 S6 F6 => ?_
  refine ok_if ⟨rfl, rfl⟩ (ok_wr B6 rfl (by simp) fun H7 W7 => ?_)
  have hne1 : i ≠ H3.next + 8 := by have := B13.1; omega
  have hne2 : i' ≠ H3.next + 8 := by have := (B2.agree A3).1; omega
  have B17 : At H7 i _ := (S6 _ _ B15).wrote W7 hne1
  have B27 : At H7 i' _ := (S6 _ _ ((B2.agree A3).agree A35)).wrote W7 hne2
  have hNN : (H3.bump 10).next = H3.next + 10 := rfl
  have A7 : Agree H H7 := A6.wrote W7 (by have := A03.next; omega)
  have hk7 : ∀ {aa : Option Addr} {n : Nat} {cs : List Value}, Cells H aa n cs → Cells H7 aa n cs := fun hh => hh.agree A7
  refine ok_biff (by simp only [decide_eq_false_iff_not]; omega) (ok_biff (by simp only [decide_eq_false_iff_not]; omega) ?_)
  refine ok_bind (ldI_at B17 (by simp) rfl) (ok_biff (by simp only [decide_eq_false_iff_not]; omega) ?_)
  refine ok_bind (ldI_at B17 (by simp) rfl) ?_
  rw [show decide ((rth : Int) ≥ (4 : Int)) = false from by simp only [decide_eq_false_iff_not]; omega]
  subst hl5
  have hO7 : Own (H3.next + 10) 1 H7 a5 (0 + l) c5 (ints rd) := (o5.sub S6).wrote W7 (by omega)
  exact f19_K1 (by omega) A7 B17 B27 W7.at' (by have := A1.next; omega) (by have := A03.next; omega) hne2 (by have := (B2.agree A3).1; omega) (by omega) (by have := k5.next; rw [W7.next, n6]; omega)
    hO7 (hk7 h) (hk7 hc) (by omega) (by omega) (by omega)
end Go.Proofs.MxF
