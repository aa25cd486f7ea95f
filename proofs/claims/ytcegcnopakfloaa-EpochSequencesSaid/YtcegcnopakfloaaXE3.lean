/- Histories: what a read and a write come to. -/
import Derived.Test.YtcegcnopakfloaaXE2
set_option linter.unusedVariables false
namespace Go.Proofs.MxF
open Go Go.Mx Go.Proofs

theorem f53_loop {k N : Nat} {t : Nat} {v : Int} (ht : t < 1000000) : ∀ (m n : Nat) (xs : List Int) (a : Option Addr) (l c : Nat) (H : AHeap) (D : List Value),
    Own N 1 H a l c (ints xs) → N ≤ H.next → l ≤ 1000000 → t + 1 - l = m → m < n →
    Ok (f53.L1 k n a l c (t : Int) v D H) fun r => ∃ a' l' c', r.1 = .slice a' l' c' ∧ (l' = max l (t + 1) ∧ Own N 1 r.2 a' l' c' (ints (putI xs t v)) ∧ Keep a H r.2 ∧ Orig a H.next a') := by
  intro m
  induction m with
  | zero =>
    intro n xs a l c H D h hN hl hm hn
    obtain ⟨n, rfl⟩ : ∃ j, n = j + 1 := ⟨n - 1, by omega⟩
    rw [f53.L1_s]
    refine ok_biff (by simp only [decide_eq_false_iff_not]; omega) ?_
    obtain ⟨q, H', e, hw, h1, h2, _⟩ := own_set h (t := t) (by omega) (.int .i64 v)
    refine ok_bind e (ok_if (by omega) (ok_bind hw ?_))
    refine Ok.ret ⟨a, l, c, rfl, by omega, ?_, h2, Orig.refl _ _⟩
    rw [ints_set] at h1
    unfold putI
    rw [show t + 1 - xs.length = 0 from by have := h.len; omega]
    simpa using h1
  | succ m ih =>
    intro n xs a l c H D h hN hl hm hn
    obtain ⟨n, rfl⟩ : ∃ j, n = j + 1 := ⟨n - 1, by omega⟩
    rw [f53.L1_s]
    refine ok_bift (by simp only [decide_eq_true_eq]; omega) ?_
    refine ok_al fun i H1 hi hnx A1 B1 => ?_
    refine ok_cSl (app_own (by decide) (app26 _ _ _ _ _ _ _) (h.agree A1) (cs' := ints [0]) ⟨rfl, .inr ⟨i, 0, none, _, rfl, B1, by simp, by simp, by simp [ints]⟩⟩ (Nat.le_trans hN A1.next) (by omega) (by omega)) fun a2 l2 c2 H2 hp => ?_
    obtain ⟨h1, h2, h3, h4⟩ := hp
    subst h1
    rw [ints_app] at h2
    have hlen := h.len
    obtain ⟨r, e, a3, l3, c3, e1, e2, e3, e4, e5⟩ := ih n (xs ++ [0]) a2 (l + 1) c2 H2 _ h2 (Nat.le_trans hN (Nat.le_trans A1.next h3.next)) (by omega) (by omega) (by omega)
    have hK : Keep a H H2 := Keep.of_agree A1 h3
    have hO : Orig a H.next a2 := fun q e => (h4 q e).imp id fun h => Nat.le_trans A1.next h
    refine ⟨r, e, a3, l3, c3, e1, by omega, ?_, hK.trans hO e4, hO.trans e5 hK.next⟩
    rw [putI_grow xs t v (by omega)] at e3
    exact e3


theorem putI_zero : True := trivial
/-- the reference's set -/
theorem f53_spec {k : Nat} {t : Nat} {v : Int} (ht : t ≤ 1000) (hk : 1010 ≤ k) {H : AHeap} {a : Option Addr} {l c : Nat} {xs : List Int} (h : Ints H a l xs) (hl : l ≤ 1000000) :
    ∃ a' l' c' H', C k 53 [.slice a l c, .int .i64 (t : Int), .int .i64 v] H = some (.slice a' l' c', H') ∧ (l' = max l (t + 1) ∧ Own H.next 1 H' a' l' c' (ints (putI xs t v)) ∧ Agree H H') := by
  obtain ⟨k, rfl⟩ : ∃ j, k = j + 1 := ⟨k - 1, by omega⟩
  rw [f53_eq]
  refine callsl_of_ok (ok_cSl (f45_spec (by omega) h hl) fun a1 l1 c1 H1 hp => ?_)
  obtain ⟨rfl, h1, A1⟩ := hp
  obtain ⟨r, e, a2, l2, c2, e1, e2, e3, e4, _⟩ := f53_loop (k := k) (v := v) (show t < 1000000 by omega) (t + 1 - l1) k xs a1 l1 c1 H1 _ h1 A1.next hl rfl (by omega)
  exact ⟨r, e, a2, l2, c2, e1, e2, e3, e4.agree A1 h1.block⟩

/-- does a write race -/
def wrace (cl : List Int) (wt wth rt rth : Int) (rd : List Int) : Bool := !covers cl wt wth || !covers cl rt rth || !leq rd cl

theorem f17_spec {k : Nat} (hk : 100 ≤ k) {H : AHeap} {a a' : Option Addr} {l c l' c' : Nat} {rd cl : List Int} (wt wth rt rth t : Int) (h : Ints H a l rd) (hc : Ints H a' l' cl) (hl : max l l' ≤ 50) :
    ∃ H', C k 17 [.agg #[.int .i64 wt, .int .i64 wth, .int .i64 rt, .int .i64 rth, .slice a l c], .slice a' l' c', .int .i64 t] H =
      some (.tuple #[.agg #[.int .i64 (atI cl t), .int .i64 t, .int .i64 0, .int .i64 0, .slice none 0 0], .bool (wrace cl wt wth rt rth rd)], H') ∧ Agree H H' := by
  obtain ⟨k, rfl⟩ : ∃ j, k = j + 1 := ⟨k - 1, by omega⟩
  rw [f17_eq]
  refine call_of_ok (ok_al fun i H1 hi n1 A1 B1 => ok_al fun i' H2 hi' n2 A2 B2 => ?_)
  have A02 := A1.trans A2
  refine ok_bind (row_at (B1.agree A2) (by simp) (by simp)) ?_
  refine ok_cB (f47_spec (by omega) (hc.agree A02) wt wth) fun H3 A3 => ?_
  have A03 := A02.trans A3
  have B13 := (B1.agree A2).agree A3
  refine ok_bif (fun hb => ?_) (fun hb => ?_)
  · refine ok_cI0 (f49_spec (by omega) (hc.agree A03) _) ?_
    refine ok_wr (B2.agree A3) rfl (by simp) fun H4 W4 => ?_
    refine ok_bind (row_at W4.at' (by simp) (by simp [splice])) ?_
    refine Ok.ret ⟨?_, A03.wrote W4 (by omega)⟩
    unfold wrace
    rw [hb, Bool.true_or, Bool.true_or]
    rfl
  · refine ok_bind (row_at B13 (by simp) (by simp)) ?_
    refine ok_cB (f47_spec (by omega) (hc.agree A03) rt rth) fun H4 A4 => ?_
    have A04 := A03.trans A4
    refine ok_bif (fun hb2 => ?_) (fun hb2 => ?_)
    · refine ok_cI0 (f49_spec (by omega) (hc.agree A04) _) ?_
      refine ok_wr ((B2.agree A3).agree A4) rfl (by simp) fun H5 W5 => ?_
      refine ok_bind (row_at W5.at' (by simp) (by simp [splice])) ?_
      refine Ok.ret ⟨?_, A04.wrote W5 (by omega)⟩
      unfold wrace
      rw [hb2, Bool.or_true, Bool.true_or]
      rfl
    · refine ok_bSl (ldSl_at (B13.agree A4) (by simp) rfl) ?_
      refine ok_cB0 (f48_spec (h.agree A04) (hc.agree A04) (by omega) (by omega)) ?_
      refine ok_cI0 (f49_spec (by omega) (hc.agree A04) _) ?_
      refine ok_wr ((B2.agree A3).agree A4) rfl (by simp) fun H5 W5 => ?_
      refine ok_bind (row_at W5.at' (by simp) (by simp [splice])) ?_
      refine Ok.ret ⟨?_, A04.wrote W5 (by omega)⟩
      unfold wrace
      rw [hb, hb2, Bool.or_false, Bool.false_or]
      rfl

theorem f18_spec {k : Nat} (hk : 100 ≤ k) {H : AHeap} {a a' : Option Addr} {l c l' c' : Nat} {rd cl : List Int} (wt wth rt rth t : Int) (h : Ints H a l rd) (hc : Ints H a' l' cl) (hl : max l l' ≤ 50) :
    ∃ H', C k 18 [.agg #[.int .i64 wt, .int .i64 wth, .int .i64 rt, .int .i64 rth, .slice a l c], .slice a' l' c', .int .i64 t] H =
      some (.tuple #[.agg #[.int .i64 (atI cl t), .int .i64 t, .int .i64 0, .int .i64 0, .slice none 0 0], .bool (wrace cl wt wth rt rth rd)], H') ∧ Agree H H' := by
  obtain ⟨k, rfl⟩ : ∃ j, k = j + 1 := ⟨k - 1, by omega⟩
  rw [f18_eq]
  refine call_of_ok (ok_al fun i H1 hi n1 A1 B1 => ok_al fun i' H2 hi' n2 A2 B2 => ?_)
  have A02 := A1.trans A2
  refine ok_bind (row_at (B1.agree A2) (by simp) (by simp)) ?_
  refine ok_cB (f50_spec (by omega) (hc.agree A02) wt wth) fun H3 A3 => ?_
  have A03 := A02.trans A3
  have B13 := (B1.agree A2).agree A3
  refine ok_bif (fun hb => ?_) (fun hb => ?_)
  · refine ok_cI0 (f46_spec (by omega) (hc.agree A03) _) ?_
    refine ok_wr (B2.agree A3) rfl (by simp) fun H4 W4 => ?_
    refine ok_bind (row_at W4.at' (by simp) (by simp [splice])) ?_
    refine Ok.ret ⟨?_, A03.wrote W4 (by omega)⟩
    unfold wrace
    rw [hb, Bool.true_or, Bool.true_or]
    rfl
  · refine ok_bind (row_at B13 (by simp) (by simp)) ?_
    refine ok_cB (f50_spec (by omega) (hc.agree A03) rt rth) fun H4 A4 => ?_
    have A04 := A03.trans A4
    refine ok_bif (fun hb2 => ?_) (fun hb2 => ?_)
    · refine ok_cI0 (f46_spec (by omega) (hc.agree A04) _) ?_
      refine ok_wr ((B2.agree A3).agree A4) rfl (by simp) fun H5 W5 => ?_
      refine ok_bind (row_at W5.at' (by simp) (by simp [splice])) ?_
      refine Ok.ret ⟨?_, A04.wrote W5 (by omega)⟩
      unfold wrace
      rw [hb2, Bool.or_true, Bool.true_or]
      rfl
    · refine ok_bSl (ldSl_at (B13.agree A4) (by simp) rfl) ?_
      refine ok_cB0 (f51_spec (h.agree A04) (hc.agree A04) (by omega) (by omega)) ?_
      refine ok_cI0 (f46_spec (by omega) (hc.agree A04) _) ?_
      refine ok_wr ((B2.agree A3).agree A4) rfl (by simp) fun H5 W5 => ?_
      refine ok_bind (row_at W5.at' (by simp) (by simp [splice])) ?_
      refine Ok.ret ⟨?_, A04.wrote W5 (by omega)⟩
      unfold wrace
      rw [hb, hb2, Bool.or_false, Bool.false_or]
      rfl

end Go.Proofs.MxF
