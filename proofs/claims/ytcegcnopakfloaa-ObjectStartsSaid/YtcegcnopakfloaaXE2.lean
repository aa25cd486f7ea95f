/- Lists of epoch that are written. -/
import Derived.Test.YtcegcnopakfloaaXE1
import Derived.Test.YtcegcnopakfloaaXS2
set_option linter.unusedVariables false
namespace Go.Proofs.MxF
open Go Go.Mx Go.Proofs

theorem app26 (H : AHeap) (a a' : Option Addr) (l c l' c' : Nat) : apndV Try.prog [26, 26] H (.slice a l c) (.slice a' l' c') = (firstC H 1 l' (.slice a' l' c')).bind fun news => apndS 1 8 H a l c news l' := by kernel_rfl

theorem f45_spec {k : Nat} (hk : 1 ≤ k) {H : AHeap} {a : Option Addr} {l c : Nat} {xs : List Int} (h : Ints H a l xs) (hl : l ≤ 1000000) :
    ∃ a' l' c' H', C k 45 [.slice a l c] H = some (.slice a' l' c', H') ∧ (l' = l ∧ Own H.next 1 H' a' l' c' (ints xs) ∧ Agree H H') := by
  obtain ⟨k, rfl⟩ : ∃ j, k = j + 1 := ⟨k - 1, by omega⟩
  rw [f45_eq]
  refine callsl_of_ok (ok_cSl (app_own (by decide) (app26 _ _ _ _ _ _ _) (Own.nil H.next 1 H) (cs' := ints xs) (by rw [Nat.mul_one]; exact h) (Nat.le_refl _) (by omega) (by omega)) fun a2 l2 c2 H2 hp => ?_)
  obtain ⟨h1, h2, h3, _⟩ := hp
  exact Ok.ret ⟨a2, l2, c2, rfl, by omega, h2, h3.none⟩

/-- entry t of a list that grows as far -/
def putI (xs : List Int) (t : Nat) (v : Int) : List Int := (xs ++ List.replicate (t + 1 - xs.length) 0).set t v
theorem putI_grow (xs : List Int) (t : Nat) (v : Int) (h : xs.length ≤ t) : putI (xs ++ [0]) t v = putI xs t v := by
  unfold putI
  have : t + 1 - xs.length = (t + 1 - (xs ++ [0]).length) + 1 := by rw [List.length_append, List.length_singleton]; omega
  rw [this, List.replicate_succ, List.append_assoc]
  rfl
theorem ints_set (xs : List Int) (t : Nat) (v : Int) : (ints xs).set t (.int .i64 v) = ints (xs.set t v) := by
  unfold ints; rw [List.map_set]
theorem ints_app (xs ys : List Int) : ints xs ++ ints ys = ints (xs ++ ys) := by unfold ints; rw [List.map_append]

theorem f52_loop {k N : Nat} {t : Nat} {v : Int} (ht : t < 1000000) : ∀ (m n : Nat) (xs : List Int) (a : Option Addr) (l c : Nat) (H : AHeap) (D : List Value),
    Own N 1 H a l c (ints xs) → N ≤ H.next → l ≤ 1000000 → t + 1 - l = m → m < n →
    Ok (f52.L1 k n a l c (t : Int) v D H) fun r => ∃ a' l' c', r.1 = .slice a' l' c' ∧ (l' = max l (t + 1) ∧ Own N 1 r.2 a' l' c' (ints (putI xs t v)) ∧ Keep a H r.2 ∧ Orig a H.next a') := by
  intro m
  induction m with
  | zero =>
    intro n xs a l c H D h hN hl hm hn
    obtain ⟨n, rfl⟩ : ∃ j, n = j + 1 := ⟨n - 1, by omega⟩
    rw [f52.L1_s]
    refine ok_biff (by simp only [decide_eq_false_iff_not]; omega) ?_
    obtain ⟨q, H', e, hw, h1, h2, _⟩ := own_set h (t := t) (by omega) (.int .i64 v)
    refine ok_bind e (ok_if (by omega) (ok_bind hw ?_))
    refine Ok.ret ⟨a, l, c, rfl, by omega, ?_, h2, Orig.refl _ _⟩
    rw [ints_set] at h1
    unfold putI
    rw [show t + 1 - xs.length = 0 from by have := h.len; omega]
    simpa using h1
  | succ m ih =>
    intro n xs a l c H D h hN hl hm hn
    obtain ⟨n, rfl⟩ : ∃ j, n = j + 1 := ⟨n - 1, by omega⟩
    rw [f52.L1_s]
    refine ok_bift (by simp only [decide_eq_true_eq]; omega) ?_
    refine ok_al fun i H1 hi hnx A1 B1 => ?_
    refine ok_cSl (app_own (by decide) (app26 _ _ _ _ _ _ _) (h.agree A1) (cs' := ints [0]) ⟨rfl, .inr ⟨i, 0, none, _, rfl, B1, by simp, by simp, by simp [ints]⟩⟩ (Nat.le_trans hN A1.next) (by omega) (by omega)) fun a2 l2 c2 H2 hp => ?_
    obtain ⟨h1, h2, h3, h4⟩ := hp
    subst h1
    rw [ints_app] at h2
    have hlen := h.len
    obtain ⟨r, e, a3, l3, c3, e1, e2, e3, e4, e5⟩ := ih n (xs ++ [0]) a2 (l + 1) c2 H2 _ h2 (Nat.le_trans hN (Nat.le_trans A1.next h3.next)) (by omega) (by omega) (by omega)
    have hK : Keep a H H2 := Keep.of_agree A1 h3
    have hO : Orig a H.next a2 := fun q e => (h4 q e).imp id fun h => Nat.le_trans A1.next h
    refine ⟨r, e, a3, l3, c3, e1, by omega, ?_, hK.trans hO e4, hO.trans e5 hK.next⟩
    rw [putI_grow xs t v (by omega)] at e3
    exact e3

/-- epoch.entry -/
theorem f52_spec {k N : Nat} {t : Nat} {v : Int} (ht : t ≤ 1000) (hk : 1010 ≤ k) {H : AHeap} {a : Option Addr} {l c : Nat} {xs : List Int} (h : Own N 1 H a l c (ints xs)) (hN : N ≤ H.next) (hl : l ≤ 1000000) :
    ∃ a' l' c' H', C k 52 [.slice a l c, .int .i64 (t : Int), .int .i64 v] H = some (.slice a' l' c', H') ∧ (l' = max l (t + 1) ∧ Own N 1 H' a' l' c' (ints (putI xs t v)) ∧ Keep a H H' ∧ Orig a H.next a') := by
  obtain ⟨k, rfl⟩ : ∃ j, k = j + 1 := ⟨k - 1, by omega⟩
  rw [f52_eq]
  exact callsl_of_ok (f52_loop (by omega) (t + 1 - l) k xs a l c H _ h hN hl rfl (by omega))
end Go.Proofs.MxF
