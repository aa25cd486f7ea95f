/- Clocks that grow. -/
import Derived.Test.YtcegcnopakfloaaXE5
set_option linter.unusedVariables false
namespace Go.Proofs.MxF
open Go Go.Mx Go.Proofs

theorem f15_loop {k N : Nat} {t : Nat} (ht : t < 1000000) : ∀ (m n : Nat) (xs : List Int) (a : Option Addr) (l c : Nat) (H : AHeap) (D : List Value),
    Own N 1 H a l c (ints xs) → N ≤ H.next → l ≤ 1000000 → t + 1 - l = m → m < n →
    Ok (f15.L1 k n a l c (t : Int) D H) fun r => ∃ a' l' c', r.1 = .slice a' l' c' ∧ (l' = max l (t + 1) ∧ (∃ zs, Own N 1 r.2 a' l' c' (ints zs)) ∧ Keep a H r.2 ∧ Orig a H.next a') := by
  intro m
  induction m with
  | zero =>
    intro n xs a l c H D h hN hl hm hn
    obtain ⟨n, rfl⟩ : ∃ j, n = j + 1 := ⟨n - 1, by omega⟩
    rw [f15.L1_s]
    refine ok_biff (by simp only [decide_eq_false_iff_not]; omega) ?_
    have hlen := h.len
    have htl : t < xs.length := by omega
    obtain ⟨q, e, hq⟩ := h.ints.ld (List.getElem?_eq_getElem htl)
    have hif : 0 ≤ (t : Int) ∧ (t : Int) < (l : Int) := by omega
    have hq' : ldI .i64 H q.block (q.off + (t : Int).toNat * 1) = some xs[t] := by rw [Nat.mul_one]; exact hq
    refine ok_bind e (ok_if hif (ok_bind hq' (ok_bif (fun hc => ?_) (fun hc => ?_))))
    · refine ok_bind e (ok_if hif (ok_bind hq' ?_))
      obtain ⟨q', H', e', hw, h1, h2, _⟩ := own_set h (t := t) (by omega) (.int .i64 (IntKind.i64.wrap (xs[t] + 1)))
      rw [ints_set] at h1
      refine ok_bind e' (ok_if hif (ok_bind hw ?_))
      exact Ok.ret ⟨a, l, c, rfl, by omega, ⟨_, h1⟩, h2, Orig.refl _ _⟩
    · exact Ok.ret ⟨a, l, c, rfl, by omega, ⟨_, h⟩, (Agree.refl H).keep, Orig.refl _ _⟩
  | succ m ih =>
    intro n xs a l c H D h hN hl hm hn
    obtain ⟨n, rfl⟩ : ∃ j, n = j + 1 := ⟨n - 1, by omega⟩
    rw [f15.L1_s]
    refine ok_bift (by simp only [decide_eq_true_eq]; omega) ?_
    refine ok_al fun i H1 hi hnx A1 B1 => ?_
    refine ok_cSl (app_own (by decide) (app26 _ _ _ _ _ _ _) (h.agree A1) (cs' := ints [0]) ⟨rfl, .inr ⟨i, 0, none, _, rfl, B1, by simp, by simp, by simp [ints]⟩⟩ (Nat.le_trans hN A1.next) (by omega) (by omega)) fun a2 l2 c2 H2 hp => ?_
    obtain ⟨h1, h2, h3, h4⟩ := hp
    subst h1
    rw [ints_app] at h2
    have hlen := h.len
    obtain ⟨r, e, a3, l3, c3, e1, e2, e3, e4, e5⟩ := ih n (xs ++ [0]) a2 (l + 1) c2 H2 _ h2 (Nat.le_trans hN (Nat.le_trans A1.next h3.next)) (by omega) (by omega) (by omega)
    have hK : Keep a H H2 := Keep.of_agree A1 h3
    have hO : Orig a H.next a2 := fun q e => (h4 q e).imp id fun h => Nat.le_trans A1.next h
    exact ⟨r, e, a3, l3, c3, e1, by omega, e3, hK.trans hO e4, hO.trans e5 hK.next⟩

/-- Tick, of a thread in range: some list -/
theorem f15_spec {k : Nat} {t : Nat} (ht : t < 4) (hk : 1010 ≤ k) {H : AHeap} {a : Option Addr} {l c : Nat} {xs : List Int} (h : Ints H a l xs) (hl : l ≤ 1000) :
    ∃ a' l' c' H', C k 15 [.slice a l c, .int .i64 (t : Int)] H = some (.slice a' l' c', H') ∧ (l' = max l (t + 1) ∧ (∃ zs, Ints H' a' l' zs ∧ ∀ q, a' = some q → H.next ≤ q.block) ∧ Agree H H') := by
  obtain ⟨k, rfl⟩ : ∃ j, k = j + 1 := ⟨k - 1, by omega⟩
  rw [f15_eq]
  refine callsl_of_ok (ok_cSl (f45_spec (by omega) h (by omega)) fun a1 l1 c1 H1 hp => ?_)
  obtain ⟨rfl, h1, A1⟩ := hp
  refine ok_biff (by simp only [decide_eq_false_iff_not]; omega) (ok_biff (by simp only [decide_eq_false_iff_not]; omega) ?_)
  rw [f15.K1_eq]
  obtain ⟨r, e, a2, l2, c2, e1, e2, ⟨zs, e3⟩, e4, _⟩ := f15_loop (k := k) (show t < 1000000 by omega) (t + 1 - l1) k xs a1 l1 c1 H1 _ h1 A1.next (by omega) rfl (by omega)
  exact ⟨r, e, a2, l2, c2, e1, e2, ⟨zs, e3.ints, e3.block⟩, e4.agree A1 h1.block⟩

theorem rep_ints (n : Nat) : rep [(.int .i64 0 : Value)] n = ints (List.replicate n 0) := by
  induction n with
  | zero => rfl
  | succ n ih => rw [rep, ih]; rfl

theorem f16_loop {k N : Nat} (hk : 1 ≤ k) {a a' : Option Addr} {l c l' c' : Nat} {xs ys : List Int} {a5 : Option Addr} {l5 c5 : Nat} (hl5 : l5 ≤ 1000000) :
    ∀ (m i n : Nat) (zs : List Int) (H : AHeap) (D : List Value), Ints H a l xs → Ints H a' l' ys → (∀ q, a = some q → q.block < N) → (∀ q, a' = some q → q.block < N) → Own N 1 H a5 l5 c5 (ints zs) → i + m = l5 → m < n →
    Ok (f16.L1 k n a l c a' l' c' a5 l5 c5 (l5 : Int) (i : Int) D H) fun r => ∃ a' l' c', r.1 = .slice a' l' c' ∧ (l' = l5 ∧ (∃ zs, Own N 1 r.2 a' l' c' (ints zs)) ∧ Keep a5 H r.2) := by
  intro m
  induction m with
  | zero =>
    intro i n zs H D h h' b b' hO hi hn
    obtain ⟨n, rfl⟩ : ∃ j, n = j + 1 := ⟨n - 1, by omega⟩
    rw [f16.L1_s]
    refine ok_biff (by simp only [decide_eq_false_iff_not]; omega) ?_
    exact Ok.ret ⟨a5, l5, c5, rfl, rfl, ⟨zs, hO⟩, (Agree.refl H).keep⟩
  | succ m ih =>
    intro i n zs H D h h' b b' hO hi hn
    obtain ⟨n, rfl⟩ : ∃ j, n = j + 1 := ⟨n - 1, by omega⟩
    rw [f16.L1_s]
    refine ok_bift (by simp only [decide_eq_true_eq]; omega) ?_
    refine ok_cI0 (f46_spec hk h _) (ok_cI0 (f46_spec hk h' _) ?_)
    obtain ⟨q', H', e', hw, h1, h2, _⟩ := own_set hO (t := i) (by omega) (.int .i64 (if atI ys (i : Int) > atI xs (i : Int) then atI ys (i : Int) else atI xs (i : Int)))
    rw [ints_set] at h1
    refine ok_bind e' (ok_if (by omega) (ok_bind hw ?_))
    rw [wrap_id (by omega) (by omega), show ((i : Int) + 1) = ((i + 1 : Nat) : Int) from rfl]
    have hb := hO.block
    obtain ⟨r, e, a3, l3, c3, e1, e2, e3, e4⟩ := ih (i + 1) n _ H' _ (Cells.keep h h2 fun q q' e1 e2 => by have := hb _ e2; have := b _ e1; omega) (Cells.keep h' h2 fun q q' e1 e2 => by have := hb _ e2; have := b' _ e1; omega) b b' h1 (by omega) (by omega)
    exact ⟨r, e, a3, l3, c3, e1, e2, e3, h2.trans (Orig.refl _ _) e4⟩

/-- Join: some list -/
theorem f16_spec {k : Nat} (hk : 1010 ≤ k) {H : AHeap} {a a' : Option Addr} {l c l' c' : Nat} {xs ys : List Int} (h : Ints H a l xs) (h' : Ints H a' l' ys) (hl : max l l' ≤ 1000) :
    ∃ a2 l2 c2 H', C k 16 [.slice a l c, .slice a' l' c'] H = some (.slice a2 l2 c2, H') ∧ (l2 = max l l' ∧ (∃ zs, Ints H' a2 l2 zs) ∧ Agree H H') := by
  obtain ⟨k, rfl⟩ : ∃ j, k = j + 1 := ⟨k - 1, by omega⟩
  rw [f16_eq, max_if]
  refine callsl_of_ok (ok_if rfl (ok_if (by omega) (ok_al fun i H1 hi n1 A1 B1 => ?_)))
  rw [rep_ints] at B1
  have ht : (((max l l' : Nat) : Int)).toNat = max l l' := by omega
  rw [ht] at B1 ⊢
  have hO : Own H.next 1 H1 (some ⟨i, 0, none⟩) (max l l') (max l l') (ints (List.replicate (max l l') 0)) :=
    ⟨by simp [ints], Nat.le_refl _, .inr ⟨i, _, rfl, by omega, B1, rfl, rfl, by simp [ints], by simp [ints]⟩⟩
  obtain ⟨r, e, a3, l3, c3, e1, e2, ⟨zs, e3⟩, e4⟩ := f16_loop (k := k) (N := H.next) (c := c) (c' := c') (by omega) (by omega) (max l l') 0 k _ H1 _ (h.agree A1) (h'.agree A1) (Cells.below h) (Cells.below h') hO (by omega) (by omega)
  exact ⟨r, e, a3, l3, c3, e1, e2, ⟨zs, e3.ints⟩, e4.agree A1 (fun q e => by cases e; show H.next ≤ i; omega)⟩
end Go.Proofs.MxF
