/- slices.Compact and lockset.set. -/
import Derived.Test.YtcegcnopakfloaaXK2
set_option linter.unusedVariables false
namespace Go.Proofs.MxF
open Go Go.Mx Go.Proofs
theorem clear26 (H : AHeap) (q : Addr) (n c : Nat) : clearV Try.prog [26] H (.slice (some q) n c) = if n = 0 then some H else H.wr q.block q.off (rep [.int .i64 0] n) := by kernel_rfl
theorem rep_len (v : Value) (n : Nat) : (rep [v] n).length = n := by
  induction n with
  | zero => rfl
  | succ n ih => rw [rep]; simp [ih]
/-- the tail cleared, and the slice cut -/
theorem own_clear {N : Nat} {H : AHeap} {a : Option Addr} {l c k : Nat} {xs : List Int} (h : Own N 1 H a l c (ints xs)) (hk : k ≤ l) {q : Addr} (hq : a = some q) (c' : Nat) :
    ∃ H', clearV Try.prog [26] H (.slice (some ⟨q.block, q.off + k * 1, q.spot⟩) (l - k) c') = some H' ∧ Own N 1 H' a k c (ints (xs.take k)) ∧ Keep a H H' := by
  rw [clear26]
  rcases h.2.2 with ⟨e, e2⟩ | ⟨i, b, e, h0, h1, h2, h3, h4, h5⟩
  · rw [e] at hq; cases hq
  rw [e] at hq
  cases hq
  have hlen := h.1
  have hlc := h.2.1
  have ht : ∀ cells : List Value, cells.take (k * 1) = b.cells.take (k * 1) → cells.take (k * 1) = ints (xs.take k) := by
    intro cells hc
    rw [hc]
    have : ints (xs.take k) = (ints xs).take k := by unfold ints; rw [List.map_take]
    rw [this, ← h5, List.take_take, Nat.mul_one, Nat.mul_one, Nat.min_eq_left hk]
  have hxl : (xs.take k).length = k := by
    have : (ints xs).length = xs.length := by simp [ints]
    rw [List.length_take]
    omega
  by_cases hz : l - k = 0
  · rw [if_pos hz]
    exact ⟨H, rfl, ⟨by simp only [ints, List.length_map, hxl, Nat.mul_one], by omega, .inr ⟨i, b, e, h0, h1, h2, h3, h4, ht _ rfl⟩⟩, (Agree.refl H).keep⟩
  · rw [if_neg hz]
    obtain ⟨H', hw, w1, w2, w3⟩ := wr_at (o := 0 + k * 1) (vs := rep [.int .i64 0] (l - k)) h1 h2 (by rw [rep_len]; omega)
    refine ⟨H', hw, ⟨by simp only [ints, List.length_map, hxl, Nat.mul_one], by omega, .inr ⟨i, _, e, h0, w2, h2, h3, ?_, ht _ ?_⟩⟩, ⟨by omega, fun j hj hne => w3 j fun e1 => hne _ e e1.symm, fun f j hj => ?_⟩⟩
    · show (splice b.cells (0 + k * 1) (rep [.int .i64 0] (l - k))).length = c * 1
      unfold splice
      simp only [List.length_append, List.length_take, List.length_drop, rep_len]
      omega
    · show (splice b.cells (0 + k * 1) (rep [.int .i64 0] (l - k))).take (k * 1) = _
      unfold splice
      rw [List.append_assoc, List.take_append_of_le_length (by rw [List.length_take]; omega), List.take_take, Nat.zero_add, Nat.min_self]
    · rw [w1] at hj
      rw [w3 j (by have := h1.1; omega)]
      exact f j hj

theorem ldoff {H : AHeap} {b : Nat} {o o' : Nat} {x : Int} (h : ldI .i64 H b o = some x) (e : o = o') : ldI .i64 H b o' = some x := by rw [← e]; exact h

theorem f84_l2 {k N : Nat} {a : Option Addr} {l c i0 n1 : Nat} {xs : List Int} {q : Addr} (hq : a = some q) (hq0 : q.off = 0) (hl : l < maxLen) : ∀ (m p w n2 : Nat) (ys : List Int) (H : AHeap) (D : List Value),
    p + m = l → m < n2 → i0 < p → 0 < w → w ≤ p - 1 → xs.length = l → Own N 1 H a l c (ints ys) → ys.take w = cmp (xs.take p) → ys.drop (p - 1) = xs.drop (p - 1) →
    Ok (f84.L2 k n1 n2 a l c (w : Int) (some ⟨q.block, q.off + i0 * 1, q.spot⟩) (l - i0) (c - i0) ((p - i0 : Nat) : Int) D H) fun r => ∃ l', r.1 = .slice a l' c ∧ (Own N 1 r.2 a l' c (ints (cmp xs)) ∧ Keep a H r.2) := by
  intro m
  induction m with
  | zero =>
    intro p w n2 ys H D hm hn hi hw hwp hxl h ht hd
    obtain ⟨n2, rfl⟩ : ∃ j, n2 = j + 1 := ⟨n2 - 1, by omega⟩
    rw [f84.L2_s]
    refine ok_biff (by simp only [decide_eq_false_iff_not]; omega) ?_
    refine ok_bSl (cutLo (by omega) h.2.1) ?_
    obtain ⟨H', e, h1, h2⟩ := own_clear h (k := w) (by omega) hq (c - w)
    subst hq
    refine ok_bind e (ok_bSl (cutHi (by omega) h.2.1) (Ok.ret ⟨w, rfl, ?_, h2⟩))
    rw [ht, List.take_of_length_le (by omega)] at h1
    exact h1
  | succ m ih =>
    intro p w n2 ys H D hm hn hi hw hwp hxl h ht hd
    obtain ⟨n2, rfl⟩ : ∃ j, n2 = j + 1 := ⟨n2 - 1, by omega⟩
    rw [f84.L2_s]
    have hlen := h.len
    obtain ⟨p', rfl⟩ : ∃ p', p = p' + 1 := ⟨p - 1, by omega⟩
    rw [Nat.add_sub_cancel] at hd hwp
    have hy : ∀ j, p' ≤ j → ys[j]? = xs[j]? := by
      intro j hj
      have : (ys.drop p')[j - p']? = (xs.drop p')[j - p']? := by rw [hd]
      rw [List.getElem?_drop, List.getElem?_drop, show p' + (j - p') = j from by omega] at this
      exact this
    have g1 : xs[p' + 1]? = some xs[p' + 1] := List.getElem?_eq_getElem (by omega)
    have g0 : xs[p']? = some xs[p'] := List.getElem?_eq_getElem (by omega)
    have hct := cmp_take g1 g0
    revert g1 g0 hct
    generalize xs[p' + 1] = x
    generalize xs[p'] = y
    intro g1 g0 hct
    rw [← hy (p' + 1) (by omega)] at g1
    rw [← hy p' (by omega)] at g0
    have Ab := agree_bump H 10
    have hb := h.agree Ab
    obtain ⟨s, es, l1, ls, _⟩ := own_get h g1
    rw [hq] at es
    cases es
    obtain ⟨s, es, m1, _⟩ := own_get hb g1
    rw [hq] at es
    cases es
    obtain ⟨s, es, m0, _⟩ := own_get hb g0
    rw [hq] at es
    cases es
    have e1 : (((p' + 1 - i0 : Nat) : Int)).toNat = p' + 1 - i0 := by omega
    have e0 : IntKind.i64.wrap (((p' + 1 - i0 : Nat) : Int) - 1) = ((p' - i0 : Nat) : Int) := by
      unfold maxLen at hl
      rw [IntWalk.i64_in _ (by omega)]; omega
    refine ok_bift (by simp only [decide_eq_true_eq]; omega) (ok_bind rfl (ok_if (by omega) (ok_bift (ls _ Ab) ?_)))
    refine ok_bind (ldoff m1 (by rw [e1]; show q.off + (p' + 1) * 1 = q.off + i0 * 1 + (p' + 1 - i0) * 1; omega)) (ok_bind rfl ?_)
    rw [e0]
    refine ok_if (by omega) (ok_bift (ls _ Ab) (ok_bind (ldoff m0 (by show q.off + p' * 1 = q.off + i0 * 1 + (((p' - i0 : Nat) : Int)).toNat * 1; omega)) ?_))
    have ew : IntKind.i64.wrap (((p' + 1 - i0 : Nat) : Int) + 1) = ((p' + 1 + 1 - i0 : Nat) : Int) := by
      unfold maxLen at hl
      rw [IntWalk.i64_in _ (by omega)]; omega
    have ew2 : IntKind.i64.wrap ((w : Int) + 1) = ((w + 1 : Nat) : Int) := wrapS (l := l) (by omega) (Nat.le_of_lt hl)
    refine ok_bif (fun hc => ?_) (fun hc => ?_)
    · simp only [bne_iff_ne, ne_eq] at hc
      refine ok_bind rfl (ok_if (by omega) (ok_bind (ldoff m1 (by rw [e1]; show q.off + (p' + 1) * 1 = q.off + i0 * 1 + (p' + 1 - i0) * 1; omega)) (ok_bind hq (ok_if (by omega) ?_))))
      obtain ⟨s, H2, es, hwr, h2, k2, n2'⟩ := own_set hb (t := w) (by omega) (.int .i64 x)
      rw [hq] at es
      cases es
      refine ok_bind hwr ?_
      rw [ints_set'] at h2
      rw [ew, ew2]
      have t2 : (ys.set w x).take (w + 1) = cmp (xs.take (p' + 1 + 1)) := by
        rw [hct, if_neg (fun e => hc e.symm), ← ht, List.take_add_one, List.getElem?_set_self (by omega), List.take_set, List.set_eq_of_length_le (by rw [List.length_take]; omega)]
        rfl
      have d2 : (ys.set w x).drop (p' + 1 + 1 - 1) = xs.drop (p' + 1 + 1 - 1) := by
        rw [Nat.add_sub_cancel, List.drop_set_of_lt (by omega)]
        have := congrArg (List.drop 1) hd
        rw [List.drop_drop, List.drop_drop] at this
        exact this
      obtain ⟨r, e, l', r1, r2, r3⟩ := ih (p' + 1 + 1) (w + 1) n2 (ys.set w x) H2 _ (by omega) (by omega) (by omega) (by omega) (by omega) hxl h2 t2 d2
      exact ⟨r, e, l', r1, r2, (Keep.of_agree Ab k2).trans (Orig.refl _ _) r3⟩
    · simp only [bne_eq_false_iff_eq] at hc
      rw [ew]
      have t2 : ys.take w = cmp (xs.take (p' + 1 + 1)) := by rw [hct, if_pos hc.symm]; exact ht
      have d2 : ys.drop (p' + 1 + 1 - 1) = xs.drop (p' + 1 + 1 - 1) := by
        rw [Nat.add_sub_cancel]
        have := congrArg (List.drop 1) hd
        rw [List.drop_drop, List.drop_drop] at this
        exact this
      obtain ⟨r, e, l', r1, r2, r3⟩ := ih (p' + 1 + 1) w n2 ys (H.bump 10) _ (by omega) (by omega) (by omega) (by omega) (by omega) hxl hb t2 d2
      exact ⟨r, e, l', r1, r2, Keep.of_agree Ab r3⟩

theorem f84_l1 {k N : Nat} {a : Option Addr} {l c : Nat} {xs : List Int} (hl : l < maxLen) (hk : l < k) : ∀ (m i n : Nat) (H : AHeap) (D : List Value),
    i + m = l → m < n → 1 ≤ i → Own N 1 H a l c (ints xs) → cmp (xs.take i) = xs.take i →
    Ok (f84.L1 k n a l c (i : Int) D H) fun r => ∃ l', r.1 = .slice a l' c ∧ (Own N 1 r.2 a l' c (ints (cmp xs)) ∧ Keep a H r.2) := by
  intro m
  induction m with
  | zero =>
    intro i n H D hm hn hi h hc
    obtain ⟨n, rfl⟩ : ∃ j, n = j + 1 := ⟨n - 1, by omega⟩
    rw [f84.L1_s]
    refine ok_biff (by simp only [decide_eq_false_iff_not]; omega) (Ok.ret ⟨l, rfl, ?_, (Agree.refl H).keep⟩)
    have := h.len
    rw [List.take_of_length_le (by omega)] at hc
    rw [hc]; exact h
  | succ m ih =>
    intro i n H D hm hn hi h hc
    obtain ⟨n, rfl⟩ : ∃ j, n = j + 1 := ⟨n - 1, by omega⟩
    rw [f84.L1_s]
    have hlen := h.len
    obtain ⟨i, rfl⟩ : ∃ i', i = i' + 1 := ⟨i - 1, by omega⟩
    have g1 : xs[i + 1]? = some xs[i + 1] := List.getElem?_eq_getElem (by omega)
    have g0 : xs[i]? = some xs[i] := List.getElem?_eq_getElem (by omega)
    have hct := cmp_take g1 g0
    have htk : xs.take (i + 1 + 1) = xs.take (i + 1) ++ [xs[i + 1]] := by rw [List.take_add_one, g1]; rfl
    revert g1 g0 hct htk
    generalize xs[i + 1] = x
    generalize xs[i] = y
    intro g1 g0 hct htk
    have Ab := agree_bump H 10
    have hb := h.agree Ab
    obtain ⟨q, eq, l1, ls, hq0, _⟩ := own_get h g1
    obtain ⟨s, es, m1, _⟩ := own_get hb g1
    rw [eq] at es
    cases es
    obtain ⟨s, es, m0, _⟩ := own_get hb g0
    rw [eq] at es
    cases es
    refine ok_bift (by simp only [decide_eq_true_eq]; omega) (ok_bind eq (ok_if (by omega) (ok_bift (ls _ Ab) (ok_bind m1 (ok_bind eq ?_)))))
    rw [wrapP (j := i) (by omega)]
    refine ok_if (by omega) (ok_bift (ls _ Ab) (ok_bind m0 (ok_bif (fun hb' => ?_) (fun hb' => ?_))))
    · rw [beq_iff_eq] at hb'
      subst hb'
      refine ok_bSl (cutLo (by omega) h.2.1) ?_
      rw [eq]
      rw [if_pos rfl] at hct
      have key := fun D => f84_l2 (k := k) (N := N) (a := some q) (l := l) (c := c) (i0 := i + 1) (n1 := n) (xs := xs) (q := q) rfl hq0 hl m (i + 1 + 1) (i + 1) k xs (H.bump 10) D (by omega) (by omega) (by omega) (by omega) (by omega) hlen.symm (by rw [← eq]; exact hb) (by rw [hct, hc]) rfl
      rw [show i + 1 + 1 - (i + 1) = 1 from by omega] at key
      obtain ⟨r, e, l', r1, r2, r3⟩ := key _
      exact ⟨r, e, l', r1, r2, Keep.of_agree Ab r3⟩
    · have hne : ¬ (y = x) := by simp only [beq_eq_false_iff_ne, ne_eq] at hb'; exact fun e => hb' e.symm
      rw [wrapS (i := i + 1) (l := l) (by omega) (Nat.le_of_lt hl)]
      rw [if_neg hne, hc, ← htk] at hct
      obtain ⟨r, e, l', r1, r2, r3⟩ := ih (i + 1 + 1) n (H.bump 10) _ (by omega) (by omega) (by omega) hb hct
      exact ⟨r, e, l', r1, r2, Keep.of_agree Ab r3⟩
theorem cmp_short {xs : List Int} (h : xs.length < 2) : cmp xs = xs := by
  match xs, h with
  | [], _ => rfl
  | [x], _ => rfl
theorem f84_spec {k N : Nat} {a : Option Addr} {l c : Nat} {xs : List Int} {H : AHeap} (hl : l < maxLen) (hk : l + 3 ≤ k) (h : Own N 1 H a l c (ints xs)) :
    ∃ a' l' c' H', C k 84 [.slice a l c] H = some (.slice a' l' c', H') ∧ (a' = a ∧ Own N 1 H' a l' c' (ints (cmp xs)) ∧ Keep a H H') := by
  obtain ⟨k, rfl⟩ : ∃ j, k = j + 1 := ⟨k - 1, by omega⟩
  rw [f84_eq]
  have hlen := h.len
  refine callsl_of_ok (ok_bif (fun hc => Ok.ret ⟨a, l, c, rfl, rfl, ?_, (Agree.refl H).keep⟩) (fun hc => ?_))
  · rw [decide_eq_true_eq] at hc
    rw [cmp_short (by omega)]; exact h
  · rw [decide_eq_false_iff_not] at hc
    have key := fun D => f84_l1 (k := k) (N := N) (xs := xs) hl (by omega) (l - 1) 1 k H D (by omega) (by omega) (by omega) h (cmp_short (by rw [List.length_take]; omega))
    obtain ⟨r, e, l', r1, r2, r3⟩ := key _
    exact ⟨r, e, a, l', c, r1, rfl, r2, r3⟩
end Go.Proofs.MxF
