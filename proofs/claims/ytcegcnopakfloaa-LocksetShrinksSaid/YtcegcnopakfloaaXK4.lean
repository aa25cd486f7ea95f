/- lockset.set and lockset.both. -/
import Derived.Test.YtcegcnopakfloaaXK3
import Derived.Test.YtcegcnopakfloaaXLp2
import Derived.Test.YtcegcnopakfloaaXL2
set_option linter.unusedVariables false
namespace Go.Proofs.MxF
open Go Go.Mx Go.Proofs
abbrev Strict (xs : List Int) : Prop := xs.Pairwise (· < ·)

theorem f55_spec {k : Nat} {a : Option Addr} {l c : Nat} {xs : List Int} {H : AHeap} (hl : l ≤ 12) (hk : 40 ≤ k) (h : Ints H a l xs) :
    ∃ a' l' c' H', C k 55 [.slice a l c] H = some (.slice a' l' c', H') ∧ ((∃ zs, Own H.next 1 H' a' l' c' (ints zs) ∧ Strict zs ∧ (∀ v, v ∈ zs ↔ v ∈ xs) ∧ zs.length ≤ xs.length) ∧ Agree H H') := by
  obtain ⟨k, rfl⟩ : ∃ j, k = j + 1 := ⟨k - 1, by omega⟩
  rw [f55_eq]
  refine callsl_of_ok (ok_cSl (app_own (by decide) (app26' _ _ _ _ _ _ _) (Own.nil H.next 1 H) (cs' := ints xs) (by rw [Nat.mul_one]; exact h) (Nat.le_refl _) (by omega) (by omega)) fun a2 l2 c2 H2 hp => ?_)
  obtain ⟨rfl, h1, k1, o1⟩ := hp
  have A1 := k1.none
  rw [List.nil_append] at h1
  have hlen := h.len
  refine ok_cT1 (f83_short (by omega) (by omega) h1) fun H3 hp => ?_
  obtain ⟨⟨ys, h2, s2, p2⟩, k2⟩ := hp
  have hlm : 0 + l < maxLen := by unfold maxLen; omega
  refine ok_cSl (f84_spec hlm (by omega) h2) fun a4 l4 c4 H4 hp => ?_
  obtain ⟨rfl, h3, k3⟩ := hp
  refine Ok.ret ⟨_, _, _, rfl, ⟨_, h3, cmp_strict s2, fun v => ?_, ?_⟩, (k2.trans (Orig.refl _ _) k3).agree A1 h1.block⟩
  · rw [mem_cmp, p2.mem_iff]
  · have e1 := h3.len
    have e2 := h3.2.1
    have e3 := h2.len
    have : (cmp ys).length ≤ ys.length := by
      refine snoc_ind (p := fun ys => (cmp ys).length ≤ ys.length) (by simp [cmp]) (fun ys v ih => ?_) ys
      rw [cmp_snoc]
      unfold cmpS
      split <;> simp <;> omega
    rw [p2.length_eq] at this
    exact this

theorem f85_spec {k : Nat} {H : AHeap} {p : Nat} {e v0 : Nat} {a : Option Addr} {l c : Nat} {ys : List Int} (hp : At H p ⟨[.slice a l c], e, .rw, v0⟩) (h : Ints H a l ys) (hl : l ≤ maxLen) (hk : l + 4 ≤ k) (v : Int) :
    C k 85 [.int .i64 v, .pointer (some ⟨p, 0, none⟩)] H = some (.bool (!hasI ys v), H) := by
  obtain ⟨k, rfl⟩ : ∃ j, k = j + 1 := ⟨k - 1, by omega⟩
  rw [f85_eq]
  exact eq_of_ok (ok_bSl (ldSl_at hp (by simp) rfl) (ok_cB0 (f63_spec h hl (by omega) v) (Ok.ret rfl)))
theorem filter_take {xs : List Int} {kp : Int → Bool} {i : Nat} {x : Int} (h : xs[i]? = some x) : (xs.take (i + 1)).filter kp = if kp x then (xs.take i).filter kp ++ [x] else (xs.take i).filter kp := by
  rw [List.take_add_one, h, List.filter_append]
  by_cases hx : kp x <;> simp [hx]

section
variable {k N : Nat} {a : Option Addr} {l c : Nat} {xs ys : List Int} {p e v0 : Nat} {b : Option Addr} {lb cb : Nat}
theorem f86_l1 (hl : l < maxLen) (hlb : lb ≤ maxLen) (hk : lb + 4 ≤ k) {H : AHeap} (h : Ints H a l xs) (hp : At H p ⟨[.slice b lb cb], e, .rw, v0⟩) (hb : Ints H b lb ys) : ∀ (m i n : Nat) (D : List Value), i + m = l → m < n →
    (xs.take i).filter (hasI ys) = xs.take i →
    Ok (f86x85.L1 k n a l c p (l : Int) (i : Int) D H) fun r => (r = (.int .i64 (-1), H) ∧ xs.filter (hasI ys) = xs) ∨ ∃ (j : Nat) (x : Int), r = (.int .i64 (j : Int), H) ∧ (xs.take j).filter (hasI ys) = xs.take j ∧ xs[j]? = some x ∧ hasI ys x = false := by
  intro m
  induction m with
  | zero =>
    intro i n D hm hn hf
    obtain ⟨n, rfl⟩ : ∃ j, n = j + 1 := ⟨n - 1, by omega⟩
    rw [f86x85.L1_s]
    refine ok_biff (by simp only [decide_eq_false_iff_not]; omega) (Ok.ret (.inl ⟨rfl, ?_⟩))
    rw [List.take_of_length_le (by have := h.len; omega)] at hf
    exact hf
  | succ m ih =>
    intro i n D hm hn hf
    obtain ⟨n, rfl⟩ : ∃ j, n = j + 1 := ⟨n - 1, by omega⟩
    rw [f86x85.L1_s]
    obtain ⟨q, x, hx, eq, hq⟩ := Ints.at h (i := i) (by omega)
    refine ok_bift (by simp only [decide_eq_true_eq]; omega) (ok_bind eq (ok_if (by omega) (ok_bind hq ?_)))
    refine ok_cB0 (f85_spec hp hb hlb hk x) (ok_bif (fun hc => Ok.ret (.inr ⟨i, x, rfl, hf, hx, ?_⟩)) (fun hc => ?_))
    · simpa using hc
    · rw [wrapS (l := l) (by omega) (Nat.le_of_lt hl)]
      refine ih (i + 1) n _ (by omega) (by omega) ?_
      have hc' : hasI ys x = true := by simpa using hc
      rw [filter_take hx, if_pos hc', hf, List.take_add_one, hx]
      rfl
theorem f81_l1 (hl : l < maxLen) (hlb : lb ≤ maxLen) (hk : lb + 4 ≤ k) (hne : ∀ q, a = some q → q.block ≠ p) (hnb : ∀ q q', a = some q → b = some q' → q.block ≠ q'.block) (hxl : xs.length = l) :
    ∀ (m j w n : Nat) (zs : List Int) (H : AHeap) (D : List Value), j + m = l → m < n → w < j → Own N 1 H a l c (ints zs) → zs.take w = (xs.take j).filter (hasI ys) → zs.drop j = xs.drop j →
    At H p ⟨[.slice b lb cb], e, .rw, v0⟩ → Ints H b lb ys →
    Ok (f81x85.L1 k n a l c p (w : Int) (j : Int) D H) fun r => ∃ l', r.1 = .slice a l' c ∧ (Own N 1 r.2 a l' c (ints (xs.filter (hasI ys))) ∧ Keep a H r.2) := by
  intro m
  induction m with
  | zero =>
    intro j w n zs H D hm hn hw h ht hd hp hb
    obtain ⟨n, rfl⟩ : ∃ j, n = j + 1 := ⟨n - 1, by omega⟩
    rw [f81x85.L1_s]
    have hlen := h.len
    obtain ⟨q, hq, _⟩ := own_get h (t := 0) (x := zs[0]) (List.getElem?_eq_getElem (by omega))
    refine ok_biff (by simp only [decide_eq_false_iff_not]; omega) (ok_bSl (cutLo (by omega) h.2.1) ?_)
    obtain ⟨H', e, h1, h2⟩ := own_clear h (k := w) (by omega) hq (c - w)
    subst hq
    refine ok_bind e (ok_bSl (cutHi (by omega) h.2.1) (Ok.ret ⟨w, rfl, ?_, h2⟩))
    rw [ht, List.take_of_length_le (by omega)] at h1
    exact h1
  | succ m ih =>
    intro j w n zs H D hm hn hw h ht hd hp hb
    obtain ⟨n, rfl⟩ : ∃ j, n = j + 1 := ⟨n - 1, by omega⟩
    rw [f81x85.L1_s]
    have hlen := h.len
    have g1 : xs[j]? = some xs[j] := List.getElem?_eq_getElem (by omega)
    revert g1
    generalize xs[j] = x
    intro g1
    have gz : zs[j]? = some x := by
      have : (zs.drop j)[0]? = (xs.drop j)[0]? := by rw [hd]
      rw [List.getElem?_drop, List.getElem?_drop] at this
      exact this.trans g1
    have hft := filter_take (kp := hasI ys) g1
    have hd1 : zs.drop (j + 1) = xs.drop (j + 1) := by
      have := congrArg (List.drop 1) hd
      rw [List.drop_drop, List.drop_drop] at this
      exact this
    obtain ⟨q, eq, lq, _⟩ := own_get h gz
    refine ok_bift (by simp only [decide_eq_true_eq]; omega) (ok_bind eq (ok_if (by omega) (ok_bind lq (ok_cB0 (f85_spec hp hb hlb hk x) ?_))))
    rw [wrapS (i := j) (l := l) (by omega) (Nat.le_of_lt hl)]
    refine ok_bif (fun hc => ?_) (fun hc => ?_)
    · have hc' : hasI ys x = true := by simpa using hc
      refine ok_bind eq (ok_if (by omega) ?_)
      obtain ⟨s, H2, es, hwr, h2, k2, n2'⟩ := own_set h (t := w) (by omega) (.int .i64 x)
      rw [eq] at es
      cases es
      refine ok_bind hwr ?_
      rw [ints_set'] at h2
      rw [wrapS (i := w) (l := l) (by omega) (Nat.le_of_lt hl)]
      rw [if_pos hc', ← ht] at hft
      have t2 : (zs.set w x).take (w + 1) = (xs.take (j + 1)).filter (hasI ys) := by
        rw [hft, List.take_add_one, List.getElem?_set_self (by omega), List.take_set, List.set_eq_of_length_le (by rw [List.length_take]; omega)]
        rfl
      have d2 : (zs.set w x).drop (j + 1) = xs.drop (j + 1) := by rw [List.drop_set_of_lt (by omega)]; exact hd1
      obtain ⟨r, er, l', r1, r2, r3⟩ := ih (j + 1) (w + 1) n (zs.set w x) H2 _ (by omega) (by omega) (by omega) h2 t2 d2 (hp.keep k2 hne) (Cells.keep hb k2 fun q q' e1 e2 => hnb q' q e2 e1)
      exact ⟨r, er, l', r1, r2, k2.trans (Orig.refl _ _) r3⟩
    · have hc' : hasI ys x = false := by simpa using hc
      rw [if_neg (by rw [hc']; decide)] at hft
      obtain ⟨r, er, l', r1, r2, r3⟩ := ih (j + 1) w n zs H _ (by omega) (by omega) (by omega) h (by rw [hft]; exact ht) hd1 hp hb
      exact ⟨r, er, l', r1, r2, r3⟩
theorem f81_spec {H : AHeap} (hl : l < maxLen) (hlb : lb ≤ maxLen) (hk : l + lb + 10 ≤ k) (hne : ∀ q, a = some q → q.block ≠ p) (hnb : ∀ q q', a = some q → b = some q' → q.block ≠ q'.block)
    (h : Own N 1 H a l c (ints xs)) (hp : At H p ⟨[.slice b lb cb], e, .rw, v0⟩) (hb : Ints H b lb ys) :
    ∃ a' l' c' H', C k 81 [.slice a l c, .func (.func 85) #[] #[.pointer (some ⟨p, 0, none⟩)]] H = some (.slice a' l' c', H') ∧ (a' = a ∧ Own N 1 H' a' l' c' (ints (xs.filter (hasI ys))) ∧ Keep a H H') := by
  obtain ⟨k, rfl⟩ : ∃ j, k = j + 1 + 1 := ⟨k - 2, by omega⟩
  have hlen := h.len
  rw [f81x85_eq, f86x85_eq]
  obtain ⟨r, er, hr⟩ := f86_l1 (k := k) (a := a) (c := c) hl hlb (by omega) h.ints hp hb l 0 k [.int .i64 0, undef, .slice a l c, undef, undef, undef, undef, undef, undef, undef, undef, undef] (by omega) (by omega) rfl
  rcases hr with ⟨rfl, hx⟩ | ⟨j, x, rfl, hj, gx, hx⟩
  · refine callsl_of_ok (ok_cI0 (n := -1) er (ok_bift rfl (Ok.ret ⟨a, l, c, rfl, rfl, ?_, (Agree.refl H).keep⟩)))
    rw [hx]; exact h
  · have hjl : j < xs.length := (List.getElem?_eq_some_iff.1 gx).1
    refine callsl_of_ok (ok_cI0 (n := (j : Int)) er (ok_biff (by simp only [beq_eq_false_iff_ne, ne_eq]; omega) ?_))
    rw [wrapS (l := l) (by omega) (Nat.le_of_lt hl)]
    have hft := filter_take (kp := hasI ys) gx
    rw [if_neg (by rw [hx]; decide), hj] at hft
    have key := fun D => f81_l1 (k := k + 1) (N := N) (e := e) (v0 := v0) (c := c) (cb := cb) hl hlb (by omega) hne hnb hlen.symm (l - (j + 1)) (j + 1) j (k + 1) xs H D (by omega) (by omega) (by omega) h hft.symm rfl hp hb
    obtain ⟨r, e, l', r1, r2, r3⟩ := key _
    exact ⟨r, e, a, l', c, r1, rfl, r2, r3⟩
end

theorem f56_spec {k : Nat} {a : Option Addr} {l c : Nat} {xs : List Int} {b : Option Addr} {lb cb : Nat} {ys : List Int} {H : AHeap} (hl : l ≤ 12) (hlb : lb ≤ 1000) (hk : 1100 ≤ k) (h : Ints H a l xs) (hb : Ints H b lb ys) :
    ∃ a' l' c' H', C k 56 [.slice a l c, .slice b lb cb] H = some (.slice a' l' c', H') ∧ ((∃ zs, Own H.next 1 H' a' l' c' (ints zs) ∧ Strict zs ∧ (∀ v, v ∈ zs ↔ v ∈ xs ∧ v ∈ ys) ∧ zs.length ≤ xs.length) ∧ Agree H H') := by
  obtain ⟨k, rfl⟩ : ∃ j, k = j + 1 := ⟨k - 1, by omega⟩
  rw [f56_eq]
  refine callsl_of_ok (ok_al fun i H1 hi n1 A1 B1 => ?_)
  have hlen := h.len
  refine ok_cSl (f55_spec hl (by omega) (h.agree A1)) fun a2 l2 c2 H2 hp => ?_
  obtain ⟨⟨zs, h2, s2, m2, n2⟩, A2⟩ := hp
  have hl2 := h2.len
  have hm : maxLen = 9223372036854775807 := rfl
  have hbel := h2.block
  refine ok_cSl (f81_spec (by omega) (by omega) (by omega) (fun q e => by have := hbel q e; omega) (fun q q' e e' => by have := hbel q e; have := Cells.below hb q' e'; omega) h2 (B1.agree A2) (hb.agree (A1.trans A2))) fun a3 l3 c3 H3 hp => ?_
  obtain ⟨rfl, h3, k3⟩ := hp
  have A02 := A1.trans A2
  refine Ok.ret ⟨_, _, _, rfl, ⟨_, h3.lower (by omega), s2.filter _, fun v => ?_, Nat.le_trans (List.length_filter_le _ _) n2⟩, k3.agree A02 (fun q e => by have := hbel q e; omega)⟩
  rw [List.mem_filter, m2, hasI_iff]
end Go.Proofs.MxF
