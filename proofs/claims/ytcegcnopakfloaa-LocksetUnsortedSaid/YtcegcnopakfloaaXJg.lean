/- Texts of this claim, laid together: K4 Ep E1 E2 K5 K6 K7 K8 A2 K9 L3 K11. -/
import Derived.Test.YtcegcnopakfloaaXJe
import Derived.Test.YtcegcnopakfloaaXJf
import Derived.Test.YtcegcnopakfloaaXJd
import Derived.Test.YtcegcnopakfloaaXJc
import Derived.IntWalk
section
set_option linter.unusedSimpArgs false
/- lockset.set and lockset.both. -/
set_option linter.unusedVariables false
namespace Go.Proofs.MxF
open Go Go.Mx Go.Proofs
abbrev Strict (xs : List Int) : Prop := xs.Pairwise (· < ·)

theorem f55_spec {k : Nat} {a : Option Addr} {l c : Nat} {xs : List Int} {H : AHeap} (hl : l ≤ 63) (hk : 310 ≤ k) (h : Ints H a l xs) :
    ∃ a' l' c' H', C k 55 [.slice a l c] H = some (.slice a' l' c', H') ∧ ((∃ zs, Own H.next 1 H' a' l' c' (ints zs) ∧ Strict zs ∧ (∀ v, v ∈ zs ↔ v ∈ xs) ∧ zs.length ≤ xs.length) ∧ Agree H H') := by
  obtain ⟨k, rfl⟩ : ∃ j, k = j + 1 := ⟨k - 1, by omega⟩
  rw [f55_eq]
  refine callsl_of_ok (ok_cSl (app_own (by decide) (app26' _ _ _ _ _ _ _) (Own.nil H.next 1 H) (cs' := ints xs) (by rw [Nat.mul_one]; exact h) (Nat.le_refl _) (by omega) (by omega)) fun a2 l2 c2 H2 hp => ?_)
  obtain ⟨rfl, h1, k1, o1⟩ := hp
  have A1 := k1.none
  rw [List.nil_append] at h1
  have hlen := h.len
  refine ok_cT1 (f83_spec (by omega) (by omega) h1) fun H3 hp => ?_
  obtain ⟨⟨ys, h2, s2, p2⟩, k2⟩ := hp
  have hlm : 0 + l < maxLen := by unfold maxLen; omega
  refine ok_cSl (f84_spec hlm (by omega) h2) fun a4 l4 c4 H4 hp => ?_
  obtain ⟨rfl, h3, k3⟩ := hp
  refine Ok.ret ⟨_, _, _, rfl, ⟨_, h3, cmp_strict s2, fun v => ?_, ?_⟩, (k2.trans (Orig.refl _ _) k3).agree A1 h1.block⟩
  · rw [mem_cmp, p2.mem_iff]
  · have e1 := h3.len
    have e2 := h3.2.1
    have e3 := h2.len
    have : (cmp ys).length ≤ ys.length := by
      refine snoc_ind (p := fun ys => (cmp ys).length ≤ ys.length) (by simp [cmp]) (fun ys v ih => ?_) ys
      rw [cmp_snoc]
      unfold cmpS
      split <;> simp <;> omega
    rw [p2.length_eq] at this
    exact this

theorem f85_spec {k : Nat} {H : AHeap} {p : Nat} {e v0 : Nat} {a : Option Addr} {l c : Nat} {ys : List Int} (hp : At H p ⟨[.slice a l c], e, .rw, v0⟩) (h : Ints H a l ys) (hl : l ≤ maxLen) (hk : l + 4 ≤ k) (v : Int) :
    C k 85 [.int .i64 v, .pointer (some ⟨p, 0, none⟩)] H = some (.bool (!hasI ys v), H) := by
  obtain ⟨k, rfl⟩ : ∃ j, k = j + 1 := ⟨k - 1, by omega⟩
  rw [f85_eq]
  exact eq_of_ok (ok_bSl (ldSl_at hp (by simp) rfl) (ok_cB0 (f63_spec h hl (by omega) v) (Ok.ret rfl)))
theorem filter_take {xs : List Int} {kp : Int → Bool} {i : Nat} {x : Int} (h : xs[i]? = some x) : (xs.take (i + 1)).filter kp = if kp x then (xs.take i).filter kp ++ [x] else (xs.take i).filter kp := by
  rw [List.take_add_one, h, List.filter_append]
  by_cases hx : kp x <;> simp [hx]

section
variable {k N : Nat} {a : Option Addr} {l c : Nat} {xs ys : List Int} {p e v0 : Nat} {b : Option Addr} {lb cb : Nat}
theorem f86_l1 (hl : l < maxLen) (hlb : lb ≤ maxLen) (hk : lb + 4 ≤ k) {H : AHeap} (h : Ints H a l xs) (hp : At H p ⟨[.slice b lb cb], e, .rw, v0⟩) (hb : Ints H b lb ys) : ∀ (m i n : Nat) (D : List Value), i + m = l → m < n →
    (xs.take i).filter (hasI ys) = xs.take i →
    Ok (f86x85.L1 k n a l c p (l : Int) (i : Int) D H) fun r => (r = (.int .i64 (-1), H) ∧ xs.filter (hasI ys) = xs) ∨ ∃ (j : Nat) (x : Int), r = (.int .i64 (j : Int), H) ∧ (xs.take j).filter (hasI ys) = xs.take j ∧ xs[j]? = some x ∧ hasI ys x = false := by
  intro m
  induction m with
  | zero =>
    intro i n D hm hn hf
    obtain ⟨n, rfl⟩ : ∃ j, n = j + 1 := ⟨n - 1, by omega⟩
    rw [f86x85.L1_s]
    refine ok_biff (by simp only [decide_eq_false_iff_not]; omega) (Ok.ret (.inl ⟨rfl, ?_⟩))
    rw [List.take_of_length_le (by have := h.len; omega)] at hf
    exact hf
  | succ m ih =>
    intro i n D hm hn hf
    obtain ⟨n, rfl⟩ : ∃ j, n = j + 1 := ⟨n - 1, by omega⟩
    rw [f86x85.L1_s]
    obtain ⟨q, x, hx, eq, hq⟩ := Ints.at h (i := i) (by omega)
    refine ok_bift (by simp only [decide_eq_true_eq]; omega) (ok_bind eq (ok_if (by omega) (ok_bind hq ?_)))
    refine ok_cB0 (f85_spec hp hb hlb hk x) (ok_bif (fun hc => Ok.ret (.inr ⟨i, x, rfl, hf, hx, ?_⟩)) (fun hc => ?_))
    · simpa using hc
    · rw [wrapS (l := l) (by omega) (Nat.le_of_lt hl)]
      refine ih (i + 1) n _ (by omega) (by omega) ?_
      have hc' : hasI ys x = true := by simpa using hc
      rw [filter_take hx, if_pos hc', hf, List.take_add_one, hx]
      rfl
theorem f81_l1 (hl : l < maxLen) (hlb : lb ≤ maxLen) (hk : lb + 4 ≤ k) (hne : ∀ q, a = some q → q.block ≠ p) (hnb : ∀ q q', a = some q → b = some q' → q.block ≠ q'.block) (hxl : xs.length = l) :
    ∀ (m j w n : Nat) (zs : List Int) (H : AHeap) (D : List Value), j + m = l → m < n → w < j → Own N 1 H a l c (ints zs) → zs.take w = (xs.take j).filter (hasI ys) → zs.drop j = xs.drop j →
    At H p ⟨[.slice b lb cb], e, .rw, v0⟩ → Ints H b lb ys →
    Ok (f81x85.L1 k n a l c p (w : Int) (j : Int) D H) fun r => ∃ l', r.1 = .slice a l' c ∧ (Own N 1 r.2 a l' c (ints (xs.filter (hasI ys))) ∧ Keep a H r.2) := by
  intro m
  induction m with
  | zero =>
    intro j w n zs H D hm hn hw h ht hd hp hb
    obtain ⟨n, rfl⟩ : ∃ j, n = j + 1 := ⟨n - 1, by omega⟩
    rw [f81x85.L1_s]
    have hlen := h.len
    obtain ⟨q, hq, _⟩ := own_get h (t := 0) (x := zs[0]) (List.getElem?_eq_getElem (by omega))
    refine ok_biff (by simp only [decide_eq_false_iff_not]; omega) (ok_bSl (cutLo (by omega) h.2.1) ?_)
    obtain ⟨H', e, h1, h2⟩ := own_clear h (k := w) (by omega) hq (c - w)
    subst hq
    refine ok_bind e (ok_bSl (cutHi (by omega) h.2.1) (Ok.ret ⟨w, rfl, ?_, h2⟩))
    rw [ht, List.take_of_length_le (by omega)] at h1
    exact h1
  | succ m ih =>
    intro j w n zs H D hm hn hw h ht hd hp hb
    obtain ⟨n, rfl⟩ : ∃ j, n = j + 1 := ⟨n - 1, by omega⟩
    rw [f81x85.L1_s]
    have hlen := h.len
    have g1 : xs[j]? = some xs[j] := List.getElem?_eq_getElem (by omega)
    revert g1
    generalize xs[j] = x
    intro g1
    have gz : zs[j]? = some x := by
      have : (zs.drop j)[0]? = (xs.drop j)[0]? := by rw [hd]
      rw [List.getElem?_drop, List.getElem?_drop] at this
      exact this.trans g1
    have hft := filter_take (kp := hasI ys) g1
    have hd1 : zs.drop (j + 1) = xs.drop (j + 1) := by
      have := congrArg (List.drop 1) hd
      rw [List.drop_drop, List.drop_drop] at this
      exact this
    obtain ⟨q, eq, lq, _⟩ := own_get h gz
    refine ok_bift (by simp only [decide_eq_true_eq]; omega) (ok_bind eq (ok_if (by omega) (ok_bind lq (ok_cB0 (f85_spec hp hb hlb hk x) ?_))))
    rw [wrapS (i := j) (l := l) (by omega) (Nat.le_of_lt hl)]
    refine ok_bif (fun hc => ?_) (fun hc => ?_)
    · have hc' : hasI ys x = true := by simpa using hc
      refine ok_bind eq (ok_if (by omega) ?_)
      obtain ⟨s, H2, es, hwr, h2, k2, n2'⟩ := own_set h (t := w) (by omega) (.int .i64 x)
      rw [eq] at es
      cases es
      refine ok_bind hwr ?_
      rw [ints_set'] at h2
      rw [wrapS (i := w) (l := l) (by omega) (Nat.le_of_lt hl)]
      rw [if_pos hc', ← ht] at hft
      have t2 : (zs.set w x).take (w + 1) = (xs.take (j + 1)).filter (hasI ys) := by
        rw [hft, List.take_add_one, List.getElem?_set_self (by omega), List.take_set, List.set_eq_of_length_le (by rw [List.length_take]; omega)]
        rfl
      have d2 : (zs.set w x).drop (j + 1) = xs.drop (j + 1) := by rw [List.drop_set_of_lt (by omega)]; exact hd1
      obtain ⟨r, er, l', r1, r2, r3⟩ := ih (j + 1) (w + 1) n (zs.set w x) H2 _ (by omega) (by omega) (by omega) h2 t2 d2 (hp.keep k2 hne) (Cells.keep hb k2 fun q q' e1 e2 => hnb q' q e2 e1)
      exact ⟨r, er, l', r1, r2, k2.trans (Orig.refl _ _) r3⟩
    · have hc' : hasI ys x = false := by simpa using hc
      rw [if_neg (by rw [hc']; decide)] at hft
      obtain ⟨r, er, l', r1, r2, r3⟩ := ih (j + 1) w n zs H _ (by omega) (by omega) (by omega) h (by rw [hft]; exact ht) hd1 hp hb
      exact ⟨r, er, l', r1, r2, r3⟩
theorem f81_spec {H : AHeap} (hl : l < maxLen) (hlb : lb ≤ maxLen) (hk : l + lb + 10 ≤ k) (hne : ∀ q, a = some q → q.block ≠ p) (hnb : ∀ q q', a = some q → b = some q' → q.block ≠ q'.block)
    (h : Own N 1 H a l c (ints xs)) (hp : At H p ⟨[.slice b lb cb], e, .rw, v0⟩) (hb : Ints H b lb ys) :
    ∃ a' l' c' H', C k 81 [.slice a l c, .func (.func 85) #[] #[.pointer (some ⟨p, 0, none⟩)]] H = some (.slice a' l' c', H') ∧ (a' = a ∧ Own N 1 H' a' l' c' (ints (xs.filter (hasI ys))) ∧ Keep a H H') := by
  obtain ⟨k, rfl⟩ : ∃ j, k = j + 1 + 1 := ⟨k - 2, by omega⟩
  have hlen := h.len
  rw [f81x85_eq, f86x85_eq]
  obtain ⟨r, er, hr⟩ := f86_l1 (k := k) (a := a) (c := c) hl hlb (by omega) h.ints hp hb l 0 k [.int .i64 0, undef, .slice a l c, undef, undef, undef, undef, undef, undef, undef, undef, undef] (by omega) (by omega) rfl
  rcases hr with ⟨rfl, hx⟩ | ⟨j, x, rfl, hj, gx, hx⟩
  · refine callsl_of_ok (ok_cI0 (n := -1) er (ok_bift rfl (Ok.ret ⟨a, l, c, rfl, rfl, ?_, (Agree.refl H).keep⟩)))
    rw [hx]; exact h
  · have hjl : j < xs.length := (List.getElem?_eq_some_iff.1 gx).1
    refine callsl_of_ok (ok_cI0 (n := (j : Int)) er (ok_biff (by simp only [beq_eq_false_iff_ne, ne_eq]; omega) ?_))
    rw [wrapS (l := l) (by omega) (Nat.le_of_lt hl)]
    have hft := filter_take (kp := hasI ys) gx
    rw [if_neg (by rw [hx]; decide), hj] at hft
    have key := fun D => f81_l1 (k := k + 1) (N := N) (e := e) (v0 := v0) (c := c) (cb := cb) hl hlb (by omega) hne hnb hlen.symm (l - (j + 1)) (j + 1) j (k + 1) xs H D (by omega) (by omega) (by omega) h hft.symm rfl hp hb
    obtain ⟨r, e, l', r1, r2, r3⟩ := key _
    exact ⟨r, e, a, l', c, r1, rfl, r2, r3⟩
end

theorem f56_spec {k : Nat} {a : Option Addr} {l c : Nat} {xs : List Int} {b : Option Addr} {lb cb : Nat} {ys : List Int} {H : AHeap} (hl : l ≤ 63) (hlb : lb ≤ 1000) (hk : 1100 ≤ k) (h : Ints H a l xs) (hb : Ints H b lb ys) :
    ∃ a' l' c' H', C k 56 [.slice a l c, .slice b lb cb] H = some (.slice a' l' c', H') ∧ ((∃ zs, Own H.next 1 H' a' l' c' (ints zs) ∧ Strict zs ∧ (∀ v, v ∈ zs ↔ v ∈ xs ∧ v ∈ ys) ∧ zs.length ≤ xs.length) ∧ Agree H H') := by
  obtain ⟨k, rfl⟩ : ∃ j, k = j + 1 := ⟨k - 1, by omega⟩
  rw [f56_eq]
  refine callsl_of_ok (ok_al fun i H1 hi n1 A1 B1 => ?_)
  have hlen := h.len
  refine ok_cSl (f55_spec hl (by omega) (h.agree A1)) fun a2 l2 c2 H2 hp => ?_
  obtain ⟨⟨zs, h2, s2, m2, n2⟩, A2⟩ := hp
  have hl2 := h2.len
  have hm : maxLen = 9223372036854775807 := rfl
  have hbel := h2.block
  refine ok_cSl (f81_spec (by omega) (by omega) (by omega) (fun q e => by have := hbel q e; omega) (fun q q' e e' => by have := hbel q e; have := Cells.below hb q' e'; omega) h2 (B1.agree A2) (hb.agree (A1.trans A2))) fun a3 l3 c3 H3 hp => ?_
  obtain ⟨rfl, h3, k3⟩ := hp
  have A02 := A1.trans A2
  refine Ok.ret ⟨_, _, _, rfl, ⟨_, h3.lower (by omega), s2.filter _, fun v => ?_, Nat.le_trans (List.length_filter_le _ _) n2⟩, k3.agree A02 (fun q e => by have := hbel q e; omega)⟩
  rw [List.mem_filter, m2, hasI_iff]
end Go.Proofs.MxF
end

section
set_option linter.unusedSimpArgs false
/- Functions of the program as the machine comes to them: printed by a program of this workplace (px.py); the kernel checks each line. -/
set_option linter.unusedVariables false
namespace Go.Proofs.MxF
open Go Go.Mx Go.Proofs

/- f45 "interleave/interleaveref22.Copy"  names: 0:c 1:c -/
theorem f45_eq (k : Nat) (a0 : Option Addr) (l0 : Nat) (c0 : Nat) (H : AHeap) : C (k + 1) 45 [.slice a0 l0 c0] H =
  (cSl (apndV Try.prog [26, 26] H (.slice none 0 0) (.slice a0 l0 c0)) fun a l c H_1 =>
   some (.slice a l c, H_1)) := by kernel_rfl

/- f46 "interleave/interleaveref22.At"  names: 0:c 1:t 2:c 3:t -/
theorem f46_eq (k : Nat) (a0 : Option Addr) (l0 : Nat) (c0 : Nat) (x1 : Int) (H : AHeap) : C (k + 1) 46 [.slice a0 l0 c0, .int .i64 x1] H =
  (bif (decide (x1 < (0 : Int))) then
   some (.int .i64 0, H)
   else
   bif (decide (x1 ≥ (l0 : Int))) then
   some (.int .i64 0, H)
   else
   a0.bind fun q =>
   if 0 ≤ x1 ∧ x1 < (l0 : Int) then
   (ldI .i64 H q.block (q.off + x1.toNat * 1)).bind fun x =>
   some (.int .i64 x, H)
   else none) := by kernel_rfl

/- f47 "interleave/clock.Covers"  names: 0:c 1:e 2:c 3:e -/
theorem f47_eq (k : Nat) (a0 : Option Addr) (l0 : Nat) (c0 : Nat) (x1_0 : Int) (x1_1 : Int) (H : AHeap) : C (k + 1) 47 [.slice a0 l0 c0, .agg #[.int .i64 x1_0, .int .i64 x1_1]] H =
  (alK none H ⟨[.int .i64 x1_0, .int .i64 x1_1], 0, .rw, 0⟩ fun i H_1 =>
   bif sameB H_1 (H_1.bump 8) i then
   (ldI .i64 (H_1.bump 8) i (1)).bind fun x =>
   cI .i64 (C k 49 [.slice a0 l0 c0, .int .i64 x] (H_1.bump 8)) fun x_1 H_2 =>
   bif sameB H_1 H_2 i then
   (ldI .i64 H_2 i (0)).bind fun x_2 =>
   some (.bool (decide (x_2 ≤ x_1)), H_2)
   else none
   else none) := by kernel_rfl

/- f48 "interleave/clock.Leq"  names: 0:a 1:b 2:a 3:b 5:i -/
noncomputable def f48.Q0 (k : Nat)  : Kont (Value × AHeap) := retQ Try.prog Try.f48
noncomputable def f48.Q1 (k : Nat)  : Kont (Value × AHeap) := seqQ (gateC (Sub (bodyOf Try.f48) [1, 0]) (Sub (bodyOf Try.f48) [1, 1]) k (run Try.prog (C k) k (Sub (bodyOf Try.f48) [1, 1]) (f48.Q0 k ))) (f48.Q0 k )
noncomputable def f48.Q2 (k : Nat)  : Kont (Value × AHeap) := blkQ 0 (f48.Q1 k )
noncomputable def f48.L1 (k : Nat) (n1 : Nat) (a0 : Option Addr) (l0 : Nat) (c0 : Nat) (a1 : Option Addr) (l1 : Nat) (c1 : Nat) (x10 : Int) (x11 : Int) (D : List Value) (H : AHeap) : Option (Value × AHeap) :=
  iter (run Try.prog (C k) k (Sub (bodyOf Try.f48) [1, 0, 1, 0, 0])) (f48.Q2 k ) n1 [.slice a0 l0 c0, .slice a1 l1 c1, undef, undef, (D.getD 0 undef), (D.getD 1 undef), (D.getD 2 undef), (D.getD 3 undef), (D.getD 4 undef), (D.getD 5 undef), .int .i64 x10, .int .i64 x11, (D.getD 6 undef), (D.getD 7 undef), (D.getD 8 undef), (D.getD 9 undef), (D.getD 10 undef), (D.getD 11 undef), (D.getD 12 undef), (D.getD 13 undef), (D.getD 14 undef), (D.getD 15 undef)] H
theorem f48.L1_z (k : Nat)  (a0 : Option Addr) (l0 : Nat) (c0 : Nat) (a1 : Option Addr) (l1 : Nat) (c1 : Nat) (x10 : Int) (x11 : Int) (D : List Value) (H : AHeap) : f48.L1 k 0 a0 l0 c0 a1 l1 c1 x10 x11 D H = none := by kernel_rfl
theorem f48.L1_s (k : Nat) (n1 : Nat) (a0 : Option Addr) (l0 : Nat) (c0 : Nat) (a1 : Option Addr) (l1 : Nat) (c1 : Nat) (x10 : Int) (x11 : Int) (D : List Value) (H : AHeap) : f48.L1 k (n1 + 1) a0 l0 c0 a1 l1 c1 x10 x11 D H =
  (bif (decide (x11 < x10)) then
   cI .i64 (C k 49 [.slice a0 l0 c0, .int .i64 x11] H) fun x H_1 =>
   cI .i64 (C k 49 [.slice a1 l1 c1, .int .i64 x11] H_1) fun x_1 H_2 =>
   bif (decide (x > x_1)) then
   some (.bool false, H_2)
   else
   f48.L1 k n1 a0 l0 c0 a1 l1 c1 x10 (IntKind.i64.wrap (x11 + (1 : Int))) [(D.getD 0 undef), .int .i64 x11, (D.getD 2 undef), (D.getD 3 undef), (D.getD 4 undef), (D.getD 5 undef), .bool (decide (x11 < x10)), .int .i64 x11, .slice a0 l0 c0, .int .i64 x11, .int .i64 x, .slice a1 l1 c1, .int .i64 x11, .int .i64 x_1, .bool (decide (x > x_1)), .int .i64 (IntKind.i64.wrap (x11 + (1 : Int)))] H_2
   else
   some (.bool true, H)) := by kernel_rfl
theorem f48_eq (k : Nat) (a0 : Option Addr) (l0 : Nat) (c0 : Nat) (a1 : Option Addr) (l1 : Nat) (c1 : Nat) (H : AHeap) : C (k + 1) 48 [.slice a0 l0 c0, .slice a1 l1 c1] H =
  (f48.L1 k k a0 l0 c0 a1 l1 c1 (if (l1 : Int) > (l0 : Int) then (l1 : Int) else (l0 : Int)) 0 [.bool false, undef, .slice a0 l0 c0, .int .i64 (l0 : Int), .slice a1 l1 c1, .int .i64 (l1 : Int), undef, undef, undef, undef, undef, undef, undef, undef, undef, undef] H) := by kernel_rfl

/- f49 "interleave/clock.At"  names: 0:c 1:t 2:c 3:t -/
theorem f49_eq (k : Nat) (a0 : Option Addr) (l0 : Nat) (c0 : Nat) (x1 : Int) (H : AHeap) : C (k + 1) 49 [.slice a0 l0 c0, .int .i64 x1] H =
  (bif (decide (x1 < (0 : Int))) then
   some (.int .i64 0, H)
   else
   bif (decide (x1 ≥ (l0 : Int))) then
   some (.int .i64 0, H)
   else
   a0.bind fun q =>
   if 0 ≤ x1 ∧ x1 < (l0 : Int) then
   (ldI .i64 H q.block (q.off + x1.toNat * 1)).bind fun x =>
   some (.int .i64 x, H)
   else none) := by kernel_rfl

/- f50 "interleave/interleaveref22.Covers"  names: 0:c 1:e 2:c 3:e -/
theorem f50_eq (k : Nat) (a0 : Option Addr) (l0 : Nat) (c0 : Nat) (x1_0 : Int) (x1_1 : Int) (H : AHeap) : C (k + 1) 50 [.slice a0 l0 c0, .agg #[.int .i64 x1_0, .int .i64 x1_1]] H =
  (alK none H ⟨[.int .i64 x1_0, .int .i64 x1_1], 0, .rw, 0⟩ fun i H_1 =>
   bif sameB H_1 (H_1.bump 8) i then
   (ldI .i64 (H_1.bump 8) i (1)).bind fun x =>
   cI .i64 (C k 46 [.slice a0 l0 c0, .int .i64 x] (H_1.bump 8)) fun x_1 H_2 =>
   bif sameB H_1 H_2 i then
   (ldI .i64 H_2 i (0)).bind fun x_2 =>
   some (.bool (decide (x_2 ≤ x_1)), H_2)
   else none
   else none) := by kernel_rfl

/- f51 "interleave/interleaveref22.Leq"  names: 0:a 1:b 2:a 3:b 5:i -/
noncomputable def f51.Q0 (k : Nat)  : Kont (Value × AHeap) := retQ Try.prog Try.f51
noncomputable def f51.Q1 (k : Nat)  : Kont (Value × AHeap) := seqQ (gateC (Sub (bodyOf Try.f51) [1, 0]) (Sub (bodyOf Try.f51) [1, 1]) k (run Try.prog (C k) k (Sub (bodyOf Try.f51) [1, 1]) (f51.Q0 k ))) (f51.Q0 k )
noncomputable def f51.Q2 (k : Nat)  : Kont (Value × AHeap) := blkQ 0 (f51.Q1 k )
noncomputable def f51.L1 (k : Nat) (n1 : Nat) (a0 : Option Addr) (l0 : Nat) (c0 : Nat) (a1 : Option Addr) (l1 : Nat) (c1 : Nat) (x5 : Int) (D : List Value) (H : AHeap) : Option (Value × AHeap) :=
  iter (run Try.prog (C k) k (Sub (bodyOf Try.f51) [1, 0, 1, 0, 0])) (f51.Q2 k ) n1 [.slice a0 l0 c0, .slice a1 l1 c1, undef, undef, (D.getD 0 undef), .int .i64 x5, (D.getD 1 undef), (D.getD 2 undef), (D.getD 3 undef), (D.getD 4 undef), (D.getD 5 undef), (D.getD 6 undef), (D.getD 7 undef), (D.getD 8 undef), (D.getD 9 undef), (D.getD 10 undef), (D.getD 11 undef), (D.getD 12 undef), (D.getD 13 undef), (D.getD 14 undef), (D.getD 15 undef), (D.getD 16 undef)] H
theorem f51.L1_z (k : Nat)  (a0 : Option Addr) (l0 : Nat) (c0 : Nat) (a1 : Option Addr) (l1 : Nat) (c1 : Nat) (x5 : Int) (D : List Value) (H : AHeap) : f51.L1 k 0 a0 l0 c0 a1 l1 c1 x5 D H = none := by kernel_rfl
theorem f51.L1_s (k : Nat) (n1 : Nat) (a0 : Option Addr) (l0 : Nat) (c0 : Nat) (a1 : Option Addr) (l1 : Nat) (c1 : Nat) (x5 : Int) (D : List Value) (H : AHeap) : f51.L1 k (n1 + 1) a0 l0 c0 a1 l1 c1 x5 D H =
  (bif (decide (x5 < (if (l1 : Int) > (l0 : Int) then (l1 : Int) else (l0 : Int)))) then
   cI .i64 (C k 46 [.slice a0 l0 c0, .int .i64 x5] H) fun x H_1 =>
   cI .i64 (C k 46 [.slice a1 l1 c1, .int .i64 x5] H_1) fun x_1 H_2 =>
   bif (decide (x > x_1)) then
   some (.bool false, H_2)
   else
   f51.L1 k n1 a0 l0 c0 a1 l1 c1 (IntKind.i64.wrap (x5 + (1 : Int))) [(D.getD 0 undef), .int .i64 x5, .slice a0 l0 c0, .int .i64 (l0 : Int), .slice a1 l1 c1, .int .i64 (l1 : Int), .int .i64 (if (l1 : Int) > (l0 : Int) then (l1 : Int) else (l0 : Int)), .bool (decide (x5 < (if (l1 : Int) > (l0 : Int) then (l1 : Int) else (l0 : Int)))), .int .i64 x5, .int .i64 (IntKind.i64.wrap (x5 + (1 : Int))), .slice a0 l0 c0, .int .i64 x5, .int .i64 x, .slice a1 l1 c1, .int .i64 x5, .int .i64 x_1, .bool (decide (x > x_1))] H_2
   else
   some (.bool true, H)) := by kernel_rfl
theorem f51_eq (k : Nat) (a0 : Option Addr) (l0 : Nat) (c0 : Nat) (a1 : Option Addr) (l1 : Nat) (c1 : Nat) (H : AHeap) : C (k + 1) 51 [.slice a0 l0 c0, .slice a1 l1 c1] H =
  (f51.L1 k k a0 l0 c0 a1 l1 c1 0 [.bool false, undef, undef, undef, undef, undef, undef, undef, undef, undef, undef, undef, undef, undef, undef, undef, undef] H) := by kernel_rfl

/- f54 "interleave/interleaveref22.Same"  names: 0:a 1:b 2:a 3:b -/
theorem f54_eq (k : Nat) (a0 : Option Addr) (l0 : Nat) (c0 : Nat) (a1 : Option Addr) (l1 : Nat) (c1 : Nat) (H : AHeap) : C (k + 1) 54 [.slice a0 l0 c0, .slice a1 l1 c1] H =
  (cB (C k 51 [.slice a0 l0 c0, .slice a1 l1 c1] H) fun b H_1 =>
   bif b then
   cB (C k 51 [.slice a1 l1 c1, .slice a0 l0 c0] H_1) fun b_1 H_2 =>
   some (.bool b_1, H_2)
   else
   some (.bool false, H_1)) := by kernel_rfl

/- f15 "interleave/interleaveref22.Tick"  names: 0:c 1:t 2:c 3:t -/
noncomputable def f15.Q0 (k : Nat)  : Kont (Value × AHeap) := retQ Try.prog Try.f15
noncomputable def f15.Q1 (k : Nat)  : Kont (Value × AHeap) := seqQ (gateC (Sub (bodyOf Try.f15) [1, 1, 1, 0]) (Sub (bodyOf Try.f15) [1, 1, 1, 1]) k (run Try.prog (C k) k (Sub (bodyOf Try.f15) [1, 1, 1, 1]) (f15.Q0 k ))) (f15.Q0 k )
noncomputable def f15.Q2 (k : Nat)  : Kont (Value × AHeap) := blkQ 0 (f15.Q1 k )
noncomputable def f15.K1 (k : Nat)  (a0 : Option Addr) (l0 : Nat) (c0 : Nat) (x1 : Int) (D : List Value) (H : AHeap) : Option (Value × AHeap) :=
  gateC (Sub (bodyOf Try.f15) [1, 1, 0]) (Sub (bodyOf Try.f15) [1, 1, 1]) k (run Try.prog (C k) k (Sub (bodyOf Try.f15) [1, 1, 1]) (f15.Q0 k )) [.slice a0 l0 c0, .int .i64 x1, undef, undef, (D.getD 0 undef), (D.getD 1 undef), (D.getD 2 undef), (D.getD 3 undef), (D.getD 4 undef), (D.getD 5 undef), (D.getD 6 undef), (D.getD 7 undef), (D.getD 8 undef), undef, undef, undef, undef, undef, undef, undef, undef, undef, undef, undef, undef, undef, undef, undef, undef, undef, undef, undef, undef] H
noncomputable def f15.L1 (k : Nat) (n1 : Nat) (a0 : Option Addr) (l0 : Nat) (c0 : Nat) (x1 : Int) (D : List Value) (H : AHeap) : Option (Value × AHeap) :=
  iter (run Try.prog (C k) k (Sub (bodyOf Try.f15) [1, 1, 1, 0, 0, 0])) (f15.Q2 k ) n1 [.slice a0 l0 c0, .int .i64 x1, undef, undef, (D.getD 0 undef), (D.getD 1 undef), (D.getD 2 undef), (D.getD 3 undef), (D.getD 4 undef), (D.getD 5 undef), (D.getD 6 undef), (D.getD 7 undef), (D.getD 8 undef), undef, (D.getD 9 undef), (D.getD 10 undef), (D.getD 11 undef), (D.getD 12 undef), (D.getD 13 undef), (D.getD 14 undef), (D.getD 15 undef), undef, undef, undef, undef, undef, undef, undef, undef, undef, undef, undef, undef] H
theorem f15.K1_eq (k : Nat)  (a0 : Option Addr) (l0 : Nat) (c0 : Nat) (x1 : Int) (D : List Value) (H : AHeap) : f15.K1 k  a0 l0 c0 x1 D H =
  (f15.L1 k k a0 l0 c0 x1 [(D.getD 0 undef), (D.getD 1 undef), (D.getD 2 undef), (D.getD 3 undef), (D.getD 4 undef), (D.getD 5 undef), (D.getD 6 undef), (D.getD 7 undef), (D.getD 8 undef), undef, undef, undef, undef, undef, undef, undef] H) := by
  unfold f15.K1
  rw [gateC_eq]
  kernel_rfl
theorem f15.L1_z (k : Nat)  (a0 : Option Addr) (l0 : Nat) (c0 : Nat) (x1 : Int) (D : List Value) (H : AHeap) : f15.L1 k 0 a0 l0 c0 x1 D H = none := by kernel_rfl
theorem f15.L1_s (k : Nat) (n1 : Nat) (a0 : Option Addr) (l0 : Nat) (c0 : Nat) (x1 : Int) (D : List Value) (H : AHeap) : f15.L1 k (n1 + 1) a0 l0 c0 x1 D H =
  (bif (decide ((l0 : Int) ≤ x1)) then
   alK none H ⟨[.int .i64 0], 1, .rw, 0⟩ fun i H_1 =>
   cSl (apndV Try.prog [26, 26] H_1 (.slice a0 l0 c0) (.slice (some ⟨i, 0, none⟩) 1 1)) fun a l c H_2 =>
   f15.L1 k n1 a l c x1 [(D.getD 0 undef), (D.getD 1 undef), (D.getD 2 undef), (D.getD 3 undef), (D.getD 4 undef), (D.getD 5 undef), (D.getD 6 undef), (D.getD 7 undef), (D.getD 8 undef), .slice a0 l0 c0, .int .i64 (l0 : Int), .int .i64 x1, .bool (decide ((l0 : Int) ≤ x1)), .slice a0 l0 c0, .slice (some ⟨i, 0, none⟩) 1 1, .slice a l c] H_2
   else
   a0.bind fun q =>
   if 0 ≤ x1 ∧ x1 < (l0 : Int) then
   (ldI .i64 H q.block (q.off + x1.toNat * 1)).bind fun x =>
   bif (decide (x < (9223372036854775807 : Int))) then
   a0.bind fun q_1 =>
   if 0 ≤ x1 ∧ x1 < (l0 : Int) then
   (ldI .i64 H q_1.block (q_1.off + x1.toNat * 1)).bind fun x_1 =>
   a0.bind fun q_2 =>
   if 0 ≤ x1 ∧ x1 < (l0 : Int) then
   (AHeap.wr H q_2.block (q_2.off + x1.toNat * 1) [.int .i64 (IntKind.i64.wrap (x_1 + (1 : Int)))]).bind fun H_3 =>
   some (.slice a0 l0 c0, H_3)
   else none
   else none
   else
   some (.slice a0 l0 c0, H)
   else none) := by kernel_rfl
theorem f15_eq (k : Nat) (a0 : Option Addr) (l0 : Nat) (c0 : Nat) (x1 : Int) (H : AHeap) : C (k + 1) 15 [.slice a0 l0 c0, .int .i64 x1] H =
  (cSl (C k 45 [.slice a0 l0 c0] H) fun a l c H_1 =>
   bif (decide (x1 < (0 : Int))) then
   some (.slice a l c, H_1)
   else
   bif (decide (x1 ≥ (4 : Int))) then
   some (.slice a l c, H_1)
   else
   f15.K1 k a l c x1 [.slice none 0 0, .slice a0 l0 c0, .slice a l c, .int .i64 x1, .bool (decide (x1 < (0 : Int))), .bool false, .int .i64 x1, .bool (decide (x1 ≥ (4 : Int))), .bool (decide (x1 ≥ (4 : Int)))] H_1) := by kernel_rfl

/- f16 "interleave/interleaveref22.Join"  names: 0:a 1:b 2:a 3:b 5:out 6:i -/
noncomputable def f16.Q0 (k : Nat)  : Kont (Value × AHeap) := retQ Try.prog Try.f16
noncomputable def f16.Q1 (k : Nat)  : Kont (Value × AHeap) := seqQ (gateC (Sub (bodyOf Try.f16) [1, 1, 0]) (Sub (bodyOf Try.f16) [1, 1, 1]) k (run Try.prog (C k) k (Sub (bodyOf Try.f16) [1, 1, 1]) (f16.Q0 k ))) (f16.Q0 k )
noncomputable def f16.Q2 (k : Nat)  : Kont (Value × AHeap) := blkQ 0 (f16.Q1 k )
noncomputable def f16.L1 (k : Nat) (n1 : Nat) (a0 : Option Addr) (l0 : Nat) (c0 : Nat) (a1 : Option Addr) (l1 : Nat) (c1 : Nat) (a5 : Option Addr) (l5 : Nat) (c5 : Nat) (x14 : Int) (x15 : Int) (D : List Value) (H : AHeap) : Option (Value × AHeap) :=
  iter (run Try.prog (C k) k (Sub (bodyOf Try.f16) [1, 1, 0, 1, 0, 0])) (f16.Q2 k ) n1 [.slice a0 l0 c0, .slice a1 l1 c1, undef, undef, (D.getD 0 undef), .slice a5 l5 c5, (D.getD 1 undef), (D.getD 2 undef), (D.getD 3 undef), (D.getD 4 undef), (D.getD 5 undef), (D.getD 6 undef), (D.getD 7 undef), (D.getD 8 undef), .int .i64 x14, .int .i64 x15, (D.getD 9 undef), (D.getD 10 undef), (D.getD 11 undef), (D.getD 12 undef), (D.getD 13 undef), (D.getD 14 undef), (D.getD 15 undef), (D.getD 16 undef), (D.getD 17 undef), (D.getD 18 undef), (D.getD 19 undef), (D.getD 20 undef), (D.getD 21 undef), undef] H
theorem f16.L1_z (k : Nat)  (a0 : Option Addr) (l0 : Nat) (c0 : Nat) (a1 : Option Addr) (l1 : Nat) (c1 : Nat) (a5 : Option Addr) (l5 : Nat) (c5 : Nat) (x14 : Int) (x15 : Int) (D : List Value) (H : AHeap) : f16.L1 k 0 a0 l0 c0 a1 l1 c1 a5 l5 c5 x14 x15 D H = none := by kernel_rfl
theorem f16.L1_s (k : Nat) (n1 : Nat) (a0 : Option Addr) (l0 : Nat) (c0 : Nat) (a1 : Option Addr) (l1 : Nat) (c1 : Nat) (a5 : Option Addr) (l5 : Nat) (c5 : Nat) (x14 : Int) (x15 : Int) (D : List Value) (H : AHeap) : f16.L1 k (n1 + 1) a0 l0 c0 a1 l1 c1 a5 l5 c5 x14 x15 D H =
  (bif (decide (x15 < x14)) then
   cI .i64 (C k 46 [.slice a0 l0 c0, .int .i64 x15] H) fun x H_1 =>
   cI .i64 (C k 46 [.slice a1 l1 c1, .int .i64 x15] H_1) fun x_1 H_2 =>
   a5.bind fun q =>
   if 0 ≤ x15 ∧ x15 < (l5 : Int) then
   (AHeap.wr H_2 q.block (q.off + x15.toNat * 1) [.int .i64 (if x_1 > x then x_1 else x)]).bind fun H_3 =>
   f16.L1 k n1 a0 l0 c0 a1 l1 c1 a5 l5 c5 x14 (IntKind.i64.wrap (x15 + (1 : Int))) [(D.getD 0 undef), .int .i64 x15, (D.getD 2 undef), (D.getD 3 undef), (D.getD 4 undef), (D.getD 5 undef), (D.getD 6 undef), (D.getD 7 undef), (D.getD 8 undef), .bool (decide (x15 < x14)), .int .i64 x15, .slice a5 l5 c5, .int .i64 x15, .slice a0 l0 c0, .int .i64 x15, .int .i64 x, .slice a1 l1 c1, .int .i64 x15, .int .i64 x_1, .int .i64 (if x_1 > x then x_1 else x), .pointer (some ⟨q.block, q.off + x15.toNat * 1, none⟩), .int .i64 (IntKind.i64.wrap (x15 + (1 : Int)))] H_3
   else none
   else
   some (.slice a5 l5 c5, H)) := by kernel_rfl
theorem f16_eq (k : Nat) (a0 : Option Addr) (l0 : Nat) (c0 : Nat) (a1 : Option Addr) (l1 : Nat) (c1 : Nat) (H : AHeap) : C (k + 1) 16 [.slice a0 l0 c0, .slice a1 l1 c1] H =
  (if (if (l1 : Int) > (l0 : Int) then (l1 : Int) else (l0 : Int)) = (if (l1 : Int) > (l0 : Int) then (l1 : Int) else (l0 : Int)) then 
    if 0 ≤ (if (l1 : Int) > (l0 : Int) then (l1 : Int) else (l0 : Int)) ∧ (if (l1 : Int) > (l0 : Int) then (l1 : Int) else (l0 : Int)) * ((8 : Nat) : Int) ≤ 70368744177664 ∧ (if (l1 : Int) > (l0 : Int) then (l1 : Int) else (l0 : Int)) ≤ 70368744177664 then
   alK none H ⟨rep [.int .i64 0] (if (l1 : Int) > (l0 : Int) then (l1 : Int) else (l0 : Int)).toNat, 1, .rw, 0⟩ fun i H_1 =>
   f16.L1 k k a0 l0 c0 a1 l1 c1 (some ⟨i, 0, none⟩) ((if (l1 : Int) > (l0 : Int) then (l1 : Int) else (l0 : Int)).toNat) ((if (l1 : Int) > (l0 : Int) then (l1 : Int) else (l0 : Int)).toNat) (((if (l1 : Int) > (l0 : Int) then (l1 : Int) else (l0 : Int)).toNat) : Int) 0 [.slice none 0 0, undef, .slice a0 l0 c0, .int .i64 (l0 : Int), .slice a1 l1 c1, .int .i64 (l1 : Int), .int .i64 (if (l1 : Int) > (l0 : Int) then (l1 : Int) else (l0 : Int)), .slice (some ⟨i, 0, none⟩) ((if (l1 : Int) > (l0 : Int) then (l1 : Int) else (l0 : Int)).toNat) ((if (l1 : Int) > (l0 : Int) then (l1 : Int) else (l0 : Int)).toNat), .slice (some ⟨i, 0, none⟩) ((if (l1 : Int) > (l0 : Int) then (l1 : Int) else (l0 : Int)).toNat) ((if (l1 : Int) > (l0 : Int) then (l1 : Int) else (l0 : Int)).toNat), undef, undef, undef, undef, undef, undef, undef, undef, undef, undef, undef, undef, undef] H_1
    else none
   else none) := by kernel_rfl

/- f17 "interleave/epoch.Write"  names: 0:s 1:c 2:t 3:s 4:c 5:t 8:race -/
theorem f17_eq (k : Nat) (x0_0 : Int) (x0_1 : Int) (x0_2 : Int) (x0_3 : Int) (a0_4 : Option Addr) (l0_4 : Nat) (c0_4 : Nat) (a1 : Option Addr) (l1 : Nat) (c1 : Nat) (x2 : Int) (H : AHeap) : C (k + 1) 17 [.agg #[.int .i64 x0_0, .int .i64 x0_1, .int .i64 x0_2, .int .i64 x0_3, .slice a0_4 l0_4 c0_4], .slice a1 l1 c1, .int .i64 x2] H =
  (alK none H ⟨[.int .i64 x0_0, .int .i64 x0_1, .int .i64 x0_2, .int .i64 x0_3, .slice a0_4 l0_4 c0_4], 0, .rw, 0⟩ fun i H_1 =>
   alK none H_1 ⟨[.int .i64 0, .int .i64 0, .int .i64 0, .int .i64 0, .slice none 0 0], 0, .rw, 0⟩ fun i_1 H_2 =>
   (AHeap.row H_2 i (0) 2).bind fun g =>
   cB (C k 47 [.slice a1 l1 c1, .agg (g : List Value).toArray] H_2) fun b H_3 =>
   bif (!b) then
   cI .i64 (C k 49 [.slice a1 l1 c1, .int .i64 x2] H_3) fun x H_4 =>
   (AHeap.wr H_4 i_1 (0) [.int .i64 x, .int .i64 x2, .int .i64 0, .int .i64 0, .slice none 0 0]).bind fun H_5 =>
   (AHeap.row H_5 i_1 (0) 5).bind fun g_1 =>
   some (.tuple #[.agg (g_1 : List Value).toArray, .bool true], H_5)
   else
   (AHeap.row H_3 i (2) 2).bind fun g_2 =>
   cB (C k 47 [.slice a1 l1 c1, .agg (g_2 : List Value).toArray] H_3) fun b_1 H_6 =>
   bif (!b_1) then
   cI .i64 (C k 49 [.slice a1 l1 c1, .int .i64 x2] H_6) fun x_1 H_7 =>
   (AHeap.wr H_7 i_1 (0) [.int .i64 x_1, .int .i64 x2, .int .i64 0, .int .i64 0, .slice none 0 0]).bind fun H_8 =>
   (AHeap.row H_8 i_1 (0) 5).bind fun g_3 =>
   some (.tuple #[.agg (g_3 : List Value).toArray, .bool true], H_8)
   else
   bSl (ldSl H_6 i (4)) fun a l c =>
   cB (C k 48 [.slice a l c, .slice a1 l1 c1] H_6) fun b_2 H_9 =>
   cI .i64 (C k 49 [.slice a1 l1 c1, .int .i64 x2] H_9) fun x_2 H_10 =>
   (AHeap.wr H_10 i_1 (0) [.int .i64 x_2, .int .i64 x2, .int .i64 0, .int .i64 0, .slice none 0 0]).bind fun H_11 =>
   (AHeap.row H_11 i_1 (0) 5).bind fun g_4 =>
   some (.tuple #[.agg (g_4 : List Value).toArray, .bool (!b_2)], H_11)) := by kernel_rfl

/- f18 "interleave/interleaveref22.Write"  names: 0:s 1:c 2:t 3:s 4:c 5:t 8:race -/
theorem f18_eq (k : Nat) (x0_0 : Int) (x0_1 : Int) (x0_2 : Int) (x0_3 : Int) (a0_4 : Option Addr) (l0_4 : Nat) (c0_4 : Nat) (a1 : Option Addr) (l1 : Nat) (c1 : Nat) (x2 : Int) (H : AHeap) : C (k + 1) 18 [.agg #[.int .i64 x0_0, .int .i64 x0_1, .int .i64 x0_2, .int .i64 x0_3, .slice a0_4 l0_4 c0_4], .slice a1 l1 c1, .int .i64 x2] H =
  (alK none H ⟨[.int .i64 x0_0, .int .i64 x0_1, .int .i64 x0_2, .int .i64 x0_3, .slice a0_4 l0_4 c0_4], 0, .rw, 0⟩ fun i H_1 =>
   alK none H_1 ⟨[.int .i64 0, .int .i64 0, .int .i64 0, .int .i64 0, .slice none 0 0], 0, .rw, 0⟩ fun i_1 H_2 =>
   (AHeap.row H_2 i (0) 2).bind fun g =>
   cB (C k 50 [.slice a1 l1 c1, .agg (g : List Value).toArray] H_2) fun b H_3 =>
   bif (!b) then
   cI .i64 (C k 46 [.slice a1 l1 c1, .int .i64 x2] H_3) fun x H_4 =>
   (AHeap.wr H_4 i_1 (0) [.int .i64 x, .int .i64 x2, .int .i64 0, .int .i64 0, .slice none 0 0]).bind fun H_5 =>
   (AHeap.row H_5 i_1 (0) 5).bind fun g_1 =>
   some (.tuple #[.agg (g_1 : List Value).toArray, .bool true], H_5)
   else
   (AHeap.row H_3 i (2) 2).bind fun g_2 =>
   cB (C k 50 [.slice a1 l1 c1, .agg (g_2 : List Value).toArray] H_3) fun b_1 H_6 =>
   bif (!b_1) then
   cI .i64 (C k 46 [.slice a1 l1 c1, .int .i64 x2] H_6) fun x_1 H_7 =>
   (AHeap.wr H_7 i_1 (0) [.int .i64 x_1, .int .i64 x2, .int .i64 0, .int .i64 0, .slice none 0 0]).bind fun H_8 =>
   (AHeap.row H_8 i_1 (0) 5).bind fun g_3 =>
   some (.tuple #[.agg (g_3 : List Value).toArray, .bool true], H_8)
   else
   bSl (ldSl H_6 i (4)) fun a l c =>
   cB (C k 51 [.slice a l c, .slice a1 l1 c1] H_6) fun b_2 H_9 =>
   cI .i64 (C k 46 [.slice a1 l1 c1, .int .i64 x2] H_9) fun x_2 H_10 =>
   (AHeap.wr H_10 i_1 (0) [.int .i64 x_2, .int .i64 x2, .int .i64 0, .int .i64 0, .slice none 0 0]).bind fun H_11 =>
   (AHeap.row H_11 i_1 (0) 5).bind fun g_4 =>
   some (.tuple #[.agg (g_4 : List Value).toArray, .bool (!b_2)], H_11)) := by kernel_rfl

/- f19 "interleave/epoch.Read"  names:  -/
noncomputable def f19.Q0 (k : Nat)  : Kont (Value × AHeap) := retQ Try.prog Try.f19
noncomputable def f19.Q1 (k : Nat)  : Kont (Value × AHeap) := seqQ (gateC (Sub (bodyOf Try.f19) [1, 1, 1, 1, 0]) (Sub (bodyOf Try.f19) [1, 1, 1, 1, 1]) k (run Try.prog (C k) k (Sub (bodyOf Try.f19) [1, 1, 1, 1, 1]) (f19.Q0 k ))) (f19.Q0 k )
noncomputable def f19.Q2 (k : Nat)  : Kont (Value × AHeap) := blkQ 0 (f19.Q1 k )
noncomputable def f19.K1 (k : Nat)  (a1 : Option Addr) (l1 : Nat) (c1 : Nat) (x2 : Int) (p3 : Nat) (p6 : Nat) (b8 : Bool) (x9 : Int) (p10 : Nat) (b40 : Bool) (D : List Value) (H : AHeap) : Option (Value × AHeap) :=
  gateC (Sub (bodyOf Try.f19) [1, 1, 1, 1, 0, 0, 0]) (Sub (bodyOf Try.f19) [1, 1, 1, 1, 0, 0, 1]) k (run Try.prog (C k) k (Sub (bodyOf Try.f19) [1, 1, 1, 1, 0, 0, 1]) (f19.Q2 k )) [(D.getD 0 undef), .slice a1 l1 c1, .int .i64 x2, .pointer (some ⟨p3, 0, none⟩), undef, undef, .pointer (some ⟨p6, 0, none⟩), (D.getD 1 undef), .bool b8, .int .i64 x9, .pointer (some ⟨p10, 0, none⟩), (D.getD 2 undef), (D.getD 3 undef), (D.getD 4 undef), (D.getD 5 undef), (D.getD 6 undef), (D.getD 7 undef), (D.getD 8 undef), (D.getD 9 undef), (D.getD 10 undef), (D.getD 11 undef), (D.getD 12 undef), (D.getD 13 undef), (D.getD 14 undef), (D.getD 15 undef), (D.getD 16 undef), (D.getD 17 undef), undef, undef, undef, undef, undef, undef, undef, undef, undef, undef, undef, undef, undef, .bool b40, (D.getD 18 undef), (D.getD 19 undef), (D.getD 20 undef), (D.getD 21 undef), (D.getD 22 undef), (D.getD 23 undef), (D.getD 24 undef), (D.getD 25 undef), (D.getD 26 undef), (D.getD 27 undef), (D.getD 28 undef), (D.getD 29 undef), (D.getD 30 undef), (D.getD 31 undef), (D.getD 32 undef), (D.getD 33 undef), (D.getD 34 undef), (D.getD 35 undef), undef, undef, undef, undef, undef, undef, undef, undef, undef, undef, undef, undef, undef, undef, undef, undef, undef, undef, undef, undef, undef, undef, undef, undef, undef, undef, undef, undef] H
noncomputable def f19.K2 (k : Nat)  (p6 : Nat) (b8 : Bool) (p10 : Nat) (D : List Value) (H : AHeap) : Option (Value × AHeap) :=
  gateC (Sub (bodyOf Try.f19) [1, 1, 1, 1, 0]) (Sub (bodyOf Try.f19) [1, 1, 1, 1, 1]) k (run Try.prog (C k) k (Sub (bodyOf Try.f19) [1, 1, 1, 1, 1]) (f19.Q0 k )) [(D.getD 0 undef), (D.getD 1 undef), (D.getD 2 undef), (D.getD 3 undef), undef, undef, .pointer (some ⟨p6, 0, none⟩), (D.getD 4 undef), .bool b8, (D.getD 5 undef), .pointer (some ⟨p10, 0, none⟩), (D.getD 6 undef), (D.getD 7 undef), (D.getD 8 undef), (D.getD 9 undef), (D.getD 10 undef), (D.getD 11 undef), (D.getD 12 undef), (D.getD 13 undef), (D.getD 14 undef), (D.getD 15 undef), (D.getD 16 undef), (D.getD 17 undef), (D.getD 18 undef), (D.getD 19 undef), (D.getD 20 undef), (D.getD 21 undef), (D.getD 22 undef), (D.getD 23 undef), (D.getD 24 undef), (D.getD 25 undef), (D.getD 26 undef), (D.getD 27 undef), (D.getD 28 undef), (D.getD 29 undef), (D.getD 30 undef), (D.getD 31 undef), (D.getD 32 undef), (D.getD 33 undef), (D.getD 34 undef), (D.getD 35 undef), (D.getD 36 undef), (D.getD 37 undef), (D.getD 38 undef), (D.getD 39 undef), (D.getD 40 undef), (D.getD 41 undef), (D.getD 42 undef), (D.getD 43 undef), (D.getD 44 undef), (D.getD 45 undef), (D.getD 46 undef), (D.getD 47 undef), (D.getD 48 undef), (D.getD 49 undef), (D.getD 50 undef), (D.getD 51 undef), (D.getD 52 undef), (D.getD 53 undef), (D.getD 54 undef), (D.getD 55 undef), (D.getD 56 undef), (D.getD 57 undef), (D.getD 58 undef), (D.getD 59 undef), (D.getD 60 undef), (D.getD 61 undef), (D.getD 62 undef), (D.getD 63 undef), (D.getD 64 undef), (D.getD 65 undef), (D.getD 66 undef), (D.getD 67 undef), (D.getD 68 undef), (D.getD 69 undef), (D.getD 70 undef), (D.getD 71 undef), (D.getD 72 undef), (D.getD 73 undef), (D.getD 74 undef), (D.getD 75 undef), (D.getD 76 undef), (D.getD 77 undef), (D.getD 78 undef), (D.getD 79 undef), undef, undef] H
noncomputable def f19.K3 (k : Nat)  (x2 : Int) (p3 : Nat) (p6 : Nat) (b8 : Bool) (x9 : Int) (p10 : Nat) (b70 : Bool) (D : List Value) (H : AHeap) : Option (Value × AHeap) :=
  gateC (Sub (bodyOf Try.f19) [1, 1, 1, 1, 0, 0, 1, 1, 1, 1, 0]) (Sub (bodyOf Try.f19) [1, 1, 1, 1, 0, 0, 1, 1, 1, 1, 1]) k (run Try.prog (C k) k (Sub (bodyOf Try.f19) [1, 1, 1, 1, 0, 0, 1, 1, 1, 1, 1]) (f19.Q2 k )) [(D.getD 0 undef), (D.getD 1 undef), .int .i64 x2, .pointer (some ⟨p3, 0, none⟩), undef, undef, .pointer (some ⟨p6, 0, none⟩), (D.getD 2 undef), .bool b8, .int .i64 x9, .pointer (some ⟨p10, 0, none⟩), (D.getD 3 undef), (D.getD 4 undef), (D.getD 5 undef), (D.getD 6 undef), (D.getD 7 undef), (D.getD 8 undef), (D.getD 9 undef), (D.getD 10 undef), (D.getD 11 undef), (D.getD 12 undef), (D.getD 13 undef), (D.getD 14 undef), (D.getD 15 undef), (D.getD 16 undef), (D.getD 17 undef), (D.getD 18 undef), undef, undef, undef, undef, undef, undef, undef, undef, undef, undef, undef, undef, undef, (D.getD 19 undef), (D.getD 20 undef), (D.getD 21 undef), (D.getD 22 undef), (D.getD 23 undef), (D.getD 24 undef), (D.getD 25 undef), (D.getD 26 undef), (D.getD 27 undef), (D.getD 28 undef), (D.getD 29 undef), (D.getD 30 undef), (D.getD 31 undef), (D.getD 32 undef), (D.getD 33 undef), (D.getD 34 undef), (D.getD 35 undef), (D.getD 36 undef), (D.getD 37 undef), (D.getD 38 undef), (D.getD 39 undef), (D.getD 40 undef), (D.getD 41 undef), (D.getD 42 undef), undef, undef, undef, undef, undef, undef, .bool b70, (D.getD 43 undef), (D.getD 44 undef), (D.getD 45 undef), (D.getD 46 undef), (D.getD 47 undef), (D.getD 48 undef), (D.getD 49 undef), (D.getD 50 undef), (D.getD 51 undef), (D.getD 52 undef), undef, undef, undef, undef, undef, undef] H
theorem f19.K1_eq (k : Nat)  (a1 : Option Addr) (l1 : Nat) (c1 : Nat) (x2 : Int) (p3 : Nat) (p6 : Nat) (b8 : Bool) (x9 : Int) (p10 : Nat) (b40 : Bool) (D : List Value) (H : AHeap) : f19.K1 k  a1 l1 c1 x2 p3 p6 b8 x9 p10 b40 D H =
  (bif b40 then
   f19.K2 k p6 b8 p10 [(D.getD 0 undef), .slice a1 l1 c1, .int .i64 x2, .pointer (some ⟨p3, 0, none⟩), (D.getD 1 undef), .int .i64 x9, (D.getD 2 undef), (D.getD 3 undef), (D.getD 4 undef), (D.getD 5 undef), (D.getD 6 undef), (D.getD 7 undef), (D.getD 8 undef), (D.getD 9 undef), (D.getD 10 undef), (D.getD 11 undef), (D.getD 12 undef), (D.getD 13 undef), (D.getD 14 undef), (D.getD 15 undef), (D.getD 16 undef), (D.getD 17 undef), undef, undef, undef, undef, undef, undef, undef, undef, undef, undef, undef, undef, undef, .bool b40, (D.getD 18 undef), (D.getD 19 undef), (D.getD 20 undef), (D.getD 21 undef), (D.getD 22 undef), (D.getD 23 undef), (D.getD 24 undef), (D.getD 25 undef), (D.getD 26 undef), (D.getD 27 undef), (D.getD 28 undef), (D.getD 29 undef), (D.getD 30 undef), (D.getD 31 undef), (D.getD 32 undef), (D.getD 33 undef), (D.getD 34 undef), (D.getD 35 undef), undef, undef, undef, undef, undef, undef, undef, undef, undef, undef, undef, undef, undef, undef, undef, undef, undef, undef, undef, undef, undef, undef, undef, undef, undef, undef] H
   else
   bSl (ldSl H p3 (4)) fun a l c =>
   bif (decide ((l : Int) > (0 : Int))) then
   bSl (ldSl H p10 (4)) fun a_1 l_1 c_1 =>
   cSl (C k 52 [.slice a_1 l_1 c_1, .int .i64 x2, .int .i64 x9] H) fun a_2 l_2 c_2 H_1 =>
   (AHeap.wr H_1 p10 (4) [.slice a_2 l_2 c_2]).bind fun H_2 =>
   f19.K2 k p6 b8 p10 [(D.getD 0 undef), .slice a1 l1 c1, .int .i64 x2, .pointer (some ⟨p3, 0, none⟩), (D.getD 1 undef), .int .i64 x9, (D.getD 2 undef), (D.getD 3 undef), (D.getD 4 undef), (D.getD 5 undef), (D.getD 6 undef), (D.getD 7 undef), (D.getD 8 undef), (D.getD 9 undef), (D.getD 10 undef), (D.getD 11 undef), (D.getD 12 undef), (D.getD 13 undef), (D.getD 14 undef), (D.getD 15 undef), (D.getD 16 undef), (D.getD 17 undef), undef, undef, undef, undef, undef, undef, undef, undef, undef, undef, undef, undef, undef, .bool b40, (D.getD 18 undef), (D.getD 19 undef), (D.getD 20 undef), (D.getD 21 undef), (D.getD 22 undef), (D.getD 23 undef), (D.getD 24 undef), (D.getD 25 undef), (D.getD 26 undef), (D.getD 27 undef), (D.getD 28 undef), (D.getD 29 undef), (D.getD 30 undef), (D.getD 31 undef), (D.getD 32 undef), (D.getD 33 undef), (D.getD 34 undef), (D.getD 35 undef), .bool (decide ((l : Int) > (0 : Int))), .pointer (some ⟨p3, 4, none⟩), .slice a l c, .int .i64 (l : Int), .bool (decide ((l : Int) > (0 : Int))), .pointer (some ⟨p10, 4, none⟩), .slice a_1 l_1 c_1, .int .i64 x2, .int .i64 x9, .slice a_2 l_2 c_2, .pointer (some ⟨p10, 4, none⟩), undef, undef, undef, undef, undef, undef, undef, undef, undef, undef, undef, undef, undef, undef, undef] H_2
   else
   (ldI .i64 H p3 (2)).bind fun x =>
   bif (x == (0 : Int)) then
   f19.K3 k x2 p3 p6 b8 x9 p10 true [(D.getD 0 undef), .slice a1 l1 c1, (D.getD 1 undef), (D.getD 2 undef), (D.getD 3 undef), (D.getD 4 undef), (D.getD 5 undef), (D.getD 6 undef), (D.getD 7 undef), (D.getD 8 undef), (D.getD 9 undef), (D.getD 10 undef), (D.getD 11 undef), (D.getD 12 undef), (D.getD 13 undef), (D.getD 14 undef), (D.getD 15 undef), (D.getD 16 undef), (D.getD 17 undef), .bool b40, (D.getD 18 undef), (D.getD 19 undef), (D.getD 20 undef), (D.getD 21 undef), (D.getD 22 undef), (D.getD 23 undef), (D.getD 24 undef), (D.getD 25 undef), (D.getD 26 undef), (D.getD 27 undef), (D.getD 28 undef), (D.getD 29 undef), (D.getD 30 undef), (D.getD 31 undef), (D.getD 32 undef), (D.getD 33 undef), (D.getD 34 undef), (D.getD 35 undef), .bool (decide ((l : Int) > (0 : Int))), .pointer (some ⟨p3, 4, none⟩), .slice a l c, .int .i64 (l : Int), .bool (decide ((l : Int) > (0 : Int))), .pointer (some ⟨p3, 2, none⟩), .pointer (some ⟨p3, 2, none⟩), .int .i64 x, .bool (x == (0 : Int)), .bool true, undef, undef, undef, undef, .bool true] H
   else
   (AHeap.row H p3 (2) 2).bind fun g =>
   cB (C k 47 [.slice a1 l1 c1, .agg (g : List Value).toArray] H) fun b H_3 =>
   f19.K3 k x2 p3 p6 b8 x9 p10 b [(D.getD 0 undef), .slice a1 l1 c1, (D.getD 1 undef), (D.getD 2 undef), (D.getD 3 undef), (D.getD 4 undef), (D.getD 5 undef), (D.getD 6 undef), (D.getD 7 undef), (D.getD 8 undef), (D.getD 9 undef), (D.getD 10 undef), (D.getD 11 undef), (D.getD 12 undef), (D.getD 13 undef), (D.getD 14 undef), (D.getD 15 undef), (D.getD 16 undef), (D.getD 17 undef), .bool b40, (D.getD 18 undef), (D.getD 19 undef), (D.getD 20 undef), (D.getD 21 undef), (D.getD 22 undef), (D.getD 23 undef), (D.getD 24 undef), (D.getD 25 undef), (D.getD 26 undef), (D.getD 27 undef), (D.getD 28 undef), (D.getD 29 undef), (D.getD 30 undef), (D.getD 31 undef), (D.getD 32 undef), (D.getD 33 undef), (D.getD 34 undef), (D.getD 35 undef), .bool (decide ((l : Int) > (0 : Int))), .pointer (some ⟨p3, 4, none⟩), .slice a l c, .int .i64 (l : Int), .bool (decide ((l : Int) > (0 : Int))), .pointer (some ⟨p3, 2, none⟩), .pointer (some ⟨p3, 2, none⟩), .int .i64 x, .bool (x == (0 : Int)), .bool false, .slice a1 l1 c1, .pointer (some ⟨p3, 2, none⟩), .agg (g : List Value).toArray, .bool b, .bool b] H_3) := by
  unfold f19.K1
  rw [gateC_eq]
  kernel_rfl
theorem f19.K2_eq (k : Nat)  (p6 : Nat) (b8 : Bool) (p10 : Nat) (D : List Value) (H : AHeap) : f19.K2 k  p6 b8 p10 D H =
  ((AHeap.row H p10 (0) 5).bind fun g =>
   if notTup (.agg (g : List Value).toArray) = true ∧ (g).length = 5 then
   (AHeap.wr H p6 (0) g).bind fun H_1 =>
   (AHeap.row H_1 p6 (0) 5).bind fun g_1 =>
   some (.tuple #[.agg (g_1 : List Value).toArray, .bool b8], H_1)
   else none) := by
  unfold f19.K2
  rw [gateC_eq]
  kernel_rfl
theorem f19.K3_eq (k : Nat)  (x2 : Int) (p3 : Nat) (p6 : Nat) (b8 : Bool) (x9 : Int) (p10 : Nat) (b70 : Bool) (D : List Value) (H : AHeap) : f19.K3 k  x2 p3 p6 b8 x9 p10 b70 D H =
  (bif b70 then
   (AHeap.wr H p10 (2) [.int .i64 x9, .int .i64 x2]).bind fun H_1 =>
   f19.K2 k p6 b8 p10 [(D.getD 0 undef), (D.getD 1 undef), .int .i64 x2, .pointer (some ⟨p3, 0, none⟩), (D.getD 2 undef), .int .i64 x9, (D.getD 3 undef), (D.getD 4 undef), (D.getD 5 undef), (D.getD 6 undef), (D.getD 7 undef), (D.getD 8 undef), (D.getD 9 undef), (D.getD 10 undef), (D.getD 11 undef), (D.getD 12 undef), (D.getD 13 undef), (D.getD 14 undef), (D.getD 15 undef), (D.getD 16 undef), (D.getD 17 undef), (D.getD 18 undef), undef, undef, undef, undef, undef, undef, undef, undef, undef, undef, undef, undef, undef, (D.getD 19 undef), (D.getD 20 undef), (D.getD 21 undef), (D.getD 22 undef), (D.getD 23 undef), (D.getD 24 undef), (D.getD 25 undef), (D.getD 26 undef), (D.getD 27 undef), (D.getD 28 undef), (D.getD 29 undef), (D.getD 30 undef), (D.getD 31 undef), (D.getD 32 undef), (D.getD 33 undef), (D.getD 34 undef), (D.getD 35 undef), (D.getD 36 undef), (D.getD 37 undef), (D.getD 38 undef), (D.getD 39 undef), (D.getD 40 undef), (D.getD 41 undef), (D.getD 42 undef), undef, undef, undef, undef, undef, undef, .bool b70, (D.getD 43 undef), (D.getD 44 undef), (D.getD 45 undef), (D.getD 46 undef), (D.getD 47 undef), (D.getD 48 undef), (D.getD 49 undef), (D.getD 50 undef), (D.getD 51 undef), (D.getD 52 undef), .int .i64 x9, .int .i64 x2, .agg #[.int .i64 x9, .int .i64 x2], .pointer (some ⟨p10, 2, none⟩)] H_1
   else
   (ldI .i64 H p3 (3)).bind fun x =>
   (ldI .i64 H p3 (2)).bind fun x_1 =>
   cSl (C k 52 [.slice none 0 0, .int .i64 x, .int .i64 x_1] H) fun a l c H_2 =>
   cSl (C k 52 [.slice a l c, .int .i64 x2, .int .i64 x9] H_2) fun a_1 l_1 c_1 H_3 =>
   (AHeap.wr H_3 p10 (4) [.slice a_1 l_1 c_1]).bind fun H_4 =>
   (AHeap.wr H_4 p10 (2) [.int .i64 0, .int .i64 0]).bind fun H_5 =>
   f19.K2 k p6 b8 p10 [(D.getD 0 undef), (D.getD 1 undef), .int .i64 x2, .pointer (some ⟨p3, 0, none⟩), (D.getD 2 undef), .int .i64 x9, (D.getD 3 undef), (D.getD 4 undef), (D.getD 5 undef), (D.getD 6 undef), (D.getD 7 undef), (D.getD 8 undef), (D.getD 9 undef), (D.getD 10 undef), (D.getD 11 undef), (D.getD 12 undef), (D.getD 13 undef), (D.getD 14 undef), (D.getD 15 undef), (D.getD 16 undef), (D.getD 17 undef), (D.getD 18 undef), .pointer (some ⟨p3, 2, none⟩), .pointer (some ⟨p3, 3, none⟩), .int .i64 x, .pointer (some ⟨p3, 2, none⟩), .pointer (some ⟨p3, 2, none⟩), .int .i64 x_1, .slice a l c, .int .i64 x2, .int .i64 x9, .slice a_1 l_1 c_1, .pointer (some ⟨p10, 4, none⟩), .agg #[.int .i64 0, .int .i64 0], .pointer (some ⟨p10, 2, none⟩), (D.getD 19 undef), (D.getD 20 undef), (D.getD 21 undef), (D.getD 22 undef), (D.getD 23 undef), (D.getD 24 undef), (D.getD 25 undef), (D.getD 26 undef), (D.getD 27 undef), (D.getD 28 undef), (D.getD 29 undef), (D.getD 30 undef), (D.getD 31 undef), (D.getD 32 undef), (D.getD 33 undef), (D.getD 34 undef), (D.getD 35 undef), (D.getD 36 undef), (D.getD 37 undef), (D.getD 38 undef), (D.getD 39 undef), (D.getD 40 undef), (D.getD 41 undef), (D.getD 42 undef), undef, undef, undef, undef, undef, undef, .bool b70, (D.getD 43 undef), (D.getD 44 undef), (D.getD 45 undef), (D.getD 46 undef), (D.getD 47 undef), (D.getD 48 undef), (D.getD 49 undef), (D.getD 50 undef), (D.getD 51 undef), (D.getD 52 undef), undef, undef, undef, undef] H_5) := by
  unfold f19.K3
  rw [gateC_eq]
  kernel_rfl
theorem f19_eq (k : Nat) (x0_0 : Int) (x0_1 : Int) (x0_2 : Int) (x0_3 : Int) (a0_4 : Option Addr) (l0_4 : Nat) (c0_4 : Nat) (a1 : Option Addr) (l1 : Nat) (c1 : Nat) (x2 : Int) (H : AHeap) : C (k + 1) 19 [.agg #[.int .i64 x0_0, .int .i64 x0_1, .int .i64 x0_2, .int .i64 x0_3, .slice a0_4 l0_4 c0_4], .slice a1 l1 c1, .int .i64 x2] H =
  (alK none H ⟨[.int .i64 x0_0, .int .i64 x0_1, .int .i64 x0_2, .int .i64 x0_3, .slice a0_4 l0_4 c0_4], 0, .rw, 0⟩ fun i H_1 =>
   alK none H_1 ⟨[.int .i64 0, .int .i64 0, .int .i64 0, .int .i64 0, .slice none 0 0], 0, .rw, 0⟩ fun i_1 H_2 =>
   (AHeap.row H_2 i (0) 2).bind fun g =>
   cB (C k 47 [.slice a1 l1 c1, .agg (g : List Value).toArray] H_2) fun b H_3 =>
   cI .i64 (C k 49 [.slice a1 l1 c1, .int .i64 x2] H_3) fun x H_4 =>
   bif sameB H_4 (H_4.bump 10) i then
   bSl (ldSl (H_4.bump 10) i (4)) fun a l c =>
   cSl (apndV Try.prog [26, 26] (H_4.bump 10) (.slice none 0 0) (.slice a l c)) fun a_1 l_1 c_1 H_5 =>
   bif sameB H_4 H_5 i then
   (AHeap.row H_5 i (0) 2).bind fun g_1 =>
   bif sameB H_4 H_5 i then
   (AHeap.row H_5 i (2) 2).bind fun g_2 =>
   buildK Try.prog 28 [(0, .agg (g_1 : List Value).toArray), (1, .agg (g_2 : List Value).toArray), (2, .slice a_1 l_1 c_1)] fun g_3 =>
   alK (some (H_4.next + 8)) H_5 ⟨[.int .i64 0, .int .i64 0, .int .i64 0, .int .i64 0, .slice none 0 0], 0, .rw, 0⟩ fun i_2 H_6 =>
   if notTup (.agg (g_3 : List Value).toArray) = true ∧ (g_3).length = 5 then
   (AHeap.wr H_6 i_2 (0) g_3).bind fun H_7 =>
   bif (decide (x2 < (0 : Int))) then
   f19.K1 k a1 l1 c1 x2 i i_1 (!b) x i_2 true [.agg #[.int .i64 x0_0, .int .i64 x0_1, .int .i64 x0_2, .int .i64 x0_3, .slice a0_4 l0_4 c0_4], .bool false, .slice a1 l1 c1, .pointer (some ⟨i, 0, none⟩), .agg (g : List Value).toArray, .bool b, .bool (!b), .slice a1 l1 c1, .int .i64 x2, .int .i64 x, .pointer (some ⟨i, 0, none⟩), .agg (g_1 : List Value).toArray, .pointer (some ⟨i, 2, none⟩), .agg (g_2 : List Value).toArray, .pointer (some ⟨i, 4, none⟩), .slice a l c, .slice a_1 l_1 c_1, .agg (g_3 : List Value).toArray, .int .i64 x2, .bool (decide (x2 < (0 : Int))), .bool true, undef, undef, .bool true, .bool true, undef, undef, undef, undef, .bool true, .bool true, undef, undef, undef, undef, .bool true] H_7
   else
   bif (decide (x2 ≥ (4 : Int))) then
   f19.K1 k a1 l1 c1 x2 i i_1 (!b) x i_2 true [.agg #[.int .i64 x0_0, .int .i64 x0_1, .int .i64 x0_2, .int .i64 x0_3, .slice a0_4 l0_4 c0_4], .bool false, .slice a1 l1 c1, .pointer (some ⟨i, 0, none⟩), .agg (g : List Value).toArray, .bool b, .bool (!b), .slice a1 l1 c1, .int .i64 x2, .int .i64 x, .pointer (some ⟨i, 0, none⟩), .agg (g_1 : List Value).toArray, .pointer (some ⟨i, 2, none⟩), .agg (g_2 : List Value).toArray, .pointer (some ⟨i, 4, none⟩), .slice a l c, .slice a_1 l_1 c_1, .agg (g_3 : List Value).toArray, .int .i64 x2, .bool (decide (x2 < (0 : Int))), .bool false, .int .i64 x2, .bool (decide (x2 ≥ (4 : Int))), .bool (decide (x2 ≥ (4 : Int))), .bool true, undef, undef, undef, undef, .bool true, .bool true, undef, undef, undef, undef, .bool true] H_7
   else
   (ldI .i64 H_7 i (3)).bind fun x_1 =>
   bif (decide (x_1 < (0 : Int))) then
   f19.K1 k a1 l1 c1 x2 i i_1 (!b) x i_2 true [.agg #[.int .i64 x0_0, .int .i64 x0_1, .int .i64 x0_2, .int .i64 x0_3, .slice a0_4 l0_4 c0_4], .bool false, .slice a1 l1 c1, .pointer (some ⟨i, 0, none⟩), .agg (g : List Value).toArray, .bool b, .bool (!b), .slice a1 l1 c1, .int .i64 x2, .int .i64 x, .pointer (some ⟨i, 0, none⟩), .agg (g_1 : List Value).toArray, .pointer (some ⟨i, 2, none⟩), .agg (g_2 : List Value).toArray, .pointer (some ⟨i, 4, none⟩), .slice a l c, .slice a_1 l_1 c_1, .agg (g_3 : List Value).toArray, .int .i64 x2, .bool (decide (x2 < (0 : Int))), .bool false, .int .i64 x2, .bool (decide (x2 ≥ (4 : Int))), .bool (decide (x2 ≥ (4 : Int))), .bool false, .pointer (some ⟨i, 2, none⟩), .pointer (some ⟨i, 3, none⟩), .int .i64 x_1, .bool (decide (x_1 < (0 : Int))), .bool (decide (x_1 < (0 : Int))), .bool true, undef, undef, undef, undef, .bool true] H_7
   else
   (ldI .i64 H_7 i (3)).bind fun x_2 =>
   f19.K1 k a1 l1 c1 x2 i i_1 (!b) x i_2 (decide (x_2 ≥ (4 : Int))) [.agg #[.int .i64 x0_0, .int .i64 x0_1, .int .i64 x0_2, .int .i64 x0_3, .slice a0_4 l0_4 c0_4], .bool false, .slice a1 l1 c1, .pointer (some ⟨i, 0, none⟩), .agg (g : List Value).toArray, .bool b, .bool (!b), .slice a1 l1 c1, .int .i64 x2, .int .i64 x, .pointer (some ⟨i, 0, none⟩), .agg (g_1 : List Value).toArray, .pointer (some ⟨i, 2, none⟩), .agg (g_2 : List Value).toArray, .pointer (some ⟨i, 4, none⟩), .slice a l c, .slice a_1 l_1 c_1, .agg (g_3 : List Value).toArray, .int .i64 x2, .bool (decide (x2 < (0 : Int))), .bool false, .int .i64 x2, .bool (decide (x2 ≥ (4 : Int))), .bool (decide (x2 ≥ (4 : Int))), .bool false, .pointer (some ⟨i, 2, none⟩), .pointer (some ⟨i, 3, none⟩), .int .i64 x_1, .bool (decide (x_1 < (0 : Int))), .bool (decide (x_1 < (0 : Int))), .bool false, .pointer (some ⟨i, 2, none⟩), .pointer (some ⟨i, 3, none⟩), .int .i64 x_2, .bool (decide (x_2 ≥ (4 : Int))), .bool (decide (x_2 ≥ (4 : Int)))] H_7
   else none
   else none
   else none
   else none) := by kernel_rfl

/- f20 "interleave/interleaveref22.Read"  names:  -/
noncomputable def f20.Q0 (k : Nat)  : Kont (Value × AHeap) := retQ Try.prog Try.f20
noncomputable def f20.Q1 (k : Nat)  : Kont (Value × AHeap) := seqQ (gateC (Sub (bodyOf Try.f20) [1, 1, 1, 1, 0]) (Sub (bodyOf Try.f20) [1, 1, 1, 1, 1]) k (run Try.prog (C k) k (Sub (bodyOf Try.f20) [1, 1, 1, 1, 1]) (f20.Q0 k ))) (f20.Q0 k )
noncomputable def f20.Q2 (k : Nat)  : Kont (Value × AHeap) := blkQ 0 (f20.Q1 k )
noncomputable def f20.K1 (k : Nat)  (p6 : Nat) (b8 : Bool) (p10 : Nat) (D : List Value) (H : AHeap) : Option (Value × AHeap) :=
  gateC (Sub (bodyOf Try.f20) [1, 1, 1, 1, 0]) (Sub (bodyOf Try.f20) [1, 1, 1, 1, 1]) k (run Try.prog (C k) k (Sub (bodyOf Try.f20) [1, 1, 1, 1, 1]) (f20.Q0 k )) [(D.getD 0 undef), (D.getD 1 undef), (D.getD 2 undef), (D.getD 3 undef), undef, undef, .pointer (some ⟨p6, 0, none⟩), (D.getD 4 undef), .bool b8, (D.getD 5 undef), .pointer (some ⟨p10, 0, none⟩), (D.getD 6 undef), (D.getD 7 undef), (D.getD 8 undef), (D.getD 9 undef), (D.getD 10 undef), (D.getD 11 undef), (D.getD 12 undef), (D.getD 13 undef), (D.getD 14 undef), (D.getD 15 undef), (D.getD 16 undef), (D.getD 17 undef), (D.getD 18 undef), (D.getD 19 undef), (D.getD 20 undef), (D.getD 21 undef), (D.getD 22 undef), (D.getD 23 undef), (D.getD 24 undef), (D.getD 25 undef), (D.getD 26 undef), (D.getD 27 undef), (D.getD 28 undef), (D.getD 29 undef), (D.getD 30 undef), (D.getD 31 undef), (D.getD 32 undef), (D.getD 33 undef), (D.getD 34 undef), (D.getD 35 undef), (D.getD 36 undef), (D.getD 37 undef), (D.getD 38 undef), (D.getD 39 undef), (D.getD 40 undef), (D.getD 41 undef), (D.getD 42 undef), (D.getD 43 undef), (D.getD 44 undef), (D.getD 45 undef), (D.getD 46 undef), (D.getD 47 undef), (D.getD 48 undef), (D.getD 49 undef), (D.getD 50 undef), (D.getD 51 undef), (D.getD 52 undef), (D.getD 53 undef), (D.getD 54 undef), (D.getD 55 undef), (D.getD 56 undef), (D.getD 57 undef), (D.getD 58 undef), (D.getD 59 undef), (D.getD 60 undef), undef, undef] H
noncomputable def f20.K2 (k : Nat)  (x2 : Int) (p3 : Nat) (p6 : Nat) (b8 : Bool) (x9 : Int) (p10 : Nat) (b51 : Bool) (D : List Value) (H : AHeap) : Option (Value × AHeap) :=
  gateC (Sub (bodyOf Try.f20) [1, 1, 1, 1, 0, 0, 1, 1, 0]) (Sub (bodyOf Try.f20) [1, 1, 1, 1, 0, 0, 1, 1, 1]) k (run Try.prog (C k) k (Sub (bodyOf Try.f20) [1, 1, 1, 1, 0, 0, 1, 1, 1]) (f20.Q2 k )) [(D.getD 0 undef), (D.getD 1 undef), .int .i64 x2, .pointer (some ⟨p3, 0, none⟩), undef, undef, .pointer (some ⟨p6, 0, none⟩), (D.getD 2 undef), .bool b8, .int .i64 x9, .pointer (some ⟨p10, 0, none⟩), (D.getD 3 undef), (D.getD 4 undef), (D.getD 5 undef), (D.getD 6 undef), (D.getD 7 undef), (D.getD 8 undef), (D.getD 9 undef), (D.getD 10 undef), (D.getD 11 undef), (D.getD 12 undef), (D.getD 13 undef), (D.getD 14 undef), (D.getD 15 undef), (D.getD 16 undef), (D.getD 17 undef), (D.getD 18 undef), undef, undef, undef, undef, undef, undef, undef, undef, undef, undef, undef, undef, undef, (D.getD 19 undef), (D.getD 20 undef), (D.getD 21 undef), (D.getD 22 undef), (D.getD 23 undef), undef, undef, undef, undef, undef, undef, .bool b51, (D.getD 24 undef), (D.getD 25 undef), (D.getD 26 undef), (D.getD 27 undef), (D.getD 28 undef), (D.getD 29 undef), (D.getD 30 undef), (D.getD 31 undef), (D.getD 32 undef), (D.getD 33 undef), undef, undef, undef, undef, undef, undef] H
theorem f20.K1_eq (k : Nat)  (p6 : Nat) (b8 : Bool) (p10 : Nat) (D : List Value) (H : AHeap) : f20.K1 k  p6 b8 p10 D H =
  ((AHeap.row H p10 (0) 5).bind fun g =>
   if notTup (.agg (g : List Value).toArray) = true ∧ (g).length = 5 then
   (AHeap.wr H p6 (0) g).bind fun H_1 =>
   (AHeap.row H_1 p6 (0) 5).bind fun g_1 =>
   some (.tuple #[.agg (g_1 : List Value).toArray, .bool b8], H_1)
   else none) := by
  unfold f20.K1
  rw [gateC_eq]
  kernel_rfl
theorem f20.K2_eq (k : Nat)  (x2 : Int) (p3 : Nat) (p6 : Nat) (b8 : Bool) (x9 : Int) (p10 : Nat) (b51 : Bool) (D : List Value) (H : AHeap) : f20.K2 k  x2 p3 p6 b8 x9 p10 b51 D H =
  (bif b51 then
   (AHeap.wr H p10 (2) [.int .i64 x9, .int .i64 x2]).bind fun H_1 =>
   f20.K1 k p6 b8 p10 [(D.getD 0 undef), (D.getD 1 undef), .int .i64 x2, .pointer (some ⟨p3, 0, none⟩), (D.getD 2 undef), .int .i64 x9, (D.getD 3 undef), (D.getD 4 undef), (D.getD 5 undef), (D.getD 6 undef), (D.getD 7 undef), (D.getD 8 undef), (D.getD 9 undef), (D.getD 10 undef), (D.getD 11 undef), (D.getD 12 undef), (D.getD 13 undef), (D.getD 14 undef), (D.getD 15 undef), (D.getD 16 undef), (D.getD 17 undef), (D.getD 18 undef), undef, undef, undef, undef, undef, undef, undef, undef, undef, undef, undef, undef, undef, (D.getD 19 undef), (D.getD 20 undef), (D.getD 21 undef), (D.getD 22 undef), (D.getD 23 undef), undef, undef, undef, undef, undef, undef, .bool b51, (D.getD 24 undef), (D.getD 25 undef), (D.getD 26 undef), (D.getD 27 undef), (D.getD 28 undef), (D.getD 29 undef), (D.getD 30 undef), (D.getD 31 undef), (D.getD 32 undef), (D.getD 33 undef), .int .i64 x9, .int .i64 x2, .agg #[.int .i64 x9, .int .i64 x2], .pointer (some ⟨p10, 2, none⟩)] H_1
   else
   (AHeap.wr H p10 (2) [.int .i64 0, .int .i64 0]).bind fun H_2 =>
   (ldI .i64 H_2 p3 (3)).bind fun x =>
   (ldI .i64 H_2 p3 (2)).bind fun x_1 =>
   cSl (C k 53 [.slice none 0 0, .int .i64 x, .int .i64 x_1] H_2) fun a l c H_3 =>
   cSl (C k 53 [.slice a l c, .int .i64 x2, .int .i64 x9] H_3) fun a_1 l_1 c_1 H_4 =>
   (AHeap.wr H_4 p10 (4) [.slice a_1 l_1 c_1]).bind fun H_5 =>
   f20.K1 k p6 b8 p10 [(D.getD 0 undef), (D.getD 1 undef), .int .i64 x2, .pointer (some ⟨p3, 0, none⟩), (D.getD 2 undef), .int .i64 x9, (D.getD 3 undef), (D.getD 4 undef), (D.getD 5 undef), (D.getD 6 undef), (D.getD 7 undef), (D.getD 8 undef), (D.getD 9 undef), (D.getD 10 undef), (D.getD 11 undef), (D.getD 12 undef), (D.getD 13 undef), (D.getD 14 undef), (D.getD 15 undef), (D.getD 16 undef), (D.getD 17 undef), (D.getD 18 undef), .agg #[.int .i64 0, .int .i64 0], .pointer (some ⟨p10, 2, none⟩), .pointer (some ⟨p3, 2, none⟩), .pointer (some ⟨p3, 3, none⟩), .int .i64 x, .pointer (some ⟨p3, 2, none⟩), .pointer (some ⟨p3, 2, none⟩), .int .i64 x_1, .slice a l c, .int .i64 x2, .int .i64 x9, .slice a_1 l_1 c_1, .pointer (some ⟨p10, 4, none⟩), (D.getD 19 undef), (D.getD 20 undef), (D.getD 21 undef), (D.getD 22 undef), (D.getD 23 undef), undef, undef, undef, undef, undef, undef, .bool b51, (D.getD 24 undef), (D.getD 25 undef), (D.getD 26 undef), (D.getD 27 undef), (D.getD 28 undef), (D.getD 29 undef), (D.getD 30 undef), (D.getD 31 undef), (D.getD 32 undef), (D.getD 33 undef), undef, undef, undef, undef] H_5) := by
  unfold f20.K2
  rw [gateC_eq]
  kernel_rfl
theorem f20_eq (k : Nat) (x0_0 : Int) (x0_1 : Int) (x0_2 : Int) (x0_3 : Int) (a0_4 : Option Addr) (l0_4 : Nat) (c0_4 : Nat) (a1 : Option Addr) (l1 : Nat) (c1 : Nat) (x2 : Int) (H : AHeap) : C (k + 1) 20 [.agg #[.int .i64 x0_0, .int .i64 x0_1, .int .i64 x0_2, .int .i64 x0_3, .slice a0_4 l0_4 c0_4], .slice a1 l1 c1, .int .i64 x2] H =
  (alK none H ⟨[.int .i64 x0_0, .int .i64 x0_1, .int .i64 x0_2, .int .i64 x0_3, .slice a0_4 l0_4 c0_4], 0, .rw, 0⟩ fun i H_1 =>
   alK none H_1 ⟨[.int .i64 0, .int .i64 0, .int .i64 0, .int .i64 0, .slice none 0 0], 0, .rw, 0⟩ fun i_1 H_2 =>
   (AHeap.row H_2 i (0) 2).bind fun g =>
   cB (C k 50 [.slice a1 l1 c1, .agg (g : List Value).toArray] H_2) fun b H_3 =>
   cI .i64 (C k 46 [.slice a1 l1 c1, .int .i64 x2] H_3) fun x H_4 =>
   bif sameB H_4 (H_4.bump 10) i then
   bSl (ldSl (H_4.bump 10) i (4)) fun a l c =>
   cSl (C k 45 [.slice a l c] (H_4.bump 10)) fun a_1 l_1 c_1 H_5 =>
   bif sameB H_4 H_5 i then
   (AHeap.row H_5 i (0) 2).bind fun g_1 =>
   bif sameB H_4 H_5 i then
   (AHeap.row H_5 i (2) 2).bind fun g_2 =>
   buildK Try.prog 28 [(0, .agg (g_1 : List Value).toArray), (1, .agg (g_2 : List Value).toArray), (2, .slice a_1 l_1 c_1)] fun g_3 =>
   alK (some (H_4.next + 8)) H_5 ⟨[.int .i64 0, .int .i64 0, .int .i64 0, .int .i64 0, .slice none 0 0], 0, .rw, 0⟩ fun i_2 H_6 =>
   if notTup (.agg (g_3 : List Value).toArray) = true ∧ (g_3).length = 5 then
   (AHeap.wr H_6 i_2 (0) g_3).bind fun H_7 =>
   bSl (ldSl H_7 i (4)) fun a_2 l_2 c_2 =>
   bif (decide ((l_2 : Int) > (0 : Int))) then
   bSl (ldSl H_7 i (4)) fun a_3 l_3 c_3 =>
   cSl (C k 53 [.slice a_3 l_3 c_3, .int .i64 x2, .int .i64 x] H_7) fun a_4 l_4 c_4 H_8 =>
   (AHeap.wr H_8 i_2 (4) [.slice a_4 l_4 c_4]).bind fun H_9 =>
   f20.K1 k i_1 (!b) i_2 [.agg #[.int .i64 x0_0, .int .i64 x0_1, .int .i64 x0_2, .int .i64 x0_3, .slice a0_4 l0_4 c0_4], .slice a1 l1 c1, .int .i64 x2, .pointer (some ⟨i, 0, none⟩), .bool false, .int .i64 x, .slice a1 l1 c1, .pointer (some ⟨i, 0, none⟩), .agg (g : List Value).toArray, .bool b, .bool (!b), .slice a1 l1 c1, .int .i64 x2, .int .i64 x, .pointer (some ⟨i, 0, none⟩), .agg (g_1 : List Value).toArray, .pointer (some ⟨i, 2, none⟩), .agg (g_2 : List Value).toArray, .pointer (some ⟨i, 4, none⟩), .slice a l c, .slice a_1 l_1 c_1, .agg (g_3 : List Value).toArray, undef, undef, undef, undef, undef, undef, undef, undef, undef, undef, undef, undef, undef, .bool (decide ((l_2 : Int) > (0 : Int))), .pointer (some ⟨i, 4, none⟩), .slice a_2 l_2 c_2, .int .i64 (l_2 : Int), .bool (decide ((l_2 : Int) > (0 : Int))), .pointer (some ⟨i, 4, none⟩), .slice a_3 l_3 c_3, .int .i64 x2, .int .i64 x, .slice a_4 l_4 c_4, .pointer (some ⟨i_2, 4, none⟩), undef, undef, undef, undef, undef, undef, undef, undef, undef, undef, undef, undef, undef, undef, undef] H_9
   else
   (ldI .i64 H_7 i (2)).bind fun x_1 =>
   bif (x_1 == (0 : Int)) then
   f20.K2 k x2 i i_1 (!b) x i_2 true [.agg #[.int .i64 x0_0, .int .i64 x0_1, .int .i64 x0_2, .int .i64 x0_3, .slice a0_4 l0_4 c0_4], .slice a1 l1 c1, .bool false, .slice a1 l1 c1, .pointer (some ⟨i, 0, none⟩), .agg (g : List Value).toArray, .bool b, .bool (!b), .slice a1 l1 c1, .int .i64 x2, .int .i64 x, .pointer (some ⟨i, 0, none⟩), .agg (g_1 : List Value).toArray, .pointer (some ⟨i, 2, none⟩), .agg (g_2 : List Value).toArray, .pointer (some ⟨i, 4, none⟩), .slice a l c, .slice a_1 l_1 c_1, .agg (g_3 : List Value).toArray, .bool (decide ((l_2 : Int) > (0 : Int))), .pointer (some ⟨i, 4, none⟩), .slice a_2 l_2 c_2, .int .i64 (l_2 : Int), .bool (decide ((l_2 : Int) > (0 : Int))), .pointer (some ⟨i, 2, none⟩), .pointer (some ⟨i, 2, none⟩), .int .i64 x_1, .bool (x_1 == (0 : Int)), .bool true, undef, undef, undef, undef, .bool true] H_7
   else
   (AHeap.row H_7 i (2) 2).bind fun g_4 =>
   cB (C k 50 [.slice a1 l1 c1, .agg (g_4 : List Value).toArray] H_7) fun b_1 H_10 =>
   f20.K2 k x2 i i_1 (!b) x i_2 b_1 [.agg #[.int .i64 x0_0, .int .i64 x0_1, .int .i64 x0_2, .int .i64 x0_3, .slice a0_4 l0_4 c0_4], .slice a1 l1 c1, .bool false, .slice a1 l1 c1, .pointer (some ⟨i, 0, none⟩), .agg (g : List Value).toArray, .bool b, .bool (!b), .slice a1 l1 c1, .int .i64 x2, .int .i64 x, .pointer (some ⟨i, 0, none⟩), .agg (g_1 : List Value).toArray, .pointer (some ⟨i, 2, none⟩), .agg (g_2 : List Value).toArray, .pointer (some ⟨i, 4, none⟩), .slice a l c, .slice a_1 l_1 c_1, .agg (g_3 : List Value).toArray, .bool (decide ((l_2 : Int) > (0 : Int))), .pointer (some ⟨i, 4, none⟩), .slice a_2 l_2 c_2, .int .i64 (l_2 : Int), .bool (decide ((l_2 : Int) > (0 : Int))), .pointer (some ⟨i, 2, none⟩), .pointer (some ⟨i, 2, none⟩), .int .i64 x_1, .bool (x_1 == (0 : Int)), .bool false, .slice a1 l1 c1, .pointer (some ⟨i, 2, none⟩), .agg (g_4 : List Value).toArray, .bool b_1, .bool b_1] H_10
   else none
   else none
   else none
   else none) := by kernel_rfl

/- f21 "interleave/interleaveref22.SameShadow"  names: 0:a 1:b 2:a 3:b -/
theorem f21_eq (k : Nat) (x0_0 : Int) (x0_1 : Int) (x0_2 : Int) (x0_3 : Int) (a0_4 : Option Addr) (l0_4 : Nat) (c0_4 : Nat) (x1_0 : Int) (x1_1 : Int) (x1_2 : Int) (x1_3 : Int) (a1_4 : Option Addr) (l1_4 : Nat) (c1_4 : Nat) (H : AHeap) : C (k + 1) 21 [.agg #[.int .i64 x0_0, .int .i64 x0_1, .int .i64 x0_2, .int .i64 x0_3, .slice a0_4 l0_4 c0_4], .agg #[.int .i64 x1_0, .int .i64 x1_1, .int .i64 x1_2, .int .i64 x1_3, .slice a1_4 l1_4 c1_4]] H =
  (alK none H ⟨[.int .i64 x0_0, .int .i64 x0_1, .int .i64 x0_2, .int .i64 x0_3, .slice a0_4 l0_4 c0_4], 0, .rw, 0⟩ fun i H_1 =>
   alK none H_1 ⟨[.int .i64 x1_0, .int .i64 x1_1, .int .i64 x1_2, .int .i64 x1_3, .slice a1_4 l1_4 c1_4], 0, .rw, 0⟩ fun i_1 H_2 =>
   (AHeap.row H_2 i (0) 2).bind fun g =>
   (AHeap.row H_2 i_1 (0) 2).bind fun g_1 =>
   (eqV Try.prog 40 25 (.agg (g : List Value).toArray) (.agg (g_1 : List Value).toArray)).bind fun b =>
   bif b then
   (AHeap.row H_2 i (2) 2).bind fun g_2 =>
   (AHeap.row H_2 i_1 (2) 2).bind fun g_3 =>
   (eqV Try.prog 40 25 (.agg (g_2 : List Value).toArray) (.agg (g_3 : List Value).toArray)).bind fun b_1 =>
   bif b_1 then
   bSl (ldSl H_2 i (4)) fun a l c =>
   bSl (ldSl H_2 i_1 (4)) fun a_1 l_1 c_1 =>
   cB (C k 54 [.slice a l c, .slice a_1 l_1 c_1] H_2) fun b_2 H_3 =>
   bif b_2 then
   bSl (ldSl H_3 i (4)) fun a_2 l_2 c_2 =>
   bSl (ldSl H_3 i_1 (4)) fun a_3 l_3 c_3 =>
   some (.bool (((l_2 : Int) == (0 : Int)) == ((l_3 : Int) == (0 : Int))), H_3)
   else
   some (.bool false, H_3)
   else
   some (.bool false, H_2)
   else
   some (.bool false, H_2)) := by kernel_rfl

/- f52 "interleave/epoch.entry"  names: 0:l 1:t 2:n 3:l 4:t 5:n -/
noncomputable def f52.Q0 (k : Nat)  : Kont (Value × AHeap) := retQ Try.prog Try.f52
noncomputable def f52.Q1 (k : Nat)  : Kont (Value × AHeap) := seqQ (gateC (Sub (bodyOf Try.f52) [1, 0]) (Sub (bodyOf Try.f52) [1, 1]) k (run Try.prog (C k) k (Sub (bodyOf Try.f52) [1, 1]) (f52.Q0 k ))) (f52.Q0 k )
noncomputable def f52.Q2 (k : Nat)  : Kont (Value × AHeap) := blkQ 0 (f52.Q1 k )
noncomputable def f52.L1 (k : Nat) (n1 : Nat) (a0 : Option Addr) (l0 : Nat) (c0 : Nat) (x1 : Int) (x2 : Int) (D : List Value) (H : AHeap) : Option (Value × AHeap) :=
  iter (run Try.prog (C k) k (Sub (bodyOf Try.f52) [1, 0, 0, 0])) (f52.Q2 k ) n1 [.slice a0 l0 c0, .int .i64 x1, .int .i64 x2, undef, undef, undef, (D.getD 0 undef), (D.getD 1 undef), (D.getD 2 undef), (D.getD 3 undef), (D.getD 4 undef), (D.getD 5 undef), (D.getD 6 undef), (D.getD 7 undef), undef, undef, undef, undef, undef] H
theorem f52.L1_z (k : Nat)  (a0 : Option Addr) (l0 : Nat) (c0 : Nat) (x1 : Int) (x2 : Int) (D : List Value) (H : AHeap) : f52.L1 k 0 a0 l0 c0 x1 x2 D H = none := by kernel_rfl
theorem f52.L1_s (k : Nat) (n1 : Nat) (a0 : Option Addr) (l0 : Nat) (c0 : Nat) (x1 : Int) (x2 : Int) (D : List Value) (H : AHeap) : f52.L1 k (n1 + 1) a0 l0 c0 x1 x2 D H =
  (bif (decide ((l0 : Int) ≤ x1)) then
   alK none H ⟨[.int .i64 0], 1, .rw, 0⟩ fun i H_1 =>
   cSl (apndV Try.prog [26, 26] H_1 (.slice a0 l0 c0) (.slice (some ⟨i, 0, none⟩) 1 1)) fun a l c H_2 =>
   f52.L1 k n1 a l c x1 x2 [(D.getD 0 undef), .slice a0 l0 c0, .int .i64 (l0 : Int), .int .i64 x1, .bool (decide ((l0 : Int) ≤ x1)), .slice a0 l0 c0, .slice (some ⟨i, 0, none⟩) 1 1, .slice a l c] H_2
   else
   a0.bind fun q =>
   if 0 ≤ x1 ∧ x1 < (l0 : Int) then
   (AHeap.wr H q.block (q.off + x1.toNat * 1) [.int .i64 x2]).bind fun H_3 =>
   some (.slice a0 l0 c0, H_3)
   else none) := by kernel_rfl
theorem f52_eq (k : Nat) (a0 : Option Addr) (l0 : Nat) (c0 : Nat) (x1 : Int) (x2 : Int) (H : AHeap) : C (k + 1) 52 [.slice a0 l0 c0, .int .i64 x1, .int .i64 x2] H =
  (f52.L1 k k a0 l0 c0 x1 x2 [.slice none 0 0, undef, undef, undef, undef, undef, undef, undef] H) := by kernel_rfl

/- f53 "interleave/interleaveref22.set"  names: 0:l 1:t 2:n 3:l 4:t 5:n -/
noncomputable def f53.Q0 (k : Nat)  : Kont (Value × AHeap) := retQ Try.prog Try.f53
noncomputable def f53.Q1 (k : Nat)  : Kont (Value × AHeap) := seqQ (gateC (Sub (bodyOf Try.f53) [1, 1, 0]) (Sub (bodyOf Try.f53) [1, 1, 1]) k (run Try.prog (C k) k (Sub (bodyOf Try.f53) [1, 1, 1]) (f53.Q0 k ))) (f53.Q0 k )
noncomputable def f53.Q2 (k : Nat)  : Kont (Value × AHeap) := blkQ 0 (f53.Q1 k )
noncomputable def f53.L1 (k : Nat) (n1 : Nat) (a0 : Option Addr) (l0 : Nat) (c0 : Nat) (x1 : Int) (x2 : Int) (D : List Value) (H : AHeap) : Option (Value × AHeap) :=
  iter (run Try.prog (C k) k (Sub (bodyOf Try.f53) [1, 1, 0, 0, 0])) (f53.Q2 k ) n1 [.slice a0 l0 c0, .int .i64 x1, .int .i64 x2, undef, undef, undef, (D.getD 0 undef), (D.getD 1 undef), (D.getD 2 undef), (D.getD 3 undef), (D.getD 4 undef), (D.getD 5 undef), (D.getD 6 undef), (D.getD 7 undef), (D.getD 8 undef), (D.getD 9 undef), undef, undef, undef, undef, undef] H
theorem f53.L1_z (k : Nat)  (a0 : Option Addr) (l0 : Nat) (c0 : Nat) (x1 : Int) (x2 : Int) (D : List Value) (H : AHeap) : f53.L1 k 0 a0 l0 c0 x1 x2 D H = none := by kernel_rfl
theorem f53.L1_s (k : Nat) (n1 : Nat) (a0 : Option Addr) (l0 : Nat) (c0 : Nat) (x1 : Int) (x2 : Int) (D : List Value) (H : AHeap) : f53.L1 k (n1 + 1) a0 l0 c0 x1 x2 D H =
  (bif (decide ((l0 : Int) ≤ x1)) then
   alK none H ⟨[.int .i64 0], 1, .rw, 0⟩ fun i H_1 =>
   cSl (apndV Try.prog [26, 26] H_1 (.slice a0 l0 c0) (.slice (some ⟨i, 0, none⟩) 1 1)) fun a l c H_2 =>
   f53.L1 k n1 a l c x1 x2 [(D.getD 0 undef), (D.getD 1 undef), (D.getD 2 undef), .slice a0 l0 c0, .int .i64 (l0 : Int), .int .i64 x1, .bool (decide ((l0 : Int) ≤ x1)), .slice a0 l0 c0, .slice (some ⟨i, 0, none⟩) 1 1, .slice a l c] H_2
   else
   a0.bind fun q =>
   if 0 ≤ x1 ∧ x1 < (l0 : Int) then
   (AHeap.wr H q.block (q.off + x1.toNat * 1) [.int .i64 x2]).bind fun H_3 =>
   some (.slice a0 l0 c0, H_3)
   else none) := by kernel_rfl
theorem f53_eq (k : Nat) (a0 : Option Addr) (l0 : Nat) (c0 : Nat) (x1 : Int) (x2 : Int) (H : AHeap) : C (k + 1) 53 [.slice a0 l0 c0, .int .i64 x1, .int .i64 x2] H =
  (cSl (C k 45 [.slice a0 l0 c0] H) fun a l c H_1 =>
   f53.L1 k k a l c x1 x2 [.slice none 0 0, .slice a0 l0 c0, .slice a l c, undef, undef, undef, undef, undef, undef, undef] H_1) := by kernel_rfl

/- f3 "interleave/interleavelaw24.EpochSequences"  names:  -/
noncomputable def f3.Q0 (k : Nat)  : Kont (Value × AHeap) := retQ Try.prog Try.f3
noncomputable def f3.Q1 (k : Nat)  : Kont (Value × AHeap) := seqQ (gateC (Sub (bodyOf Try.f3) [1, 1, 1, 0]) (Sub (bodyOf Try.f3) [1, 1, 1, 1]) k (run Try.prog (C k) k (Sub (bodyOf Try.f3) [1, 1, 1, 1]) (f3.Q0 k ))) (f3.Q0 k )
noncomputable def f3.Q2 (k : Nat)  : Kont (Value × AHeap) := blkQ 0 (f3.Q1 k )
noncomputable def f3.Q3 (k : Nat) (n1 : Nat) : Kont (Value × AHeap) := seqQ (iter (run Try.prog (C k) k (Sub (bodyOf Try.f3) [1, 1, 1, 0, 1, 0, 0])) (f3.Q2 k ) n1) (f3.Q2 k )
noncomputable def f3.Q4 (k : Nat) (n1 : Nat) : Kont (Value × AHeap) := seqQ (gateC (Sub (bodyOf Try.f3) [1, 1, 1, 0, 1, 0, 0, 1, 1, 0]) (Sub (bodyOf Try.f3) [1, 1, 1, 0, 1, 0, 0, 1, 1, 1]) k (run Try.prog (C k) k (Sub (bodyOf Try.f3) [1, 1, 1, 0, 1, 0, 0, 1, 1, 1]) (f3.Q3 k n1))) (f3.Q3 k n1)
noncomputable def f3.Q5 (k : Nat) (n1 : Nat) : Kont (Value × AHeap) := blkQ 1 (f3.Q4 k n1)
noncomputable def f3.L1 (k : Nat) (n1 : Nat) (a3 : Option Addr) (l3 : Nat) (c3 : Nat) (p4 : Nat) (p5 : Nat) (a14 : Option Addr) (l14 : Nat) (c14 : Nat) (x15 : Int) (x16 : Int) (D : List Value) (H : AHeap) : Option (Value × AHeap) :=
  iter (run Try.prog (C k) k (Sub (bodyOf Try.f3) [1, 1, 1, 0, 1, 0, 0])) (f3.Q2 k ) n1 [(D.getD 0 undef), undef, (D.getD 1 undef), .slice a3 l3 c3, .pointer (some ⟨p4, 0, none⟩), .pointer (some ⟨p5, 0, none⟩), (D.getD 2 undef), (D.getD 3 undef), (D.getD 4 undef), (D.getD 5 undef), (D.getD 6 undef), (D.getD 7 undef), (D.getD 8 undef), (D.getD 9 undef), .slice a14 l14 c14, .int .i64 x15, .int .i64 x16, (D.getD 10 undef), (D.getD 11 undef), (D.getD 12 undef), (D.getD 13 undef), (D.getD 14 undef), (D.getD 15 undef), (D.getD 16 undef), (D.getD 17 undef), (D.getD 18 undef), (D.getD 19 undef), (D.getD 20 undef), (D.getD 21 undef), (D.getD 22 undef), (D.getD 23 undef), (D.getD 24 undef), (D.getD 25 undef), (D.getD 26 undef), (D.getD 27 undef), (D.getD 28 undef), (D.getD 29 undef), (D.getD 30 undef), (D.getD 31 undef), (D.getD 32 undef), (D.getD 33 undef), (D.getD 34 undef), (D.getD 35 undef), (D.getD 36 undef), (D.getD 37 undef), (D.getD 38 undef), (D.getD 39 undef), (D.getD 40 undef), (D.getD 41 undef), (D.getD 42 undef), (D.getD 43 undef), (D.getD 44 undef), (D.getD 45 undef), (D.getD 46 undef), (D.getD 47 undef), (D.getD 48 undef), (D.getD 49 undef), (D.getD 50 undef), (D.getD 51 undef), (D.getD 52 undef), (D.getD 53 undef), (D.getD 54 undef), (D.getD 55 undef), (D.getD 56 undef), (D.getD 57 undef), (D.getD 58 undef), (D.getD 59 undef), (D.getD 60 undef), (D.getD 61 undef), (D.getD 62 undef), (D.getD 63 undef), (D.getD 64 undef), (D.getD 65 undef), (D.getD 66 undef), (D.getD 67 undef), (D.getD 68 undef), (D.getD 69 undef), (D.getD 70 undef), (D.getD 71 undef), (D.getD 72 undef), (D.getD 73 undef), (D.getD 74 undef), (D.getD 75 undef), (D.getD 76 undef), (D.getD 77 undef), (D.getD 78 undef), (D.getD 79 undef), (D.getD 80 undef), (D.getD 81 undef), (D.getD 82 undef), (D.getD 83 undef), (D.getD 84 undef), (D.getD 85 undef), (D.getD 86 undef), (D.getD 87 undef), (D.getD 88 undef), (D.getD 89 undef), (D.getD 90 undef), undef] H
noncomputable def f3.K1 (k : Nat) (n1 : Nat) (a3 : Option Addr) (l3 : Nat) (c3 : Nat) (p4 : Nat) (p5 : Nat) (b9 : Bool) (b10 : Bool) (a14 : Option Addr) (l14 : Nat) (c14 : Nat) (x15 : Int) (x16 : Int) (D : List Value) (H : AHeap) : Option (Value × AHeap) :=
  gateC (Sub (bodyOf Try.f3) [1, 1, 1, 0, 1, 0, 0, 1, 1, 0, 0, 1, 1, 1, 1, 1, 0]) (Sub (bodyOf Try.f3) [1, 1, 1, 0, 1, 0, 0, 1, 1, 0, 0, 1, 1, 1, 1, 1, 1]) k (run Try.prog (C k) k (Sub (bodyOf Try.f3) [1, 1, 1, 0, 1, 0, 0, 1, 1, 0, 0, 1, 1, 1, 1, 1, 1]) (f3.Q5 k n1)) [(D.getD 0 undef), undef, (D.getD 1 undef), .slice a3 l3 c3, .pointer (some ⟨p4, 0, none⟩), .pointer (some ⟨p5, 0, none⟩), (D.getD 2 undef), (D.getD 3 undef), (D.getD 4 undef), .bool b9, .bool b10, (D.getD 5 undef), (D.getD 6 undef), (D.getD 7 undef), .slice a14 l14 c14, .int .i64 x15, .int .i64 x16, (D.getD 8 undef), (D.getD 9 undef), (D.getD 10 undef), (D.getD 11 undef), (D.getD 12 undef), (D.getD 13 undef), (D.getD 14 undef), (D.getD 15 undef), (D.getD 16 undef), (D.getD 17 undef), (D.getD 18 undef), (D.getD 19 undef), (D.getD 20 undef), (D.getD 21 undef), (D.getD 22 undef), (D.getD 23 undef), (D.getD 24 undef), (D.getD 25 undef), (D.getD 26 undef), (D.getD 27 undef), (D.getD 28 undef), (D.getD 29 undef), (D.getD 30 undef), (D.getD 31 undef), (D.getD 32 undef), (D.getD 33 undef), (D.getD 34 undef), (D.getD 35 undef), (D.getD 36 undef), (D.getD 37 undef), (D.getD 38 undef), (D.getD 39 undef), (D.getD 40 undef), (D.getD 41 undef), (D.getD 42 undef), (D.getD 43 undef), (D.getD 44 undef), (D.getD 45 undef), (D.getD 46 undef), (D.getD 47 undef), (D.getD 48 undef), (D.getD 49 undef), (D.getD 50 undef), (D.getD 51 undef), (D.getD 52 undef), (D.getD 53 undef), (D.getD 54 undef), (D.getD 55 undef), (D.getD 56 undef), (D.getD 57 undef), (D.getD 58 undef), (D.getD 59 undef), (D.getD 60 undef), (D.getD 61 undef), (D.getD 62 undef), (D.getD 63 undef), (D.getD 64 undef), (D.getD 65 undef), (D.getD 66 undef), (D.getD 67 undef), (D.getD 68 undef), (D.getD 69 undef), (D.getD 70 undef), (D.getD 71 undef), (D.getD 72 undef), (D.getD 73 undef), (D.getD 74 undef), (D.getD 75 undef), (D.getD 76 undef), (D.getD 77 undef), (D.getD 78 undef), (D.getD 79 undef), (D.getD 80 undef), (D.getD 81 undef), (D.getD 82 undef), (D.getD 83 undef), (D.getD 84 undef), (D.getD 85 undef), (D.getD 86 undef), (D.getD 87 undef), (D.getD 88 undef), undef] H
theorem f3.L1_z (k : Nat)  (a3 : Option Addr) (l3 : Nat) (c3 : Nat) (p4 : Nat) (p5 : Nat) (a14 : Option Addr) (l14 : Nat) (c14 : Nat) (x15 : Int) (x16 : Int) (D : List Value) (H : AHeap) : f3.L1 k 0 a3 l3 c3 p4 p5 a14 l14 c14 x15 x16 D H = none := by kernel_rfl
theorem f3.L1_s (k : Nat) (n1 : Nat) (a3 : Option Addr) (l3 : Nat) (c3 : Nat) (p4 : Nat) (p5 : Nat) (a14 : Option Addr) (l14 : Nat) (c14 : Nat) (x15 : Int) (x16 : Int) (D : List Value) (H : AHeap) : f3.L1 k (n1 + 1) a3 l3 c3 p4 p5 a14 l14 c14 x15 x16 D H =
  (bif (decide (x16 < x15)) then
   a14.bind fun q =>
   if 0 ≤ x16 ∧ x16 < (l14 : Int) then
   (AHeap.row H q.block (q.off + x16.toNat * 3) 3).bind fun g =>
   alK none H ⟨[.int .u8 0, .int .u8 0, .int .u8 0], 0, .rw, 0⟩ fun i H_1 =>
   if notTup (.agg (g : List Value).toArray) = true ∧ (g).length = 3 then
   (AHeap.wr H_1 i (0) g).bind fun H_2 =>
   bif (decide (x16 ≥ (60 : Int))) then
   cB (C k 22 [] H_2) fun b H_3 =>
   some (.bool b, H_3)
   else
   if 0 ≤ (0 : Int) ∧ (0 : Int) < ((3 : Nat) : Int) then
   (ldI .u8 H_2 i (0 + (0 : Int).toNat * 1)).bind fun x =>
   a3.bind fun q_1 =>
   if 0 ≤ ((IntKind.i64.wrap x).tmod (4 : Int)) ∧ ((IntKind.i64.wrap x).tmod (4 : Int)) < (l3 : Int) then
   bif sameB H_2 (H_2.bump 18) q_1.block then
   bSl (ldSl (H_2.bump 18) q_1.block (q_1.off + ((IntKind.i64.wrap x).tmod (4 : Int)).toNat * 1)) fun a l c =>
   if 0 ≤ (1 : Int) ∧ (1 : Int) < ((3 : Nat) : Int) then
   bif sameB H_2 (H_2.bump 18) i then
   (ldI .u8 (H_2.bump 18) i (0 + (1 : Int).toNat * 1)).bind fun x_1 =>
   a3.bind fun q_2 =>
   if 0 ≤ ((IntKind.i64.wrap x_1).tmod (4 : Int)) ∧ ((IntKind.i64.wrap x_1).tmod (4 : Int)) < (l3 : Int) then
   bif sameB H_2 (H_2.bump 18) q_2.block then
   bSl (ldSl (H_2.bump 18) q_2.block (q_2.off + ((IntKind.i64.wrap x_1).tmod (4 : Int)).toNat * 1)) fun a_1 l_1 c_1 =>
   cSl (C k 16 [.slice a l c, .slice a_1 l_1 c_1] (H_2.bump 18)) fun a_2 l_2 c_2 H_4 =>
   cSl (C k 15 [.slice a_2 l_2 c_2, .int .i64 ((IntKind.i64.wrap x).tmod (4 : Int))] H_4) fun a_3 l_3 c_3 H_5 =>
   a3.bind fun q_3 =>
   if 0 ≤ ((IntKind.i64.wrap x).tmod (4 : Int)) ∧ ((IntKind.i64.wrap x).tmod (4 : Int)) < (l3 : Int) then
   (AHeap.wr H_5 q_3.block (q_3.off + ((IntKind.i64.wrap x).tmod (4 : Int)).toNat * 1) [.slice a_3 l_3 c_3]).bind fun H_6 =>
   if 0 ≤ (2 : Int) ∧ (2 : Int) < ((3 : Nat) : Int) then
   (ldI .u8 H_6 i (0 + (2 : Int).toNat * 1)).bind fun x_2 =>
   bif ((x_2.tmod (3 : Int)) == (0 : Int)) then
   bif sameB H_6 (H_6.bump 12) p4 then
   (AHeap.row (H_6.bump 12) p4 (0) 5).bind fun g_1 =>
   a3.bind fun q_4 =>
   if 0 ≤ ((IntKind.i64.wrap x).tmod (4 : Int)) ∧ ((IntKind.i64.wrap x).tmod (4 : Int)) < (l3 : Int) then
   bif sameB H_6 (H_6.bump 12) q_4.block then
   bSl (ldSl (H_6.bump 12) q_4.block (q_4.off + ((IntKind.i64.wrap x).tmod (4 : Int)).toNat * 1)) fun a_4 l_4 c_4 =>
   cT (C k 17 [.agg (g_1 : List Value).toArray, .slice a_4 l_4 c_4, .int .i64 ((IntKind.i64.wrap x).tmod (4 : Int))] (H_6.bump 12)) fun u H_7 =>
   exG (u.toList[0]?) fun g_2 =>
   if notTup (.agg g_2) = true ∧ (g_2.toList).length = 5 then
   (AHeap.wr H_7 p4 (0) g_2.toList).bind fun H_8 =>
   exB (u.toList[1]?) fun b_1 =>
   bif sameB H_8 (H_8.bump 12) p5 then
   (AHeap.row (H_8.bump 12) p5 (0) 5).bind fun g_3 =>
   a3.bind fun q_5 =>
   if 0 ≤ ((IntKind.i64.wrap x).tmod (4 : Int)) ∧ ((IntKind.i64.wrap x).tmod (4 : Int)) < (l3 : Int) then
   bif sameB H_8 (H_8.bump 12) q_5.block then
   bSl (ldSl (H_8.bump 12) q_5.block (q_5.off + ((IntKind.i64.wrap x).tmod (4 : Int)).toNat * 1)) fun a_5 l_5 c_5 =>
   cT (C k 18 [.agg (g_3 : List Value).toArray, .slice a_5 l_5 c_5, .int .i64 ((IntKind.i64.wrap x).tmod (4 : Int))] (H_8.bump 12)) fun u_1 H_9 =>
   exG (u_1.toList[0]?) fun g_4 =>
   if notTup (.agg g_4) = true ∧ (g_4.toList).length = 5 then
   (AHeap.wr H_9 p5 (0) g_4.toList).bind fun H_10 =>
   exB (u_1.toList[1]?) fun b_2 =>
   f3.K1 k n1 a3 l3 c3 p4 p5 b_1 b_2 a14 l14 c14 x15 x16 [(D.getD 0 undef), (D.getD 1 undef), .int .i64 x16, .pointer (some ⟨i, 0, none⟩), .int .i64 ((IntKind.i64.wrap x).tmod (4 : Int)), (D.getD 7 undef), (D.getD 8 undef), (D.getD 9 undef), .bool (decide (x16 < x15)), .int .i64 x16, .pointer (some ⟨q.block, q.off + x16.toNat * 3, none⟩), .agg (g : List Value).toArray, .int .i64 x16, .bool (decide (x16 ≥ (60 : Int))), .pointer (some ⟨i, 0 + (0 : Int).toNat * 1, none⟩), .int .u8 x, .int .i64 (IntKind.i64.wrap x), .int .i64 ((IntKind.i64.wrap x).tmod (4 : Int)), .slice a3 l3 c3, .int .i64 ((IntKind.i64.wrap x).tmod (4 : Int)), .slice a3 l3 c3, .int .i64 ((IntKind.i64.wrap x).tmod (4 : Int)), .pointer (some ⟨q_1.block, q_1.off + ((IntKind.i64.wrap x).tmod (4 : Int)).toNat * 1, none⟩), .slice a l c, .slice a3 l3 c3, .pointer (some ⟨i, 0 + (1 : Int).toNat * 1, none⟩), .int .u8 x_1, .int .i64 (IntKind.i64.wrap x_1), .int .i64 ((IntKind.i64.wrap x_1).tmod (4 : Int)), .pointer (some ⟨q_2.block, q_2.off + ((IntKind.i64.wrap x_1).tmod (4 : Int)).toNat * 1, none⟩), .slice a_1 l_1 c_1, .slice a_2 l_2 c_2, .int .i64 ((IntKind.i64.wrap x).tmod (4 : Int)), .slice a_3 l_3 c_3, .pointer (some ⟨q_3.block, q_3.off + ((IntKind.i64.wrap x).tmod (4 : Int)).toNat * 1, none⟩), .pointer (some ⟨i, 0 + (2 : Int).toNat * 1, none⟩), .int .u8 x_2, .int .u8 (x_2.tmod (3 : Int)), .bool ((x_2.tmod (3 : Int)) == (0 : Int)), .tuple u, .agg (g_1 : List Value).toArray, .slice a3 l3 c3, .int .i64 ((IntKind.i64.wrap x).tmod (4 : Int)), .pointer (some ⟨q_4.block, q_4.off + ((IntKind.i64.wrap x).tmod (4 : Int)).toNat * 1, none⟩), .slice a_4 l_4 c_4, .int .i64 ((IntKind.i64.wrap x).tmod (4 : Int)), .tuple u, .agg g_2, .bool b_1, .tuple u_1, .agg (g_3 : List Value).toArray, .slice a3 l3 c3, .int .i64 ((IntKind.i64.wrap x).tmod (4 : Int)), .pointer (some ⟨q_5.block, q_5.off + ((IntKind.i64.wrap x).tmod (4 : Int)).toNat * 1, none⟩), .slice a_5 l_5 c_5, .int .i64 ((IntKind.i64.wrap x).tmod (4 : Int)), .tuple u_1, .agg g_4, .bool b_2, (D.getD 61 undef), (D.getD 62 undef), (D.getD 63 undef), (D.getD 64 undef), (D.getD 65 undef), (D.getD 66 undef), (D.getD 67 undef), (D.getD 68 undef), (D.getD 69 undef), (D.getD 70 undef), (D.getD 71 undef), (D.getD 72 undef), (D.getD 73 undef), (D.getD 74 undef), (D.getD 75 undef), (D.getD 76 undef), (D.getD 77 undef), (D.getD 78 undef), (D.getD 79 undef), (D.getD 80 undef), (D.getD 81 undef), (D.getD 82 undef), (D.getD 83 undef), (D.getD 84 undef), (D.getD 85 undef), (D.getD 86 undef), (D.getD 87 undef), (D.getD 88 undef), (D.getD 89 undef), (D.getD 90 undef)] H_10
   else none
   else none
   else none
   else none
   else none
   else none
   else none
   else none
   else
   bif sameB H_6 (H_6.bump 12) p4 then
   (AHeap.row (H_6.bump 12) p4 (0) 5).bind fun g_5 =>
   a3.bind fun q_6 =>
   if 0 ≤ ((IntKind.i64.wrap x).tmod (4 : Int)) ∧ ((IntKind.i64.wrap x).tmod (4 : Int)) < (l3 : Int) then
   bif sameB H_6 (H_6.bump 12) q_6.block then
   bSl (ldSl (H_6.bump 12) q_6.block (q_6.off + ((IntKind.i64.wrap x).tmod (4 : Int)).toNat * 1)) fun a_6 l_6 c_6 =>
   cT (C k 19 [.agg (g_5 : List Value).toArray, .slice a_6 l_6 c_6, .int .i64 ((IntKind.i64.wrap x).tmod (4 : Int))] (H_6.bump 12)) fun u_2 H_11 =>
   exG (u_2.toList[0]?) fun g_6 =>
   if notTup (.agg g_6) = true ∧ (g_6.toList).length = 5 then
   (AHeap.wr H_11 p4 (0) g_6.toList).bind fun H_12 =>
   exB (u_2.toList[1]?) fun b_3 =>
   bif sameB H_12 (H_12.bump 12) p5 then
   (AHeap.row (H_12.bump 12) p5 (0) 5).bind fun g_7 =>
   a3.bind fun q_7 =>
   if 0 ≤ ((IntKind.i64.wrap x).tmod (4 : Int)) ∧ ((IntKind.i64.wrap x).tmod (4 : Int)) < (l3 : Int) then
   bif sameB H_12 (H_12.bump 12) q_7.block then
   bSl (ldSl (H_12.bump 12) q_7.block (q_7.off + ((IntKind.i64.wrap x).tmod (4 : Int)).toNat * 1)) fun a_7 l_7 c_7 =>
   cT (C k 20 [.agg (g_7 : List Value).toArray, .slice a_7 l_7 c_7, .int .i64 ((IntKind.i64.wrap x).tmod (4 : Int))] (H_12.bump 12)) fun u_3 H_13 =>
   exG (u_3.toList[0]?) fun g_8 =>
   if notTup (.agg g_8) = true ∧ (g_8.toList).length = 5 then
   (AHeap.wr H_13 p5 (0) g_8.toList).bind fun H_14 =>
   exB (u_3.toList[1]?) fun b_4 =>
   f3.K1 k n1 a3 l3 c3 p4 p5 b_3 b_4 a14 l14 c14 x15 x16 [(D.getD 0 undef), (D.getD 1 undef), .int .i64 x16, .pointer (some ⟨i, 0, none⟩), .int .i64 ((IntKind.i64.wrap x).tmod (4 : Int)), (D.getD 7 undef), (D.getD 8 undef), (D.getD 9 undef), .bool (decide (x16 < x15)), .int .i64 x16, .pointer (some ⟨q.block, q.off + x16.toNat * 3, none⟩), .agg (g : List Value).toArray, .int .i64 x16, .bool (decide (x16 ≥ (60 : Int))), .pointer (some ⟨i, 0 + (0 : Int).toNat * 1, none⟩), .int .u8 x, .int .i64 (IntKind.i64.wrap x), .int .i64 ((IntKind.i64.wrap x).tmod (4 : Int)), .slice a3 l3 c3, .int .i64 ((IntKind.i64.wrap x).tmod (4 : Int)), .slice a3 l3 c3, .int .i64 ((IntKind.i64.wrap x).tmod (4 : Int)), .pointer (some ⟨q_1.block, q_1.off + ((IntKind.i64.wrap x).tmod (4 : Int)).toNat * 1, none⟩), .slice a l c, .slice a3 l3 c3, .pointer (some ⟨i, 0 + (1 : Int).toNat * 1, none⟩), .int .u8 x_1, .int .i64 (IntKind.i64.wrap x_1), .int .i64 ((IntKind.i64.wrap x_1).tmod (4 : Int)), .pointer (some ⟨q_2.block, q_2.off + ((IntKind.i64.wrap x_1).tmod (4 : Int)).toNat * 1, none⟩), .slice a_1 l_1 c_1, .slice a_2 l_2 c_2, .int .i64 ((IntKind.i64.wrap x).tmod (4 : Int)), .slice a_3 l_3 c_3, .pointer (some ⟨q_3.block, q_3.off + ((IntKind.i64.wrap x).tmod (4 : Int)).toNat * 1, none⟩), .pointer (some ⟨i, 0 + (2 : Int).toNat * 1, none⟩), .int .u8 x_2, .int .u8 (x_2.tmod (3 : Int)), .bool ((x_2.tmod (3 : Int)) == (0 : Int)), (D.getD 41 undef), (D.getD 42 undef), (D.getD 43 undef), (D.getD 44 undef), (D.getD 45 undef), (D.getD 46 undef), (D.getD 47 undef), (D.getD 48 undef), (D.getD 49 undef), (D.getD 50 undef), (D.getD 51 undef), (D.getD 52 undef), (D.getD 53 undef), (D.getD 54 undef), (D.getD 55 undef), (D.getD 56 undef), (D.getD 57 undef), (D.getD 58 undef), (D.getD 59 undef), (D.getD 60 undef), .tuple u_2, .agg (g_5 : List Value).toArray, .slice a3 l3 c3, .int .i64 ((IntKind.i64.wrap x).tmod (4 : Int)), .pointer (some ⟨q_6.block, q_6.off + ((IntKind.i64.wrap x).tmod (4 : Int)).toNat * 1, none⟩), .slice a_6 l_6 c_6, .int .i64 ((IntKind.i64.wrap x).tmod (4 : Int)), .tuple u_2, .agg g_6, .bool b_3, .tuple u_3, .agg (g_7 : List Value).toArray, .slice a3 l3 c3, .int .i64 ((IntKind.i64.wrap x).tmod (4 : Int)), .pointer (some ⟨q_7.block, q_7.off + ((IntKind.i64.wrap x).tmod (4 : Int)).toNat * 1, none⟩), .slice a_7 l_7 c_7, .int .i64 ((IntKind.i64.wrap x).tmod (4 : Int)), .tuple u_3, .agg g_8, .bool b_4, (D.getD 81 undef), (D.getD 82 undef), (D.getD 83 undef), (D.getD 84 undef), (D.getD 85 undef), (D.getD 86 undef), (D.getD 87 undef), (D.getD 88 undef), (D.getD 89 undef), (D.getD 90 undef)] H_14
   else none
   else none
   else none
   else none
   else none
   else none
   else none
   else none
   else none
   else none
   else none
   else none
   else none
   else none
   else none
   else none
   else none
   else none
   else none
   else
   cB (C k 22 [] H) fun b_5 H_15 =>
   some (.bool b_5, H_15)) := by kernel_rfl
theorem f3.K1_eq (k : Nat) (n1 : Nat) (a3 : Option Addr) (l3 : Nat) (c3 : Nat) (p4 : Nat) (p5 : Nat) (b9 : Bool) (b10 : Bool) (a14 : Option Addr) (l14 : Nat) (c14 : Nat) (x15 : Int) (x16 : Int) (D : List Value) (H : AHeap) : f3.K1 k n1 a3 l3 c3 p4 p5 b9 b10 a14 l14 c14 x15 x16 D H =
  (bif (!(b9 == b10)) then
   some (.bool false, H)
   else
   (AHeap.row H p4 (0) 5).bind fun g =>
   (AHeap.row H p5 (0) 5).bind fun g_1 =>
   cB (C k 21 [.agg (g : List Value).toArray, .agg (g_1 : List Value).toArray] H) fun b H_1 =>
   bif (!b) then
   some (.bool false, H_1)
   else
   f3.L1 k n1 a3 l3 c3 p4 p5 a14 l14 c14 x15 (IntKind.i64.wrap (x16 + (1 : Int))) [(D.getD 0 undef), (D.getD 1 undef), (D.getD 2 undef), (D.getD 3 undef), (D.getD 4 undef), .bool b9, .bool b10, (D.getD 5 undef), (D.getD 6 undef), (D.getD 7 undef), (D.getD 8 undef), (D.getD 9 undef), (D.getD 10 undef), (D.getD 11 undef), (D.getD 12 undef), (D.getD 13 undef), (D.getD 14 undef), (D.getD 15 undef), (D.getD 16 undef), (D.getD 17 undef), (D.getD 18 undef), (D.getD 19 undef), (D.getD 20 undef), (D.getD 21 undef), (D.getD 22 undef), (D.getD 23 undef), (D.getD 24 undef), (D.getD 25 undef), (D.getD 26 undef), (D.getD 27 undef), (D.getD 28 undef), (D.getD 29 undef), (D.getD 30 undef), (D.getD 31 undef), (D.getD 32 undef), (D.getD 33 undef), (D.getD 34 undef), (D.getD 35 undef), (D.getD 36 undef), (D.getD 37 undef), (D.getD 38 undef), (D.getD 39 undef), (D.getD 40 undef), (D.getD 41 undef), (D.getD 42 undef), (D.getD 43 undef), (D.getD 44 undef), (D.getD 45 undef), (D.getD 46 undef), (D.getD 47 undef), (D.getD 48 undef), (D.getD 49 undef), (D.getD 50 undef), (D.getD 51 undef), (D.getD 52 undef), (D.getD 53 undef), (D.getD 54 undef), (D.getD 55 undef), (D.getD 56 undef), (D.getD 57 undef), (D.getD 58 undef), (D.getD 59 undef), (D.getD 60 undef), (D.getD 61 undef), (D.getD 62 undef), (D.getD 63 undef), (D.getD 64 undef), (D.getD 65 undef), (D.getD 66 undef), (D.getD 67 undef), (D.getD 68 undef), (D.getD 69 undef), (D.getD 70 undef), (D.getD 71 undef), (D.getD 72 undef), (D.getD 73 undef), (D.getD 74 undef), (D.getD 75 undef), (D.getD 76 undef), (D.getD 77 undef), (D.getD 78 undef), .bool b9, .bool b10, .bool (!(b9 == b10)), .bool false, .agg (g : List Value).toArray, .agg (g_1 : List Value).toArray, .bool b, .bool (!b), .bool (!b), .int .i64 (IntKind.i64.wrap (x16 + (1 : Int)))] H_1) := by
  unfold f3.K1
  rw [gateC_eq]
  kernel_rfl
theorem f3_eq (k : Nat) (a0 : Option Addr) (l0 : Nat) (c0 : Nat) (H : AHeap) : C (k + 1) 3 [.slice a0 l0 c0] H =
  (if (4 : Int) = (4 : Int) then 
    if 0 ≤ (4 : Int) ∧ (4 : Int) * ((24 : Nat) : Int) ≤ 70368744177664 ∧ (4 : Int) ≤ 70368744177664 then
   alK none H ⟨rep [.slice none 0 0] (4 : Int).toNat, 1, .rw, 0⟩ fun i H_1 =>
   alK none H_1 ⟨[.int .i64 0, .int .i64 0, .int .i64 0, .int .i64 0, .slice none 0 0], 0, .rw, 0⟩ fun i_1 H_2 =>
   alK none H_2 ⟨[.int .i64 0, .int .i64 0, .int .i64 0, .int .i64 0, .slice none 0 0], 0, .rw, 0⟩ fun i_2 H_3 =>
   (AHeap.wr H_3 i_1 (0) [.int .i64 0, .int .i64 0, .int .i64 0, .int .i64 0, .slice none 0 0]).bind fun H_4 =>
   (AHeap.wr H_4 i_2 (0) [.int .i64 0, .int .i64 0, .int .i64 0, .int .i64 0, .slice none 0 0]).bind fun H_5 =>
   f3.L1 k k (some ⟨i, 0, none⟩) ((4 : Int).toNat) ((4 : Int).toNat) i_1 i_2 a0 l0 c0 (l0 : Int) 0 [.slice a0 l0 c0, .bool false, undef, undef, undef, undef, undef, .slice (some ⟨i, 0, none⟩) ((4 : Int).toNat) ((4 : Int).toNat), .agg #[.int .i64 0, .int .i64 0, .int .i64 0, .int .i64 0, .slice none 0 0], .agg #[.int .i64 0, .int .i64 0, .int .i64 0, .int .i64 0, .slice none 0 0], undef, undef, undef, undef, undef, undef, undef, undef, undef, undef, undef, undef, undef, undef, undef, undef, undef, undef, undef, undef, undef, undef, undef, undef, undef, undef, undef, undef, undef, undef, undef, undef, undef, undef, undef, undef, undef, undef, undef, undef, undef, undef, undef, undef, undef, undef, undef, undef, undef, undef, undef, undef, undef, undef, undef, undef, undef, undef, undef, undef, undef, undef, undef, undef, undef, undef, undef, undef, undef, undef, undef, undef, undef, undef, undef, undef, undef, undef, undef, undef, undef] H_5
    else none
   else none) := by kernel_rfl

/- f4 "interleave/interleavelaw24.EpochCompact"  names:  -/
noncomputable def f4.Q0 (k : Nat)  : Kont (Value × AHeap) := retQ Try.prog Try.f4
noncomputable def f4.Q1 (k : Nat)  : Kont (Value × AHeap) := seqQ (gateC (Sub (bodyOf Try.f4) [1, 1, 1, 1, 0]) (Sub (bodyOf Try.f4) [1, 1, 1, 1, 1]) k (run Try.prog (C k) k (Sub (bodyOf Try.f4) [1, 1, 1, 1, 1]) (f4.Q0 k ))) (f4.Q0 k )
noncomputable def f4.Q2 (k : Nat)  : Kont (Value × AHeap) := blkQ 0 (f4.Q1 k )
noncomputable def f4.Q3 (k : Nat) (n1 : Nat) : Kont (Value × AHeap) := seqQ (iter (run Try.prog (C k) k (Sub (bodyOf Try.f4) [1, 1, 1, 1, 0, 1, 0, 0])) (f4.Q2 k ) n1) (f4.Q2 k )
noncomputable def f4.Q4 (k : Nat) (n1 : Nat) : Kont (Value × AHeap) := seqQ (gateC (Sub (bodyOf Try.f4) [1, 1, 1, 1, 0, 1, 0, 0, 1, 1, 0]) (Sub (bodyOf Try.f4) [1, 1, 1, 1, 0, 1, 0, 0, 1, 1, 1]) k (run Try.prog (C k) k (Sub (bodyOf Try.f4) [1, 1, 1, 1, 0, 1, 0, 0, 1, 1, 1]) (f4.Q3 k n1))) (f4.Q3 k n1)
noncomputable def f4.Q5 (k : Nat) (n1 : Nat) : Kont (Value × AHeap) := blkQ 1 (f4.Q4 k n1)
noncomputable def f4.L1 (k : Nat) (n1 : Nat) (x1 : Int) (p5 : Nat) (x7 : Int) (a17 : Option Addr) (l17 : Nat) (c17 : Nat) (x18 : Int) (x19 : Int) (D : List Value) (H : AHeap) : Option (Value × AHeap) :=
  iter (run Try.prog (C k) k (Sub (bodyOf Try.f4) [1, 1, 1, 1, 0, 1, 0, 0])) (f4.Q2 k ) n1 [(D.getD 0 undef), .int .i64 x1, undef, undef, (D.getD 1 undef), .pointer (some ⟨p5, 0, none⟩), (D.getD 2 undef), .int .i64 x7, (D.getD 3 undef), (D.getD 4 undef), (D.getD 5 undef), (D.getD 6 undef), (D.getD 7 undef), (D.getD 8 undef), (D.getD 9 undef), (D.getD 10 undef), (D.getD 11 undef), .slice a17 l17 c17, .int .i64 x18, .int .i64 x19, (D.getD 12 undef), (D.getD 13 undef), (D.getD 14 undef), (D.getD 15 undef), (D.getD 16 undef), (D.getD 17 undef), (D.getD 18 undef), (D.getD 19 undef), (D.getD 20 undef), (D.getD 21 undef), (D.getD 22 undef), (D.getD 23 undef), (D.getD 24 undef), (D.getD 25 undef), (D.getD 26 undef), (D.getD 27 undef), (D.getD 28 undef), (D.getD 29 undef), (D.getD 30 undef), (D.getD 31 undef), (D.getD 32 undef), (D.getD 33 undef), (D.getD 34 undef), (D.getD 35 undef), (D.getD 36 undef), (D.getD 37 undef), (D.getD 38 undef), (D.getD 39 undef), (D.getD 40 undef), (D.getD 41 undef), (D.getD 42 undef), (D.getD 43 undef), (D.getD 44 undef), (D.getD 45 undef), (D.getD 46 undef), (D.getD 47 undef), (D.getD 48 undef), (D.getD 49 undef), (D.getD 50 undef), (D.getD 51 undef), (D.getD 52 undef), (D.getD 53 undef), (D.getD 54 undef), (D.getD 55 undef), (D.getD 56 undef), (D.getD 57 undef), (D.getD 58 undef), (D.getD 59 undef), (D.getD 60 undef), (D.getD 61 undef), (D.getD 62 undef), (D.getD 63 undef), (D.getD 64 undef), (D.getD 65 undef), (D.getD 66 undef), undef] H
noncomputable def f4.K1 (k : Nat) (n1 : Nat) (x1 : Int) (p5 : Nat) (x6 : Int) (x7 : Int) (b11 : Bool) (a17 : Option Addr) (l17 : Nat) (c17 : Nat) (x18 : Int) (x19 : Int) (D : List Value) (H : AHeap) : Option (Value × AHeap) :=
  gateC (Sub (bodyOf Try.f4) [1, 1, 1, 1, 0, 1, 0, 0, 1, 1, 0, 0, 1, 1, 1, 1, 1, 0]) (Sub (bodyOf Try.f4) [1, 1, 1, 1, 0, 1, 0, 0, 1, 1, 0, 0, 1, 1, 1, 1, 1, 1]) k (run Try.prog (C k) k (Sub (bodyOf Try.f4) [1, 1, 1, 1, 0, 1, 0, 0, 1, 1, 0, 0, 1, 1, 1, 1, 1, 1]) (f4.Q5 k n1)) [(D.getD 0 undef), .int .i64 x1, undef, undef, (D.getD 1 undef), .pointer (some ⟨p5, 0, none⟩), .int .i64 x6, .int .i64 x7, (D.getD 2 undef), (D.getD 3 undef), (D.getD 4 undef), .bool b11, (D.getD 5 undef), (D.getD 6 undef), (D.getD 7 undef), (D.getD 8 undef), (D.getD 9 undef), .slice a17 l17 c17, .int .i64 x18, .int .i64 x19, (D.getD 10 undef), (D.getD 11 undef), (D.getD 12 undef), (D.getD 13 undef), (D.getD 14 undef), (D.getD 15 undef), (D.getD 16 undef), (D.getD 17 undef), (D.getD 18 undef), (D.getD 19 undef), (D.getD 20 undef), (D.getD 21 undef), (D.getD 22 undef), (D.getD 23 undef), (D.getD 24 undef), (D.getD 25 undef), (D.getD 26 undef), (D.getD 27 undef), (D.getD 28 undef), (D.getD 29 undef), (D.getD 30 undef), (D.getD 31 undef), (D.getD 32 undef), (D.getD 33 undef), (D.getD 34 undef), (D.getD 35 undef), (D.getD 36 undef), (D.getD 37 undef), (D.getD 38 undef), (D.getD 39 undef), (D.getD 40 undef), (D.getD 41 undef), (D.getD 42 undef), (D.getD 43 undef), (D.getD 44 undef), (D.getD 45 undef), (D.getD 46 undef), (D.getD 47 undef), (D.getD 48 undef), (D.getD 49 undef), (D.getD 50 undef), (D.getD 51 undef), (D.getD 52 undef), (D.getD 53 undef), (D.getD 54 undef), (D.getD 55 undef), (D.getD 56 undef), (D.getD 57 undef), (D.getD 58 undef), (D.getD 59 undef), (D.getD 60 undef), (D.getD 61 undef), (D.getD 62 undef), (D.getD 63 undef), (D.getD 64 undef), undef] H
theorem f4.L1_z (k : Nat)  (x1 : Int) (p5 : Nat) (x7 : Int) (a17 : Option Addr) (l17 : Nat) (c17 : Nat) (x18 : Int) (x19 : Int) (D : List Value) (H : AHeap) : f4.L1 k 0 x1 p5 x7 a17 l17 c17 x18 x19 D H = none := by kernel_rfl
theorem f4.L1_s (k : Nat) (n1 : Nat) (x1 : Int) (p5 : Nat) (x7 : Int) (a17 : Option Addr) (l17 : Nat) (c17 : Nat) (x18 : Int) (x19 : Int) (D : List Value) (H : AHeap) : f4.L1 k (n1 + 1) x1 p5 x7 a17 l17 c17 x18 x19 D H =
  (bif (decide (x19 < x18)) then
   a17.bind fun q =>
   if 0 ≤ x19 ∧ x19 < (l17 : Int) then
   (ldB H q.block (q.off + x19.toNat * 1)).bind fun b =>
   bif (decide (x19 ≥ (60 : Int))) then
   cB (C k 22 [] H) fun b_1 H_1 =>
   some (.bool b_1, H_1)
   else
   if (IntKind.i64.wrap (x1 + (1 : Int))) = (IntKind.i64.wrap (x1 + (1 : Int))) then 
    if 0 ≤ (IntKind.i64.wrap (x1 + (1 : Int))) ∧ (IntKind.i64.wrap (x1 + (1 : Int))) * ((8 : Nat) : Int) ≤ 70368744177664 ∧ (IntKind.i64.wrap (x1 + (1 : Int))) ≤ 70368744177664 then
   alK none H ⟨rep [.int .i64 0] (IntKind.i64.wrap (x1 + (1 : Int))).toNat, 1, .rw, 0⟩ fun i H_2 =>
   if 0 ≤ x1 ∧ x1 < (((IntKind.i64.wrap (x1 + (1 : Int))).toNat) : Int) then
   (AHeap.wr H_2 i (0 + x1.toNat * 1) [.int .i64 (IntKind.i64.wrap (x19 + (1 : Int)))]).bind fun H_3 =>
   bif b then
   (AHeap.row H_3 p5 (0) 5).bind fun g =>
   cT (C k 17 [.agg (g : List Value).toArray, .slice (some ⟨i, 0, none⟩) ((IntKind.i64.wrap (x1 + (1 : Int))).toNat) ((IntKind.i64.wrap (x1 + (1 : Int))).toNat), .int .i64 x1] H_3) fun u H_4 =>
   exG (u.toList[0]?) fun g_1 =>
   exB (u.toList[1]?) fun b_2 =>
   if notTup (.agg g_1) = true ∧ (g_1.toList).length = 5 then
   (AHeap.wr H_4 p5 (0) g_1.toList).bind fun H_5 =>
   f4.K1 k n1 x1 p5 0 (IntKind.i64.wrap (x19 + (1 : Int))) b_2 a17 l17 c17 x18 x19 [(D.getD 0 undef), (D.getD 1 undef), .int .i64 x19, .bool b, .slice (some ⟨i, 0, none⟩) ((IntKind.i64.wrap (x1 + (1 : Int))).toNat) ((IntKind.i64.wrap (x1 + (1 : Int))).toNat), (D.getD 7 undef), (D.getD 8 undef), (D.getD 9 undef), (D.getD 10 undef), (D.getD 11 undef), .bool (decide (x19 < x18)), .int .i64 x19, .pointer (some ⟨q.block, q.off + x19.toNat * 1, none⟩), .bool b, .int .i64 x19, .bool (decide (x19 ≥ (60 : Int))), .int .i64 x1, .int .i64 (IntKind.i64.wrap (x1 + (1 : Int))), .slice (some ⟨i, 0, none⟩) ((IntKind.i64.wrap (x1 + (1 : Int))).toNat) ((IntKind.i64.wrap (x1 + (1 : Int))).toNat), .slice (some ⟨i, 0, none⟩) ((IntKind.i64.wrap (x1 + (1 : Int))).toNat) ((IntKind.i64.wrap (x1 + (1 : Int))).toNat), .int .i64 x1, .int .i64 x19, .int .i64 (IntKind.i64.wrap (x19 + (1 : Int))), .pointer (some ⟨i, 0 + x1.toNat * 1, none⟩), .bool b, .tuple u, .agg (g : List Value).toArray, .slice (some ⟨i, 0, none⟩) ((IntKind.i64.wrap (x1 + (1 : Int))).toNat) ((IntKind.i64.wrap (x1 + (1 : Int))).toNat), .int .i64 x1, .tuple u, .agg g_1, .bool b_2, .int .i64 x19, .int .i64 (IntKind.i64.wrap (x19 + (1 : Int))), (D.getD 36 undef), (D.getD 37 undef), (D.getD 38 undef), (D.getD 39 undef), (D.getD 40 undef), (D.getD 41 undef), (D.getD 42 undef), (D.getD 43 undef), (D.getD 44 undef), (D.getD 45 undef), (D.getD 46 undef), (D.getD 47 undef), (D.getD 48 undef), (D.getD 49 undef), (D.getD 50 undef), (D.getD 51 undef), (D.getD 52 undef), (D.getD 53 undef), (D.getD 54 undef), (D.getD 55 undef), (D.getD 56 undef), (D.getD 57 undef), (D.getD 58 undef), (D.getD 59 undef), (D.getD 60 undef), (D.getD 61 undef), (D.getD 62 undef), (D.getD 63 undef), (D.getD 64 undef), (D.getD 65 undef), (D.getD 66 undef)] H_5
   else none
   else
   (AHeap.row H_3 p5 (0) 5).bind fun g_2 =>
   cT (C k 19 [.agg (g_2 : List Value).toArray, .slice (some ⟨i, 0, none⟩) ((IntKind.i64.wrap (x1 + (1 : Int))).toNat) ((IntKind.i64.wrap (x1 + (1 : Int))).toNat), .int .i64 x1] H_3) fun u_1 H_6 =>
   exG (u_1.toList[0]?) fun g_3 =>
   exB (u_1.toList[1]?) fun b_3 =>
   if notTup (.agg g_3) = true ∧ (g_3.toList).length = 5 then
   (AHeap.wr H_6 p5 (0) g_3.toList).bind fun H_7 =>
   f4.K1 k n1 x1 p5 (IntKind.i64.wrap (x19 + (1 : Int))) x7 b_3 a17 l17 c17 x18 x19 [(D.getD 0 undef), (D.getD 1 undef), .int .i64 x19, .bool b, .slice (some ⟨i, 0, none⟩) ((IntKind.i64.wrap (x1 + (1 : Int))).toNat) ((IntKind.i64.wrap (x1 + (1 : Int))).toNat), (D.getD 7 undef), (D.getD 8 undef), (D.getD 9 undef), (D.getD 10 undef), (D.getD 11 undef), .bool (decide (x19 < x18)), .int .i64 x19, .pointer (some ⟨q.block, q.off + x19.toNat * 1, none⟩), .bool b, .int .i64 x19, .bool (decide (x19 ≥ (60 : Int))), .int .i64 x1, .int .i64 (IntKind.i64.wrap (x1 + (1 : Int))), .slice (some ⟨i, 0, none⟩) ((IntKind.i64.wrap (x1 + (1 : Int))).toNat) ((IntKind.i64.wrap (x1 + (1 : Int))).toNat), .slice (some ⟨i, 0, none⟩) ((IntKind.i64.wrap (x1 + (1 : Int))).toNat) ((IntKind.i64.wrap (x1 + (1 : Int))).toNat), .int .i64 x1, .int .i64 x19, .int .i64 (IntKind.i64.wrap (x19 + (1 : Int))), .pointer (some ⟨i, 0 + x1.toNat * 1, none⟩), .bool b, (D.getD 27 undef), (D.getD 28 undef), (D.getD 29 undef), (D.getD 30 undef), (D.getD 31 undef), (D.getD 32 undef), (D.getD 33 undef), (D.getD 34 undef), (D.getD 35 undef), .tuple u_1, .agg (g_2 : List Value).toArray, .slice (some ⟨i, 0, none⟩) ((IntKind.i64.wrap (x1 + (1 : Int))).toNat) ((IntKind.i64.wrap (x1 + (1 : Int))).toNat), .int .i64 x1, .tuple u_1, .agg g_3, .bool b_3, .int .i64 x19, .int .i64 (IntKind.i64.wrap (x19 + (1 : Int))), (D.getD 45 undef), (D.getD 46 undef), (D.getD 47 undef), (D.getD 48 undef), (D.getD 49 undef), (D.getD 50 undef), (D.getD 51 undef), (D.getD 52 undef), (D.getD 53 undef), (D.getD 54 undef), (D.getD 55 undef), (D.getD 56 undef), (D.getD 57 undef), (D.getD 58 undef), (D.getD 59 undef), (D.getD 60 undef), (D.getD 61 undef), (D.getD 62 undef), (D.getD 63 undef), (D.getD 64 undef), (D.getD 65 undef), (D.getD 66 undef)] H_7
   else none
   else none
    else none
   else none
   else none
   else
   cB (C k 22 [] H) fun b_4 H_8 =>
   some (.bool b_4, H_8)) := by kernel_rfl
theorem f4.K1_eq (k : Nat) (n1 : Nat) (x1 : Int) (p5 : Nat) (x6 : Int) (x7 : Int) (b11 : Bool) (a17 : Option Addr) (l17 : Nat) (c17 : Nat) (x18 : Int) (x19 : Int) (D : List Value) (H : AHeap) : f4.K1 k n1 x1 p5 x6 x7 b11 a17 l17 c17 x18 x19 D H =
  (bif b11 then
   some (.bool false, H)
   else
   bSl (ldSl H p5 (4)) fun a l c =>
   bif (decide ((l : Int) > (0 : Int))) then
   some (.bool false, H)
   else
   (ldI .i64 H p5 (0)).bind fun x =>
   bif (x != x7) then
   some (.bool false, H)
   else
   (ldI .i64 H p5 (2)).bind fun x_1 =>
   bif (x_1 != x6) then
   some (.bool false, H)
   else
   f4.L1 k n1 x1 p5 x7 a17 l17 c17 x18 (IntKind.i64.wrap (x19 + (1 : Int))) [(D.getD 0 undef), (D.getD 1 undef), .int .i64 x6, (D.getD 2 undef), (D.getD 3 undef), (D.getD 4 undef), .bool b11, (D.getD 5 undef), (D.getD 6 undef), (D.getD 7 undef), (D.getD 8 undef), (D.getD 9 undef), (D.getD 10 undef), (D.getD 11 undef), (D.getD 12 undef), (D.getD 13 undef), (D.getD 14 undef), (D.getD 15 undef), (D.getD 16 undef), (D.getD 17 undef), (D.getD 18 undef), (D.getD 19 undef), (D.getD 20 undef), (D.getD 21 undef), (D.getD 22 undef), (D.getD 23 undef), (D.getD 24 undef), (D.getD 25 undef), (D.getD 26 undef), (D.getD 27 undef), (D.getD 28 undef), (D.getD 29 undef), (D.getD 30 undef), (D.getD 31 undef), (D.getD 32 undef), (D.getD 33 undef), (D.getD 34 undef), (D.getD 35 undef), (D.getD 36 undef), (D.getD 37 undef), (D.getD 38 undef), (D.getD 39 undef), (D.getD 40 undef), (D.getD 41 undef), (D.getD 42 undef), .bool b11, .bool false, .pointer (some ⟨p5, 4, none⟩), .slice a l c, .int .i64 (l : Int), .bool (decide ((l : Int) > (0 : Int))), .bool (decide ((l : Int) > (0 : Int))), .bool false, .pointer (some ⟨p5, 0, none⟩), .pointer (some ⟨p5, 0, none⟩), .int .i64 x, .int .i64 x7, .bool (x != x7), .bool (x != x7), .bool false, .pointer (some ⟨p5, 2, none⟩), .pointer (some ⟨p5, 2, none⟩), .int .i64 x_1, .int .i64 x6, .bool (x_1 != x6), .bool (x_1 != x6), .int .i64 (IntKind.i64.wrap (x19 + (1 : Int)))] H) := by
  unfold f4.K1
  rw [gateC_eq]
  kernel_rfl
theorem f4_eq (k : Nat) (a0 : Option Addr) (l0 : Nat) (c0 : Nat) (x1 : Int) (H : AHeap) : C (k + 1) 4 [.slice a0 l0 c0, .int .i64 x1] H =
  (alK none H ⟨[.int .i64 0, .int .i64 0, .int .i64 0, .int .i64 0, .slice none 0 0], 0, .rw, 0⟩ fun i H_1 =>
   (AHeap.wr H_1 i (0) [.int .i64 0, .int .i64 0, .int .i64 0, .int .i64 0, .slice none 0 0]).bind fun H_2 =>
   f4.L1 k k (IntKind.i64.wrap ((IntKind.u64.wrap x1).tmod (4 : Int))) i 0 a0 l0 c0 (l0 : Int) 0 [.slice a0 l0 c0, .bool false, .int .i64 0, undef, undef, undef, undef, .int .i64 x1, .int .u64 (IntKind.u64.wrap x1), .int .u64 ((IntKind.u64.wrap x1).tmod (4 : Int)), .int .i64 (IntKind.i64.wrap ((IntKind.u64.wrap x1).tmod (4 : Int))), .agg #[.int .i64 0, .int .i64 0, .int .i64 0, .int .i64 0, .slice none 0 0], undef, undef, undef, undef, undef, undef, undef, undef, undef, undef, undef, undef, undef, undef, undef, undef, undef, undef, undef, undef, undef, undef, undef, undef, undef, undef, undef, undef, undef, undef, undef, undef, undef, undef, undef, undef, undef, undef, undef, undef, undef, undef, undef, undef, undef, undef, undef, undef, undef, undef, undef, undef, undef, undef, undef] H_2) := by kernel_rfl

end Go.Proofs.MxF
end

section
set_option linter.unusedSimpArgs false
/- Clocks: what the small functions of epoch and of its reference come to. -/
set_option linter.unusedVariables false
namespace Go.Proofs.MxF
open Go Go.Mx Go.Proofs

def atI (xs : List Int) (t : Int) : Int := if t < 0 then 0 else xs.getD t.toNat 0
theorem atI_nat (xs : List Int) (i : Nat) : atI xs (i : Int) = xs.getD i 0 := by
  unfold atI
  rw [if_neg (by omega)]
  rfl

theorem wrap_id {n : Int} (h : 0 ≤ n) (h' : n ≤ 4611686018427387904) : IntKind.i64.wrap n = n := IntWalk.i64_in n (by omega)

theorem at_text {H : AHeap} {a : Option Addr} {l c : Nat} {xs : List Int} (h : Ints H a l xs) (t : Int) :
    (bif (decide (t < (0 : Int))) then
   some ((.int .i64 0 : Value), H)
   else
   bif (decide (t ≥ (l : Int))) then
   some (.int .i64 0, H)
   else
   a.bind fun q =>
   if 0 ≤ t ∧ t < (l : Int) then
   (ldI .i64 H q.block (q.off + t.toNat * 1)).bind fun x =>
   some (.int .i64 x, H)
   else none) = some (.int .i64 (atI xs t), H) := by
  have hl := h.len
  unfold atI
  by_cases h0 : t < 0
  · simp [h0]
  · by_cases h1 : t ≥ (l : Int)
    · have : xs.getD t.toNat 0 = 0 := by
        rw [List.getD_eq_getElem?_getD, List.getElem?_eq_none (by omega)]; rfl
      simp only [h0, h1, decide_false, decide_true, cond_false, cond_true, if_false, this]
    · have hlt : t.toNat < xs.length := by omega
      obtain ⟨q, e, hq⟩ := h.ld (List.getElem?_eq_getElem hlt)
      subst e
      have h2 : 0 ≤ t ∧ t < (l : Int) := by omega
      have hd : xs.getD t.toNat 0 = xs[t.toNat] := by simp [List.getD_eq_getElem?_getD, List.getElem?_eq_getElem hlt]
      simp only [h0, decide_false, cond_false, h1, Option.bind_some, h2, if_false, Nat.mul_one, and_self, if_true, hq, hd]

theorem f46_spec {k : Nat} (hk : 1 ≤ k) {H : AHeap} {a : Option Addr} {l c : Nat} {xs : List Int} (h : Ints H a l xs) (t : Int) : C k 46 [.slice a l c, .int .i64 t] H = some (.int .i64 (atI xs t), H) := by
  obtain ⟨k, rfl⟩ : ∃ j, k = j + 1 := ⟨k - 1, by omega⟩
  rw [f46_eq]
  exact at_text (c := c) h t
theorem f49_spec {k : Nat} (hk : 1 ≤ k) {H : AHeap} {a : Option Addr} {l c : Nat} {xs : List Int} (h : Ints H a l xs) (t : Int) : C k 49 [.slice a l c, .int .i64 t] H = some (.int .i64 (atI xs t), H) := by
  obtain ⟨k, rfl⟩ : ∃ j, k = j + 1 := ⟨k - 1, by omega⟩
  rw [f49_eq]
  exact at_text (c := c) h t

/-- a clock covers an epoch -/
def covers (xs : List Int) (time thread : Int) : Bool := decide (time ≤ atI xs thread)

theorem covers_text {k f : Nat} (hf : ∀ {H : AHeap} {a : Option Addr} {l c : Nat} {xs : List Int}, Ints H a l xs → ∀ t, C k f [.slice a l c, .int .i64 t] H = some (.int .i64 (atI xs t), H))
    {H : AHeap} {a : Option Addr} {l c : Nat} {xs : List Int} (h : Ints H a l xs) (x t : Int) :
    Ok (alK none H ⟨[.int .i64 x, .int .i64 t], 0, .rw, 0⟩ fun i H_1 =>
   bif sameB H_1 (H_1.bump 8) i then
   (ldI .i64 (H_1.bump 8) i (1)).bind fun x =>
   cI .i64 (C k f [.slice a l c, .int .i64 x] (H_1.bump 8)) fun x_1 H_2 =>
   bif sameB H_1 H_2 i then
   (ldI .i64 H_2 i (0)).bind fun x_2 =>
   some ((.bool (decide (x_2 ≤ x_1)) : Value), H_2)
   else none
   else none) (fun r => r.1 = .bool (covers xs x t) ∧ Agree H r.2) := by
  refine ok_al fun i H1 hi _ A1 B1 => ?_
  refine ok_bift (sameB_agree B1 (agree_bump _ _)) ?_
  refine ok_bind (ldI_at (B1.agree (agree_bump _ _)) (by simp) rfl) ?_
  refine ok_cI0 (hf ((h.agree A1).agree (agree_bump _ _)) _) ?_
  refine ok_bift (sameB_agree B1 (agree_bump _ _)) ?_
  refine ok_bind (ldI_at (B1.agree (agree_bump _ _)) (by simp) rfl) ?_
  exact Ok.ret ⟨rfl, A1.trans (agree_bump _ _)⟩

theorem f47_spec {k : Nat} (hk : 2 ≤ k) {H : AHeap} {a : Option Addr} {l c : Nat} {xs : List Int} (h : Ints H a l xs) (x t : Int) :
    ∃ H', C k 47 [.slice a l c, .agg #[.int .i64 x, .int .i64 t]] H = some (.bool (covers xs x t), H') ∧ Agree H H' := by
  obtain ⟨k, rfl⟩ : ∃ j, k = j + 1 := ⟨k - 1, by omega⟩
  rw [f47_eq]
  exact call_of_ok (covers_text (fun h t => f49_spec (by omega) h t) h x t)
theorem f50_spec {k : Nat} (hk : 2 ≤ k) {H : AHeap} {a : Option Addr} {l c : Nat} {xs : List Int} (h : Ints H a l xs) (x t : Int) :
    ∃ H', C k 50 [.slice a l c, .agg #[.int .i64 x, .int .i64 t]] H = some (.bool (covers xs x t), H') ∧ Agree H H' := by
  obtain ⟨k, rfl⟩ : ∃ j, k = j + 1 := ⟨k - 1, by omega⟩
  rw [f50_eq]
  exact call_of_ok (covers_text (fun h t => f46_spec (by omega) h t) h x t)

/-- no entry is greater, from i on, m of them -/
def leqFrom (xs ys : List Int) : Nat → Nat → Bool
  | _, 0 => true
  | i, m + 1 => bif decide (atI xs (i : Int) > atI ys (i : Int)) then false else leqFrom xs ys (i + 1) m
def leq (xs ys : List Int) : Bool := leqFrom xs ys 0 (max xs.length ys.length)

theorem max_if (a b : Nat) : (if (b : Int) > (a : Int) then (b : Int) else (a : Int)) = ((max a b : Nat) : Int) := by
  split <;> omega

theorem f48_loop {k : Nat} (hk : 1 ≤ k) {H : AHeap} {a a' : Option Addr} {l c l' c' : Nat} {xs ys : List Int} (h : Ints H a l xs) (h' : Ints H a' l' ys) (hN : max l l' ≤ 1000000) :
    ∀ (m i n : Nat) (D : List Value), i + m = max l l' → m < n → f48.L1 k n a l c a' l' c' ((max l l' : Nat) : Int) (i : Int) D H = some (.bool (leqFrom xs ys i m), H) := by
  intro m
  induction m with
  | zero =>
    intro i n D hi hn
    obtain ⟨n, rfl⟩ : ∃ j, n = j + 1 := ⟨n - 1, by omega⟩
    rw [f48.L1_s]
    have : ¬ ((i : Int) < ((max l l' : Nat) : Int)) := by omega
    simp only [this, decide_false, cond_false, leqFrom]
  | succ m ih =>
    intro i n D hi hn
    obtain ⟨n, rfl⟩ : ∃ j, n = j + 1 := ⟨n - 1, by omega⟩
    rw [f48.L1_s]
    have hlt : (i : Int) < ((max l l' : Nat) : Int) := by omega
    refine eq_of_ok (ok_bift (by simp only [hlt, decide_true]) ?_)
    refine ok_cI0 (f49_spec hk h _) (ok_cI0 (f49_spec hk h' _) ?_)
    unfold leqFrom
    refine ok_bif (fun hc => ?_) (fun hc => ?_)
    · rw [hc]
      exact Ok.ret rfl
    · rw [hc, wrap_id (by omega) (by omega), show ((i : Int) + 1) = ((i + 1 : Nat) : Int) from rfl]
      exact Ok.of_eq (ih (i + 1) n _ (by omega) (by omega))
theorem f48_spec {k : Nat} {H : AHeap} {a a' : Option Addr} {l c l' c' : Nat} {xs ys : List Int} (h : Ints H a l xs) (h' : Ints H a' l' ys) (hN : max l l' ≤ 1000000) (hk : max l l' + 2 ≤ k) :
    C k 48 [.slice a l c, .slice a' l' c'] H = some (.bool (leq xs ys), H) := by
  obtain ⟨k, rfl⟩ : ∃ j, k = j + 1 := ⟨k - 1, by omega⟩
  rw [f48_eq]
  rw [max_if]
  refine (f48_loop (by omega) h h' hN (max l l') 0 k _ (by omega) (by omega)).trans ?_
  unfold leq
  rw [← h.len, ← h'.len]

theorem f51_loop {k : Nat} (hk : 1 ≤ k) {H : AHeap} {a a' : Option Addr} {l c l' c' : Nat} {xs ys : List Int} (h : Ints H a l xs) (h' : Ints H a' l' ys) (hN : max l l' ≤ 1000000) :
    ∀ (m i n : Nat) (D : List Value), i + m = max l l' → m < n → f51.L1 k n a l c a' l' c' (i : Int) D H = some (.bool (leqFrom xs ys i m), H) := by
  intro m
  induction m with
  | zero =>
    intro i n D hi hn
    obtain ⟨n, rfl⟩ : ∃ j, n = j + 1 := ⟨n - 1, by omega⟩
    rw [f51.L1_s]
    have : ¬ ((i : Int) < ((max l l' : Nat) : Int)) := by omega
    simp only [max_if, this, decide_false, cond_false, leqFrom]
  | succ m ih =>
    intro i n D hi hn
    obtain ⟨n, rfl⟩ : ∃ j, n = j + 1 := ⟨n - 1, by omega⟩
    rw [f51.L1_s]
    have hlt : (i : Int) < ((max l l' : Nat) : Int) := by omega
    refine eq_of_ok (ok_bift (by rw [max_if]; simp only [hlt, decide_true]) ?_)
    refine ok_cI0 (f46_spec hk h _) (ok_cI0 (f46_spec hk h' _) ?_)
    unfold leqFrom
    refine ok_bif (fun hc => ?_) (fun hc => ?_)
    · rw [hc]
      exact Ok.ret rfl
    · rw [hc, wrap_id (by omega) (by omega), show ((i : Int) + 1) = ((i + 1 : Nat) : Int) from rfl]
      exact Ok.of_eq (ih (i + 1) n _ (by omega) (by omega))
theorem f51_spec {k : Nat} {H : AHeap} {a a' : Option Addr} {l c l' c' : Nat} {xs ys : List Int} (h : Ints H a l xs) (h' : Ints H a' l' ys) (hN : max l l' ≤ 1000000) (hk : max l l' + 2 ≤ k) :
    C k 51 [.slice a l c, .slice a' l' c'] H = some (.bool (leq xs ys), H) := by
  obtain ⟨k, rfl⟩ : ∃ j, k = j + 1 := ⟨k - 1, by omega⟩
  rw [f51_eq]
  refine (f51_loop (by omega) h h' hN (max l l') 0 k _ (by omega) (by omega)).trans ?_
  unfold leq
  rw [← h.len, ← h'.len]


def same (xs ys : List Int) : Bool := leq xs ys && leq ys xs
theorem f54_spec {k : Nat} {H : AHeap} {a a' : Option Addr} {l c l' c' : Nat} {xs ys : List Int} (h : Ints H a l xs) (h' : Ints H a' l' ys) (hN : max l l' ≤ 1000000) (hk : max l l' + 3 ≤ k) :
    C k 54 [.slice a l c, .slice a' l' c'] H = some (.bool (same xs ys), H) := by
  obtain ⟨k, rfl⟩ : ∃ j, k = j + 1 := ⟨k - 1, by omega⟩
  rw [f54_eq]
  refine eq_of_ok (ok_cB0 (f51_spec h h' hN (by omega)) ?_)
  unfold same
  refine ok_bif (fun hc => ?_) (fun hc => ?_)
  · rw [hc]
    exact ok_cB0 (f51_spec h' h (by omega) (by omega)) (Ok.ret rfl)
  · rw [hc]
    exact Ok.ret rfl
end Go.Proofs.MxF
end

section
set_option linter.unusedSimpArgs false
/- Lists of epoch that are written. -/
set_option linter.unusedVariables false
namespace Go.Proofs.MxF
open Go Go.Mx Go.Proofs

theorem app26 (H : AHeap) (a a' : Option Addr) (l c l' c' : Nat) : apndV Try.prog [26, 26] H (.slice a l c) (.slice a' l' c') = (firstC H 1 l' (.slice a' l' c')).bind fun news => apndS 1 8 H a l c news l' := by kernel_rfl

theorem f45_spec {k : Nat} (hk : 1 ≤ k) {H : AHeap} {a : Option Addr} {l c : Nat} {xs : List Int} (h : Ints H a l xs) (hl : l ≤ 1000000) :
    ∃ a' l' c' H', C k 45 [.slice a l c] H = some (.slice a' l' c', H') ∧ (l' = l ∧ Own H.next 1 H' a' l' c' (ints xs) ∧ Agree H H') := by
  obtain ⟨k, rfl⟩ : ∃ j, k = j + 1 := ⟨k - 1, by omega⟩
  rw [f45_eq]
  refine callsl_of_ok (ok_cSl (app_own (by decide) (app26 _ _ _ _ _ _ _) (Own.nil H.next 1 H) (cs' := ints xs) (by rw [Nat.mul_one]; exact h) (Nat.le_refl _) (by omega) (by omega)) fun a2 l2 c2 H2 hp => ?_)
  obtain ⟨h1, h2, h3, _⟩ := hp
  exact Ok.ret ⟨a2, l2, c2, rfl, by omega, h2, h3.none⟩

/-- entry t of a list that grows as far -/
def putI (xs : List Int) (t : Nat) (v : Int) : List Int := (xs ++ List.replicate (t + 1 - xs.length) 0).set t v
theorem putI_grow (xs : List Int) (t : Nat) (v : Int) (h : xs.length ≤ t) : putI (xs ++ [0]) t v = putI xs t v := by
  unfold putI
  have : t + 1 - xs.length = (t + 1 - (xs ++ [0]).length) + 1 := by rw [List.length_append, List.length_singleton]; omega
  rw [this, List.replicate_succ, List.append_assoc]
  rfl
theorem ints_set (xs : List Int) (t : Nat) (v : Int) : (ints xs).set t (.int .i64 v) = ints (xs.set t v) := by
  unfold ints; rw [List.map_set]
theorem ints_app (xs ys : List Int) : ints xs ++ ints ys = ints (xs ++ ys) := by unfold ints; rw [List.map_append]

theorem f52_loop {k N : Nat} {t : Nat} {v : Int} (ht : t < 1000000) : ∀ (m n : Nat) (xs : List Int) (a : Option Addr) (l c : Nat) (H : AHeap) (D : List Value),
    Own N 1 H a l c (ints xs) → N ≤ H.next → l ≤ 1000000 → t + 1 - l = m → m < n →
    Ok (f52.L1 k n a l c (t : Int) v D H) fun r => ∃ a' l' c', r.1 = .slice a' l' c' ∧ (l' = max l (t + 1) ∧ Own N 1 r.2 a' l' c' (ints (putI xs t v)) ∧ Keep a H r.2 ∧ Orig a H.next a') := by
  intro m
  induction m with
  | zero =>
    intro n xs a l c H D h hN hl hm hn
    obtain ⟨n, rfl⟩ : ∃ j, n = j + 1 := ⟨n - 1, by omega⟩
    rw [f52.L1_s]
    refine ok_biff (by simp only [decide_eq_false_iff_not]; omega) ?_
    obtain ⟨q, H', e, hw, h1, h2, _⟩ := own_set h (t := t) (by omega) (.int .i64 v)
    refine ok_bind e (ok_if (by omega) (ok_bind hw ?_))
    refine Ok.ret ⟨a, l, c, rfl, by omega, ?_, h2, Orig.refl _ _⟩
    rw [ints_set] at h1
    unfold putI
    rw [show t + 1 - xs.length = 0 from by have := h.len; omega]
    simpa using h1
  | succ m ih =>
    intro n xs a l c H D h hN hl hm hn
    obtain ⟨n, rfl⟩ : ∃ j, n = j + 1 := ⟨n - 1, by omega⟩
    rw [f52.L1_s]
    refine ok_bift (by simp only [decide_eq_true_eq]; omega) ?_
    refine ok_al fun i H1 hi hnx A1 B1 => ?_
    refine ok_cSl (app_own (by decide) (app26 _ _ _ _ _ _ _) (h.agree A1) (cs' := ints [0]) ⟨rfl, .inr ⟨i, 0, none, _, rfl, B1, by simp, by simp, by simp [ints]⟩⟩ (Nat.le_trans hN A1.next) (by omega) (by omega)) fun a2 l2 c2 H2 hp => ?_
    obtain ⟨h1, h2, h3, h4⟩ := hp
    subst h1
    rw [ints_app] at h2
    have hlen := h.len
    obtain ⟨r, e, a3, l3, c3, e1, e2, e3, e4, e5⟩ := ih n (xs ++ [0]) a2 (l + 1) c2 H2 _ h2 (Nat.le_trans hN (Nat.le_trans A1.next h3.next)) (by omega) (by omega) (by omega)
    have hK : Keep a H H2 := Keep.of_agree A1 h3
    have hO : Orig a H.next a2 := fun q e => (h4 q e).imp id fun h => Nat.le_trans A1.next h
    refine ⟨r, e, a3, l3, c3, e1, by omega, ?_, hK.trans hO e4, hO.trans e5 hK.next⟩
    rw [putI_grow xs t v (by omega)] at e3
    exact e3

/-- epoch.entry -/
theorem f52_spec {k N : Nat} {t : Nat} {v : Int} (ht : t ≤ 1000) (hk : 1010 ≤ k) {H : AHeap} {a : Option Addr} {l c : Nat} {xs : List Int} (h : Own N 1 H a l c (ints xs)) (hN : N ≤ H.next) (hl : l ≤ 1000000) :
    ∃ a' l' c' H', C k 52 [.slice a l c, .int .i64 (t : Int), .int .i64 v] H = some (.slice a' l' c', H') ∧ (l' = max l (t + 1) ∧ Own N 1 H' a' l' c' (ints (putI xs t v)) ∧ Keep a H H' ∧ Orig a H.next a') := by
  obtain ⟨k, rfl⟩ : ∃ j, k = j + 1 := ⟨k - 1, by omega⟩
  rw [f52_eq]
  exact callsl_of_ok (f52_loop (by omega) (t + 1 - l) k xs a l c H _ h hN hl rfl (by omega))
end Go.Proofs.MxF
end

section
set_option linter.unusedSimpArgs false
/- The reference's sorted lists. -/
set_option linter.unusedVariables false
namespace Go.Mx
open Go Go.Proofs
theorem cutMax {a : Option Addr} {l c w : Nat} (h : w ≤ l) (hc : l ≤ c) : cutSl 1 a l c none (some (w : Int)) (some (w : Int)) = some (a.map fun a => ⟨a.block, a.off + 0 * 1, some 0⟩, w, w) := by
  unfold cutSl cutBounds
  dsimp only
  simp only [Option.getD_none, Option.isSome_some, if_true]
  rw [if_pos (by omega)]
  simp
theorem apnd_cut {N : Nat} {H : AHeap} {a : Option Addr} {l c w n : Nat} {xs news : List Int} (h : Own N 1 H a l c (ints xs)) (hw : w ≤ l) (hn : 0 < n) (hl : news.length = n) (hb : w + n ≤ 1000000) :
    ∃ a2 c2 H', apndS 1 8 H (a.map fun a => ⟨a.block, a.off + 0 * 1, some 0⟩) w w (ints news) n = some (.slice a2 (w + n) c2, H') ∧ Own H.next 1 H' a2 (w + n) c2 (ints (xs.take w ++ news)) ∧ Agree H H' := by
  have hil : (ints news).length = n := by simp [ints, hl]
  have hx : (ints xs).length = xs.length := by simp [ints]
  unfold apndS
  rw [if_neg (by rintro (h1 | h1 | h1); exact absurd h1 (by decide); exact h1 (by omega); exact h1 (Nat.le_refl _)), if_neg (by omega), if_neg (by rintro (h1 | h1 | h1); exact absurd h1 (by decide); exact h1 (by omega); exact h1 (by omega))]
  rcases h.2.2 with ⟨e, e2⟩ | ⟨i, b, e, h0, h1, h2, h3, h4, h5⟩
  · subst e
    have hlen := h.1
    have hlc := h.2.1
    obtain rfl : w = 0 := by omega
    have hxs : xs.take 0 ++ news = news := by simp
    rw [hxs]
    refine ⟨_, _, _, rfl, ⟨by rw [hil]; omega, Nat.le_refl _, .inr ⟨H.next, _, rfl, Nat.le_refl _, at_alloc H _, rfl, rfl, ?_, ?_⟩⟩, agree_alloc _ _⟩
    · show (ints news).length = (0 + n) * 1
      omega
    · show (ints news).take ((0 + n) * 1) = ints news
      rw [List.take_of_length_le (by omega)]
  · subst e
    have hlen := h.1
    have hlc := h.2.1
    dsimp only [Option.map]
    rw [h1.2]
    dsimp only
    rw [if_neg (by rintro (h6 | h6); rw [h2] at h6; cases h6; exact h6 (by omega))]
    rw [if_pos (Option.isSome_some)]
    have hold : (b.cells.drop (0 + 0 * 1)).take (w * 1) ++ ints news = ints (xs.take w ++ news) := by
      have : ints (xs.take w ++ news) = (ints xs).take w ++ ints news := by unfold ints; rw [List.map_append, List.map_take]
      rw [this, ← h5, List.take_take]
      simp only [Nat.add_zero, List.drop_zero, Nat.mul_one]
      rw [Nat.min_eq_left hw]
    rw [hold]
    have hil2 : (ints (xs.take w ++ news)).length = w + n := by simp [ints, hl]; omega
    refine ⟨_, _, _, rfl, ⟨by rw [hil2]; omega, Nat.le_refl _, .inr ⟨H.next, _, rfl, Nat.le_refl _, at_alloc H _, rfl, rfl, ?_, ?_⟩⟩, agree_alloc _ _⟩
    · show (ints (xs.take w ++ news)).length = (w + n) * 1
      omega
    · show (ints (xs.take w ++ news)).take ((w + n) * 1) = _
      rw [List.take_of_length_le (by omega)]
end Go.Mx
namespace Go.Proofs.MxF
open Go Go.Mx Go.Proofs
theorem strict_ins {os : List Int} {v : Int} {i : Nat} (h : Strict os) (h1 : ∀ x ∈ os.take i, x < v) (h2 : ∀ x, os[i]? = some x → v < x) : Strict (os.take i ++ v :: os.drop i) := by
  have ho := h
  rw [← List.take_append_drop i os, Strict, List.pairwise_append] at h
  have hv : ∀ x ∈ os.drop i, v < x := by
    intro x hx
    cases e : os.drop i with
    | nil => rw [e] at hx; cases hx
    | cons y r =>
      have hy : os[i]? = some y := by
        have : (os.drop i)[0]? = some y := by rw [e]; rfl
        rw [List.getElem?_drop] at this
        exact this
      have hvy := h2 y hy
      rw [e] at hx
      rcases List.mem_cons.1 hx with rfl | hx
      · exact hvy
      · have hp := h.2.1
        rw [e, List.pairwise_cons] at hp
        have := hp.1 x hx
        omega
  rw [Strict, List.pairwise_append]
  refine ⟨h.1, List.pairwise_cons.2 ⟨hv, h.2.1⟩, fun x hx y hy => ?_⟩
  rcases List.mem_cons.1 hy with rfl | hy
  · exact h1 x hx
  · exact h.2.2 x hx y hy

section
variable {k N n1 : Nat} {a8 : Option Addr} {l8 c8 : Nat} {xs : List Int} {Q : Value × AHeap → Prop}
/-- what the outer loop needs -/
def Out (N : Nat) (H : AHeap) (a : Option Addr) (l c : Nat) (os : List Int) : Prop := Own N 1 H a l c (ints os) ∧ Strict os
theorem f58_K1 (hl8 : l8 ≤ 1000) {H0 H : AHeap} (A0 : Agree H0 H) (hN : H0.next = N) {a3 : Option Addr} {l3 c3 i : Nat} {os : List Int} {v : Int} {x9 x10 : Int} {D : List Value} (h : Out N H a3 l3 c3 os) (hi : i ≤ l3) (hl3 : l3 ≤ 1000)
    (h1 : ∀ x ∈ os.take i, x < v) (h2 : ∀ x, os[i]? = some x → v < x)
    (next : ∀ a l c os' H' D', Out N H' a l c os' → os'.length = os.length + 1 → (∀ x, x ∈ os' ↔ x = v ∨ x ∈ os) → Agree H0 H' → Ok (f58.L1 k n1 a l c a8 l8 c8 x9 (IntKind.i64.wrap (x10 + 1)) D' H') Q) :
    Ok (f58.K1 k n1 a3 l3 c3 v (i : Int) a8 l8 c8 x9 x10 D H) Q := by
  rw [f58.K1_eq]
  have hlen := h.1.len
  refine ok_al fun ib H1 hib n1' A1 B1 => ok_bSl (cutLo hi h.1.2.1) ?_
  have hO : Own H.next 1 H1 (some ⟨ib, 0, none⟩) 1 1 (ints [v]) := ⟨rfl, Nat.le_refl _, .inr ⟨ib, _, rfl, by omega, B1, rfl, rfl, rfl, rfl⟩⟩
  have hrest : Cells H1 (a3.map fun a => ⟨a.block, a.off + i * 1, a.spot⟩) ((l3 - i) * 1) (ints (os.drop i)) := by
    have hc := (h.1.agree A1).cells
    rcases hc.2 with ⟨e, e2⟩ | ⟨ii, o, s, b, e, g1, g2, g3, g4⟩
    · subst e
      have : os = [] := by cases os with
        | nil => rfl
        | cons _ _ => cases e2
      subst this
      simp at hlen
      subst hlen
      exact ⟨by simp [ints], .inl ⟨rfl, by simp [ints]⟩⟩
    · subst e
      refine ⟨by simp [ints, hlen], .inr ⟨ii, o + i * 1, s, b, rfl, g1, g2, by omega, ?_⟩⟩
      have : ints (os.drop i) = (ints os).drop i := by unfold ints; rw [List.map_drop]
      rw [this, ← g4, List.drop_take, List.drop_drop, Nat.mul_one, Nat.mul_one, Nat.mul_one]
  refine ok_cSl (app_own (by decide) (app26' _ _ _ _ _ _ _) hO hrest (by have := A1.next; omega) (by omega) (by omega)) fun a1 l1 c1 H2 hp => ?_
  obtain ⟨rfl, o1, k1, or1⟩ := hp
  rw [ints_app] at o1
  have A2 : Agree H H2 := k1.agree A1 (fun q e => by cases e; show H.next ≤ ib; omega)
  refine ok_bSl (cutMax hi h.1.2.1) ?_
  have h2' := h.1.agree A2
  obtain ⟨a4, c4, H3, e4, o4, A4⟩ := apnd_cut (w := i) (n := 1 + (l3 - i)) (news := [v] ++ os.drop i) h2' hi (by omega) (by simp [hlen]; omega) (by omega)
  refine ok_cSl (P := fun a l c H' => a = a4 ∧ l = i + (1 + (l3 - i)) ∧ c = c4 ∧ H' = H3) ⟨a4, _, c4, H3, ?_, rfl, rfl, rfl, rfl⟩ ?_
  · rw [app26']
    have hcc : firstC H2 1 (1 + (l3 - i)) (.slice a1 (1 + (l3 - i)) c1) = some (ints ([v] ++ os.drop i)) := firstC_cells (by decide) (by rw [Nat.mul_one]; exact o1.ints)
    rw [hcc, Option.bind_some]
    exact e4
  · rintro _ _ _ _ ⟨rfl, rfl, rfl, rfl⟩
    have hNle : N ≤ H2.next := by rw [← hN]; exact (A0.trans A2).next
    refine next _ _ _ (os.take i ++ ([v] ++ os.drop i)) _ _ ⟨o4.lower hNle, strict_ins h.2 h1 h2⟩ ?_ (fun x => ?_) ((A0.trans A2).trans A4)
    · simp; omega
    · constructor
      · intro hx
        rcases List.mem_append.1 hx with hx | hx
        · exact .inr (List.mem_of_mem_take hx)
        · rcases List.mem_append.1 hx with hx | hx
          · exact .inl (List.mem_singleton.1 hx)
          · exact .inr (List.mem_of_mem_drop hx)
      · rintro (rfl | hx)
        · simp
        · rw [← List.take_append_drop i os] at hx
          rcases List.mem_append.1 hx with hx | hx
          · exact List.mem_append_left _ hx
          · exact List.mem_append_right _ (List.mem_append_right _ hx)
theorem f58_l2 (hl8 : l8 ≤ 1000) {H0 : AHeap} (hN : H0.next = N) {v : Int} {x9 x10 : Int} {a3 : Option Addr} {l3 c3 : Nat} {os : List Int} (hl3 : l3 ≤ 1000)
    (next : ∀ a l c os' H' D', Out N H' a l c os' → os'.length ≤ os.length + 1 → (∀ x, x ∈ os' ↔ x = v ∨ x ∈ os) → Agree H0 H' → Ok (f58.L1 k n1 a l c a8 l8 c8 x9 (IntKind.i64.wrap (x10 + 1)) D' H') Q) :
    ∀ (m i n2 : Nat) (H : AHeap) (D : List Value), Agree H0 H → Out N H a3 l3 c3 os → i + m = l3 → m < n2 → (∀ x ∈ os.take i, x < v) → Ok (f58.L2 k n1 n2 a3 l3 c3 v (i : Int) a8 l8 c8 x9 x10 D H) Q := by
  intro m
  induction m with
  | zero =>
    intro i n2 H D A0 h hm hn ht
    obtain ⟨n2, rfl⟩ : ∃ j, n2 = j + 1 := ⟨n2 - 1, by omega⟩
    rw [f58.L2_s]
    have hlen := h.1.len
    refine ok_biff (by simp only [decide_eq_false_iff_not]; omega) (ok_biff (by simp only [decide_eq_false_iff_not]; omega) ?_)
    exact f58_K1 hl8 A0 hN h (by omega) hl3 ht (fun x hx => by rw [List.getElem?_eq_none (by omega)] at hx; cases hx) fun a l c os' H' D' o1 o2 => next a l c os' H' D' o1 (by omega)
  | succ m ih =>
    intro i n2 H D A0 h hm hn ht
    obtain ⟨n2, rfl⟩ : ∃ j, n2 = j + 1 := ⟨n2 - 1, by omega⟩
    rw [f58.L2_s]
    have hlen := h.1.len
    obtain ⟨q, x, hx, e, hq⟩ := Ints.at h.1.ints (i := i) (by omega)
    have hlt : ((i : Int) < (l3 : Int)) := by omega
    refine ok_bift (by simp only [decide_eq_true_eq]; omega) (ok_bind e (ok_if (by omega) (ok_bind hq (ok_bif (fun hc => ?_) (fun hc => ?_)))))
    · rw [decide_eq_true_eq] at hc
      rw [wrapS (l := l3) (by omega) (by unfold maxLen; omega)]
      refine ih (i + 1) n2 H _ A0 h (by omega) (by omega) (fun y hy => ?_)
      rw [List.take_add_one, hx, List.mem_append] at hy
      rcases hy with hy | hy
      · exact ht y hy
      · simp at hy; rw [hy]; exact hc
    · rw [decide_eq_false_iff_not] at hc
      refine ok_bift (by simp only [decide_eq_true_eq]; omega) (ok_bind e (ok_if (by omega) (ok_bind hq (ok_bif (fun hc' => ?_) (fun hc' => ?_)))))
      · rw [beq_iff_eq] at hc'
        subst hc'
        refine next a3 l3 c3 os H _ h (by omega) (fun y => ?_) A0
        constructor
        · exact .inr
        · rintro (rfl | hy)
          · exact List.mem_of_getElem? hx
          · exact hy
      · have hne : ¬ x = v := by simpa using hc'
        refine f58_K1 hl8 A0 hN h (by omega) hl3 ht (fun y hy => ?_) fun a l c os' H' D' o1 o2 => next a l c os' H' D' o1 (by omega)
        rw [hx] at hy
        cases hy
        omega
theorem f58_l1 (hl8 : l8 ≤ 1000) (hk : 1002 ≤ k) {H0 : AHeap} (hN : H0.next = N) (hx : Ints H0 a8 l8 xs) : ∀ (m i n1 : Nat) (a3 : Option Addr) (l3 c3 : Nat) (os : List Int) (H : AHeap) (D : List Value),
    Agree H0 H → Out N H a3 l3 c3 os → os.length ≤ i → (∀ x, x ∈ os ↔ x ∈ xs.take i) → i + m = l8 → m < n1 →
    Ok (f58.L1 k n1 a3 l3 c3 a8 l8 c8 (l8 : Int) (i : Int) D H) fun r => ∃ a l c, r.1 = .slice a l c ∧ ((∃ os, Out N r.2 a l c os ∧ (∀ x, x ∈ os ↔ x ∈ xs) ∧ os.length ≤ l8) ∧ Agree H0 r.2) := by
  intro m
  induction m with
  | zero =>
    intro i n1 a3 l3 c3 os H D A0 h ho hmem hm hn
    obtain ⟨n1, rfl⟩ : ∃ j, n1 = j + 1 := ⟨n1 - 1, by omega⟩
    rw [f58.L1_s]
    refine ok_biff (by simp only [decide_eq_false_iff_not]; omega) (Ok.ret ⟨a3, l3, c3, rfl, ⟨os, h, fun x => ?_, by omega⟩, A0⟩)
    rw [hmem, List.take_of_length_le (by have := hx.len; omega)]
  | succ m ih =>
    intro i n1 a3 l3 c3 os H D A0 h ho hmem hm hn
    obtain ⟨n1, rfl⟩ : ∃ j, n1 = j + 1 := ⟨n1 - 1, by omega⟩
    rw [f58.L1_s]
    have hlen := h.1.len
    obtain ⟨q, v, hv, e, hq⟩ := Ints.at (hx.agree A0) (i := i) (by omega)
    refine ok_bift (by simp only [decide_eq_true_eq]; omega) (ok_bind e (ok_if (by omega) (ok_bind hq ?_)))
    refine f58_l2 (n1 := n1) hl8 hN (os := os) (by omega) (fun a l c os' H' D' o1 o2 o3 o4 => ?_) l3 0 k H _ A0 h (by omega) (by omega) (fun x hx => by simp at hx)
    rw [wrapS (l := l8) (by omega) (by unfold maxLen; omega)]
    refine ih (i + 1) n1 a l c os' H' D' o4 o1 (by omega) (fun x => ?_) (by omega) (by omega)
    rw [o3, hmem, List.take_add_one, hv, List.mem_append]
    simp
    exact Or.comm
theorem f58_spec {H : AHeap} (hl8 : l8 ≤ 1000) (hk : 1003 ≤ k) (hx : Ints H a8 l8 xs) :
    ∃ a l c H', C k 58 [.slice a8 l8 c8] H = some (.slice a l c, H') ∧ ((∃ os, Own H.next 1 H' a l c (ints os) ∧ Strict os ∧ (∀ x, x ∈ os ↔ x ∈ xs) ∧ os.length ≤ l8) ∧ Agree H H') := by
  obtain ⟨k, rfl⟩ : ∃ j, k = j + 1 := ⟨k - 1, by omega⟩
  rw [f58_eq]
  have key := fun D => f58_l1 (k := k) (N := H.next) (c8 := c8) hl8 (by omega) rfl hx l8 0 k none 0 0 [] H D (Agree.refl H) ⟨Own.nil _ _ _, .nil⟩ (by simp) (by simp) (by omega) (by omega)
  obtain ⟨r, e, a, l, c, e1, ⟨os, o1, o2, o3⟩, A⟩ := key _
  exact callsl_of_ok ⟨r, e, a, l, c, e1, ⟨os, o1.1, o1.2, o2, o3⟩, A⟩
end
theorem f57_spec {k : Nat} {H : AHeap} {a : Option Addr} {l c : Nat} {a' : Option Addr} {l' c' : Nat} {xs ys : List Int} (hk : 1200 ≤ k) (hl : l ≤ 400) (hl' : l' ≤ 400) (h : Ints H a l xs) (h' : Ints H a' l' ys) :
    ∃ a2 l2 c2 H', C k 57 [.agg #[.slice a l c, .slice a' l' c']] H = some (.slice a2 l2 c2, H') ∧ ((∃ os, Own H.next 1 H' a2 l2 c2 (ints os) ∧ Strict os ∧ (∀ x, x ∈ os ↔ x ∈ xs ∨ x ∈ ys) ∧ os.length ≤ l + l') ∧ Agree H H') := by
  obtain ⟨k, rfl⟩ : ∃ j, k = j + 1 := ⟨k - 1, by omega⟩
  rw [f57_eq]
  refine callsl_of_ok (ok_al fun i H1 hi n1 A1 B1 => ?_)
  have P1 : HeldAt H1 i a l c a' l' c' := ⟨_, _, B1⟩
  have Ab := agree_bump H1 8
  refine ok_bift (sameB_agree B1 Ab) (ok_bSl (P1.agree Ab).ld0 ?_)
  refine ok_cSl (f45_spec (by omega) ((h.agree A1).agree Ab) (by omega)) fun a1 l1 c1 H2 hp => ?_
  obtain ⟨rfl, o1, A2⟩ := hp
  have A12 := Ab.trans A2
  refine ok_bift (sameB_agree B1 A12) (ok_bSl (P1.agree A12).ld1 ?_)
  refine ok_cSl (app_own (by decide) (app26' _ _ _ _ _ _ _) o1 (cs' := ints ys) (by rw [Nat.mul_one]; exact (h'.agree A1).agree A12) A2.next (by omega) (by omega)) fun a3 l3 c3 H3 hp => ?_
  obtain ⟨rfl, o3, k3, or3⟩ := hp
  rw [ints_app] at o3
  have hbn := o1.block
  have A3 : Agree H1 H3 := k3.agree A12 (fun q e => by have := hbn q e; have := Ab.next; omega)
  refine ok_cSl (f58_spec (by omega) (by omega) o3.ints) fun a4 l4 c4 H4 hp => ?_
  obtain ⟨⟨os, o4, s4, m4, g4⟩, A4⟩ := hp
  have A03 := A1.trans A3
  exact Ok.ret ⟨_, _, _, rfl, ⟨os, o4.lower A03.next, s4, (fun x => by rw [m4, List.mem_append]), g4⟩, A03.trans A4⟩
end Go.Proofs.MxF
end

section
set_option linter.unusedSimpArgs false
/- lockset.Step. -/
set_option linter.unusedVariables false
namespace Go.Proofs.MxF
open Go Go.Mx Go.Proofs
/-- the state and the owner after an access -/
def stS (st own th : Int) (w : Bool) : Int := bif st == 0 then 1 else bif st == 1 then (bif own == th then 1 else bif w then 3 else 2) else bif w then 3 else st
def owS (st own th : Int) : Int := bif st == 0 then th else bif st == 1 then (bif own == th then own else 0) else 0
/-- which locks are left -/
def inS (st own th : Int) (w : Bool) (ls ex sh : List Int) (v : Int) : Prop :=
  if st = 0 then False else if st = 1 then (if own = th then False else if w = true then v ∈ ex else v ∈ ex ∨ v ∈ sh)
  else v ∈ ls ∧ (if w = true then v ∈ ex else v ∈ ex ∨ v ∈ sh)
def stPost (H0 : AHeap) (st' own' : Int) (mem : Int → Prop) (r : Value × AHeap) : Prop :=
  ∃ a l c, r.1 = .tuple #[.agg #[.int .i64 st', .int .i64 own', .slice a l c], .bool ((st' == 3) && ((l : Int) == 0))] ∧
    ((∃ zs, Ints r.2 a l zs ∧ Strict zs ∧ ∀ v, v ∈ zs ↔ mem v) ∧ Agree H0 r.2 ∧ ∀ q, a = some q → H0.next ≤ q.block)

theorem wrote_agree0 {H0 H H' : AHeap} {i : Nat} {b : Blk} (A : Agree H0 H) (w : Wrote H H' i b) (h : H0.next ≤ i) : Agree H0 H' := A.wrote w h

theorem f24_K1 {k : Nat} {H0 H : AHeap} (A : Agree H0 H) {p8 p11 : Nat} {e8 v8 e11 v11 : Nat} {y0 y1 y2 : Value} {st' own' : Int} {a : Option Addr} {l c : Nat} {D : List Value} {zs : List Int} {mem : Int → Prop}
    (h8 : At H p8 ⟨[y0, y1, y2], e8, .rw, v8⟩) (h11 : At H p11 ⟨[.int .i64 st', .int .i64 own', .slice a l c], e11, .rw, v11⟩) (hne : p8 ≠ p11) (hp : H0.next ≤ p8)
    (hz : Ints H a l zs) (hza : ∀ q, a = some q → H0.next ≤ q.block) (hz8 : ∀ q, a = some q → q.block ≠ p8) (hs : Strict zs) (hm : ∀ v, v ∈ zs ↔ mem v) :
    Ok (f24.K1 k p8 p11 D H) (stPost H0 st' own' mem) := by
  rw [f24.K1_eq]
  have Ab := agree_bump H 12
  have g11 := h11.agree Ab
  refine ok_bift (sameB_agree h11 Ab) (ok_bind (row_at g11 (by simp) (by simp)) (ok_bift (sameB_agree h11 Ab) (ok_bind (ldI_at g11 (by simp) rfl) (ok_if ⟨rfl, rfl⟩ (ok_wr (h8.agree Ab) rfl (by simp) fun H1 W1 => ?_)))))
  have k11 := g11.wrote W1 (Ne.symm hne)
  have A1 : Agree H0 H1 := (A.trans Ab).wrote W1 hp
  have hz1 : Ints H1 a l zs := Cells.wrote (hz.agree Ab) W1 hz8
  refine ok_bif (fun hc => ?_) (fun hc => ?_)
  · refine ok_bift (sameB_at h11 k11 rfl) (ok_bSl (ldSl_at k11 (by simp) rfl) (ok_bind (row_at W1.at' (by simp) (by simp [splice])) (Ok.ret ?_)))
    exact ⟨a, l, c, by rw [hc]; rfl, ⟨zs, hz1, hs, hm⟩, A1, hza⟩
  · refine ok_bind (row_at W1.at' (by simp) (by simp [splice])) (Ok.ret ?_)
    exact ⟨a, l, c, by rw [hc]; rfl, ⟨zs, hz1, hs, hm⟩, A1, hza⟩
theorem f24_spec {k : Nat} (hk : 1200 ≤ k) {H : AHeap} {a : Option Addr} {l c : Nat} {a1 : Option Addr} {l1 c1 : Nat} {a2 : Option Addr} {l2 c2 : Nat} {ls ex sh : List Int} (st own th : Int) (w : Bool)
    (h : Ints H a l ls) (h1 : Ints H a1 l1 ex) (h2 : Ints H a2 l2 sh) (hl : l ≤ 63) (hl1 : l1 + l2 ≤ 63) :
    Ok (C k 24 [.agg #[.int .i64 st, .int .i64 own, .slice a l c], .int .i64 th, .bool w, .agg #[.slice a1 l1 c1, .slice a2 l2 c2]] H) (stPost H (stS st own th w) (owS st own th) (inS st own th w ls ex sh)) := by
  obtain ⟨k, rfl⟩ : ∃ j, k = j + 1 := ⟨k - 1, by omega⟩
  rw [f24_eq]
  refine ok_al fun i H1 hi n1 A1 B1 => ok_al fun i' H2 hi' n2 A2 B2 => ok_al fun i'' H3 hi'' n3 A3 B3 => ?_
  have A03 := (A1.trans A2).trans A3
  have P1 := (B1.agree A2).agree A3
  have P2 := B2.agree A3
  have Ab := agree_bump H3 8
  have A0b := A03.trans Ab
  refine ok_bift (sameB_agree P2 Ab) (ok_bSl (ldSl_at (P2.agree Ab) (by simp) rfl) ?_)
  refine ok_cSl (app_own (by decide) (app26' _ _ _ _ _ _ _) (Own.nil H3.next 1 _) (cs' := ints ex) (by rw [Nat.mul_one]; exact h1.agree A0b) Ab.next (by omega) (by omega)) fun a4 l4 c4 H4 hp => ?_
  obtain ⟨rfl, o4, k4, _⟩ := hp
  rw [List.nil_append] at o4
  have A4 := Ab.trans k4.none
  refine ok_bift (sameB_agree P2 A4) (ok_bSl (ldSl_at (P2.agree A4) (by simp) rfl) ?_)
  refine ok_cSl (app_own (by decide) (app26' _ _ _ _ _ _ _) o4 (cs' := ints sh) (by rw [Nat.mul_one]; exact h2.agree (A03.trans A4)) A4.next (by omega) (by omega)) fun a5 l5 c5 H5 hp => ?_
  obtain ⟨rfl, o5, k5, _⟩ := hp
  rw [ints_app] at o5
  have A5 : Agree H3 H5 := k5.agree A4 o4.block
  refine ok_cSl (f55_spec (by omega) (by omega) o5.ints) fun a6 l6 c6 H6 hp => ?_
  obtain ⟨⟨all, o6, s6, m6, len6⟩, A6⟩ := hp
  have A36 := A5.trans A6
  have A06 := A03.trans A36
  have Q1 := P1.agree A36
  have Q2 := P2.agree A36
  have Q3 := B3.agree A36
  refine ok_bind (ldI_at Q1 (by simp) rfl) ?_
  refine ok_al fun p H7 hp7 n7 A7 B7 => ok_wr B7 rfl (by simp) fun H8 W8 => ?_
  have A68 : Agree H6 H8 := A7.wrote W8 (by omega)
  have A08 := A06.trans A68
  have R1 := Q1.agree A68
  have R2 := Q2.agree A68
  have R3 := Q3.agree A68
  have R8 := W8.at'
  have ls8 := h.agree A08
  have ex8 := h1.agree A08
  have sh8 := h2.agree A08
  have all8 : Ints H8 a6 l6 all := o6.ints.agree A68
  have hall : ∀ v, v ∈ all ↔ v ∈ ex ∨ v ∈ sh := fun v => by rw [m6, List.mem_append]
  have hn36 := A36.next
  have hn5 := A5.next
  have hn6 := A6.next
  have hN8 := A68.next
  have hb6 : ∀ q, a6 = some q → H3.next ≤ q.block := fun q e => by have := o6.block q e; omega
  have hb6' : ∀ q, a6 = some q → q.block ≠ p := fun q e => by have := Cells.below o6.cells q e; omega
  have hl6 := o6.len
  have hlx : (ex ++ sh).length = l1 + l2 := by rw [List.length_append, ← h1.len, ← h2.len]
  have hpn : H.next ≤ i'' := by omega
  have hip : i'' ≠ p := by omega
  refine ok_bind (ldI_at R1 (by simp) rfl) (ok_bif (fun h0 => ?_) (fun h0 => ?_))
  · rw [beq_iff_eq] at h0
    subst h0
    refine ok_wr R8 rfl (by simp [splice]) fun H9 W9 => ?_
    refine f24_K1 (A08.wrote W9 (by omega)) (zs := []) (R3.wrote W9 hip) W9.at' hip hpn (Ints.nil _) (fun q e => by cases e) (fun q e => by cases e) .nil (fun v => ?_)
    simp [inS]
  have hst0 : ¬ st = 0 := by simpa using h0
  -- the last part: another thread's access
  have last : ∀ D, ¬ (st = 1 ∧ own = th) → Ok (f24.K2 k w i i' i'' a6 l6 c6 p false D H8) (stPost H (stS st own th w) (owS st own th) (inS st own th w ls ex sh)) := by
    intro D hno
    rw [f24.K2_eq]
    have fin : ∀ D b, (b = true ↔ st = 1 ∧ w = true) → Ok (f24.K3 k w i i' i'' a6 l6 c6 p b D H8) (stPost H (stS st own th w) (owS st own th) (inS st own th w ls ex sh)) := by
      intro D b hb
      rw [f24.K3_eq]
      refine ok_bif (fun hc => ?_) (fun hc => ?_)
      · obtain ⟨rfl, rfl⟩ := hb.1 hc
        have hown : ¬ own = th := fun e => hno ⟨rfl, e⟩
        have hob : (own == th) = false := by simpa using hown
        refine ok_bSl (ldSl_at R2 (by simp) rfl) (ok_cSl (f55_spec (by omega) (by omega) ex8) fun a9 l9 c9 H9 hp => ?_)
        obtain ⟨⟨zs, o9, s9, m9, _⟩, A9⟩ := hp
        have hb9 := o9.block
        refine ok_wr (R8.agree A9) rfl (by simp [splice]) fun HA WA => ok_wr WA.at' rfl (by simp [splice]) fun HB WB => ?_
        have hnp : ∀ q, a9 = some q → q.block ≠ p := fun q e => by have := hb9 q e; have := R8.1; omega
        have e1 : stS 1 own th true = 3 := by simp [stS, hob]
        have e2 : owS 1 own th = 0 := by simp [owS, hob]
        rw [e1, e2]
        refine f24_K1 (((A08.trans A9).wrote WA (by omega)).wrote WB (by omega)) (zs := zs) (((R3.agree A9).wrote WA hip).wrote WB hip) WB.at' hip hpn (Cells.wrote (Cells.wrote o9.ints WA hnp) WB hnp)
          (fun q e => by have := hb9 q e; have := A08.next; omega) (fun q e => by have := hb9 q e; have := R3.1; omega) s9 (fun v => ?_)
        simp [inS, hown, m9]
      · have hnb : ¬ (st = 1 ∧ w = true) := fun h => by have := hb.2 h; rw [hc] at this; cases this
        refine ok_bind (ldI_at R1 (by simp) rfl) (ok_bif (fun hc1 => ?_) (fun hc1 => ?_))
        · rw [beq_iff_eq] at hc1
          subst hc1
          have hown : ¬ own = th := fun e => hno ⟨rfl, e⟩
          have hob : (own == th) = false := by simpa using hown
          have hw : w = false := by cases w with
            | false => rfl
            | true => exact absurd ⟨rfl, rfl⟩ hnb
          subst hw
          refine ok_wr R8 rfl (by simp [splice]) fun HA WA => ok_wr WA.at' rfl (by simp [splice]) fun HB WB => ?_
          have e1 : stS 1 own th false = 2 := by simp [stS, hob]
          have e2 : owS 1 own th = 0 := by simp [owS, hob]
          rw [e1, e2]
          refine f24_K1 ((A08.wrote WA (by omega)).wrote WB (by omega)) (zs := all) ((R3.wrote WA hip).wrote WB hip) WB.at' hip hpn (Cells.wrote (Cells.wrote all8 WA hb6') WB hb6')
            (fun q e => by have := hb6 q e; omega) (fun q e => by have := hb6 q e; omega) s6 (fun v => ?_)
          simp [inS, hown, hall]
        · have hst1 : ¬ st = 1 := by simpa using hc1
          have hb1 : (st == 1) = false := hc1
          have hb0 : (st == 0) = false := h0
          refine ok_bif (fun hw => ?_) (fun hw => ?_)
          · subst hw
            refine ok_bSl (ldSl_at R1 (by simp) rfl) (ok_bSl (ldSl_at R2 (by simp) rfl) ?_)
            refine ok_cSl (f56_spec hl (by omega) (by omega) ls8 ex8) fun a9 l9 c9 H9 hp => ?_
            obtain ⟨⟨zs, o9, s9, m9, _⟩, A9⟩ := hp
            have hb9 := o9.block
            refine ok_wr (R8.agree A9) rfl (by simp [splice]) fun HA WA => ok_wr WA.at' rfl (by simp [splice]) fun HB WB => ?_
            have hnp : ∀ q, a9 = some q → q.block ≠ p := fun q e => by have := hb9 q e; have := R8.1; omega
            have e1 : stS st own th true = 3 := by simp [stS, hb0, hb1]
            have e2 : owS st own th = 0 := by simp [owS, hb0, hb1]
            rw [e1, e2]
            refine f24_K1 (((A08.trans A9).wrote WA (by omega)).wrote WB (by omega)) (zs := zs) (((R3.agree A9).wrote WA hip).wrote WB hip) WB.at' hip hpn (Cells.wrote (Cells.wrote o9.ints WA hnp) WB hnp)
              (fun q e => by have := hb9 q e; have := A08.next; omega) (fun q e => by have := hb9 q e; have := R3.1; omega) s9 (fun v => ?_)
            simp [inS, hst0, hst1, m9]
          · subst hw
            refine ok_bSl (ldSl_at R1 (by simp) rfl) ?_
            refine ok_cSl (f56_spec hl (by omega) (by omega) ls8 all8) fun a9 l9 c9 H9 hp => ?_
            obtain ⟨⟨zs, o9, s9, m9, _⟩, A9⟩ := hp
            have hb9 := o9.block
            refine ok_wr (R8.agree A9) rfl (by simp [splice]) fun HA WA => ?_
            have hnp : ∀ q, a9 = some q → q.block ≠ p := fun q e => by have := hb9 q e; have := R8.1; omega
            have e1 : stS st own th false = st := by simp [stS, hb0, hb1]
            have e2 : owS st own th = 0 := by simp [owS, hb0, hb1]
            rw [e1, e2]
            refine f24_K1 ((A08.trans A9).wrote WA (by omega)) (zs := zs) ((R3.agree A9).wrote WA hip) WA.at' hip hpn (Cells.wrote o9.ints WA hnp)
              (fun q e => by have := hb9 q e; have := A08.next; omega) (fun q e => by have := hb9 q e; have := R3.1; omega) s9 (fun v => ?_)
            simp [inS, hst0, hst1, m9, hall]
    refine ok_biff rfl (ok_bind (ldI_at R1 (by simp) rfl) (ok_bif (fun hc => fin _ _ ?_) (fun hc => fin _ _ ?_)))
    · rw [beq_iff_eq] at hc
      simp [hc]
    · have : ¬ st = 1 := by simpa using hc
      simp [this]
  refine ok_bind (ldI_at R1 (by simp) rfl) (ok_bif (fun h1' => ?_) (fun h1' => ?_))
  · rw [beq_iff_eq] at h1'
    subst h1'
    refine ok_bind (ldI_at R1 (by simp) rfl) ?_
    by_cases ho : own = th
    · subst ho
      rw [beq_self_eq_true, f24.K2_eq]
      refine ok_bift rfl (ok_bind (ldI_at R1 (by simp) rfl) (ok_wr R8 rfl (by simp [splice]) fun H9 W9 => ?_))
      have e1 : stS 1 own own w = 1 := by simp [stS]
      have e2 : owS 1 own own = own := by simp [owS]
      rw [e1, e2]
      refine f24_K1 (A08.wrote W9 (by omega)) (zs := []) (R3.wrote W9 hip) W9.at' hip hpn (Ints.nil _) (fun q e => by cases e) (fun q e => by cases e) .nil (fun v => ?_)
      simp [inS]
    · have : (own == th) = false := by simpa using ho
      rw [this]
      exact last _ (fun h => ho h.2)
  · have : ¬ st = 1 := by simpa using h1'
    exact last _ (fun h => this h.1)
end Go.Proofs.MxF
end

section
set_option linter.unusedSimpArgs false
/- The reference's Eraser. -/
set_option linter.unusedVariables false
namespace Go.Proofs.MxF
open Go Go.Mx Go.Proofs
theorem f25_K3 {k : Nat} {H0 H : AHeap} (A : Agree H0 H) {p8 p11 : Nat} {e8 v8 e11 v11 : Nat} {y0 y1 y2 : Value} {st' own' : Int} {a : Option Addr} {l c : Nat} {D : List Value} {zs : List Int} {mem : Int → Prop}
    (h8 : At H p8 ⟨[y0, y1, y2], e8, .rw, v8⟩) (h11 : At H p11 ⟨[.int .i64 st', .int .i64 own', .slice a l c], e11, .rw, v11⟩) (hne : p8 ≠ p11) (hp : H0.next ≤ p8)
    (hz : Ints H a l zs) (hza : ∀ q, a = some q → H0.next ≤ q.block) (hz8 : ∀ q, a = some q → q.block ≠ p8) (hs : Strict zs) (hm : ∀ v, v ∈ zs ↔ mem v) :
    Ok (f25.K3 k p8 p11 D H) (stPost H0 st' own' mem) := by
  rw [f25.K3_eq]
  have Ab := agree_bump H 12
  have g11 := h11.agree Ab
  refine ok_bift (sameB_agree h11 Ab) (ok_bind (row_at g11 (by simp) (by simp)) (ok_bift (sameB_agree h11 Ab) (ok_bind (ldI_at g11 (by simp) rfl) (ok_if ⟨rfl, rfl⟩ (ok_wr (h8.agree Ab) rfl (by simp) fun H1 W1 => ?_)))))
  have k11 := g11.wrote W1 (Ne.symm hne)
  have A1 : Agree H0 H1 := (A.trans Ab).wrote W1 hp
  have hz1 : Ints H1 a l zs := Cells.wrote (hz.agree Ab) W1 hz8
  refine ok_bif (fun hc => ?_) (fun hc => ?_)
  · refine ok_bift (sameB_at h11 k11 rfl) (ok_bSl (ldSl_at k11 (by simp) rfl) (ok_bind (row_at W1.at' (by simp) (by simp [splice])) (Ok.ret ?_)))
    exact ⟨a, l, c, by rw [hc]; rfl, ⟨zs, hz1, hs, hm⟩, A1, hza⟩
  · refine ok_bind (row_at W1.at' (by simp) (by simp [splice])) (Ok.ret ?_)
    exact ⟨a, l, c, by rw [hc]; rfl, ⟨zs, hz1, hs, hm⟩, A1, hza⟩

section
variable {k : Nat} {H0 : AHeap} {p4 p8 p11 : Nat} {a : Option Addr} {l c : Nat} {ah : Option Addr} {lh ch : Nat} {ls hv : List Int}
theorem f25_l1 (hk : 1200 ≤ k) {N : Nat} (hN : H0.next ≤ N) (hl : l ≤ 1000) (hlh : lh ≤ 1000) (hne : p8 ≠ p11) (hp8 : H0.next ≤ p8) (hp11 : H0.next ≤ p11) (h8N : p8 < N) (h11N : p11 < N) (hls : Strict ls) {X : Int} {y0 y1 y2 : Value} {mem : Int → Prop}
    (hnl : ∀ q, a = some q → q.block ≠ p11) (hnh : ∀ q, ah = some q → q.block ≠ p11) (hlN : ∀ q, a = some q → q.block < N) (hhN : ∀ q, ah = some q → q.block < N) (hmem : ∀ v, v ∈ ls.filter (hasI hv) ↔ mem v) :
    ∀ (m j n : Nat) (ao : Option Addr) (lo co : Nat) (H : AHeap) (D : List Value) (e8 v8 e11 v11 : Nat), j + m = l → m < n → Agree H0 H → Ints H a l ls → Ints H ah lh hv → N ≤ H.next →
    At H p8 ⟨[y0, y1, y2], e8, .rw, v8⟩ → At H p11 ⟨[.int .i64 X, .int .i64 0, .slice ao lo co], e11, .rw, v11⟩ → Own N 1 H ao lo co (ints ((ls.take j).filter (hasI hv))) →
    Ok (f25.L1 k n p8 ah lh ch p11 a l c (l : Int) (j : Int) D H) (stPost H0 X 0 mem) := by
  intro m
  induction m with
  | zero =>
    intro j n ao lo co H D e8 v8 e11 v11 hm hn A h hh hNn h8 h11 ho
    obtain ⟨n, rfl⟩ : ∃ j, n = j + 1 := ⟨n - 1, by omega⟩
    rw [f25.L1_s]
    refine ok_biff (by simp only [decide_eq_false_iff_not]; omega) ?_
    rw [List.take_of_length_le (by have := h.len; omega)] at ho
    have hb := ho.block
    exact f25_K3 A h8 h11 hne hp8 ho.ints (fun q e => by have := hb q e; omega) (fun q e => by have := hb q e; omega) (hls.filter _) hmem
  | succ m ih =>
    intro j n ao lo co H D e8 v8 e11 v11 hm hn A h hh hNn h8 h11 ho
    obtain ⟨n, rfl⟩ : ∃ j, n = j + 1 := ⟨n - 1, by omega⟩
    rw [f25.L1_s]
    have hlen := h.len
    obtain ⟨q, x, hx, e, hq⟩ := Ints.at h (i := j) (by omega)
    have hft := filter_take (kp := hasI hv) hx
    refine ok_bift (by simp only [decide_eq_true_eq]; omega) (ok_bind e (ok_if (by omega) (ok_bind hq ?_)))
    refine ok_cB0 (f29_spec hh (by unfold maxLen; omega) (by omega) x) ?_
    rw [wrapS (i := j) (l := l) (by omega) (by unfold maxLen; omega)]
    refine ok_bif (fun hc => ?_) (fun hc => ?_)
    · rw [if_pos hc] at hft
      refine ok_bSl (ldSl_at h11 (by simp) rfl) (ok_al fun i H1 hi n1 A1 B1 => ?_)
      have hlo : lo ≤ 1000 := by
        have := ho.len
        have h2 := List.length_filter_le (hasI hv) (ls.take j)
        rw [List.length_take] at h2
        omega
      refine ok_cSl (app_own (by decide) (app26' _ _ _ _ _ _ _) (ho.agree A1) (cs' := ints [x]) ⟨rfl, .inr ⟨i, 0, none, _, rfl, B1, by simp, by simp, by simp [ints]⟩⟩ (by omega) (by omega) (by omega)) fun a2 l2 c2 H2 hp => ?_
      obtain ⟨rfl, o2, k2, or2⟩ := hp
      rw [ints_app, ← hft] at o2
      have hbo := ho.block
      have K2 : Keep ao H H2 := Keep.of_agree A1 k2
      have g8 := h8.keep K2 (fun q e => by have := hbo q e; omega)
      have g11 := h11.keep K2 (fun q e => by have := hbo q e; omega)
      have gh : Ints H2 ah lh hv := Cells.keep hh K2 fun q q' e1 e2 => by have := hbo q' e2; have := hhN q e1; omega
      have gl : Ints H2 a l ls := Cells.keep h K2 fun q q' e1 e2 => by have := hbo q' e2; have := hlN q e1; omega
      have A2 : Agree H0 H2 := K2.agree A (fun q e => by have := hbo q e; omega)
      refine ok_wr g11 rfl (by simp) fun H3 W3 => ?_
      have hb2 := o2.block
      exact ih (j + 1) n a2 _ c2 H3 _ e8 v8 _ _ (by omega) (by omega) (A2.wrote W3 hp11) (Cells.wrote gl W3 hnl) (Cells.wrote gh W3 hnh) (by rw [W3.next]; have := K2.next; omega) (g8.wrote W3 hne) W3.at' (o2.wrote W3 (by omega))
    · rw [if_neg (by rw [hc]; decide)] at hft
      exact ih (j + 1) n ao lo co H _ e8 v8 e11 v11 (by omega) (by omega) A h hh hNn h8 h11 (by rw [hft]; exact ho)

theorem f25_K2 (hk : 1200 ≤ k) {H : AHeap} (A : Agree H0 H) (hl : l ≤ 1000) (hlh : lh ≤ 1000) (hne : p8 ≠ p11) (hp8 : H0.next ≤ p8) (hp11 : H0.next ≤ p11) (hls : Strict ls) (hhv : Strict hv) {st own th : Int} {w : Bool} {y0 y1 y2 : Value} {ex sh : List Int}
    {e4 v4 e8 v8 e11 v11 : Nat} {D : List Value}
    (h4 : At H p4 ⟨[.int .i64 st, .int .i64 own, .slice a l c], e4, .rw, v4⟩) (h8 : At H p8 ⟨[y0, y1, y2], e8, .rw, v8⟩) (h11 : At H p11 ⟨[.int .i64 (bif w then 3 else bif st == 3 then 3 else 2), .int .i64 0, .slice none 0 0], e11, .rw, v11⟩)
    (h : Ints H a l ls) (hh : Ints H ah lh hv) (hnl : ∀ q, a = some q → q.block < H0.next) (hnh : ∀ q, ah = some q → H0.next ≤ q.block) (hnh8 : ∀ q, ah = some q → q.block ≠ p8) (hnh11 : ∀ q, ah = some q → q.block ≠ p11)
    (hmem : ∀ v, v ∈ hv ↔ if w = true then v ∈ ex else v ∈ ex ∨ v ∈ sh) (hst : 0 ≤ st ∧ st ≤ 3) :
    Ok (f25.K2 k th p4 p8 ah lh ch p11 D H) (stPost H0 (stS st own th w) (owS st own th) (inS st own th w ls ex sh)) := by
  rw [f25.K2_eq]
  refine ok_bind (ldI_at h4 (by simp) rfl) (ok_bif (fun h0 => ?_) (fun h0 => ?_))
  · rw [beq_iff_eq] at h0
    subst h0
    refine ok_wr h8 rfl (by simp) fun H1 W1 => ok_bind (row_at W1.at' (by simp) (by simp [splice])) (Ok.ret ?_)
    exact ⟨none, 0, 0, rfl, ⟨[], Ints.nil _, .nil, fun v => by simp [inS]⟩, A.wrote W1 hp8, fun q e => by cases e⟩
  have hst0 : ¬ st = 0 := by simpa using h0
  refine ok_bif (fun h1 => ?_) (fun h1 => ?_)
  · have h1' := h1
    rw [beq_iff_eq] at h1'
    subst h1'
    refine ok_bind (ldI_at h4 (by simp) rfl) (ok_bif (fun ho => ?_) (fun ho => ?_))
    · rw [beq_iff_eq] at ho
      subst ho
      refine ok_wr h8 rfl (by simp) fun H1 W1 => ok_bind (row_at W1.at' (by simp) (by simp [splice])) (Ok.ret ?_)
      exact ⟨none, 0, 0, by simp [stS, owS]; rfl, ⟨[], Ints.nil _, .nil, fun v => by simp [inS]⟩, A.wrote W1 hp8, fun q e => by cases e⟩
    · have hown : ¬ own = th := by simpa using ho
      refine ok_wr h11 rfl (by simp) fun H1 W1 => ?_
      have e1 : stS 1 own th w = (bif w then 3 else bif (1 : Int) == 3 then 3 else 2) := by simp [stS, ho]
      have e2 : owS 1 own th = 0 := by simp [owS, ho]
      rw [e1, e2]
      refine f25_K3 (A.wrote W1 hp11) (h8.wrote W1 hne) W1.at' hne hp8 (Cells.wrote hh W1 hnh11) hnh hnh8 hhv (fun v => ?_)
      rw [hmem]
      simp [inS, hown]
  · have hst1 : ¬ st = 1 := by simpa using h1
    refine ok_bSl (ldSl_at h4 (by simp) rfl) ?_
    have e1 : stS st own th w = (bif w then 3 else bif st == 3 then 3 else 2) := by
      unfold stS
      rw [h0, h1]
      cases w
      · show st = (bif st == 3 then 3 else 2)
        by_cases h3 : st = 3
        · subst h3; rfl
        · have : (st == 3) = false := by simpa using h3
          rw [this]
          show st = 2
          omega
      · rfl
    have e2 : owS st own th = 0 := by unfold owS; rw [h0, h1]; rfl
    rw [e1, e2]
    have hbl := Cells.below h
    have hbh := Cells.below hh
    have hn := A.next
    refine f25_l1 (N := H.next) hk hn hl hlh hne hp8 hp11 h8.1 h11.1 hls (fun q e => by have := hnl q e; omega) hnh11 hbl hbh (fun v => ?_) l 0 k none 0 0 H _ _ _ _ _ (by omega) (by omega) A h hh (Nat.le_refl _) h8 h11 (Own.nil _ _ _)
    rw [List.mem_filter, hasI_iff, hmem]
    simp [inS, hst0, hst1]
end
theorem f25_spec {k : Nat} (hk : 1300 ≤ k) {H : AHeap} {a : Option Addr} {l c : Nat} {a1 : Option Addr} {l1 c1 : Nat} {a2 : Option Addr} {l2 c2 : Nat} {ls ex sh : List Int} (st own th : Int) (w : Bool)
    (h : Ints H a l ls) (h1 : Ints H a1 l1 ex) (h2 : Ints H a2 l2 sh) (hl : l ≤ 100) (hl1 : l1 ≤ 100) (hl2 : l2 ≤ 100) (hls : Strict ls) (hst : 0 ≤ st ∧ st ≤ 3) :
    Ok (C k 25 [.agg #[.int .i64 st, .int .i64 own, .slice a l c], .int .i64 th, .bool w, .agg #[.slice a1 l1 c1, .slice a2 l2 c2]] H) (stPost H (stS st own th w) (owS st own th) (inS st own th w ls ex sh)) := by
  obtain ⟨k, rfl⟩ : ∃ j, k = j + 1 := ⟨k - 1, by omega⟩
  rw [f25_eq]
  refine ok_al fun i H1 hi n1 A1 B1 => ok_al fun i' H2 hi' n2 A2 B2 => ok_al fun i'' H3 hi'' n3 A3 B3 => ?_
  have A03 := (A1.trans A2).trans A3
  have P1 := (B1.agree A2).agree A3
  have P2 := B2.agree A3
  refine ok_bind (row_at P2 (by simp) (by simp)) ?_
  -- what is left to do, when the locks that count are known
  have last : ∀ (ah : Option Addr) (lh ch : Nat) (hv : List Int) (H4 : AHeap) (D : List Value), Agree H3 H4 → Own H3.next 1 H4 ah lh ch (ints hv) → Strict hv → lh ≤ 200 → (∀ v, v ∈ hv ↔ if w = true then v ∈ ex else v ∈ ex ∨ v ∈ sh) →
      Ok (f25.K1 k th w i i'' ah lh ch D H4) (stPost H (stS st own th w) (owS st own th) (inS st own th w ls ex sh)) := by
    intro ah lh ch hv H4 D A4 o4 s4 l4 m4
    rw [f25.K1_eq]
    have hb := o4.block
    have A04 := A03.trans A4
    refine ok_al fun p H5 hp5 n5 A5 B5 => ok_wr B5 rfl (by simp) fun H6 W6 => ?_
    have A46 : Agree H4 H6 := A5.wrote W6 (by omega)
    have Q1 := (P1.agree A4).agree A46
    have Q3 := (B3.agree A4).agree A46
    have Q6 := W6.at'
    have hn4 := A4.next
    have hn6 := A46.next
    have hbel := Cells.below h
    have hh4 := Cells.below o4.cells
    have fin : ∀ (X : Int) (H7 : AHeap) (D : List Value) (e11 v11 : Nat), X = (bif w then 3 else bif st == 3 then 3 else 2) → Agree H4 H7 → At H7 p ⟨[.int .i64 X, .int .i64 0, .slice none 0 0], e11, .rw, v11⟩ →
        Ok (f25.K2 k th i i'' ah lh ch p D H7) (stPost H (stS st own th w) (owS st own th) (inS st own th w ls ex sh)) := by
      intro X H7 D e11 v11 hX A7 B7
      rw [hX] at B7
      have A07 := A04.trans A7
      exact f25_K2 (by omega) A07 (by omega) (by omega) (by omega) (by omega) (by omega) hls s4 ((P1.agree A4).agree A7) ((B3.agree A4).agree A7) B7 (h.agree A07) (o4.ints.agree A7) hbel
        (fun q e => by have := hb q e; omega) (fun q e => by have := hb q e; omega) (fun q e => by have := hh4 q e; omega) m4 hst
    refine ok_bif (fun hw => ?_) (fun hw => ?_)
    · subst hw
      exact ok_wr Q6 rfl (by simp [splice]) fun H7 W7 => fin 3 H7 _ _ _ rfl (A46.wrote W7 (by omega)) W7.at'
    · subst hw
      refine ok_bind (ldI_at Q1 (by simp) rfl) (ok_bif (fun h3 => ?_) (fun h3 => ?_))
      · exact ok_wr Q6 rfl (by simp [splice]) fun H7 W7 => fin 3 H7 _ _ _ (by rw [h3]; rfl) (A46.wrote W7 (by omega)) W7.at'
      · exact fin 2 H6 _ _ _ (by rw [h3]; rfl) A46 Q6
  refine ok_cSl (f57_spec (by omega) (by omega) (by omega) (h1.agree A03) (h2.agree A03)) fun ah lh ch H4 hp => ?_
  obtain ⟨⟨hv, o4, s4, m4, g4⟩, A4⟩ := hp
  refine ok_bif (fun hw => ?_) (fun hw => ?_)
  · subst hw
    refine ok_bSl (ldSl_at (P2.agree A4) (by simp) rfl) ?_
    refine ok_cSl (f58_spec (by omega) (by omega) ((h1.agree A03).agree A4)) fun ax lx cx H5 hp => ?_
    obtain ⟨⟨hx, o5, s5, m5, g5⟩, A5⟩ := hp
    refine last ax lx cx hx H5 _ (A4.trans A5) (o5.lower A4.next) s5 (by have := o5.len; omega) (fun v => by rw [m5]; simp)
  · subst hw
    exact last ah lh ch hv H4 _ A4 o4 s4 (by have := o4.len; omega) (fun v => by rw [m4]; simp)
end Go.Proofs.MxF
end

section
set_option linter.unusedSimpArgs false
/- Equal states; the locks of a number. -/
set_option linter.unusedVariables false
namespace Go.Mx
open Go Go.Proofs
theorem Cells.same {H : AHeap} {a : Option Addr} {n : Nat} {cs : List Value} (h : Cells H a n cs) {q : Addr} (e : a = some q) : ∀ H', Agree H H' → sameB H H' q.block = true := by
  intro H' A
  rcases h.2 with ⟨e1, _⟩ | ⟨i, o, s, b, e1, h1, _⟩
  · rw [e1] at e; cases e
  · rw [e1] at e; cases e; exact sameB_agree h1 A
theorem ok_cG1 {R : Type} {Q : R → Prop} {X : Option (Value × AHeap)} {K : Array Value → AHeap → Option R} {P : Value × AHeap → Prop} (h : Ok X P) (k : ∀ v H', P (v, H') → ∃ g : List Value, v = .agg g.toArray ∧ Ok (K g.toArray H') Q) : Ok (cG X K) Q := by
  obtain ⟨⟨v, H'⟩, e, hp⟩ := h
  obtain ⟨g, rfl, hk⟩ := k v H' hp
  unfold cG
  rw [e]
  exact hk
theorem ok_cT9 {R : Type} {Q : R → Prop} {X : Option (Value × AHeap)} {K : Array Value → AHeap → Option R} {P : Value × AHeap → Prop} (h : Ok X P) (k : ∀ v H', P (v, H') → ∃ g : List Value, v = .tuple g.toArray ∧ Ok (K g.toArray H') Q) : Ok (cT X K) Q := by
  obtain ⟨⟨v, H'⟩, e, hp⟩ := h
  obtain ⟨g, rfl, hk⟩ := k v H' hp
  unfold cT
  rw [e]
  exact hk
end Go.Mx
namespace Go.Proofs.MxF
open Go Go.Mx Go.Proofs
theorem f59_loop {k l c : Nat} {a : Option Addr} {l' c' : Nat} {a' : Option Addr} {xs : List Int} (hl : l < maxLen) (hll : l' = l) : ∀ (m i n : Nat) (H : AHeap) (D : List Value), Ints H a l xs → Ints H a' l' xs → i + m = l → m < n →
    Ok (f59.L1 k n a l c a' l' c' (l : Int) (i : Int) D H) fun r => r.1 = .bool true ∧ Agree H r.2 := by
  intro m
  induction m with
  | zero =>
    intro i n H D h h' hm hn
    obtain ⟨n, rfl⟩ : ∃ j, n = j + 1 := ⟨n - 1, by omega⟩
    rw [f59.L1_s]
    exact ok_biff (by simp only [decide_eq_false_iff_not]; omega) (Ok.ret ⟨rfl, Agree.refl H⟩)
  | succ m ih =>
    intro i n H D h h' hm hn
    obtain ⟨n, rfl⟩ : ∃ j, n = j + 1 := ⟨n - 1, by omega⟩
    rw [f59.L1_s]
    have Ab := agree_bump H 9
    obtain ⟨q, x, hx, e, hq⟩ := Ints.at (h.agree Ab) (i := i) (by omega)
    obtain ⟨q', x', hx', e', hq'⟩ := Ints.at (h'.agree Ab) (i := i) (by omega)
    rw [hx] at hx'
    cases hx'
    refine ok_bift (by simp only [decide_eq_true_eq]; omega) (ok_bind e (ok_if (by omega) (ok_bift (Cells.same h e _ Ab) (ok_bind hq (ok_bind e' (ok_if (by omega) (ok_bift (Cells.same h' e' _ Ab) (ok_bind hq' (ok_biff (by simp) ?_)))))))))
    rw [wrapS (l := l) (by omega) (Nat.le_of_lt hl)]
    obtain ⟨r, er, h1, h2⟩ := ih (i + 1) n _ _ (h.agree Ab) (h'.agree Ab) (by omega) (by omega)
    exact ⟨r, er, h1, Ab.trans h2⟩
theorem f59_spec {k l c : Nat} {a : Option Addr} {l' c' : Nat} {a' : Option Addr} {xs : List Int} {H : AHeap} (hl : l < maxLen) (hk : l + 3 ≤ k) (h : Ints H a l xs) (h' : Ints H a' l' xs) :
    ∃ H', C k 59 [.slice a l c, .slice a' l' c'] H = some (.bool true, H') ∧ Agree H H' := by
  obtain ⟨k, rfl⟩ : ∃ j, k = j + 1 := ⟨k - 1, by omega⟩
  rw [f59_eq]
  have hll : l' = l := h'.len.trans h.len.symm
  refine call_of_ok (ok_biff (by simp [hll]) ?_)
  exact f59_loop (k := k) (c := c) (c' := c') hl hll l 0 k H _ h h' (by omega) (by omega)
theorem f26_spec {k l c : Nat} {a : Option Addr} {l' c' : Nat} {a' : Option Addr} {xs : List Int} {H : AHeap} (st own : Int) (hl : l < maxLen) (hk : l + 4 ≤ k) (h : Ints H a l xs) (h' : Ints H a' l' xs) :
    ∃ H', C k 26 [.agg #[.int .i64 st, .int .i64 own, .slice a l c], .agg #[.int .i64 st, .int .i64 own, .slice a' l' c']] H = some (.bool true, H') ∧ Agree H H' := by
  obtain ⟨k, rfl⟩ : ∃ j, k = j + 1 := ⟨k - 1, by omega⟩
  rw [f26_eq]
  refine call_of_ok (ok_al fun i H1 hi n1 A1 B1 => ok_al fun i' H2 hi' n2 A2 B2 => ?_)
  have B12 := B1.agree A2
  have A02 := A1.trans A2
  refine ok_bind (ldI_at B12 (by simp) rfl) (ok_bind (ldI_at B2 (by simp) rfl) (ok_bift (by simp) ?_))
  refine ok_bind (ldI_at B12 (by simp) rfl) (ok_bind (ldI_at B2 (by simp) rfl) (ok_bift (by simp) ?_))
  refine ok_bSl (ldSl_at B12 (by simp) rfl) (ok_bSl (ldSl_at B2 (by simp) rfl) ?_)
  exact ok_cB (f59_spec hl (by omega) (h.agree A02) (h'.agree A02)) fun H3 A3 => Ok.ret ⟨rfl, A02.trans A3⟩

def heldL (d : Int) : Nat → Int → Int → List Int
  | 0, _, _ => []
  | m + 1, n, k => (if (n.tmod 3 == d) = true then [k] else []) ++ heldL d m (IntKind.u8.wrap (n.tdiv 3)) (k + 1)
theorem heldL_len (d : Int) : ∀ m n k, (heldL d m n k).length ≤ m := by
  intro m
  induction m with
  | zero => intro n k; simp [heldL]
  | succ m ih =>
    intro n k
    have := ih (IntKind.u8.wrap (n.tdiv 3)) (k + 1)
    unfold heldL
    rw [List.length_append]
    split <;> simp <;> omega
def heldPost (H0 : AHeap) (n : Int) (r : Value × AHeap) : Prop :=
  ∃ a1 l1 c1 a2 l2 c2, r.1 = .agg #[.slice a1 l1 c1, .slice a2 l2 c2] ∧ Ints r.2 a1 l1 (heldL 1 4 n 0) ∧ Ints r.2 a2 l2 (heldL 2 4 n 0) ∧ Agree H0 r.2
theorem f23_loop {k : Nat} {H0 : AHeap} {N p2 p3 : Nat} {n0 : Int} (hN : H0.next ≤ N) (h2N : p2 < N) (h3N : p3 < N) (hp2 : H0.next ≤ p2) (hp3 : H0.next ≤ p3) (hne : p2 ≠ p3) :
    ∀ (m i f : Nat) (n : Int) (H : AHeap) (D : List Value) (a1 : Option Addr) (l1 c1 : Nat) (a2 : Option Addr) (l2 c2 e2 v2 e3 v3 : Nat) (x1 x2 : List Int) (y0 y1 : Value), i + m = 4 → m < f → Agree H0 H → N ≤ H.next →
    At H p2 ⟨[y0, y1], e2, .rw, v2⟩ → At H p3 ⟨[.slice a1 l1 c1, .slice a2 l2 c2], e3, .rw, v3⟩ → Own N 1 H a1 l1 c1 (ints x1) → Own N 1 H a2 l2 c2 (ints x2) → (∀ q q', a1 = some q → a2 = some q' → q.block ≠ q'.block) →
    x1 ++ heldL 1 m n (i : Int) = heldL 1 4 n0 0 → x2 ++ heldL 2 m n (i : Int) = heldL 2 4 n0 0 →
    Ok (f23.L1 k f n p2 p3 (i : Int) D H) (heldPost H0 n0) := by
  intro m
  induction m with
  | zero =>
    intro i f n H D a1 l1 c1 a2 l2 c2 e2 v2 e3 v3 x1 x2 y0 y1 hm hf A hNn h2 h3 o1 o2 hd hx1 hx2
    obtain ⟨f, rfl⟩ : ∃ j, f = j + 1 := ⟨f - 1, by omega⟩
    rw [f23.L1_s]
    rw [show heldL 1 0 n (i : Int) = [] from rfl, List.append_nil] at hx1
    rw [show heldL 2 0 n (i : Int) = [] from rfl, List.append_nil] at hx2
    subst hx1
    subst hx2
    refine ok_biff (by simp only [decide_eq_false_iff_not]; omega) (ok_bind (row_at h3 (by simp) (by simp)) (ok_if ⟨rfl, rfl⟩ (ok_wr h2 rfl (by simp) fun H1 W1 => ok_bind (row_at W1.at' (by simp) (by simp [splice])) (Ok.ret ?_))))
    have b1 := o1.block
    have b2 := o2.block
    exact ⟨a1, l1, c1, a2, l2, c2, rfl, Cells.wrote o1.ints W1 (fun q e => by have := b1 q e; omega), Cells.wrote o2.ints W1 (fun q e => by have := b2 q e; omega), A.wrote W1 hp2⟩
  | succ m ih =>
    intro i f n H D a1 l1 c1 a2 l2 c2 e2 v2 e3 v3 x1 x2 y0 y1 hm hf A hNn h2 h3 o1 o2 hd hx1 hx2
    obtain ⟨f, rfl⟩ : ∃ j, f = j + 1 := ⟨f - 1, by omega⟩
    rw [f23.L1_s]
    have b1 := o1.block
    have b2 := o2.block
    have g1 := Cells.below o1.cells
    have g2 := Cells.below o2.cells
    have ll1 := o1.len
    have ll2 := o2.len
    have t1 := congrArg List.length hx1
    have t2 := congrArg List.length hx2
    rw [List.length_append] at t1 t2
    have u1 := heldL_len 1 4 n0 0
    have u2 := heldL_len 2 4 n0 0
    rw [heldL] at hx1 hx2
    have ei : ((i : Int) + 1) = ((i + 1 : Nat) : Int) := rfl
    have ew : IntKind.i64.wrap ((i : Int) + 1) = ((i + 1 : Nat) : Int) := wrapS (l := 10) (by omega) (by unfold maxLen; omega)
    rw [ei] at hx1 hx2
    rw [ew]
    refine ok_bift (by simp only [decide_eq_true_eq]; omega) (ok_bif (fun hc => ?_) (fun hc => ?_))
    · rw [if_pos hc] at hx1
      have hc2 : ¬ (n.tmod 3 == 2) = true := by rw [beq_iff_eq] at hc ⊢; omega
      rw [if_neg hc2, List.nil_append] at hx2
      refine ok_bSl (ldSl_at h3 (by simp) rfl) (ok_al fun j H1 hj n1 A1 B1 => ?_)
      refine ok_cSl (app_own (by decide) (app26' _ _ _ _ _ _ _) (o1.agree A1) (cs' := ints [(i : Int)]) ⟨rfl, .inr ⟨j, 0, none, _, rfl, B1, by simp, by simp, by simp [ints]⟩⟩ (by omega) (by omega) (by omega)) fun a3 l3 c3 H2 hp => ?_
      obtain ⟨rfl, o3, k3, or3⟩ := hp
      rw [ints_app] at o3
      have K2 : Keep a1 H H2 := Keep.of_agree A1 k3
      have q3 := h3.keep K2 (fun q e => by have := b1 q e; omega)
      have q2 := h2.keep K2 (fun q e => by have := b1 q e; omega)
      refine ok_wr q3 rfl (by simp) fun H3 W3 => ?_
      have hk2 := K2.next
      refine ih (i + 1) f _ H3 _ a3 _ c3 a2 l2 c2 _ _ _ _ (x1 ++ [(i : Int)]) x2 y0 y1 (by omega) (by omega) ((K2.agree A (fun q e => by have := b1 q e; omega)).wrote W3 hp3) (by rw [W3.next]; omega) (q2.wrote W3 hne) W3.at' (o3.wrote W3 (by omega)) ?_ ?_ (by rw [List.append_assoc]; exact hx1) hx2
      · have : Own N 1 H2 a2 l2 c2 (ints x2) := by
          refine ⟨o2.1, o2.2.1, ?_⟩
          rcases o2.2.2 with h | ⟨ii, b, e, z0, z1, z2⟩
          · exact .inl h
          · exact .inr ⟨ii, b, e, z0, z1.keep K2 (fun q e' => hd q _ e' e), z2⟩
        exact this.wrote W3 (by omega)
      · intro q q' e1 e2
        rcases or3 q e1 with ⟨q0, e0, eb⟩ | hge
        · rw [← eb]; exact hd q0 q' e0 e2
        · have := g2 q' e2; omega
    · rw [if_neg (by rw [hc]; decide), List.nil_append] at hx1
      refine ok_bif (fun hc' => ?_) (fun hc' => ?_)
      · rw [if_pos hc'] at hx2
        refine ok_bSl (ldSl_at h3 (by simp) rfl) (ok_al fun j H1 hj n1 A1 B1 => ?_)
        refine ok_cSl (app_own (by decide) (app26' _ _ _ _ _ _ _) (o2.agree A1) (cs' := ints [(i : Int)]) ⟨rfl, .inr ⟨j, 0, none, _, rfl, B1, by simp, by simp, by simp [ints]⟩⟩ (by omega) (by omega) (by omega)) fun a3 l3 c3 H2 hp => ?_
        obtain ⟨rfl, o3, k3, or3⟩ := hp
        rw [ints_app] at o3
        have K2 : Keep a2 H H2 := Keep.of_agree A1 k3
        have q3 := h3.keep K2 (fun q e => by have := b2 q e; omega)
        have q2 := h2.keep K2 (fun q e => by have := b2 q e; omega)
        refine ok_wr q3 rfl (by simp) fun H3 W3 => ?_
        have hk2 := K2.next
        refine ih (i + 1) f _ H3 _ a1 l1 c1 a3 _ c3 _ _ _ _ x1 (x2 ++ [(i : Int)]) y0 y1 (by omega) (by omega) ((K2.agree A (fun q e => by have := b2 q e; omega)).wrote W3 hp3) (by rw [W3.next]; omega) (q2.wrote W3 hne) W3.at' ?_ (o3.wrote W3 (by omega)) ?_ hx1 (by rw [List.append_assoc]; exact hx2)
        · have : Own N 1 H2 a1 l1 c1 (ints x1) := by
            refine ⟨o1.1, o1.2.1, ?_⟩
            rcases o1.2.2 with h | ⟨ii, b, e, z0, z1, z2⟩
            · exact .inl h
            · exact .inr ⟨ii, b, e, z0, z1.keep K2 (fun q e' => Ne.symm (hd _ q e e')), z2⟩
          exact this.wrote W3 (by omega)
        · intro q q' e1 e2
          rcases or3 q' e2 with ⟨q0, e0, eb⟩ | hge
          · rw [← eb]; exact hd q q0 e1 e0
          · have := g1 q e1; omega
      · rw [if_neg (by rw [hc']; decide), List.nil_append] at hx2
        exact ih (i + 1) f _ H _ a1 l1 c1 a2 l2 c2 _ _ _ _ x1 x2 y0 y1 (by omega) (by omega) A hNn h2 h3 o1 o2 hd hx1 hx2
theorem f23_spec {k : Nat} (hk : 10 ≤ k) (H : AHeap) (n : Int) : Ok (C k 23 [.int .u8 n] H) (heldPost H n) := by
  obtain ⟨k, rfl⟩ : ∃ j, k = j + 1 := ⟨k - 1, by omega⟩
  rw [f23_eq]
  refine ok_al fun i H1 hi n1 A1 B1 => ok_al fun i' H2 hi' n2 A2 B2 => ?_
  exact f23_loop (N := H2.next) (by omega) (by omega) (by omega) (by omega) (by omega) (by omega) 4 0 k n H2 _ none 0 0 none 0 0 _ _ _ _ [] [] _ _ rfl (by omega) (A1.trans A2) (Nat.le_refl _) (B1.agree A2) B2 (Own.nil _ _ _) (Own.nil _ _ _) (fun q q' e => by cases e) rfl rfl
end Go.Proofs.MxF
end

section
set_option linter.unusedSimpArgs false
/- Arguments: rows of three bytes. -/
set_option linter.unusedVariables false
namespace Go.Mx
open Go Go.Proofs
theorem Cells.row {H : AHeap} {a : Option Addr} {n : Nat} {cs : List Value} (h : Cells H a n cs) {j m : Nat} (hm : 0 < m) (hj : j + m ≤ n) :
    ∃ q, a = some q ∧ H.row q.block (q.off + j) m = some ((cs.drop j).take m) := by
  rcases h.2 with ⟨_, e⟩ | ⟨i, o, s, b, e, h1, h2, h3, h4⟩
  · subst e
    have := h.1
    simp at this
    omega
  · refine ⟨_, e, ?_⟩
    rw [row_at (o := o + j) h1 h2 (by omega), ← h4, List.drop_take, List.drop_drop, List.take_take]
    rw [show min m (n - j) = m from by omega]
theorem tyRep_row {p : List Value → Prop} {sz : Nat} {q : List Value → Prop} (h : ∀ cs, p cs → cs.length = sz ∧ q cs) : ∀ {m : Nat} {cs : List Value}, TyRep p m cs → ∀ j, j < m → q ((cs.drop (j * sz)).take sz) := by
  intro m
  induction m with
  | zero => intro cs _ j hj; omega
  | succ m ih =>
    intro cs hr j hj
    obtain ⟨a, b, rfl, ha, hb⟩ := hr
    obtain ⟨hl, hq⟩ := h _ ha
    cases j with
    | zero => rw [Nat.zero_mul, List.drop_zero, ← hl, List.take_left' rfl]; exact hq
    | succ j =>
      have := ih hb j (by omega)
      rw [Nat.succ_mul, Nat.add_comm, ← hl, ← List.drop_drop, List.drop_left' rfl, hl]
      exact this
theorem tyRep_three {p : List Value → Prop} {cs : List Value} (h : TyRep p 3 cs) : ∃ a b c, cs = a ++ (b ++ (c ++ [])) ∧ p a ∧ p b ∧ p c := by
  obtain ⟨a, _, rfl, h0, b, _, rfl, h1, c, _, rfl, h2, rfl⟩ := h
  exact ⟨a, b, c, rfl, h0, h1, h2⟩
theorem ty_u8s3 {P : Program} {H : AHeap} {n : Nat} {t e : TypeId} (hu : P.underlying t = some (.array 3 e)) (he : P.underlying e = some (.int .u8)) (cs : List Value) (h : TyV P H (n + 1 + 1) t cs) :
    cs.length = 3 ∧ ∃ x0 x1 x2 : Int, cs = [.int .u8 x0, .int .u8 x1, .int .u8 x2] ∧ (0 ≤ x0 ∧ x0 ≤ 255) ∧ (0 ≤ x1 ∧ x1 ≤ 255) := by
  have hr := tyV_array hu h
  have wf : ∀ x : Int, (Lit.int .u8 x).wf = true → 0 ≤ x ∧ x ≤ 255 := by
    intro x hx
    simp only [Lit.wf, Bool.and_eq_true, decide_eq_true_eq] at hx
    exact hx
  obtain ⟨_, _, _, rfl, h0, h1, h2⟩ := tyRep_three hr
  obtain ⟨x0, rfl, w0⟩ := tyV_int he h0
  obtain ⟨x1, rfl, w1⟩ := tyV_int he h1
  obtain ⟨x2, rfl, w2⟩ := tyV_int he h2
  exact ⟨rfl, x0, x1, x2, rfl, wf _ w0, wf _ w1⟩
theorem rep_u8s3 {P : Program} {H : AHeap} {n m : Nat} {t e : TypeId} (hu : P.underlying t = some (.array 3 e)) (he : P.underlying e = some (.int .u8)) {cs : List Value} (h : TyRep (TyV P H (n + 1 + 1) t) m cs) :
    ∀ j, j < m → ∃ x0 x1 x2 : Int, (cs.drop (j * 3)).take 3 = [.int .u8 x0, .int .u8 x1, .int .u8 x2] ∧ (0 ≤ x0 ∧ x0 ≤ 255) ∧ (0 ≤ x1 ∧ x1 ≤ 255) :=
  tyRep_row (q := fun cs => ∃ x0 x1 x2 : Int, cs = [.int .u8 x0, .int .u8 x1, .int .u8 x2] ∧ (0 ≤ x0 ∧ x0 ≤ 255) ∧ (0 ≤ x1 ∧ x1 ≤ 255)) (fun cs h => ty_u8s3 hu he cs h) h
end Go.Mx
namespace Go.Proofs.MxF
open Go Go.Mx Go.Proofs

theorem und22 : Try.prog.underlying 22 = some (.slice 29) := by kernel_rfl
theorem und29 : Try.prog.underlying 29 = some (.array 3 5) := by kernel_rfl
theorem und5 : Try.prog.underlying 5 = some (.int .u8) := by kernel_rfl
theorem cells29 : Try.prog.cellsOf 29 = 3 := by kernel_rfl
theorem ag22 : aggT Try.prog 22 = false := by kernel_rfl

end Go.Proofs.MxF
end

section
set_option linter.unusedSimpArgs false
/- LocksetSteps. -/
set_option linter.unusedVariables false
namespace Go.Mx
open Go Go.Proofs
theorem strict_len : ∀ {zs xs : List Int}, zs.Pairwise (· < ·) → (∀ v, v ∈ zs → v ∈ xs) → zs.length ≤ xs.length := by
  intro zs
  induction zs with
  | nil => intro xs _ _; simp
  | cons z zs ih =>
    intro xs h hs
    rw [List.pairwise_cons] at h
    have hz := hs z (by simp)
    have := ih (xs := xs.erase z) h.2 (fun v hv => by
      have hne : v ≠ z := by have := h.1 v hv; omega
      exact (List.mem_erase_of_ne hne).2 (hs v (List.mem_cons_of_mem _ hv)))
    rw [List.length_erase_of_mem hz] at this
    have : 0 < xs.length := List.length_pos_of_mem hz
    simp
    omega
end Go.Mx
namespace Go.Proofs.MxF
open Go Go.Mx Go.Proofs
theorem ok_bsk {R : Type} {Q : R → Prop} {a : Option Addr} {l c : Nat} {a' : Option Addr} {l' c' : Nat} {K : List Value → Nat → Option R} (k : Ok (K [.slice a l c, .slice a' l' c'] 2) Q) :
    Ok (buildSK Try.prog 49 1 [(0, .agg #[.slice a l c, .slice a' l' c'])] K) Q := by
  have : buildSK Try.prog 49 1 [(0, .agg #[.slice a l c, .slice a' l' c'])] K = K [.slice a l c, .slice a' l' c'] 2 := by kernel_rfl
  rw [this]; exact k
theorem f27_one {k : Nat} (hk : 20 ≤ k) {H : AHeap} {p q : Nat} {a1 : Option Addr} {l1 c1 : Nat} {a2 : Option Addr} {l2 c2 : Nat} {a3 : Option Addr} {l3 c3 : Nat} {a4 : Option Addr} {l4 c4 e v e' v' : Nat} {xs ys : List Int}
    (hp : At H p ⟨[.slice a1 l1 c1, .slice a2 l2 c2], e, .rw, v⟩) (hq : At H q ⟨[.slice a3 l3 c3, .slice a4 l4 c4], e', .rw, v'⟩)
    (h1 : Ints H a1 l1 xs) (h2 : Ints H a2 l2 ys) (h3 : Ints H a3 l3 xs) (h4 : Ints H a4 l4 ys) (hl1 : l1 ≤ 10) (hl2 : l2 ≤ 10) :
    ∃ H', C k 27 [.slice (some ⟨p, 0, none⟩) 1 1, .slice (some ⟨q, 0, none⟩) 1 1] H = some (.bool true, H') ∧ Agree H H' := by
  obtain ⟨k, rfl⟩ : ∃ j, k = j + 1 := ⟨k - 1, by omega⟩
  rw [f27_eq]
  refine call_of_ok (ok_biff (by simp) ?_)
  obtain ⟨k, rfl⟩ : ∃ j, k = j + 1 + 1 := ⟨k - 2, by omega⟩
  rw [f27.L1_s]
  have hm : maxLen = 9223372036854775807 := rfl
  have Ab := agree_bump H 26
  have ew : IntKind.i64.wrap ((0 : Int) + 1) = 1 := by decide
  refine ok_bift (by simp) (ok_bind rfl (ok_if (by simp) (ok_bift (sameB_agree hp Ab) (ok_bSl (ldSl_at (hp.agree Ab) (by simp) rfl) ?_))))
  refine ok_bind rfl (ok_if (by simp) (ok_bift (sameB_agree hq Ab) (ok_bSl (ldSl_at (hq.agree Ab) (by simp) rfl) ?_)))
  refine ok_cB (f59_spec (by omega) (by omega) (h1.agree Ab) (h3.agree Ab)) fun H1 A1 => ok_biff rfl ?_
  have A2 := Ab.trans A1
  refine ok_bind rfl (ok_if (by simp) (ok_bift (sameB_agree hp A2) (ok_bSl (ldSl_at (hp.agree A2) (by simp) rfl) ?_)))
  refine ok_bind rfl (ok_if (by simp) (ok_bift (sameB_agree hq A2) (ok_bSl (ldSl_at (hq.agree A2) (by simp) rfl) ?_)))
  refine ok_cB (f59_spec (by omega) (by omega) (h2.agree A2) (h4.agree A2)) fun H3 A3 => ok_biff rfl ?_
  rw [ew, f27.L1_s]
  exact ok_biff (by simp) (Ok.ret ⟨rfl, A2.trans A3⟩)

theorem stS_range {st own th : Int} {w : Bool} (h : 0 ≤ st ∧ st ≤ 3) : 0 ≤ stS st own th w ∧ stS st own th w ≤ 3 := by
  unfold stS
  cases st == 0 <;> cases st == 1 <;> cases own == th <;> cases w <;> simp <;> omega
theorem inS_sub {st own th : Int} {w : Bool} {ls ex sh : List Int} {v : Int} (h : inS st own th w ls ex sh v) : (v ∈ ex ++ sh) ∧ (v ∈ ls ∨ st = 1) := by
  unfold inS at h
  rw [List.mem_append]
  split at h
  · exact h.elim
  · split at h
    · split at h
      · exact h.elim
      · split at h
        · exact ⟨.inl h, .inr ‹_›⟩
        · exact ⟨h, .inr ‹_›⟩
    · refine ⟨?_, .inl h.1⟩
      have := h.2
      split at this
      · exact .inl this
      · exact this

/-- both states are alike -/
def TwoS (N p3 p4 : Nat) (H : AHeap) : Prop := ∃ (st own : Int) (a : Option Addr) (l c : Nat) (a' : Option Addr) (l' c' : Nat) (zs : List Int) (e3 v3 e4 v4 : Nat),
  At H p3 ⟨[.int .i64 st, .int .i64 own, .slice a l c], e3, .rw, v3⟩ ∧ At H p4 ⟨[.int .i64 st, .int .i64 own, .slice a' l' c'], e4, .rw, v4⟩ ∧
  Ints H a l zs ∧ Ints H a' l' zs ∧ (∀ q, a = some q → N ≤ q.block) ∧ (∀ q, a' = some q → N ≤ q.block) ∧ Strict zs ∧ (0 ≤ st ∧ st ≤ 3) ∧ l ≤ 8

theorem f5_loop {k N p3 p4 len : Nat} (hk : 3000 ≤ k) (hp3 : p3 < N) (hp4 : p4 < N) (n3 : p3 ≠ p4) {cs0 : List Value}
    (hb : ∀ j, j < len → ∃ x0 x1 x2 : Int, (cs0.drop (j * 3)).take 3 = [.int .u8 x0, .int .u8 x1, .int .u8 x2] ∧ (0 ≤ x0 ∧ x0 ≤ 255) ∧ (0 ≤ x1 ∧ x1 ≤ 255))
    {a0 : Option Addr} {c0 : Nat} (ha0 : ∀ q, a0 = some q → q.block ≠ p3 ∧ q.block ≠ p4) : ∀ (m i n : Nat) (H : AHeap) (D : List Value),
    (∀ i, H.next ≤ i → H.get i = none) → N ≤ H.next → TwoS N p3 p4 H → Cells H a0 (len * 3) cs0 → i ≤ 60 → i + m = len → m < n →
    Ok (f5.L1 k n p3 p4 a0 len c0 (len : Int) (i : Int) D H) fun r => r.1 = .bool true := by
  intro m
  induction m with
  | zero =>
    intro i n H D hF hN hT hC hi hm hn
    obtain ⟨n, rfl⟩ : ∃ j, n = j + 1 := ⟨n - 1, by omega⟩
    rw [f5.L1_s]
    exact ok_biff (by simp only [decide_eq_false_iff_not]; omega) (ok_cB0 (awake28 (by omega) H) (Ok.ret rfl))
  | succ m ih =>
    intro i n H D hF hN hT hC hi hm hn
    obtain ⟨n, rfl⟩ : ∃ j, n = j + 1 := ⟨n - 1, by omega⟩
    rw [f5.L1_s]
    obtain ⟨x0, x1, x2, hrow, hx0, hx1⟩ := hb i (by omega)
    obtain ⟨q, eq, hq⟩ := hC.row (j := i * 3) (m := 3) (by omega) (by omega)
    rw [hrow] at hq
    refine ok_bift (by simp only [decide_eq_true_eq]; omega) (ok_bind eq (ok_if (by omega) (ok_bind hq ?_)))
    refine ok_al fun ib H1 hi1 nx1 A1 B1 => ok_if ⟨rfl, rfl⟩ (ok_wr B1 rfl (by simp) fun H2 W2 => ?_)
    refine ok_bif (fun _ => ok_cB0 (awake28 (by omega) H2) (Ok.ret rfl)) (fun h60 => ?_)
    simp only [decide_eq_false_iff_not] at h60
    have A2 : Agree H H2 := A1.wrote W2 (by omega)
    have B2 := W2.at'
    obtain ⟨st, own, a, l, c, a', l', c', zs, e3, v3, e4, v4, t1, t2, t3, t4, t5, t6, t7, t8, t9⟩ := hT
    have ei : IntKind.i64.wrap ((i : Int) + 1) = ((i + 1 : Nat) : Int) := by rw [wrap_id (by omega) (by omega)]; rfl
    refine ok_if (by omega) (ok_bind (ldI_at B2 (by simp) rfl) ?_)
    refine ok_cG1 (f23_spec (by omega) H2 x2) fun v H4 hp => ?_
    obtain ⟨a1, l1, c1, a2, l2, c2, e, hI1, hI2, A4⟩ := hp
    refine ⟨_, e, ?_⟩
    have hl1 := hI1.len
    have hl2 := hI2.len
    have u1 := heldL_len 1 4 x2 0
    have u2 := heldL_len 2 4 x2 0
    have A04 := A2.trans A4
    refine ok_al fun ih' H5 hih n5 A5 B5 => ok_if ⟨rfl, rfl⟩ (ok_wr B5 rfl (by simp) fun H6 W6 => ?_)
    have A46 : Agree H4 H6 := A5.wrote W6 (by omega)
    have A06 := A04.trans A46
    have hn2 := A2.next
    have hn4 : H2.next ≤ H4.next := A4.next
    have hn6 := A46.next
    have B6 := (B2.agree A4).agree A46
    have P6 : HeldAt H6 ih' a1 l1 c1 a2 l2 c2 := ⟨_, _, W6.at'⟩
    have T6 := t1.agree A06
    refine ok_bind (row_at T6 (by simp) (by simp)) (ok_if (by omega) (ok_bind (ldI_at B6 (by simp) rfl) (ok_if (by omega) (ok_bind (ldI_at B6 (by simp) rfl) (ok_bind P6.row ?_)))))
    have I1 := hI1.agree A46
    have I2 := hI2.agree A46
    refine ok_cT9 (f24_spec (by omega) st own ((IntKind.i64.wrap x0).tmod 3) ((x1.tmod 2) == 1) (t3.agree A06) I1 I2 (by omega) (by omega)) fun v H7 hp => ?_
    obtain ⟨a7, l7, c7, e7, ⟨z7, I7, s7, m7⟩, A7, N7⟩ := hp
    refine ⟨[.agg #[.int .i64 _, .int .i64 _, .slice a7 l7 c7], .bool _], e7, ok_exG rfl (ok_exB rfl ?_)⟩
    refine ok_al fun i2 H8 hi2 n8 A8 B8 => ok_if ⟨rfl, rfl⟩ (ok_wr B8 rfl (by simp) fun H9 W9 => ?_)
    have A79 : Agree H7 H9 := A8.wrote W9 (by omega)
    have A69 := A7.trans A79
    have A09 := A06.trans A69
    have hn7 : H6.next ≤ H7.next := A7.next
    have hn9 := A79.next
    have T9 := t2.agree A09
    have B9 := B6.agree A69
    have P9 := P6.agree A69
    refine ok_bind (row_at T9 (by simp) (by simp)) (ok_if (by omega) (ok_bind (ldI_at B9 (by simp) rfl) (ok_if (by omega) (ok_bind (ldI_at B9 (by simp) rfl) (ok_bind P9.row ?_)))))
    have hll : l' = l := t4.len.trans t3.len.symm
    refine ok_cT9 (f25_spec (by omega) st own ((IntKind.i64.wrap x0).tmod 3) ((x1.tmod 2) == 1) (t4.agree A09) (I1.agree A69) (I2.agree A69) (by omega) (by omega) (by omega) t7 t8) fun v H10 hp => ?_
    obtain ⟨a10, l10, c10, e10, ⟨z10, I10, s10, m10⟩, A10, N10⟩ := hp
    refine ⟨[.agg #[.int .i64 _, .int .i64 _, .slice a10 l10 c10], .bool _], e10, ok_exG rfl (ok_exB rfl ?_)⟩
    obtain rfl : z7 = z10 := strict_ext s7 s10 fun v => by rw [m7, m10]
    have hl710 : l10 = l7 := I10.len.trans I7.len.symm
    refine ok_al fun i3 H11 hi3 n11 A11 B11 => ok_if ⟨rfl, rfl⟩ (ok_wr B11 rfl (by simp) fun H12 W12 => ?_)
    have A1012 : Agree H10 H12 := A11.wrote W12 (by omega)
    have A912 := A10.trans A1012
    have A712 := A79.trans A912
    have hn10 : H9.next ≤ H10.next := A10.next
    have hn12 := A1012.next
    have F12 := (A09.trans A912).fresh hF
    rw [hl710]
    refine ok_biff (by simp) ?_
    have Ab := agree_bump H12 25
    have S2 := (W9.at').agree A912
    have S3 := W12.at'
    have Z7 := I7.agree A712
    have Z10 := I10.agree A1012
    have len7 : l7 ≤ 8 := by
      have h1 := strict_len s7 (xs := heldL 1 4 x2 0 ++ heldL 2 4 x2 0) (fun v hv => (inS_sub ((m7 v).1 hv)).1)
      rw [List.length_append] at h1
      have := I7.len
      omega
    have hm : maxLen = 9223372036854775807 := rfl
    refine ok_bift (sameB_agree S2 Ab) (ok_bind (row_at (S2.agree Ab) (by simp) (by simp [splice])) (ok_bift (sameB_agree S3 Ab) (ok_bind (row_at (S3.agree Ab) (by simp) (by simp [splice])) ?_)))
    refine ok_cB (f26_spec _ _ (by omega) (by omega) (Z7.agree Ab) (Z10.agree Ab)) fun H13 A13 => ok_biff rfl ?_
    have A1213 := Ab.trans A13
    have T3 := (T6.agree A69).agree A912
    have T4 := T9.agree A912
    refine ok_bift (sameB_agree T3 A1213) (ok_bind (row_at (T3.agree A1213) (by simp) (by simp)) (ok_bift (sameB_agree T4 A1213) (ok_bind (row_at (T4.agree A1213) (by simp) (by simp)) ?_)))
    have A013 := (A09.trans A912).trans A1213
    refine ok_cB (f26_spec _ _ (by omega) (by omega) (t3.agree A013) (t4.agree A013)) fun H14 A14 => ok_biff rfl ?_
    have A1214 := A1213.trans A14
    have B12 := B9.agree A912
    refine ok_if (by omega) (ok_bift (sameB_agree B12 A1214) (ok_bind (ldI_at (B12.agree A1214) (by simp) rfl) ?_))
    refine ok_cG1 (f23_spec (by omega) H14 x2) fun v H15 hp => ?_
    obtain ⟨b1, m1, d1, b2, m2, d2, e15, J1, J2, A15⟩ := hp
    refine ⟨_, e15, ?_⟩
    have A1215 := A1214.trans A15
    obtain ⟨eP, vP, P12⟩ := P9.agree A912
    refine ok_bift (sameB_agree P12 A1215) (ok_bind (row_at (P12.agree A1215) (by simp) (by simp)) (ok_bsk ?_))
    have f17 : Free H15 (H12.next + 17) := (free_bump F12 (n := 25) (by omega)).agree ((A13.trans A14).trans A15)
    have f21 : Free H15 (H12.next + 21) := (free_bump F12 (n := 25) (by omega)).agree ((A13.trans A14).trans A15)
    refine ok_als A1215 f17 (by omega) fun H16 n16 A16 B16 S16 F16 => ok_bsk ?_
    refine ok_als A16 (F16 _ f21 (by omega)) (by omega) fun H17 n17 A17 B17 S17 F17 => ?_
    have I12 := (I1.agree A69).agree A912
    have I12' := (I2.agree A69).agree A912
    have sb : Sub' H15 H17 := S16.trans S17
    refine ok_cB (f27_one (by omega) (S17 _ _ B16) B17 (I12.agree A17) (I12'.agree A17) (J1.sub sb) (J2.sub sb) (by omega) (by omega)) fun H18 A18 => ok_biff rfl ?_
    have A1218 := A17.trans A18
    have Ab2 := agree_bump H18 4
    have A12b := A1218.trans Ab2
    refine ok_bift (sameB_agree (S2.agree A1218) Ab2) (ok_bind (row_at (S2.agree A12b) (by simp) (by simp [splice])) (ok_if ⟨rfl, rfl⟩ (ok_wr (T3.agree A12b) rfl (by simp [splice]) fun H19 W19 => ?_)))
    have S3' := (S3.agree A12b).wrote W19 (show i3 ≠ p3 by omega)
    refine ok_bift (sameB_at (S3.agree A1218) S3' rfl) (ok_bind (row_at S3' (by simp) (by simp [splice])) (ok_if ⟨rfl, rfl⟩ (ok_wr ((T4.agree A12b).wrote W19 (Ne.symm n3)) rfl (by simp [splice]) fun H20 W20 => ?_)))
    rw [ei]
    have AF := (A09.trans A912).trans A12b
    have hnF := AF.next
    refine ih (i + 1) n H20 _ (W20.fresh (W19.fresh (AF.fresh hF))) (by rw [W20.next, W19.next]; omega) ?_ ?_ (by omega) (by omega) (by omega)
    · have z7' : ∀ q, a7 = some q → N ≤ q.block := fun q e => by have := N7 q e; omega
      have z10' : ∀ q, a10 = some q → N ≤ q.block := fun q e => by have := N10 q e; omega
      exact ⟨_, _, a7, l7, c7, a10, l10, c10, z7, _, _, _, _, W19.at'.wrote W20 n3, W20.at',
        Cells.wrote (Cells.wrote (Z7.agree A12b) W19 (fun q e => by have := z7' q e; omega)) W20 (fun q e => by have := z7' q e; omega),
        Cells.wrote (Cells.wrote (Z10.agree A12b) W19 (fun q e => by have := z10' q e; omega)) W20 (fun q e => by have := z10' q e; omega),
        z7', z10', s7, stS_range t8, len7⟩
    · exact ((hC.agree AF).wrote W19 (fun q e => (ha0 q e).1)).wrote W20 (fun q e => (ha0 q e).2)
theorem f5_any {H : AHeap} (hF : ∀ i, H.next ≤ i → H.get i = none) {a : Option Addr} {len c : Nat} {cs0 : List Value} (hC : Cells H a (len * 3) cs0)
    (hb : ∀ j, j < len → ∃ x0 x1 x2 : Int, (cs0.drop (j * 3)).take 3 = [.int .u8 x0, .int .u8 x1, .int .u8 x2] ∧ (0 ≤ x0 ∧ x0 ≤ 255) ∧ (0 ≤ x1 ∧ x1 ≤ 255)) :
    ∃ k H', C k 5 [.slice a len c] H = some (.bool true, H') := by
  have hk : ∃ H', C (len + 4000 + 1) 5 [.slice a len c] H = some (.bool true, H') ∧ True := by
    rw [f5_eq]
    refine call_of_ok ?_
    refine ok_al fun i2 H2 hi2 n2 A2 B2 => ok_al fun i3 H3 hi3 n3 A3 B3 => ?_
    refine ok_wr (B2.agree A3) rfl (by simp) fun H4 W4 => ok_wr (B3.wrote W4 (by omega)) rfl (by simp) fun H5 W5 => ?_
    have A03 := A2.trans A3
    have A5 : Agree H H5 := (A03.wrote W4 (by omega)).wrote W5 (by have := A2.next; omega)
    have hne : ∀ q, a = some q → q.block < H.next := Cells.below hC
    have hn5 : H5.next = H3.next := by rw [W5.next, W4.next]
    have key := fun D => f5_loop (k := len + 4000) (N := H3.next) (p3 := i2) (p4 := i3) (c0 := c) (by omega) (by omega) (by omega) (by omega) hb (a0 := a)
      (fun q e => by have := hne q e; omega) len 0 (len + 4000) H5 D (A5.fresh hF) (by omega)
      ⟨0, 0, none, 0, 0, none, 0, 0, [], _, _, _, _, W4.at'.wrote W5 (by omega), W5.at', Ints.nil _, Ints.nil _, (fun q e => by cases e), (fun q e => by cases e), .nil, by omega, by omega⟩ (hC.agree A5) (by omega) (by omega) (by omega)
    obtain ⟨r, e, h⟩ := key _
    exact ⟨r, e, h, trivial⟩
  obtain ⟨H', e, _⟩ := hk
  exact ⟨_, H', e⟩
theorem locksetSteps_ok (n : Nat) : LawOk awk Try.prog 5 (n + 1 + 1 + 1 + 1) [22] := by
  intro H vs hF hA
  obtain ⟨v0, _, rfl, h0, hA⟩ := argsV_cons hA
  obtain rfl := argsV_nil hA
  obtain ⟨a, len, c, es, rfl, hC, hR⟩ := arg_slice (n := n + 1 + 1 + 1) ag22 und22 cells29 hF h0
  exact f5_any hF hC (rep_u8s3 (n := n + 1) und29 und5 hR)
end Go.Proofs.MxF
end

section
set_option linter.unusedSimpArgs false
/- LocksetExcludes: the law. -/
set_option linter.unusedVariables false
namespace Go.Proofs.MxF
open Go Go.Mx Go.Proofs
theorem ag43 : aggT Try.prog 43 = true := by kernel_rfl
def fsOf (d : Option TypeDesc) : Array Field := match d with | some (.struct fs) => fs | _ => #[]
theorem und43 : Try.prog.underlying 43 = some (.struct (fsOf (Try.prog.underlying 43))) := by kernel_rfl
theorem fs43 : (fsOf (Try.prog.underlying 43)).toList.map (·.type) = [26, 26] := by kernel_rfl
theorem und26 : Try.prog.underlying 26 = some (.slice 3) := by kernel_rfl
theorem und3' : Try.prog.underlying 3 = some (.int .i64) := by kernel_rfl
theorem cells3 : Try.prog.cellsOf 3 = 1 := by kernel_rfl
theorem locksetExcludes_ok (n : Nat) : LawOk awk Try.prog 8 (n + 1 + 1 + 1) [43, 43] := by
  intro H vs hF hA
  obtain ⟨v0, _, rfl, h0, hA⟩ := argsV_cons hA
  obtain ⟨v1, _, rfl, h1, hA⟩ := argsV_cons hA
  obtain rfl := argsV_nil hA
  obtain ⟨a1, l1, c1, a2, l2, c2, x1, x2, rfl, i1, i2, b1, b2⟩ := arg_held (n := n) ag43 und43 fs43 und26 und3' cells3 hF h0
  obtain ⟨a3, l3, c3, a4, l4, c4, x3, x4, rfl, i3, i4, b3, b4⟩ := arg_held (n := n) ag43 und43 fs43 und26 und3' cells3 hF h1
  exact f8_any i1 i2 i3 i4 (Nat.le_trans b1 (by decide)) (Nat.le_trans b2 (by decide)) (Nat.le_trans b3 (by decide)) (Nat.le_trans b4 (by decide))
end Go.Proofs.MxF
end

section
set_option linter.unusedSimpArgs false
/- LocksetUnsorted. -/
set_option linter.unusedVariables false
namespace Go.Proofs.MxF
open Go Go.Mx Go.Proofs
theorem ag3 : aggT Try.prog 3 = false := by kernel_rfl
theorem ag4 : aggT Try.prog 4 = false := by kernel_rfl
theorem und4 : Try.prog.underlying 4 = some .bool := by kernel_rfl
theorem inS_len {st own th : Int} {w : Bool} {ls ex sh zs : List Int} (hs : Strict zs) (hm : ∀ v, v ∈ zs ↔ inS st own th w ls ex sh v) : zs.length ≤ ex.length + sh.length := by
  have := strict_len hs (xs := ex ++ sh) (fun v hv => (inS_sub ((hm v).1 hv)).1)
  rw [List.length_append] at this
  exact this
theorem f6_any {H : AHeap} {a1 : Option Addr} {l1 c1 : Nat} {a2 : Option Addr} {l2 c2 : Nat} {a3 : Option Addr} {l3 c3 : Nat} {a4 : Option Addr} {l4 c4 : Nat} {x1 x2 x3 x4 : List Int} {y0 y1 : Int} {w : Bool}
    (i1 : Ints H a1 l1 x1) (i2 : Ints H a2 l2 x2) (i3 : Ints H a3 l3 x3) (i4 : Ints H a4 l4 x4) (b1 : l1 ≤ 1152921504606846976) (b2 : l2 ≤ 1152921504606846976) (b3 : l3 ≤ 1152921504606846976) (b4 : l4 ≤ 1152921504606846976) :
    ∃ k H', C k 6 [.int .i64 y0, .int .i64 y1, .bool w, .agg #[.slice a1 l1 c1, .slice a2 l2 c2], .agg #[.slice a3 l3 c3, .slice a4 l4 c4]] H = some (.bool true, H') := by
  have hk : ∃ H', C (4000 + 1) 6 [.int .i64 y0, .int .i64 y1, .bool w, .agg #[.slice a1 l1 c1, .slice a2 l2 c2], .agg #[.slice a3 l3 c3, .slice a4 l4 c4]] H = some (.bool true, H') ∧ True := by
    rw [f6_eq]
    refine call_of_ok ?_
    refine ok_al fun i H1 hi n1 A1 B1 => ok_al fun j H2 hj n2 A2 B2 => ?_
    have A02 := A1.trans A2
    have B12 := B1.agree A2
    refine ok_bSl (ldSl_at B12 (by simp) rfl) (ok_bSl (ldSl_at B12 (by simp) rfl) (ok_bSl (ldSl_at B2 (by simp) rfl) (ok_bSl (ldSl_at B2 (by simp) rfl) ?_)))
    rw [wN (z := (l1 : Int) + (l2 : Int)) (n := l1 + l2) (by omega) (by omega), wN (z := ((l1 + l2 : Nat) : Int) + (l3 : Int)) (n := l1 + l2 + l3) (by omega) (by omega), wN (z := ((l1 + l2 + l3 : Nat) : Int) + (l4 : Int)) (n := l1 + l2 + l3 + l4) (by omega) (by omega)]
    refine ok_bif (fun _ => ok_cB0 (awake28 (by omega) H2) (Ok.ret ⟨rfl, trivial⟩)) (fun h60 => ?_)
    rw [decide_eq_false_iff_not] at h60
    have e1 := i1.len
    have e2 := i2.len
    have e3 := i3.len
    have e4 := i4.len
    -- Step, three times
    refine ok_bind (row_at B12 (by simp) (by simp)) ?_
    refine ok_cT9 (f24_spec (by omega) 0 0 y0 w (Ints.nil H2) (i1.agree A02) (i2.agree A02) (by omega) (by omega)) fun v H4 hp => ?_
    obtain ⟨a5, l5, c5, ee5, ⟨z5, I5, s5, m5⟩, A24, N5⟩ := hp
    refine ⟨[.agg #[.int .i64 _, .int .i64 _, .slice a5 l5 c5], .bool _], ee5, ok_exG rfl (ok_exB rfl ?_)⟩
    have hz5 := inS_len s5 m5
    have hl5 := I5.len
    refine ok_al fun p H5 hp5 n5 A45 B5 => ok_if ⟨rfl, rfl⟩ (ok_wr B5 rfl (by simp) fun H6 W6 => ?_)
    have A46 : Agree H4 H6 := A45.wrote W6 (by omega)
    have A26 := A24.trans A46
    have A06 := A02.trans A26
    have P6 := W6.at'
    refine ok_bind (row_at P6 (by simp) (by simp [splice])) (ok_bind (row_at (B12.agree A26) (by simp) (by simp)) ?_)
    refine ok_cT9 (f24_spec (by omega) (stS 0 0 y0 w) (owS 0 0 y0) y1 w (I5.agree A46) (i1.agree A06) (i2.agree A06) (by omega) (by omega)) fun v H7 hp => ?_
    obtain ⟨a7, l7, c7, ee7, ⟨z7, I7, s7, m7⟩, A67, N7⟩ := hp
    refine ⟨[.agg #[.int .i64 _, .int .i64 _, .slice a7 l7 c7], .bool _], ee7, ok_exG rfl (ok_exB rfl ?_)⟩
    have hz7 := inS_len s7 m7
    have hl7 := I7.len
    refine ok_al fun p3 H8 hp8 n8 A78 B8 => ok_if ⟨rfl, rfl⟩ (ok_wr B8 rfl (by simp) fun H9 W9 => ?_)
    have A79 : Agree H7 H9 := A78.wrote W9 (by omega)
    have A69 := A67.trans A79
    have A29 := A26.trans A69
    have A09 := A02.trans A29
    have P9 := W9.at'
    refine ok_bind (row_at P9 (by simp) (by simp [splice])) (ok_bind (row_at (B2.agree A29) (by simp) (by simp)) ?_)
    refine ok_cT9 (f24_spec (by omega) _ _ y0 (!w) (I7.agree A79) (i3.agree A09) (i4.agree A09) (by omega) (by omega)) fun v H10 hp => ?_
    obtain ⟨a10, l10, c10, ee10, ⟨z10, I10, s10, m10⟩, A910, N10⟩ := hp
    refine ⟨[.agg #[.int .i64 _, .int .i64 _, .slice a10 l10 c10], .bool _], ee10, ok_exG rfl (ok_exB rfl ?_)⟩
    have hz10 := inS_len s10 m10
    have hl10 := I10.len
    refine ok_al fun p4 H11 hp11 n11 A1011 B11 => ok_if ⟨rfl, rfl⟩ (ok_wr B11 rfl (by simp) fun H12 W12 => ?_)
    have A1012 : Agree H10 H12 := A1011.wrote W12 (by omega)
    have A912 := A910.trans A1012
    have A212 := A29.trans A912
    have A012 := A02.trans A212
    have P12 := W12.at'
    have r0 : 0 ≤ (0 : Int) ∧ (0 : Int) ≤ 3 := by decide
    have r1 := stS_range (own := 0) (th := y0) (w := w) r0
    have r2 := stS_range (own := owS 0 0 y0) (th := y1) (w := w) r1
    -- the reference, three times
    refine ok_bind (row_at (B12.agree A212) (by simp) (by simp)) ?_
    refine ok_cT9 (f25_spec (by omega) 0 0 y0 w (Ints.nil H12) (i1.agree A012) (i2.agree A012) (by omega) (by omega) (by omega) .nil r0) fun v H13 hp => ?_
    obtain ⟨a13, l13, c13, ee13, ⟨z13, I13, s13, m13⟩, A1213, N13⟩ := hp
    refine ⟨[.agg #[.int .i64 _, .int .i64 _, .slice a13 l13 c13], .bool _], ee13, ok_exG rfl (ok_exB rfl ?_)⟩
    obtain rfl : z5 = z13 := strict_ext s5 s13 fun v => by rw [m5, m13]
    obtain rfl : l13 = l5 := I13.len.trans I5.len.symm
    refine ok_al fun p5 H14 hp14 n14 A1314 B14 => ok_if ⟨rfl, rfl⟩ (ok_wr B14 rfl (by simp) fun H15 W15 => ?_)
    have A1315 : Agree H13 H15 := A1314.wrote W15 (by omega)
    have A1215 := A1213.trans A1315
    have A215 := A212.trans A1215
    have A015 := A02.trans A215
    have P15 := W15.at'
    refine ok_bind (row_at P15 (by simp) (by simp [splice])) (ok_bind (row_at (B12.agree A215) (by simp) (by simp)) ?_)
    refine ok_cT9 (f25_spec (by omega) (stS 0 0 y0 w) (owS 0 0 y0) y1 w (I13.agree A1315) (i1.agree A015) (i2.agree A015) (by omega) (by omega) (by omega) s13 r1) fun v H16 hp => ?_
    obtain ⟨a16, l16, c16, ee16, ⟨z16, I16, s16, m16⟩, A1516, N16⟩ := hp
    refine ⟨[.agg #[.int .i64 _, .int .i64 _, .slice a16 l16 c16], .bool _], ee16, ok_exG rfl (ok_exB rfl ?_)⟩
    obtain rfl : z7 = z16 := strict_ext s7 s16 fun v => by rw [m7, m16]
    obtain rfl : l16 = l7 := I16.len.trans I7.len.symm
    refine ok_al fun p6 H17 hp17 n17 A1617 B17 => ok_if ⟨rfl, rfl⟩ (ok_wr B17 rfl (by simp) fun H18 W18 => ?_)
    have A1618 : Agree H16 H18 := A1617.wrote W18 (by omega)
    have A1518 := A1516.trans A1618
    have A218 := A215.trans A1518
    have A018 := A02.trans A218
    have P18 := W18.at'
    refine ok_bind (row_at P18 (by simp) (by simp [splice])) (ok_bind (row_at (B2.agree A218) (by simp) (by simp)) ?_)
    refine ok_cT9 (f25_spec (by omega) _ _ y0 (!w) (I16.agree A1618) (i3.agree A018) (i4.agree A018) (by omega) (by omega) (by omega) s16 r2) fun v H19 hp => ?_
    obtain ⟨a19, l19, c19, ee19, ⟨z19, I19, s19, m19⟩, A1819, N19⟩ := hp
    refine ⟨[.agg #[.int .i64 _, .int .i64 _, .slice a19 l19 c19], .bool _], ee19, ok_exG rfl (ok_exB rfl ?_)⟩
    obtain rfl : z10 = z19 := strict_ext s10 s19 fun v => by rw [m10, m19]
    obtain rfl : l19 = l10 := I19.len.trans I10.len.symm
    refine ok_al fun p7 H20 hp20 n20 A1920 B20 => ok_if ⟨rfl, rfl⟩ (ok_wr B20 rfl (by simp) fun H21 W21 => ?_)
    have A1921 : Agree H19 H21 := A1920.wrote W21 (by omega)
    have A1821 := A1819.trans A1921
    have A1521 := A1518.trans A1821
    have A1221 := A1215.trans A1521
    have A921 := A912.trans A1221
    have A621 := A69.trans A921
    have A421 := A46.trans A621
    have A721 := A79.trans A921
    have A1021 := A1012.trans A1221
    have A1321 := A1315.trans A1521
    have A1621 := A1618.trans A1821
    have hm : maxLen = 9223372036854775807 := rfl
    refine ok_bift (by simp) (ok_bift (by simp) (ok_bift (by simp) ?_))
    refine ok_bind (row_at (P6.agree A621) (by simp) (by simp [splice])) (ok_bind (row_at (P15.agree A1521) (by simp) (by simp [splice])) ?_)
    refine ok_cB (f26_spec _ _ (by omega) (by omega) (I5.agree A421) (I13.agree A1321)) fun H22 A22 => ok_bift rfl ?_
    refine ok_bind (row_at ((P9.agree A921).agree A22) (by simp) (by simp [splice])) (ok_bind (row_at ((P18.agree A1821).agree A22) (by simp) (by simp [splice])) ?_)
    refine ok_cB (f26_spec _ _ (by omega) (by omega) ((I7.agree A721).agree A22) ((I16.agree A1621).agree A22)) fun H23 A23 => ok_bift rfl ?_
    have A2123 := A22.trans A23
    refine ok_bind (row_at ((P12.agree A1221).agree A2123) (by simp) (by simp [splice])) (ok_bind (row_at ((W21.at').agree A2123) (by simp) (by simp [splice])) ?_)
    refine ok_cB (f26_spec _ _ (by omega) (by omega) ((I10.agree A1021).agree A2123) ((I19.agree A1921).agree A2123)) fun H24 A24 => ok_bift rfl ?_
    exact ok_cB0 (awake28 (by omega) H24) (Ok.ret ⟨rfl, trivial⟩)
  obtain ⟨H', e, _⟩ := hk
  exact ⟨_, H', e⟩
theorem locksetUnsorted_ok (n : Nat) : LawOk awk Try.prog 6 (n + 1 + 1 + 1) [3, 3, 4, 43, 43] := by
  intro H vs hF hA
  obtain ⟨v0, _, rfl, h0, hA⟩ := argsV_cons hA
  obtain ⟨v1, _, rfl, h1, hA⟩ := argsV_cons hA
  obtain ⟨v2, _, rfl, h2, hA⟩ := argsV_cons hA
  obtain ⟨v3, _, rfl, h3, hA⟩ := argsV_cons hA
  obtain ⟨v4, _, rfl, h4, hA⟩ := argsV_cons hA
  obtain rfl := argsV_nil hA
  obtain ⟨y0, rfl, _⟩ := arg_int (n := n + 1 + 1) ag3 und3' h0
  obtain ⟨y1, rfl, _⟩ := arg_int (n := n + 1 + 1) ag3 und3' h1
  obtain ⟨w, rfl⟩ := arg_bool (n := n + 1 + 1) ag4 und4 h2
  obtain ⟨a1, l1, c1, a2, l2, c2, x1, x2, rfl, i1, i2, b1, b2⟩ := arg_held (n := n) ag43 und43 fs43 und26 und3' cells3 hF h3
  obtain ⟨a3, l3, c3, a4, l4, c4, x3, x4, rfl, i3, i4, b3, b4⟩ := arg_held (n := n) ag43 und43 fs43 und26 und3' cells3 hF h4
  exact f6_any i1 i2 i3 i4 (Nat.le_trans b1 (by decide)) (Nat.le_trans b2 (by decide)) (Nat.le_trans b3 (by decide)) (Nat.le_trans b4 (by decide))
end Go.Proofs.MxF
end
