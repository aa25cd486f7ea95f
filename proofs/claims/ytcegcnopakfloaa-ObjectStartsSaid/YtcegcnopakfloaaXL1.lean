/- Lists of numbers: is one among them; which locks exclude which. -/
import Derived.Test.YtcegcnopakfloaaXS2
import Derived.Test.YtcegcnopakfloaaXLp
import Derived.Test.YtcegcnopakfloaaXBase2
import Derived.IntWalk
set_option linter.unusedVariables false
namespace Go.Proofs.MxF
open Go Go.Mx Go.Proofs

theorem wrapS {i l : Nat} (h : i < l) (hl : l ≤ maxLen) : IntKind.i64.wrap ((i : Int) + 1) = ((i + 1 : Nat) : Int) := by
  unfold maxLen at hl
  rw [IntWalk.i64_in _ (by omega)]; omega
theorem drop_cons {α : Type} {xs : List α} {i : Nat} {x : α} (h : xs[i]? = some x) : xs.drop i = x :: xs.drop (i + 1) := by
  obtain ⟨hi, e⟩ := List.getElem?_eq_some_iff.1 h
  rw [List.drop_eq_getElem_cons hi, e]
/-- reading entry i -/
theorem Ints.at {H : AHeap} {a : Option Addr} {l : Nat} {xs : List Int} (h : Ints H a l xs) {i : Nat} (hi : i < l) :
    ∃ q x, xs[i]? = some x ∧ a = some q ∧ ldI .i64 H q.block (q.off + (i : Int).toNat * 1) = some x := by
  have hx : i < xs.length := by have := h.len; omega
  obtain ⟨q, e, hq⟩ := h.ld (List.getElem?_eq_getElem hx)
  exact ⟨q, xs[i], List.getElem?_eq_getElem hx, e, by rw [Nat.mul_one]; exact hq⟩
def hasI (xs : List Int) (v : Int) : Bool := xs.any fun x => x == v
theorem hasI_cons (x : Int) (xs : List Int) (v : Int) : hasI (x :: xs) v = ((x == v) || hasI xs v) := rfl
theorem hasI_at {xs : List Int} {i : Nat} {x v : Int} (h : xs[i]? = some x) : hasI (xs.drop i) v = ((x == v) || hasI (xs.drop (i + 1)) v) := by
  rw [drop_cons h]; rfl
theorem hasI_end {xs : List Int} {i : Nat} {v : Int} (h : xs.length ≤ i) : hasI (xs.drop i) v = false := by
  rw [List.drop_eq_nil_of_le h]; rfl

theorem f87_loop {k l c : Nat} {a : Option Addr} {xs : List Int} {v : Int} {H : AHeap} (h : Ints H a l xs) (hl : l ≤ maxLen) : ∀ (m i n : Nat) (D : List Value), i + m = l → m < n →
    Ok (f87.L1 k n a l c v (l : Int) (i : Int) D H) fun r => ∃ x : Int, r = (.int .i64 x, H) ∧ decide (x ≥ 0) = hasI (xs.drop i) v := by
  intro m
  induction m with
  | zero =>
    intro i n D hm hn
    obtain ⟨n, rfl⟩ : ∃ j, n = j + 1 := ⟨n - 1, by omega⟩
    rw [f87.L1_s]
    refine ok_biff (by simp only [decide_eq_false_iff_not]; omega) (Ok.ret ⟨_, rfl, ?_⟩)
    rw [hasI_end (by have := h.len; omega)]; rfl
  | succ m ih =>
    intro i n D hm hn
    obtain ⟨n, rfl⟩ : ∃ j, n = j + 1 := ⟨n - 1, by omega⟩
    rw [f87.L1_s]
    obtain ⟨q, x, hx, e, hq⟩ := Ints.at h (i := i) (by omega)
    refine ok_bift (by simp only [decide_eq_true_eq]; omega) (ok_bind e (ok_if (by omega) (ok_bind hq ?_)))
    rw [hasI_at hx, wrapS (l := l) (by omega) hl]
    refine ok_bif (fun hb => Ok.ret ⟨_, rfl, ?_⟩) (fun hb => ?_)
    · rw [beq_iff_eq] at hb; subst hb; rw [beq_self_eq_true]; simp
    · have : (x == v) = false := by rw [Bool.beq_comm] at hb; exact hb
      rw [this, Bool.false_or]
      exact ih (i + 1) n _ (by omega) (by omega)
theorem f63_spec {k l c : Nat} {a : Option Addr} {xs : List Int} {H : AHeap} (h : Ints H a l xs) (hl : l ≤ maxLen) (hk : l + 3 ≤ k) (v : Int) :
    C k 63 [.slice a l c, .int .i64 v] H = some (.bool (hasI xs v), H) := by
  obtain ⟨k, rfl⟩ : ∃ j, k = j + 1 + 1 := ⟨k - 2, by omega⟩
  rw [f63_eq, f87_eq]
  apply eq_of_ok
  obtain ⟨r, e, x, e1, e2⟩ := f87_loop (k := k) (c := c) (v := v) h hl l 0 k [.int .i64 0, undef, .slice a l c, undef, undef, undef, undef, undef, undef, undef, undef, undef] (by omega) (by omega)
  subst e1
  refine ok_cI0 (n := x) e (Ok.ret ?_)
  rw [e2]; rfl

theorem f29_loop {k l c : Nat} {a : Option Addr} {xs : List Int} {v : Int} {H : AHeap} (h : Ints H a l xs) (hl : l ≤ maxLen) : ∀ (m i n : Nat) (D : List Value), i + m = l → m < n →
    Ok (f29.L1 k n v a l c (l : Int) (i : Int) D H) fun r => r = (.bool (hasI (xs.drop i) v), H) := by
  intro m
  induction m with
  | zero =>
    intro i n D hm hn
    obtain ⟨n, rfl⟩ : ∃ j, n = j + 1 := ⟨n - 1, by omega⟩
    rw [f29.L1_s]
    refine ok_biff (by simp only [decide_eq_false_iff_not]; omega) (Ok.ret ?_)
    rw [hasI_end (by have := h.len; omega)]
  | succ m ih =>
    intro i n D hm hn
    obtain ⟨n, rfl⟩ : ∃ j, n = j + 1 := ⟨n - 1, by omega⟩
    rw [f29.L1_s]
    obtain ⟨q, x, hx, e, hq⟩ := Ints.at h (i := i) (by omega)
    refine ok_bift (by simp only [decide_eq_true_eq]; omega) (ok_bind e (ok_if (by omega) (ok_bind hq ?_)))
    rw [hasI_at hx, wrapS (l := l) (by omega) hl]
    refine ok_bif (fun hb => Ok.ret ?_) (fun hb => ?_)
    · rw [hb]; rfl
    · rw [hb, Bool.false_or]
      exact ih (i + 1) n _ (by omega) (by omega)
theorem f29_spec {k l c : Nat} {a : Option Addr} {xs : List Int} {H : AHeap} (h : Ints H a l xs) (hl : l ≤ maxLen) (hk : l + 2 ≤ k) (v : Int) :
    C k 29 [.slice a l c, .int .i64 v] H = some (.bool (hasI xs v), H) := by
  obtain ⟨k, rfl⟩ : ∃ j, k = j + 1 := ⟨k - 1, by omega⟩
  rw [f29_eq]
  exact eq_of_ok (f29_loop (k := k) (c := c) (v := v) h hl l 0 k _ (by omega) (by omega))

/-- a Held in a box -/
def HeldAt (H : AHeap) (p : Nat) (a : Option Addr) (l c : Nat) (a' : Option Addr) (l' c' : Nat) : Prop := ∃ e v, At H p ⟨[.slice a l c, .slice a' l' c'], e, .rw, v⟩
theorem HeldAt.ld0 {H : AHeap} {p : Nat} {a : Option Addr} {l c : Nat} {a' : Option Addr} {l' c' : Nat} (h : HeldAt H p a l c a' l' c') : ldSl H p 0 = some (a, l, c) := by
  obtain ⟨e, v, h⟩ := h; exact ldSl_at h (by simp) rfl
theorem HeldAt.ld1 {H : AHeap} {p : Nat} {a : Option Addr} {l c : Nat} {a' : Option Addr} {l' c' : Nat} (h : HeldAt H p a l c a' l' c') : ldSl H p 1 = some (a', l', c') := by
  obtain ⟨e, v, h⟩ := h; exact ldSl_at h (by simp) rfl
theorem HeldAt.row {H : AHeap} {p : Nat} {a : Option Addr} {l c : Nat} {a' : Option Addr} {l' c' : Nat} (h : HeldAt H p a l c a' l' c') : H.row p 0 2 = some [.slice a l c, .slice a' l' c'] := by
  obtain ⟨e, v, h⟩ := h
  rw [row_at h (by simp) (by simp)]; rfl
theorem HeldAt.agree {H H' : AHeap} {p : Nat} {a : Option Addr} {l c : Nat} {a' : Option Addr} {l' c' : Nat} (h : HeldAt H p a l c a' l' c') (A : Agree H H') : HeldAt H' p a l c a' l' c' := by
  obtain ⟨e, v, h⟩ := h; exact ⟨e, v, h.agree A⟩

theorem f62_spec {k : Nat} {H : AHeap} {p : Nat} {a : Option Addr} {l c : Nat} {a' : Option Addr} {l' c' : Nat} {xs ys : List Int} (hp : HeldAt H p a l c a' l' c') (h : Ints H a l xs) (h' : Ints H a' l' ys) (hl : l ≤ maxLen) (hl' : l' ≤ maxLen)
    (hk : l + l' + 4 ≤ k) (v : Int) : C k 62 [.int .i64 v, .pointer (some ⟨p, 0, none⟩)] H = some (.bool (hasI xs v || hasI ys v), H) := by
  obtain ⟨k, rfl⟩ : ∃ j, k = j + 1 := ⟨k - 1, by omega⟩
  rw [f62_eq]
  apply eq_of_ok
  refine ok_bSl hp.ld0 (ok_cB0 (f63_spec h hl (by omega) v) (ok_bif (fun hb => Ok.ret ?_) (fun hb => ok_bSl hp.ld1 (ok_cB0 (f63_spec h' hl' (by omega) v) (Ok.ret ?_)))))
  · rw [hb]; rfl
  · rw [hb]; rfl

theorem f86_loop {k l c : Nat} {a : Option Addr} {zs : List Int} {H : AHeap} (h : Ints H a l zs) (hl : l ≤ maxLen) {p : Nat} {a1 : Option Addr} {l1 c1 : Nat} {a2 : Option Addr} {l2 c2 : Nat} {xs ys : List Int} (hp : HeldAt H p a1 l1 c1 a2 l2 c2)
    (h1 : Ints H a1 l1 xs) (h2 : Ints H a2 l2 ys) (hl1 : l1 ≤ maxLen) (hl2 : l2 ≤ maxLen) (hk : l1 + l2 + 4 ≤ k) : ∀ (m i n : Nat) (D : List Value), i + m = l → m < n →
    Ok (f86x62.L1 k n a l c p (l : Int) (i : Int) D H) fun r => ∃ x : Int, r = (.int .i64 x, H) ∧ decide (x ≥ 0) = (zs.drop i).any fun v => hasI xs v || hasI ys v := by
  intro m
  induction m with
  | zero =>
    intro i n D hm hn
    obtain ⟨n, rfl⟩ : ∃ j, n = j + 1 := ⟨n - 1, by omega⟩
    rw [f86x62.L1_s]
    refine ok_biff (by simp only [decide_eq_false_iff_not]; omega) (Ok.ret ⟨_, rfl, ?_⟩)
    rw [List.drop_eq_nil_of_le (by have := h.len; omega)]; rfl
  | succ m ih =>
    intro i n D hm hn
    obtain ⟨n, rfl⟩ : ∃ j, n = j + 1 := ⟨n - 1, by omega⟩
    rw [f86x62.L1_s]
    obtain ⟨q, x, hx, e, hq⟩ := Ints.at h (i := i) (by omega)
    refine ok_bift (by simp only [decide_eq_true_eq]; omega) (ok_bind e (ok_if (by omega) (ok_bind hq ?_)))
    rw [drop_cons hx, wrapS (l := l) (by omega) hl, List.any_cons]
    refine ok_cB0 (f62_spec hp h1 h2 hl1 hl2 (by omega) x) (ok_bif (fun hb => Ok.ret ⟨_, rfl, ?_⟩) (fun hb => ?_))
    · rw [hb]; simp
    · rw [hb, Bool.false_or]
      exact ih (i + 1) n _ (by omega) (by omega)
def shares (xs ys zs : List Int) : Bool := xs.any fun v => hasI ys v || hasI zs v
theorem f60_spec {k l c : Nat} {a : Option Addr} {zs : List Int} {H : AHeap} (h : Ints H a l zs) (hl : l ≤ maxLen) {a0 : Option Addr} {l0 c0 : Nat} {a1 : Option Addr} {l1 c1 : Nat} {a2 : Option Addr} {l2 c2 : Nat} {xs ys : List Int}
    (h1 : Ints H a1 l1 xs) (h2 : Ints H a2 l2 ys) (hl1 : l1 ≤ maxLen) (hl2 : l2 ≤ maxLen) (hk : l + l1 + l2 + 10 ≤ k) :
    ∃ H', C k 60 [.agg #[.slice a l c, .slice a0 l0 c0], .agg #[.slice a1 l1 c1, .slice a2 l2 c2]] H = some (.bool (shares zs xs ys), H') ∧ Agree H H' := by
  obtain ⟨k, rfl⟩ : ∃ j, k = j + 1 + 1 + 1 := ⟨k - 3, by omega⟩
  rw [f60_eq]
  refine call_of_ok (ok_al fun i H1 hi n1 A1 B1 => ok_al fun i' H2 hi' n2 A2 B2 => ?_)
  have A02 := A1.trans A2
  refine ok_bSl (ldSl_at (B1.agree A2) (by simp) rfl) ?_
  rw [f61_eq, f86x62_eq]
  obtain ⟨r, e, x, e1, e2⟩ := f86_loop (k := k) (c := c) (h.agree A02) hl (p := i') (c1 := c1) (c2 := c2) ⟨_, _, B2⟩ (h1.agree A02) (h2.agree A02) hl1 hl2 (by omega) l 0 k [.int .i64 0, undef, .slice a l c, undef, undef, undef, undef, undef, undef, undef, undef, undef] (by omega) (by omega)
  subst e1
  refine ok_cB0 (n := decide (x ≥ 0)) (eq_of_ok (ok_cI0 (n := x) e (Ok.ret rfl))) (Ok.ret ⟨?_, A02⟩)
  rw [e2]; rfl

theorem f31_spec {k : Nat} {H : AHeap} {a1 : Option Addr} {l1 c1 : Nat} {a2 : Option Addr} {l2 c2 : Nat} {a3 : Option Addr} {l3 c3 : Nat} {a4 : Option Addr} {l4 c4 : Nat} {x1 x2 x3 x4 : List Int}
    (h1 : Ints H a1 l1 x1) (h2 : Ints H a2 l2 x2) (h3 : Ints H a3 l3 x3) (h4 : Ints H a4 l4 x4) (hl1 : l1 ≤ maxLen) (hl2 : l2 ≤ maxLen) (hl3 : l3 ≤ maxLen) (hl4 : l4 ≤ maxLen) (hk : l1 + l2 + l3 + l4 + 20 ≤ k) :
    ∃ H', C k 31 [.agg #[.slice a1 l1 c1, .slice a2 l2 c2], .agg #[.slice a3 l3 c3, .slice a4 l4 c4]] H = some (.bool (shares x1 x3 x4 || shares x3 x1 x2), H') ∧ Agree H H' := by
  obtain ⟨k, rfl⟩ : ∃ j, k = j + 1 := ⟨k - 1, by omega⟩
  rw [f31_eq]
  refine call_of_ok (ok_al fun i H1 hi n1 A1 B1 => ok_al fun i' H2 hi' n2 A2 B2 => ?_)
  have A02 := A1.trans A2
  have P1 : HeldAt H2 i a1 l1 c1 a2 l2 c2 := ⟨_, _, B1.agree A2⟩
  have P2 : HeldAt H2 i' a3 l3 c3 a4 l4 c4 := ⟨_, _, B2⟩
  refine ok_bind P1.row (ok_bind P2.row (ok_cB (f60_spec (h1.agree A02) hl1 (h3.agree A02) (h4.agree A02) hl3 hl4 (by omega)) fun H3 A3 => ok_bif (fun hb => Ok.ret ⟨?_, A02.trans A3⟩) (fun hb => ?_)))
  · rw [hb]; rfl
  · have A03 := A02.trans A3
    refine ok_bind (P2.agree A3).row (ok_bind (P1.agree A3).row (ok_cB (f60_spec (h3.agree A03) hl3 (h1.agree A03) (h2.agree A03) hl1 hl2 (by omega)) fun H4 A4 => Ok.ret ⟨?_, A03.trans A4⟩))
    rw [hb]; rfl
end Go.Proofs.MxF
