/- LocksetExcludes. -/
import Derived.Test.YtcegcnopakfloaaXL1
set_option linter.unusedVariables false
namespace Go.Proofs.MxF
open Go Go.Mx Go.Proofs

theorem awake28 {k : Nat} (hk : 1 ≤ k) (H : AHeap) : C k 28 [] H = some (.bool true, H) := by
  obtain ⟨k, rfl⟩ : ∃ j, k = j + 1 := ⟨k - 1, by omega⟩
  rfl
def refEx (x1 x2 x3 x4 : List Int) : Bool := x1.any (fun v => hasI x3 v || hasI x4 v) || x3.any fun v => hasI x2 v
theorem hasI_iff {xs : List Int} {v : Int} : hasI xs v = true ↔ v ∈ xs := by
  unfold hasI
  rw [List.any_eq_true]
  constructor
  · rintro ⟨x, hx, e⟩; rw [beq_iff_eq] at e; subst e; exact hx
  · intro h; exact ⟨v, h, by simp⟩
theorem ex_eq (x1 x2 x3 x4 : List Int) : (shares x1 x3 x4 || shares x3 x1 x2) = refEx x1 x2 x3 x4 := by
  rw [Bool.eq_iff_iff]
  unfold shares refEx
  simp only [Bool.or_eq_true, List.any_eq_true, hasI_iff]
  constructor
  · rintro (h | ⟨v, hv, h | h⟩)
    · exact .inl h
    · exact .inl ⟨v, h, .inl hv⟩
    · exact .inr ⟨v, hv, h⟩
  · rintro (h | ⟨v, hv, h⟩)
    · exact .inl h
    · exact .inr ⟨v, hv, .inr h⟩

section
variable {k : Nat} {a1 : Option Addr} {l1 c1 : Nat} {a2 : Option Addr} {l2 c2 : Nat} {a3 : Option Addr} {l3 c3 : Nat} {a4 : Option Addr} {l4 c4 : Nat} {x1 x2 x3 x4 : List Int} {H : AHeap}
theorem f30_l2 (h2 : Ints H a2 l2 x2) (h3 : Ints H a3 l3 x3) (hl2 : l2 ≤ maxLen) (hl3 : l3 ≤ maxLen) (hk : l2 + l3 + 20 ≤ k) {p : Nat} (hp : HeldAt H p a1 l1 c1 a2 l2 c2) : ∀ (m i n : Nat) (D : List Value), i + m = l3 → m < n →
    Ok (f30.L2 k n p a3 l3 c3 (l3 : Int) (i : Int) D H) fun r => r = (.bool ((x3.drop i).any fun v => hasI x2 v), H) := by
  intro m
  induction m with
  | zero =>
    intro i n D hm hn
    obtain ⟨n, rfl⟩ : ∃ j, n = j + 1 := ⟨n - 1, by omega⟩
    rw [f30.L2_s]
    refine ok_biff (by simp only [decide_eq_false_iff_not]; omega) (Ok.ret ?_)
    rw [List.drop_eq_nil_of_le (by have := h3.len; omega)]; rfl
  | succ m ih =>
    intro i n D hm hn
    obtain ⟨n, rfl⟩ : ∃ j, n = j + 1 := ⟨n - 1, by omega⟩
    rw [f30.L2_s]
    obtain ⟨q, x, hx, e, hq⟩ := Ints.at h3 (i := i) (by omega)
    refine ok_bift (by simp only [decide_eq_true_eq]; omega) (ok_bind e (ok_if (by omega) (ok_bind hq ?_)))
    rw [drop_cons hx, wrapS (l := l3) (by omega) hl3, List.any_cons]
    refine ok_bSl hp.ld1 (ok_cB0 (f29_spec h2 hl2 (by omega) x) (ok_bif (fun hb => Ok.ret ?_) (fun hb => ?_)))
    · rw [hb]; rfl
    · rw [hb, Bool.false_or]
      exact ih (i + 1) n _ (by omega) (by omega)
theorem f30_l1 (h1 : Ints H a1 l1 x1) (h2 : Ints H a2 l2 x2) (h3 : Ints H a3 l3 x3) (h4 : Ints H a4 l4 x4) (hl1 : l1 ≤ maxLen) (hl2 : l2 ≤ maxLen) (hl3 : l3 ≤ maxLen) (hl4 : l4 ≤ maxLen) (hk : l1 + l2 + l3 + l4 + 20 ≤ k)
    {p p' : Nat} (hp : HeldAt H p a1 l1 c1 a2 l2 c2) (hp' : HeldAt H p' a3 l3 c3 a4 l4 c4) : ∀ (m i n : Nat) (D : List Value), i + m = l1 → m < n →
    Ok (f30.L1 k n p p' a1 l1 c1 (l1 : Int) (i : Int) D H) fun r => r = (.bool ((x1.drop i).any (fun v => hasI x3 v || hasI x4 v) || x3.any fun v => hasI x2 v), H) := by
  intro m
  induction m with
  | zero =>
    intro i n D hm hn
    obtain ⟨n, rfl⟩ : ∃ j, n = j + 1 := ⟨n - 1, by omega⟩
    rw [f30.L1_s]
    refine ok_biff (by simp only [decide_eq_false_iff_not]; omega) (ok_bSl hp'.ld0 ?_)
    rw [List.drop_eq_nil_of_le (by have := h1.len; omega)]
    exact f30_l2 (a1 := a1) (l1 := l1) (c1 := c1) (c2 := c2) h2 h3 hl2 hl3 (by omega) hp l3 0 k _ (by omega) (by omega)
  | succ m ih =>
    intro i n D hm hn
    obtain ⟨n, rfl⟩ : ∃ j, n = j + 1 := ⟨n - 1, by omega⟩
    rw [f30.L1_s]
    obtain ⟨q, x, hx, e, hq⟩ := Ints.at h1 (i := i) (by omega)
    refine ok_bift (by simp only [decide_eq_true_eq]; omega) (ok_bind e (ok_if (by omega) (ok_bind hq ?_)))
    rw [drop_cons hx, wrapS (l := l1) (by omega) hl1, List.any_cons]
    refine ok_bSl hp'.ld0 (ok_cB0 (f29_spec h3 hl3 (by omega) x) (ok_bif (fun hb => Ok.ret ?_) (fun hb => ?_)))
    · rw [hb]; rfl
    · rw [hb, Bool.false_or]
      refine ok_bSl hp'.ld1 (ok_cB0 (f29_spec h4 hl4 (by omega) x) (ok_bif (fun hb => Ok.ret ?_) (fun hb => ?_)))
      · rw [hb]; rfl
      · rw [hb, Bool.false_or]
        exact ih (i + 1) n _ (by omega) (by omega)
theorem f30_spec (h1 : Ints H a1 l1 x1) (h2 : Ints H a2 l2 x2) (h3 : Ints H a3 l3 x3) (h4 : Ints H a4 l4 x4) (hl1 : l1 ≤ maxLen) (hl2 : l2 ≤ maxLen) (hl3 : l3 ≤ maxLen) (hl4 : l4 ≤ maxLen) (hk : l1 + l2 + l3 + l4 + 25 ≤ k) :
    ∃ H', C k 30 [.agg #[.slice a1 l1 c1, .slice a2 l2 c2], .agg #[.slice a3 l3 c3, .slice a4 l4 c4]] H = some (.bool (refEx x1 x2 x3 x4), H') ∧ Agree H H' := by
  obtain ⟨k, rfl⟩ : ∃ j, k = j + 1 := ⟨k - 1, by omega⟩
  rw [f30_eq]
  refine call_of_ok (ok_al fun i H1 hi n1 A1 B1 => ok_al fun i' H2 hi' n2 A2 B2 => ?_)
  have A02 := A1.trans A2
  have P1 : HeldAt H2 i a1 l1 c1 a2 l2 c2 := ⟨_, _, B1.agree A2⟩
  have P2 : HeldAt H2 i' a3 l3 c3 a4 l4 c4 := ⟨_, _, B2⟩
  refine ok_bSl P1.ld0 ?_
  have key := fun D => f30_l1 (k := k) (h1.agree A02) (h2.agree A02) (h3.agree A02) (h4.agree A02) hl1 hl2 hl3 hl4 (by omega) P1 P2 l1 0 k D (by omega) (by omega)
  obtain ⟨r, e, h⟩ := key _
  exact ⟨r, e, by rw [h]; rfl, by rw [h]; exact A02⟩
theorem f8_any (h1 : Ints H a1 l1 x1) (h2 : Ints H a2 l2 x2) (h3 : Ints H a3 l3 x3) (h4 : Ints H a4 l4 x4) (hl1 : l1 ≤ maxLen) (hl2 : l2 ≤ maxLen) (hl3 : l3 ≤ maxLen) (hl4 : l4 ≤ maxLen) :
    ∃ k H', C k 8 [.agg #[.slice a1 l1 c1, .slice a2 l2 c2], .agg #[.slice a3 l3 c3, .slice a4 l4 c4]] H = some (.bool true, H') := by
  have hk : ∃ H', C (l1 + l2 + l3 + l4 + 100 + 1) 8 [.agg #[.slice a1 l1 c1, .slice a2 l2 c2], .agg #[.slice a3 l3 c3, .slice a4 l4 c4]] H = some (.bool true, H') ∧ True := by
    rw [f8_eq]
    refine call_of_ok (ok_al fun i H1 hi n1 A1 B1 => ok_al fun i' H2 hi' n2 A2 B2 => ?_)
    have A02 := A1.trans A2
    have P1 : HeldAt H2 i a1 l1 c1 a2 l2 c2 := ⟨_, _, B1.agree A2⟩
    have P2 : HeldAt H2 i' a3 l3 c3 a4 l4 c4 := ⟨_, _, B2⟩
    refine ok_bSl P1.ld0 (ok_bSl P1.ld1 (ok_bSl P2.ld0 (ok_bSl P2.ld1 ?_)))
    refine ok_bif (fun _ => ok_cB0 (awake28 (by omega) H2) (Ok.ret ⟨rfl, trivial⟩)) (fun _ => ?_)
    refine ok_bind P1.row (ok_bind P2.row (ok_cB (f30_spec (h1.agree A02) (h2.agree A02) (h3.agree A02) (h4.agree A02) hl1 hl2 hl3 hl4 (by omega)) fun H3 A3 => ?_))
    have A03 := A02.trans A3
    refine ok_bind (P1.agree A3).row (ok_bind (P2.agree A3).row (ok_cB (f31_spec (h1.agree A03) (h2.agree A03) (h3.agree A03) (h4.agree A03) hl1 hl2 hl3 hl4 (by omega)) fun H4 A4 => ?_))
    have A04 := A03.trans A4
    have A34 := A3.trans A4
    refine ok_bift (by rw [ex_eq]; simp) ?_
    refine ok_bind (P2.agree A34).row (ok_bind (P1.agree A34).row (ok_cB (f31_spec (h3.agree A04) (h4.agree A04) (h1.agree A04) (h2.agree A04) hl3 hl4 hl1 hl2 (by omega)) fun H5 A5 => ?_))
    refine ok_bift (by rw [Bool.or_comm, ex_eq]; simp) ?_
    exact ok_cB0 (awake28 (by omega) H5) (Ok.ret ⟨rfl, trivial⟩)
  obtain ⟨H', e, _⟩ := hk
  exact ⟨_, H', e⟩
end
end Go.Proofs.MxF
