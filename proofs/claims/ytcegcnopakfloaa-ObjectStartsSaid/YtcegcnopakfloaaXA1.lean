/- Arguments: lists of numbers, structs. -/
import Derived.Test.YtcegcnopakfloaaXS2
set_option linter.unusedVariables false
namespace Go.Mx
open Go
theorem tyV_ints {P : Program} {H : AHeap} {n : Nat} {t e : TypeId} {cs : List Value} (hu : P.underlying t = some (.slice e)) (he : P.underlying e = some (.int .i64)) (hs : P.cellsOf e = 1) (hF : ∀ i, H.next ≤ i → H.get i = none)
    (h : TyV P H (n + 1 + 1) t cs) : ∃ a l c xs, cs = [.slice a l c] ∧ Ints H a l xs ∧ l ≤ reachBytes ∧ ∀ x ∈ xs, (Lit.int .i64 x).wf = true := by
  have h0 := h
  unfold TyV at h
  simp only [hu] at h
  rcases h with rfl | ⟨i, len, b, rfl, hl, hb, hm, hn, hr⟩
  · exact ⟨none, 0, 0, [], rfl, Ints.nil _, Nat.zero_le _, fun x hx => by cases hx⟩
  · have hI : ∀ {m : Nat} {cs : List Value}, TyRep (TyV P H (n + 1) e) m cs → ∃ xs : List Int, cs = ints xs ∧ xs.length = m ∧ ∀ x ∈ xs, (Lit.int .i64 x).wf = true := by
      intro m
      induction m with
      | zero => intro cs h; exact ⟨[], h, rfl, fun x hx => by cases hx⟩
      | succ m ih =>
        intro cs h
        obtain ⟨a, d, rfl, ha, hd⟩ := h
        obtain ⟨x, rfl, wx⟩ := tyV_int he ha
        obtain ⟨xs, rfl, hxs, wxs⟩ := ih hd
        refine ⟨x :: xs, rfl, by simp [hxs], fun y hy => ?_⟩
        rcases List.mem_cons.1 hy with rfl | hy
        · exact wx
        · exact wxs y hy
    obtain ⟨xs, hxs, hlen, hwf⟩ := hI hr
    have hlt : i < H.next := by
      by_cases hh : i < H.next
      · exact hh
      · rw [hF i (by omega)] at hb; cases hb
    refine ⟨_, len, len, xs, rfl, ⟨by rw [← hxs, hn, hs, Nat.mul_one], .inr ⟨i, 0, none, b, rfl, ⟨hlt, hb⟩, by rw [hm]; decide, by rw [hn, hs]; omega, ?_⟩⟩, hl, hwf⟩
    rw [List.drop_zero, ← hxs, List.take_of_length_le (by rw [hn, hs]; omega)]

theorem arg_held {P : Program} {H : AHeap} {n : Nat} {t s e : TypeId} {fs : Array Field} {v : Value} (ha : aggT P t = true) (ht : P.underlying t = some (.struct fs)) (hfs : fs.toList.map (·.type) = [s, s])
    (hu : P.underlying s = some (.slice e)) (he : P.underlying e = some (.int .i64)) (hs : P.cellsOf e = 1) (hF : ∀ i, H.next ≤ i → H.get i = none) (h : ArgV P H (n + 1 + 1 + 1) t v) :
    ∃ a l c a' l' c' xs ys, v = .agg #[.slice a l c, .slice a' l' c'] ∧ Ints H a l xs ∧ Ints H a' l' ys ∧ l ≤ reachBytes ∧ l' ≤ reachBytes := by
  obtain ⟨cs, rfl, hc⟩ := argV_agg ha h
  have hc := tyV_struct ht hc
  revert hc hfs
  cases fs.toList with
  | nil => intro h; cases h
  | cons f0 fs =>
    cases fs with
    | nil => intro h; cases h
    | cons f1 fs =>
      cases fs with
      | cons _ _ => intro h; have := congrArg List.length h; simp at this
      | nil =>
        intro h hc
        have h0 : f0.type = s := (List.cons.inj h).1
        have h1 : f1.type = s := (List.cons.inj (List.cons.inj h).2).1
        obtain ⟨c0, _, rfl, k0, c1, _, rfl, k1, rfl⟩ := hc
        rw [h0] at k0
        rw [h1] at k1
        obtain ⟨a, l, c, xs, rfl, i1, b1, _⟩ := tyV_ints hu he hs hF k0
        obtain ⟨a', l', c', ys, rfl, i2, b2, _⟩ := tyV_ints hu he hs hF k1
        exact ⟨a, l, c, a', l', c', xs, ys, rfl, i1, i2, b1, b2⟩
end Go.Mx
