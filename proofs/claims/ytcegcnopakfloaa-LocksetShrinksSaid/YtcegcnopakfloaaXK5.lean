/- The reference's sorted lists. -/
import Derived.Test.YtcegcnopakfloaaXK4
import Derived.Test.YtcegcnopakfloaaXE2
set_option linter.unusedVariables false
namespace Go.Mx
open Go Go.Proofs
theorem cutMax {a : Option Addr} {l c w : Nat} (h : w ≤ l) (hc : l ≤ c) : cutSl 1 a l c none (some (w : Int)) (some (w : Int)) = some (a.map fun a => ⟨a.block, a.off + 0 * 1, some 0⟩, w, w) := by
  unfold cutSl cutBounds
  dsimp only
  simp only [Option.getD_none, Option.isSome_some, if_true]
  rw [if_pos (by omega)]
  simp
theorem apnd_cut {N : Nat} {H : AHeap} {a : Option Addr} {l c w n : Nat} {xs news : List Int} (h : Own N 1 H a l c (ints xs)) (hw : w ≤ l) (hn : 0 < n) (hl : news.length = n) (hb : w + n ≤ 1000000) :
    ∃ a2 c2 H', apndS 1 8 H (a.map fun a => ⟨a.block, a.off + 0 * 1, some 0⟩) w w (ints news) n = some (.slice a2 (w + n) c2, H') ∧ Own H.next 1 H' a2 (w + n) c2 (ints (xs.take w ++ news)) ∧ Agree H H' := by
  have hil : (ints news).length = n := by simp [ints, hl]
  have hx : (ints xs).length = xs.length := by simp [ints]
  unfold apndS
  rw [if_neg (by rintro (h1 | h1 | h1); exact absurd h1 (by decide); exact h1 (by omega); exact h1 (Nat.le_refl _)), if_neg (by omega), if_neg (by rintro (h1 | h1 | h1); exact absurd h1 (by decide); exact h1 (by omega); exact h1 (by omega))]
  rcases h.2.2 with ⟨e, e2⟩ | ⟨i, b, e, h0, h1, h2, h3, h4, h5⟩
  · subst e
    have hlen := h.1
    have hlc := h.2.1
    obtain rfl : w = 0 := by omega
    have hxs : xs.take 0 ++ news = news := by simp
    rw [hxs]
    refine ⟨_, _, _, rfl, ⟨by rw [hil]; omega, Nat.le_refl _, .inr ⟨H.next, _, rfl, Nat.le_refl _, at_alloc H _, rfl, rfl, ?_, ?_⟩⟩, agree_alloc _ _⟩
    · show (ints news).length = (0 + n) * 1
      omega
    · show (ints news).take ((0 + n) * 1) = ints news
      rw [List.take_of_length_le (by omega)]
  · subst e
    have hlen := h.1
    have hlc := h.2.1
    dsimp only [Option.map]
    rw [h1.2]
    dsimp only
    rw [if_neg (by rintro (h6 | h6); rw [h2] at h6; cases h6; exact h6 (by omega))]
    rw [if_pos (Option.isSome_some)]
    have hold : (b.cells.drop (0 + 0 * 1)).take (w * 1) ++ ints news = ints (xs.take w ++ news) := by
      have : ints (xs.take w ++ news) = (ints xs).take w ++ ints news := by unfold ints; rw [List.map_append, List.map_take]
      rw [this, ← h5, List.take_take]
      simp only [Nat.zero_mul, Nat.add_zero, List.drop_zero, Nat.mul_one]
      rw [Nat.min_eq_left hw]
    rw [hold]
    have hil2 : (ints (xs.take w ++ news)).length = w + n := by simp [ints, hl]; omega
    refine ⟨_, _, _, rfl, ⟨by rw [hil2]; omega, Nat.le_refl _, .inr ⟨H.next, _, rfl, Nat.le_refl _, at_alloc H _, rfl, rfl, ?_, ?_⟩⟩, agree_alloc _ _⟩
    · show (ints (xs.take w ++ news)).length = (w + n) * 1
      omega
    · show (ints (xs.take w ++ news)).take ((w + n) * 1) = _
      rw [List.take_of_length_le (by omega)]
end Go.Mx
namespace Go.Proofs.MxF
open Go Go.Mx Go.Proofs
theorem strict_ins {os : List Int} {v : Int} {i : Nat} (h : Strict os) (h1 : ∀ x ∈ os.take i, x < v) (h2 : ∀ x, os[i]? = some x → v < x) : Strict (os.take i ++ v :: os.drop i) := by
  have ho := h
  rw [← List.take_append_drop i os, Strict, List.pairwise_append] at h
  have hv : ∀ x ∈ os.drop i, v < x := by
    intro x hx
    cases e : os.drop i with
    | nil => rw [e] at hx; cases hx
    | cons y r =>
      have hy : os[i]? = some y := by
        have : (os.drop i)[0]? = some y := by rw [e]; rfl
        rw [List.getElem?_drop] at this
        exact this
      have hvy := h2 y hy
      rw [e] at hx
      rcases List.mem_cons.1 hx with rfl | hx
      · exact hvy
      · have hp := h.2.1
        rw [e, List.pairwise_cons] at hp
        have := hp.1 x hx
        omega
  rw [Strict, List.pairwise_append]
  refine ⟨h.1, List.pairwise_cons.2 ⟨hv, h.2.1⟩, fun x hx y hy => ?_⟩
  rcases List.mem_cons.1 hy with rfl | hy
  · exact h1 x hx
  · exact h.2.2 x hx y hy

section
variable {k N n1 : Nat} {a8 : Option Addr} {l8 c8 : Nat} {xs : List Int} {Q : Value × AHeap → Prop}
/-- what the outer loop needs -/
def Out (N : Nat) (H : AHeap) (a : Option Addr) (l c : Nat) (os : List Int) : Prop := Own N 1 H a l c (ints os) ∧ Strict os
theorem f58_K1 (hl8 : l8 ≤ 1000) {H0 H : AHeap} (A0 : Agree H0 H) (hN : H0.next = N) {a3 : Option Addr} {l3 c3 i : Nat} {os : List Int} {v : Int} {x9 x10 : Int} {D : List Value} (h : Out N H a3 l3 c3 os) (hi : i ≤ l3) (hl3 : l3 ≤ 1000)
    (h1 : ∀ x ∈ os.take i, x < v) (h2 : ∀ x, os[i]? = some x → v < x)
    (next : ∀ a l c os' H' D', Out N H' a l c os' → os'.length = os.length + 1 → (∀ x, x ∈ os' ↔ x = v ∨ x ∈ os) → Agree H0 H' → Ok (f58.L1 k n1 a l c a8 l8 c8 x9 (IntKind.i64.wrap (x10 + 1)) D' H') Q) :
    Ok (f58.K1 k n1 a3 l3 c3 v (i : Int) a8 l8 c8 x9 x10 D H) Q := by
  rw [f58.K1_eq]
  have hlen := h.1.len
  refine ok_al fun ib H1 hib n1' A1 B1 => ok_bSl (cutLo hi h.1.2.1) ?_
  have hO : Own H.next 1 H1 (some ⟨ib, 0, none⟩) 1 1 (ints [v]) := ⟨rfl, Nat.le_refl _, .inr ⟨ib, _, rfl, by omega, B1, rfl, rfl, rfl, rfl⟩⟩
  have hrest : Cells H1 (a3.map fun a => ⟨a.block, a.off + i * 1, a.spot⟩) ((l3 - i) * 1) (ints (os.drop i)) := by
    have hc := (h.1.agree A1).cells
    rcases hc.2 with ⟨e, e2⟩ | ⟨ii, o, s, b, e, g1, g2, g3, g4⟩
    · subst e
      have : os = [] := by cases os with
        | nil => rfl
        | cons _ _ => cases e2
      subst this
      simp at hlen
      subst hlen
      exact ⟨by simp [ints], .inl ⟨rfl, by simp [ints]⟩⟩
    · subst e
      refine ⟨by simp [ints, hlen], .inr ⟨ii, o + i * 1, s, b, rfl, g1, g2, by omega, ?_⟩⟩
      have : ints (os.drop i) = (ints os).drop i := by unfold ints; rw [List.map_drop]
      rw [this, ← g4, List.drop_take, List.drop_drop, Nat.mul_one, Nat.mul_one, Nat.mul_one]
  refine ok_cSl (app_own (by decide) (app26' _ _ _ _ _ _ _) hO hrest (by have := A1.next; omega) (by omega) (by omega)) fun a1 l1 c1 H2 hp => ?_
  obtain ⟨rfl, o1, k1, or1⟩ := hp
  rw [ints_app] at o1
  have A2 : Agree H H2 := k1.agree A1 (fun q e => by cases e; show H.next ≤ ib; omega)
  refine ok_bSl (cutMax hi h.1.2.1) ?_
  have h2' := h.1.agree A2
  obtain ⟨a4, c4, H3, e4, o4, A4⟩ := apnd_cut (w := i) (n := 1 + (l3 - i)) (news := [v] ++ os.drop i) h2' hi (by omega) (by simp [hlen]; omega) (by omega)
  refine ok_cSl (P := fun a l c H' => a = a4 ∧ l = i + (1 + (l3 - i)) ∧ c = c4 ∧ H' = H3) ⟨a4, _, c4, H3, ?_, rfl, rfl, rfl, rfl⟩ ?_
  · rw [app26']
    have hcc : firstC H2 1 (1 + (l3 - i)) (.slice a1 (1 + (l3 - i)) c1) = some (ints ([v] ++ os.drop i)) := firstC_cells (by decide) (by rw [Nat.mul_one]; exact o1.ints)
    rw [hcc, Option.bind_some]
    exact e4
  · rintro _ _ _ _ ⟨rfl, rfl, rfl, rfl⟩
    have hNle : N ≤ H2.next := by rw [← hN]; exact (A0.trans A2).next
    refine next _ _ _ (os.take i ++ ([v] ++ os.drop i)) _ _ ⟨o4.lower hNle, strict_ins h.2 h1 h2⟩ ?_ (fun x => ?_) ((A0.trans A2).trans A4)
    · simp; omega
    · constructor
      · intro hx
        rcases List.mem_append.1 hx with hx | hx
        · exact .inr (List.mem_of_mem_take hx)
        · rcases List.mem_append.1 hx with hx | hx
          · exact .inl (List.mem_singleton.1 hx)
          · exact .inr (List.mem_of_mem_drop hx)
      · rintro (rfl | hx)
        · simp
        · rw [← List.take_append_drop i os] at hx
          rcases List.mem_append.1 hx with hx | hx
          · exact List.mem_append_left _ hx
          · exact List.mem_append_right _ (List.mem_append_right _ hx)
theorem f58_l2 (hl8 : l8 ≤ 1000) {H0 : AHeap} (hN : H0.next = N) {v : Int} {x9 x10 : Int} {a3 : Option Addr} {l3 c3 : Nat} {os : List Int} (hl3 : l3 ≤ 1000)
    (next : ∀ a l c os' H' D', Out N H' a l c os' → os'.length ≤ os.length + 1 → (∀ x, x ∈ os' ↔ x = v ∨ x ∈ os) → Agree H0 H' → Ok (f58.L1 k n1 a l c a8 l8 c8 x9 (IntKind.i64.wrap (x10 + 1)) D' H') Q) :
    ∀ (m i n2 : Nat) (H : AHeap) (D : List Value), Agree H0 H → Out N H a3 l3 c3 os → i + m = l3 → m < n2 → (∀ x ∈ os.take i, x < v) → Ok (f58.L2 k n1 n2 a3 l3 c3 v (i : Int) a8 l8 c8 x9 x10 D H) Q := by
  intro m
  induction m with
  | zero =>
    intro i n2 H D A0 h hm hn ht
    obtain ⟨n2, rfl⟩ : ∃ j, n2 = j + 1 := ⟨n2 - 1, by omega⟩
    rw [f58.L2_s]
    have hlen := h.1.len
    refine ok_biff (by simp only [decide_eq_false_iff_not]; omega) (ok_biff (by simp only [decide_eq_false_iff_not]; omega) ?_)
    exact f58_K1 hl8 A0 hN h (by omega) hl3 ht (fun x hx => by rw [List.getElem?_eq_none (by omega)] at hx; cases hx) fun a l c os' H' D' o1 o2 => next a l c os' H' D' o1 (by omega)
  | succ m ih =>
    intro i n2 H D A0 h hm hn ht
    obtain ⟨n2, rfl⟩ : ∃ j, n2 = j + 1 := ⟨n2 - 1, by omega⟩
    rw [f58.L2_s]
    have hlen := h.1.len
    obtain ⟨q, x, hx, e, hq⟩ := Ints.at h.1.ints (i := i) (by omega)
    have hlt : ((i : Int) < (l3 : Int)) := by omega
    refine ok_bift (by simp only [decide_eq_true_eq]; omega) (ok_bind e (ok_if (by omega) (ok_bind hq (ok_bif (fun hc => ?_) (fun hc => ?_)))))
    · rw [decide_eq_true_eq] at hc
      rw [wrapS (l := l3) (by omega) (by unfold maxLen; omega)]
      refine ih (i + 1) n2 H _ A0 h (by omega) (by omega) (fun y hy => ?_)
      rw [List.take_add_one, hx, List.mem_append] at hy
      rcases hy with hy | hy
      · exact ht y hy
      · simp at hy; rw [hy]; exact hc
    · rw [decide_eq_false_iff_not] at hc
      refine ok_bift (by simp only [decide_eq_true_eq]; omega) (ok_bind e (ok_if (by omega) (ok_bind hq (ok_bif (fun hc' => ?_) (fun hc' => ?_)))))
      · rw [beq_iff_eq] at hc'
        subst hc'
        refine next a3 l3 c3 os H _ h (by omega) (fun y => ?_) A0
        constructor
        · exact .inr
        · rintro (rfl | hy)
          · exact List.mem_of_getElem? hx
          · exact hy
      · have hne : ¬ x = v := by simpa using hc'
        refine f58_K1 hl8 A0 hN h (by omega) hl3 ht (fun y hy => ?_) fun a l c os' H' D' o1 o2 => next a l c os' H' D' o1 (by omega)
        rw [hx] at hy
        cases hy
        omega
theorem f58_l1 (hl8 : l8 ≤ 1000) (hk : 1002 ≤ k) {H0 : AHeap} (hN : H0.next = N) (hx : Ints H0 a8 l8 xs) : ∀ (m i n1 : Nat) (a3 : Option Addr) (l3 c3 : Nat) (os : List Int) (H : AHeap) (D : List Value),
    Agree H0 H → Out N H a3 l3 c3 os → os.length ≤ i → (∀ x, x ∈ os ↔ x ∈ xs.take i) → i + m = l8 → m < n1 →
    Ok (f58.L1 k n1 a3 l3 c3 a8 l8 c8 (l8 : Int) (i : Int) D H) fun r => ∃ a l c, r.1 = .slice a l c ∧ ((∃ os, Out N r.2 a l c os ∧ (∀ x, x ∈ os ↔ x ∈ xs) ∧ os.length ≤ l8) ∧ Agree H0 r.2) := by
  intro m
  induction m with
  | zero =>
    intro i n1 a3 l3 c3 os H D A0 h ho hmem hm hn
    obtain ⟨n1, rfl⟩ : ∃ j, n1 = j + 1 := ⟨n1 - 1, by omega⟩
    rw [f58.L1_s]
    refine ok_biff (by simp only [decide_eq_false_iff_not]; omega) (Ok.ret ⟨a3, l3, c3, rfl, ⟨os, h, fun x => ?_, by omega⟩, A0⟩)
    rw [hmem, List.take_of_length_le (by have := hx.len; omega)]
  | succ m ih =>
    intro i n1 a3 l3 c3 os H D A0 h ho hmem hm hn
    obtain ⟨n1, rfl⟩ : ∃ j, n1 = j + 1 := ⟨n1 - 1, by omega⟩
    rw [f58.L1_s]
    have hlen := h.1.len
    obtain ⟨q, v, hv, e, hq⟩ := Ints.at (hx.agree A0) (i := i) (by omega)
    refine ok_bift (by simp only [decide_eq_true_eq]; omega) (ok_bind e (ok_if (by omega) (ok_bind hq ?_)))
    refine f58_l2 (n1 := n1) hl8 hN (os := os) (by omega) (fun a l c os' H' D' o1 o2 o3 o4 => ?_) l3 0 k H _ A0 h (by omega) (by omega) (fun x hx => by simp at hx)
    rw [wrapS (l := l8) (by omega) (by unfold maxLen; omega)]
    refine ih (i + 1) n1 a l c os' H' D' o4 o1 (by omega) (fun x => ?_) (by omega) (by omega)
    rw [o3, hmem, List.take_add_one, hv, List.mem_append]
    simp
    exact Or.comm
theorem f58_spec {H : AHeap} (hl8 : l8 ≤ 1000) (hk : 1003 ≤ k) (hx : Ints H a8 l8 xs) :
    ∃ a l c H', C k 58 [.slice a8 l8 c8] H = some (.slice a l c, H') ∧ ((∃ os, Own H.next 1 H' a l c (ints os) ∧ Strict os ∧ (∀ x, x ∈ os ↔ x ∈ xs) ∧ os.length ≤ l8) ∧ Agree H H') := by
  obtain ⟨k, rfl⟩ : ∃ j, k = j + 1 := ⟨k - 1, by omega⟩
  rw [f58_eq]
  have key := fun D => f58_l1 (k := k) (N := H.next) (c8 := c8) hl8 (by omega) rfl hx l8 0 k none 0 0 [] H D (Agree.refl H) ⟨Own.nil _ _ _, .nil⟩ (by simp) (by simp) (by omega) (by omega)
  obtain ⟨r, e, a, l, c, e1, ⟨os, o1, o2, o3⟩, A⟩ := key _
  exact callsl_of_ok ⟨r, e, a, l, c, e1, ⟨os, o1.1, o1.2, o2, o3⟩, A⟩
end
theorem f57_spec {k : Nat} {H : AHeap} {a : Option Addr} {l c : Nat} {a' : Option Addr} {l' c' : Nat} {xs ys : List Int} (hk : 1200 ≤ k) (hl : l ≤ 400) (hl' : l' ≤ 400) (h : Ints H a l xs) (h' : Ints H a' l' ys) :
    ∃ a2 l2 c2 H', C k 57 [.agg #[.slice a l c, .slice a' l' c']] H = some (.slice a2 l2 c2, H') ∧ ((∃ os, Own H.next 1 H' a2 l2 c2 (ints os) ∧ Strict os ∧ (∀ x, x ∈ os ↔ x ∈ xs ∨ x ∈ ys) ∧ os.length ≤ l + l') ∧ Agree H H') := by
  obtain ⟨k, rfl⟩ : ∃ j, k = j + 1 := ⟨k - 1, by omega⟩
  rw [f57_eq]
  refine callsl_of_ok (ok_al fun i H1 hi n1 A1 B1 => ?_)
  have P1 : HeldAt H1 i a l c a' l' c' := ⟨_, _, B1⟩
  have Ab := agree_bump H1 8
  refine ok_bift (sameB_agree B1 Ab) (ok_bSl (P1.agree Ab).ld0 ?_)
  refine ok_cSl (f45_spec (by omega) ((h.agree A1).agree Ab) (by omega)) fun a1 l1 c1 H2 hp => ?_
  obtain ⟨rfl, o1, A2⟩ := hp
  have A12 := Ab.trans A2
  refine ok_bift (sameB_agree B1 A12) (ok_bSl (P1.agree A12).ld1 ?_)
  refine ok_cSl (app_own (by decide) (app26' _ _ _ _ _ _ _) o1 (cs' := ints ys) (by rw [Nat.mul_one]; exact (h'.agree A1).agree A12) A2.next (by omega) (by omega)) fun a3 l3 c3 H3 hp => ?_
  obtain ⟨rfl, o3, k3, or3⟩ := hp
  rw [ints_app] at o3
  have hbn := o1.block
  have A3 : Agree H1 H3 := k3.agree A12 (fun q e => by have := hbn q e; have := Ab.next; omega)
  refine ok_cSl (f58_spec (by omega) (by omega) o3.ints) fun a4 l4 c4 H4 hp => ?_
  obtain ⟨⟨os, o4, s4, m4, g4⟩, A4⟩ := hp
  have A03 := A1.trans A3
  exact Ok.ret ⟨_, _, _, rfl, ⟨os, o4.lower A03.next, s4, (fun x => by rw [m4, List.mem_append]), g4⟩, A03.trans A4⟩
end Go.Proofs.MxF
