/- Sorting a short list where it lies. -/
import Derived.Test.YtcegcnopakfloaaXL1
import Derived.Test.YtcegcnopakfloaaXSp
set_option linter.unusedVariables false
namespace Go.Mx
open Go Go.Proofs
theorem own_get {N : Nat} {H : AHeap} {a : Option Addr} {l c : Nat} {xs : List Int} (h : Own N 1 H a l c (ints xs)) {t : Nat} {x : Int} (ht : xs[t]? = some x) :
    ∃ q, a = some q ∧ ldI .i64 H q.block (q.off + t * 1) = some x ∧ (∀ H', Agree H H' → sameB H H' q.block = true) ∧ q.off = 0 ∧ q.spot = none := by
  have hl : t < xs.length := (List.getElem?_eq_some_iff.1 ht).1
  obtain ⟨q, e, hq⟩ := h.ints.ld ht
  rcases h.2.2 with ⟨e1, e2⟩ | ⟨i, b, e1, h0, h1, _⟩
  · rw [e1] at e; cases e
  · refine ⟨q, e, by rw [Nat.mul_one]; exact hq, ?_⟩
    rw [e1] at e; cases e
    exact ⟨fun H' A => sameB_agree h1 A, rfl, rfl⟩
end Go.Mx
namespace Go.Proofs.MxF
open Go Go.Mx Go.Proofs
theorem ints_set' (xs : List Int) (t : Nat) (v : Int) : (ints xs).set t (.int .i64 v) = ints (xs.set t v) := by
  unfold ints; rw [List.map_set]
theorem app26' (H : AHeap) (a a' : Option Addr) (l c l' c' : Nat) : apndV Try.prog [26, 26] H (.slice a l c) (.slice a' l' c') = (firstC H 1 l' (.slice a' l' c')).bind fun news => apndS 1 8 H a l c news l' := by kernel_rfl
theorem wrapP {j : Nat} (h : j + 1 ≤ maxLen) : IntKind.i64.wrap (((j + 1 : Nat) : Int) - 1) = (j : Int) := by
  unfold maxLen at h
  rw [IntWalk.i64_in _ (by omega)]; omega
theorem f104_spec {k : Nat} (hk : 2 ≤ k) (x y : Int) (H : AHeap) : C k 104 [.int .i64 x, .int .i64 y] H = some (.bool (decide (x < y)), H) := by
  obtain ⟨k, rfl⟩ : ∃ j, k = j + 1 + 1 := ⟨k - 2, by omega⟩
  rw [f104_eq]
  apply eq_of_ok
  refine ok_cB0 (n := x != x) (f114_eq k x H) (ok_biff (by simp) (Ok.ret rfl))
abbrev Srt (xs : List Int) : Prop := xs.Pairwise (· ≤ ·)
theorem srt_insert {A B : List Int} {v : Int} (h : Srt (A ++ B)) (h1 : ∀ x ∈ A, x ≤ v) (h2 : ∀ x ∈ B, v < x) : Srt (A ++ v :: B) := by
  rw [Srt, List.pairwise_append] at h ⊢
  refine ⟨h.1, List.pairwise_cons.2 ⟨fun x hx => Int.le_of_lt (h2 x hx), h.2.1⟩, fun x hx y hy => ?_⟩
  rcases List.mem_cons.1 hy with rfl | hy
  · exact h1 x hx
  · exact h.2.2 x hx y hy

theorem f98_l2 {k N : Nat} (hk : 2 ≤ k) {a : Option Addr} {l c i n1 : Nat} {P : List Int} {x2 : Int} (hl : l ≤ maxLen) {Q : Value × AHeap → Prop} : ∀ (m : Nat) (A B R : List Int) (v : Int) (H : AHeap) (D : List Value) (n2 : Nat),
    A.length = m → m < n2 → Own N 1 H a l c (ints (P ++ (A ++ v :: (B ++ R)))) → Srt (A ++ B) → (∀ b ∈ B, v < b) → P.length + A.length + B.length = i →
    (∀ zs H' D', Own N 1 H' a l c (ints (P ++ (zs ++ R))) → zs.length = A.length + 1 + B.length → Srt zs → zs.Perm (A ++ v :: B) → Keep a H H' → Ok (f98.L1 k n1 a l c (P.length : Int) x2 (IntKind.i64.wrap ((i : Int) + 1)) D' H') Q) →
    Ok (f98.L2 k n1 n2 a l c (P.length : Int) x2 (i : Int) ((P.length + m : Nat) : Int) D H) Q := by
  intro m
  induction m with
  | zero =>
    intro A B R v H D n2 hA hn h hs hv hi next
    obtain ⟨n2, rfl⟩ : ∃ j, n2 = j + 1 := ⟨n2 - 1, by omega⟩
    rw [f98.L2_s]
    obtain rfl := List.eq_nil_of_length_eq_zero hA
    refine ok_biff (by simp only [decide_eq_false_iff_not]; omega) (next (v :: B) (H.bump 15) _ (h.agree (agree_bump H 15)) (by simp; omega) (srt_insert (A := []) hs (by simp) hv) (List.Perm.refl _) (agree_bump H 15).keep)
  | succ m ih =>
    intro A B R v H D n2 hA hn h hs hv hi next
    obtain ⟨n2, rfl⟩ : ∃ j, n2 = j + 1 := ⟨n2 - 1, by omega⟩
    rw [f98.L2_s]
    obtain ⟨A', w, rfl⟩ : ∃ A' w, A = A' ++ [w] := ⟨A.dropLast, A.getLast (by intro e; subst e; cases hA), (List.dropLast_concat_getLast _).symm⟩
    have hm : A'.length = m := by simp at hA; exact hA
    have hlen := h.len
    simp only [List.length_append, List.length_cons, List.length_nil] at hlen
    have g1 : (P ++ (A' ++ [w] ++ v :: (B ++ R)))[P.length + (m + 1)]? = some v := by
      rw [List.getElem?_append_right (by omega), List.getElem?_append_right (by simp; omega)]
      simp [hm]
    have g0 : (P ++ (A' ++ [w] ++ v :: (B ++ R)))[P.length + m]? = some w := by
      rw [List.getElem?_append_right (by omega), List.append_assoc, List.getElem?_append_right (by omega)]
      simp [hm]
    have e0 : IntKind.i64.wrap (((P.length + (m + 1) : Nat) : Int) - 1) = ((P.length + m : Nat) : Int) := wrapP (j := P.length + m) (by omega)
    obtain ⟨q, eq, q1, qs, _, _⟩ := own_get h g1
    obtain ⟨q', eq', q0, _⟩ := own_get h g0
    rw [eq] at eq'
    cases eq'
    have Ab := agree_bump H 15
    have hb := h.agree Ab
    obtain ⟨p, ep, p1, _⟩ := own_get hb g1
    obtain ⟨p', ep', p0, _⟩ := own_get hb g0
    rw [eq] at ep ep'
    cases ep
    cases ep'
    refine ok_bift (by simp only [decide_eq_true_eq]; omega) (ok_bind eq (ok_if (by omega) (ok_bift (qs _ Ab) (ok_bind p1 (ok_bind eq ?_)))))
    rw [e0]
    refine ok_if (by omega) (ok_bift (qs _ Ab) (ok_bind p0 (ok_cB0 (f104_spec hk v w _) (ok_bif (fun hc => ?_) (fun hc => ?_)))))
    · rw [decide_eq_true_eq] at hc
      rw [f98.K1_eq, e0]
      have Ab2 := agree_bump (H.bump 15) 18
      have hb2 := hb.agree Ab2
      obtain ⟨r, er, r1, rs, _⟩ := own_get hb g1
      rw [eq] at er
      cases er
      obtain ⟨r, er, r1, _⟩ := own_get hb2 g1
      rw [eq] at er
      cases er
      obtain ⟨r, er, r0, _⟩ := own_get hb2 g0
      rw [eq] at er
      cases er
      refine ok_bind eq (ok_if (by omega) (ok_bift (rs _ Ab2) (ok_bind r0 (ok_bind eq (ok_if (by omega) (ok_bift (rs _ Ab2) (ok_bind r1 (ok_bind eq (ok_if (by omega) ?_)))))))))
      obtain ⟨s, H3, es, hw, h3, k3, n3⟩ := own_set hb2 (t := P.length + (m + 1)) (by omega) (.int .i64 w)
      rw [eq] at es
      cases es
      refine ok_bind hw (ok_bind eq (ok_if (by omega) ?_))
      obtain ⟨s, H4, es, hw4, h4, k4, n4⟩ := own_set h3 (t := P.length + m) (by omega) (.int .i64 v)
      rw [eq] at es
      cases es
      refine ok_bind hw4 ?_
      rw [ints_set', ints_set'] at h4
      have ex : ((P ++ (A' ++ [w] ++ v :: (B ++ R))).set (P.length + (m + 1)) w).set (P.length + m) v = P ++ (A' ++ v :: (w :: B ++ R)) := by
        rw [List.set_append_right _ _ (by omega), List.set_append_right _ _ (by omega)]
        rw [show P.length + (m + 1) - P.length = m + 1 from by omega, show P.length + m - P.length = m from by omega]
        rw [List.append_assoc, List.set_append_right _ _ (by omega), List.set_append_right _ _ (by omega), hm]
        simp
      rw [ex] at h4
      have K4 : Keep a H H4 := (Keep.of_agree (Ab.trans Ab2) k3).trans (Orig.refl _ _) k4
      refine ih A' (w :: B) R v H4 _ n2 hm (by omega) h4 (by rw [List.append_assoc] at hs; exact hs) (fun b hb => ?_) (by simp only [List.length_append, List.length_cons, List.length_nil] at hi ⊢; omega) (fun zs H' D' o1 o2 o3 o4 o5 => ?_)
      · rcases List.mem_cons.1 hb with rfl | hb
        · exact hc
        · exact hv b hb
      · refine next zs H' D' o1 (by rw [o2]; simp only [List.length_append, List.length_cons, List.length_nil]; omega) o3 (o4.trans ?_) (K4.trans (Orig.refl _ _) o5)
        rw [List.append_assoc]
        exact List.Perm.append_left _ (List.Perm.swap _ _ _)
    · rw [decide_eq_false_iff_not] at hc
      have hle : w ≤ v := by omega
      refine next (A' ++ [w] ++ v :: B) _ _ (by rw [show P ++ (A' ++ [w] ++ v :: B ++ R) = P ++ (A' ++ [w] ++ v :: (B ++ R)) from by simp]; exact hb) (by simp; omega) (srt_insert hs (fun x hx => ?_) hv) (List.Perm.refl _) Ab.keep
      rw [Srt, List.append_assoc, List.pairwise_append] at hs
      rcases List.mem_append.1 hx with hx | hx
      · exact Int.le_trans (hs.2.2 x hx w (by simp)) hle
      · rw [List.mem_singleton] at hx; subst hx; exact hle

theorem f98_l1 {k N : Nat} {a : Option Addr} {l c : Nat} {P R2 : List Int} {x2 : Int} (hl : l ≤ maxLen) (hk : l + 3 ≤ k) : ∀ (m : Nat) (S R1 : List Int) (H : AHeap) (D : List Value) (n : Nat),
    R1.length = m → m < n → Own N 1 H a l c (ints (P ++ (S ++ (R1 ++ R2)))) → Srt S → x2 = ((P.length + S.length + m : Nat) : Int) →
    Ok (f98.L1 k n a l c (P.length : Int) x2 ((P.length + S.length : Nat) : Int) D H) fun r => r.1 = .tuple #[] ∧ (∃ zs, Own N 1 r.2 a l c (ints (P ++ (zs ++ R2))) ∧ Srt zs ∧ zs.Perm (S ++ R1)) ∧ Keep a H r.2 := by
  intro m
  induction m with
  | zero =>
    intro S R1 H D n hR hn h hs hx
    obtain ⟨n, rfl⟩ : ∃ j, n = j + 1 := ⟨n - 1, by omega⟩
    rw [f98.L1_s]
    obtain rfl := List.eq_nil_of_length_eq_zero hR
    refine ok_biff (by simp only [decide_eq_false_iff_not]; omega) (Ok.ret ⟨rfl, ⟨S, h, hs, by rw [List.append_nil]⟩, (Agree.refl H).keep⟩)
  | succ m ih =>
    intro S R1 H D n hR hn h hs hx
    obtain ⟨n, rfl⟩ : ∃ j, n = j + 1 := ⟨n - 1, by omega⟩
    rw [f98.L1_s]
    cases R1 with
    | nil => cases hR
    | cons v R1 =>
      have hlen := h.len
      simp only [List.length_append, List.length_cons] at hlen hR
      refine ok_bift (by simp only [decide_eq_true_eq]; omega) ?_
      refine f98_l2 (N := N) (by omega) (P := P) (i := P.length + S.length) hl S.length S [] (R1 ++ R2) v H _ k rfl (by omega) h (by rw [List.append_nil]; exact hs) (fun b hb => by cases hb) rfl (fun zs H' D' o1 o2 o3 o4 o5 => ?_)
      rw [wrapS (l := P.length + S.length + 1) (by omega) (by omega)]
      have o2' : zs.length = S.length + 1 := o2
      obtain ⟨r, e, e1, ⟨ws, w1, w2, w3⟩, e3⟩ := ih zs R1 H' D' n (by omega) (by omega) o1 o3 (by omega)
      rw [show P.length + S.length + 1 = P.length + zs.length from by omega]
      refine ⟨r, e, e1, ⟨ws, w1, w2, w3.trans ?_⟩, o5.trans (Orig.refl _ _) e3⟩
      exact (o4.append_right R1).trans (by simp)
theorem f98_spec {k N : Nat} {a : Option Addr} {l c : Nat} {P M R : List Int} {H : AHeap} (hl : l < maxLen) (hk : l + 5 ≤ k) (h : Own N 1 H a l c (ints (P ++ (M ++ R)))) :
    ∃ H', C k 98 [.slice a l c, .int .i64 (P.length : Int), .int .i64 ((P.length + M.length : Nat) : Int)] H = some (.tuple #[], H') ∧ ((∃ zs, Own N 1 H' a l c (ints (P ++ (zs ++ R))) ∧ Srt zs ∧ zs.Perm M) ∧ Keep a H H') := by
  obtain ⟨k, rfl⟩ : ∃ j, k = j + 1 := ⟨k - 1, by omega⟩
  have hlen := h.len
  simp only [List.length_append] at hlen
  rw [f98_eq]
  refine call_of_ok ?_
  have e0 : IntKind.i64.wrap ((P.length : Int) + 1) = ((P.length + 1 : Nat) : Int) := by unfold maxLen at hl; rw [IntWalk.i64_in _ (by omega)]; omega
  rw [e0]
  cases M with
  | nil =>
    obtain ⟨k, rfl⟩ : ∃ j, k = j + 1 := ⟨k - 1, by omega⟩
    rw [f98.L1_s]
    exact ok_biff (by simp only [decide_eq_false_iff_not, List.length_nil]; omega) (Ok.ret ⟨rfl, ⟨[], h, .nil, .nil⟩, (Agree.refl H).keep⟩)
  | cons v M =>
    simp only [List.length_cons] at hlen ⊢
    have key := fun D => f98_l1 (k := k) (N := N) (P := P) (R2 := R) (x2 := ((P.length + (M.length + 1) : Nat) : Int)) (Nat.le_of_lt hl) (by omega) M.length [v] M H D k rfl (by omega) (by simpa using h) (List.pairwise_singleton _ _) (by simp only [List.length_cons, List.length_nil]; omega)
    exact key _

theorem len64 (k : Nat) (H : AHeap) (n : Nat) (h : n ≤ 12) : ∃ r, C (k + 1 + 1) 108 [.int .u64 (n : Int)] H = some (.int .i64 r, H) := by
  match n, h with
  | 0, _ => exact ⟨0, by kernel_rfl⟩
  | 1, _ => exact ⟨1, by kernel_rfl⟩
  | 2, _ => exact ⟨2, by kernel_rfl⟩
  | 3, _ => exact ⟨2, by kernel_rfl⟩
  | 4, _ => exact ⟨3, by kernel_rfl⟩
  | 5, _ => exact ⟨3, by kernel_rfl⟩
  | 6, _ => exact ⟨3, by kernel_rfl⟩
  | 7, _ => exact ⟨3, by kernel_rfl⟩
  | 8, _ => exact ⟨4, by kernel_rfl⟩
  | 9, _ => exact ⟨4, by kernel_rfl⟩
  | 10, _ => exact ⟨4, by kernel_rfl⟩
  | 11, _ => exact ⟨4, by kernel_rfl⟩
  | 12, _ => exact ⟨4, by kernel_rfl⟩

/-- slices.Sort of a short slice -/
theorem f83_short {k N : Nat} {a : Option Addr} {l c : Nat} {xs : List Int} {H : AHeap} (hl : l ≤ 12) (hk : 30 ≤ k) (h : Own N 1 H a l c (ints xs)) :
    ∃ H', C k 83 [.slice a l c] H = some (.tuple #[], H') ∧ ((∃ zs, Own N 1 H' a l c (ints zs) ∧ Srt zs ∧ zs.Perm xs) ∧ Keep a H H') := by
  obtain ⟨k, rfl⟩ : ∃ j, k = j + 1 + 1 + 1 + 1 := ⟨k - 4, by omega⟩
  have hlen := h.len
  rw [f83_eq]
  refine call_of_ok ?_
  have ew : IntKind.u64.wrap (l : Int) = (l : Int) := IntWalk.u64_in _ (by omega)
  rw [ew, f97_eq]
  obtain ⟨r, er⟩ := len64 k H l hl
  refine ok_cI0 (n := r) (eq_of_ok (ok_cI0 (n := r) er (Ok.ret rfl))) ?_
  have hM : l < maxLen := by unfold maxLen; omega
  have h0 : Own N 1 H a l c (ints ([] ++ (xs ++ []))) := by simpa using h
  have sp := f98_spec (k := k + 1 + 1) (P := []) (M := xs) (R := []) hM (by omega) h0
  have en : ((([] : List Int).length + xs.length : Nat) : Int) = (l : Int) := by rw [hlen]; simp
  rw [en] at sp
  refine ok_cT1 (g := []) (P := fun H' => (∃ zs, Own N 1 H' a l c (ints zs) ∧ Srt zs ∧ zs.Perm xs) ∧ Keep a H H') ?_ (fun H' hp => Ok.ret ⟨rfl, hp⟩)
  rw [f96_eq]
  refine call_of_ok ?_
  rw [f96.L1_s]
  have e12 : IntKind.i64.wrap ((l : Int) - 0) = (l : Int) := by rw [IntWalk.i64_in _ (by omega)]; omega
  rw [e12]
  refine ok_bift (by simp only [decide_eq_true_eq]; omega) (ok_cT1 (g := []) sp fun H' hp => Ok.ret ⟨rfl, ?_⟩)
  obtain ⟨⟨zs, h1, h2, h3⟩, h4⟩ := hp
  exact ⟨⟨zs, by simpa using h1, h2, h3⟩, h4⟩
end Go.Proofs.MxF
