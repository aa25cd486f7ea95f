/- LocksetSteps. -/
import Derived.Test.YtcegcnopakfloaaXK8
import Derived.Test.YtcegcnopakfloaaXA2
import Derived.Test.YtcegcnopakfloaaXA1
set_option linter.unusedVariables false
namespace Go.Mx
open Go Go.Proofs
theorem strict_len : ∀ {zs xs : List Int}, zs.Pairwise (· < ·) → (∀ v, v ∈ zs → v ∈ xs) → zs.length ≤ xs.length := by
  intro zs
  induction zs with
  | nil => intro xs _ _; simp
  | cons z zs ih =>
    intro xs h hs
    rw [List.pairwise_cons] at h
    have hz := hs z (by simp)
    have := ih (xs := xs.erase z) h.2 (fun v hv => by
      have hne : v ≠ z := by have := h.1 v hv; omega
      exact (List.mem_erase_of_ne hne).2 (hs v (List.mem_cons_of_mem _ hv)))
    rw [List.length_erase_of_mem hz] at this
    have : 0 < xs.length := List.length_pos_of_mem hz
    simp
    omega
end Go.Mx
namespace Go.Proofs.MxF
open Go Go.Mx Go.Proofs
theorem ok_bsk {R : Type} {Q : R → Prop} {a : Option Addr} {l c : Nat} {a' : Option Addr} {l' c' : Nat} {K : List Value → Nat → Option R} (k : Ok (K [.slice a l c, .slice a' l' c'] 2) Q) :
    Ok (buildSK Try.prog 49 1 [(0, .agg #[.slice a l c, .slice a' l' c'])] K) Q := by
  have : buildSK Try.prog 49 1 [(0, .agg #[.slice a l c, .slice a' l' c'])] K = K [.slice a l c, .slice a' l' c'] 2 := by kernel_rfl
  rw [this]; exact k
theorem f27_one {k : Nat} (hk : 20 ≤ k) {H : AHeap} {p q : Nat} {a1 : Option Addr} {l1 c1 : Nat} {a2 : Option Addr} {l2 c2 : Nat} {a3 : Option Addr} {l3 c3 : Nat} {a4 : Option Addr} {l4 c4 e v e' v' : Nat} {xs ys : List Int}
    (hp : At H p ⟨[.slice a1 l1 c1, .slice a2 l2 c2], e, .rw, v⟩) (hq : At H q ⟨[.slice a3 l3 c3, .slice a4 l4 c4], e', .rw, v'⟩)
    (h1 : Ints H a1 l1 xs) (h2 : Ints H a2 l2 ys) (h3 : Ints H a3 l3 xs) (h4 : Ints H a4 l4 ys) (hl1 : l1 ≤ 10) (hl2 : l2 ≤ 10) :
    ∃ H', C k 27 [.slice (some ⟨p, 0, none⟩) 1 1, .slice (some ⟨q, 0, none⟩) 1 1] H = some (.bool true, H') ∧ Agree H H' := by
  obtain ⟨k, rfl⟩ : ∃ j, k = j + 1 := ⟨k - 1, by omega⟩
  rw [f27_eq]
  refine call_of_ok (ok_biff (by simp) ?_)
  obtain ⟨k, rfl⟩ : ∃ j, k = j + 1 + 1 := ⟨k - 2, by omega⟩
  rw [f27.L1_s]
  have hm : maxLen = 9223372036854775807 := rfl
  have Ab := agree_bump H 26
  have ew : IntKind.i64.wrap ((0 : Int) + 1) = 1 := by decide
  refine ok_bift (by simp) (ok_bind rfl (ok_if (by simp) (ok_bift (sameB_agree hp Ab) (ok_bSl (ldSl_at (hp.agree Ab) (by simp) rfl) ?_))))
  refine ok_bind rfl (ok_if (by simp) (ok_bift (sameB_agree hq Ab) (ok_bSl (ldSl_at (hq.agree Ab) (by simp) rfl) ?_)))
  refine ok_cB (f59_spec (by omega) (by omega) (h1.agree Ab) (h3.agree Ab)) fun H1 A1 => ok_biff rfl ?_
  have A2 := Ab.trans A1
  refine ok_bind rfl (ok_if (by simp) (ok_bift (sameB_agree hp A2) (ok_bSl (ldSl_at (hp.agree A2) (by simp) rfl) ?_)))
  refine ok_bind rfl (ok_if (by simp) (ok_bift (sameB_agree hq A2) (ok_bSl (ldSl_at (hq.agree A2) (by simp) rfl) ?_)))
  refine ok_cB (f59_spec (by omega) (by omega) (h2.agree A2) (h4.agree A2)) fun H3 A3 => ok_biff rfl ?_
  rw [ew, f27.L1_s]
  exact ok_biff (by simp) (Ok.ret ⟨rfl, A2.trans A3⟩)

theorem stS_range {st own th : Int} {w : Bool} (h : 0 ≤ st ∧ st ≤ 3) : 0 ≤ stS st own th w ∧ stS st own th w ≤ 3 := by
  unfold stS
  cases st == 0 <;> cases st == 1 <;> cases own == th <;> cases w <;> simp <;> omega
theorem inS_sub {st own th : Int} {w : Bool} {ls ex sh : List Int} {v : Int} (h : inS st own th w ls ex sh v) : (v ∈ ex ++ sh) ∧ (v ∈ ls ∨ st = 1) := by
  unfold inS at h
  rw [List.mem_append]
  split at h
  · exact h.elim
  · split at h
    · split at h
      · exact h.elim
      · split at h
        · exact ⟨.inl h, .inr ‹_›⟩
        · exact ⟨h, .inr ‹_›⟩
    · refine ⟨?_, .inl h.1⟩
      have := h.2
      split at this
      · exact .inl this
      · exact this

/-- both states are alike -/
def TwoS (N p3 p4 : Nat) (H : AHeap) : Prop := ∃ (st own : Int) (a : Option Addr) (l c : Nat) (a' : Option Addr) (l' c' : Nat) (zs : List Int) (e3 v3 e4 v4 : Nat),
  At H p3 ⟨[.int .i64 st, .int .i64 own, .slice a l c], e3, .rw, v3⟩ ∧ At H p4 ⟨[.int .i64 st, .int .i64 own, .slice a' l' c'], e4, .rw, v4⟩ ∧
  Ints H a l zs ∧ Ints H a' l' zs ∧ (∀ q, a = some q → N ≤ q.block) ∧ (∀ q, a' = some q → N ≤ q.block) ∧ Strict zs ∧ (0 ≤ st ∧ st ≤ 3) ∧ l ≤ 8

theorem f5_loop {k N p3 p4 len : Nat} (hk : 3000 ≤ k) (hp3 : p3 < N) (hp4 : p4 < N) (n3 : p3 ≠ p4) {cs0 : List Value}
    (hb : ∀ j, j < len → ∃ x0 x1 x2 : Int, (cs0.drop (j * 3)).take 3 = [.int .u8 x0, .int .u8 x1, .int .u8 x2] ∧ (0 ≤ x0 ∧ x0 ≤ 255) ∧ (0 ≤ x1 ∧ x1 ≤ 255))
    {a0 : Option Addr} {c0 : Nat} (ha0 : ∀ q, a0 = some q → q.block ≠ p3 ∧ q.block ≠ p4) : ∀ (m i n : Nat) (H : AHeap) (D : List Value),
    (∀ i, H.next ≤ i → H.get i = none) → N ≤ H.next → TwoS N p3 p4 H → Cells H a0 (len * 3) cs0 → i ≤ 60 → i + m = len → m < n →
    Ok (f5.L1 k n p3 p4 a0 len c0 (len : Int) (i : Int) D H) fun r => r.1 = .bool true := by
  intro m
  induction m with
  | zero =>
    intro i n H D hF hN hT hC hi hm hn
    obtain ⟨n, rfl⟩ : ∃ j, n = j + 1 := ⟨n - 1, by omega⟩
    rw [f5.L1_s]
    exact ok_biff (by simp only [decide_eq_false_iff_not]; omega) (ok_cB0 (awake28 (by omega) H) (Ok.ret rfl))
  | succ m ih =>
    intro i n H D hF hN hT hC hi hm hn
    obtain ⟨n, rfl⟩ : ∃ j, n = j + 1 := ⟨n - 1, by omega⟩
    rw [f5.L1_s]
    obtain ⟨x0, x1, x2, hrow, hx0, hx1⟩ := hb i (by omega)
    obtain ⟨q, eq, hq⟩ := hC.row (j := i * 3) (m := 3) (by omega) (by omega)
    rw [hrow] at hq
    refine ok_bift (by simp only [decide_eq_true_eq]; omega) (ok_bind eq (ok_if (by omega) (ok_bind hq ?_)))
    refine ok_al fun ib H1 hi1 nx1 A1 B1 => ok_if ⟨rfl, rfl⟩ (ok_wr B1 rfl (by simp) fun H2 W2 => ?_)
    refine ok_bif (fun _ => ok_cB0 (awake28 (by omega) H2) (Ok.ret rfl)) (fun h60 => ?_)
    simp only [decide_eq_false_iff_not] at h60
    have A2 : Agree H H2 := A1.wrote W2 (by omega)
    have B2 := W2.at'
    obtain ⟨st, own, a, l, c, a', l', c', zs, e3, v3, e4, v4, t1, t2, t3, t4, t5, t6, t7, t8, t9⟩ := hT
    have ei : IntKind.i64.wrap ((i : Int) + 1) = ((i + 1 : Nat) : Int) := by rw [wrap_id (by omega) (by omega)]; rfl
    refine ok_if (by omega) (ok_bind (ldI_at B2 (by simp) rfl) ?_)
    refine ok_cG1 (f23_spec (by omega) H2 x2) fun v H4 hp => ?_
    obtain ⟨a1, l1, c1, a2, l2, c2, e, hI1, hI2, A4⟩ := hp
    refine ⟨_, e, ?_⟩
    have hl1 := hI1.len
    have hl2 := hI2.len
    have u1 := heldL_len 1 4 x2 0
    have u2 := heldL_len 2 4 x2 0
    have A04 := A2.trans A4
    refine ok_al fun ih' H5 hih n5 A5 B5 => ok_if ⟨rfl, rfl⟩ (ok_wr B5 rfl (by simp) fun H6 W6 => ?_)
    have A46 : Agree H4 H6 := A5.wrote W6 (by omega)
    have A06 := A04.trans A46
    have hn2 := A2.next
    have hn4 : H2.next ≤ H4.next := A4.next
    have hn6 := A46.next
    have B6 := (B2.agree A4).agree A46
    have P6 : HeldAt H6 ih' a1 l1 c1 a2 l2 c2 := ⟨_, _, W6.at'⟩
    have T6 := t1.agree A06
    refine ok_bind (row_at T6 (by simp) (by simp)) (ok_if (by omega) (ok_bind (ldI_at B6 (by simp) rfl) (ok_if (by omega) (ok_bind (ldI_at B6 (by simp) rfl) (ok_bind P6.row ?_)))))
    have I1 := hI1.agree A46
    have I2 := hI2.agree A46
    refine ok_cT9 (f24_spec (by omega) st own ((IntKind.i64.wrap x0).tmod 3) ((x1.tmod 2) == 1) (t3.agree A06) I1 I2 (by omega) (by omega)) fun v H7 hp => ?_
    obtain ⟨a7, l7, c7, e7, ⟨z7, I7, s7, m7⟩, A7, N7⟩ := hp
    refine ⟨[.agg #[.int .i64 _, .int .i64 _, .slice a7 l7 c7], .bool _], e7, ok_exG rfl (ok_exB rfl ?_)⟩
    refine ok_al fun i2 H8 hi2 n8 A8 B8 => ok_if ⟨rfl, rfl⟩ (ok_wr B8 rfl (by simp) fun H9 W9 => ?_)
    have A79 : Agree H7 H9 := A8.wrote W9 (by omega)
    have A69 := A7.trans A79
    have A09 := A06.trans A69
    have hn7 : H6.next ≤ H7.next := A7.next
    have hn9 := A79.next
    have T9 := t2.agree A09
    have B9 := B6.agree A69
    have P9 := P6.agree A69
    refine ok_bind (row_at T9 (by simp) (by simp)) (ok_if (by omega) (ok_bind (ldI_at B9 (by simp) rfl) (ok_if (by omega) (ok_bind (ldI_at B9 (by simp) rfl) (ok_bind P9.row ?_)))))
    have hll : l' = l := t4.len.trans t3.len.symm
    refine ok_cT9 (f25_spec (by omega) st own ((IntKind.i64.wrap x0).tmod 3) ((x1.tmod 2) == 1) (t4.agree A09) (I1.agree A69) (I2.agree A69) (by omega) (by omega) (by omega) t7 t8) fun v H10 hp => ?_
    obtain ⟨a10, l10, c10, e10, ⟨z10, I10, s10, m10⟩, A10, N10⟩ := hp
    refine ⟨[.agg #[.int .i64 _, .int .i64 _, .slice a10 l10 c10], .bool _], e10, ok_exG rfl (ok_exB rfl ?_)⟩
    obtain rfl : z7 = z10 := strict_ext s7 s10 fun v => by rw [m7, m10]
    have hl710 : l10 = l7 := I10.len.trans I7.len.symm
    refine ok_al fun i3 H11 hi3 n11 A11 B11 => ok_if ⟨rfl, rfl⟩ (ok_wr B11 rfl (by simp) fun H12 W12 => ?_)
    have A1012 : Agree H10 H12 := A11.wrote W12 (by omega)
    have A912 := A10.trans A1012
    have A712 := A79.trans A912
    have hn10 : H9.next ≤ H10.next := A10.next
    have hn12 := A1012.next
    have F12 := (A09.trans A912).fresh hF
    rw [hl710]
    refine ok_biff (by simp) ?_
    have Ab := agree_bump H12 25
    have S2 := (W9.at').agree A912
    have S3 := W12.at'
    have Z7 := I7.agree A712
    have Z10 := I10.agree A1012
    have len7 : l7 ≤ 8 := by
      have h1 := strict_len s7 (xs := heldL 1 4 x2 0 ++ heldL 2 4 x2 0) (fun v hv => (inS_sub ((m7 v).1 hv)).1)
      rw [List.length_append] at h1
      have := I7.len
      omega
    have hm : maxLen = 9223372036854775807 := rfl
    refine ok_bift (sameB_agree S2 Ab) (ok_bind (row_at (S2.agree Ab) (by simp) (by simp [splice])) (ok_bift (sameB_agree S3 Ab) (ok_bind (row_at (S3.agree Ab) (by simp) (by simp [splice])) ?_)))
    refine ok_cB (f26_spec _ _ (by omega) (by omega) (Z7.agree Ab) (Z10.agree Ab)) fun H13 A13 => ok_biff rfl ?_
    have A1213 := Ab.trans A13
    have T3 := (T6.agree A69).agree A912
    have T4 := T9.agree A912
    refine ok_bift (sameB_agree T3 A1213) (ok_bind (row_at (T3.agree A1213) (by simp) (by simp)) (ok_bift (sameB_agree T4 A1213) (ok_bind (row_at (T4.agree A1213) (by simp) (by simp)) ?_)))
    have A013 := (A09.trans A912).trans A1213
    refine ok_cB (f26_spec _ _ (by omega) (by omega) (t3.agree A013) (t4.agree A013)) fun H14 A14 => ok_biff rfl ?_
    have A1214 := A1213.trans A14
    have B12 := B9.agree A912
    refine ok_if (by omega) (ok_bift (sameB_agree B12 A1214) (ok_bind (ldI_at (B12.agree A1214) (by simp) rfl) ?_))
    refine ok_cG1 (f23_spec (by omega) H14 x2) fun v H15 hp => ?_
    obtain ⟨b1, m1, d1, b2, m2, d2, e15, J1, J2, A15⟩ := hp
    refine ⟨_, e15, ?_⟩
    have A1215 := A1214.trans A15
    obtain ⟨eP, vP, P12⟩ := P9.agree A912
    refine ok_bift (sameB_agree P12 A1215) (ok_bind (row_at (P12.agree A1215) (by simp) (by simp)) (ok_bsk ?_))
    have f17 : Free H15 (H12.next + 17) := (free_bump F12 (n := 25) (by omega)).agree ((A13.trans A14).trans A15)
    have f21 : Free H15 (H12.next + 21) := (free_bump F12 (n := 25) (by omega)).agree ((A13.trans A14).trans A15)
    refine ok_als A1215 f17 (by omega) fun H16 n16 A16 B16 S16 F16 => ok_bsk ?_
    refine ok_als A16 (F16 _ f21 (by omega)) (by omega) fun H17 n17 A17 B17 S17 F17 => ?_
    have I12 := (I1.agree A69).agree A912
    have I12' := (I2.agree A69).agree A912
    have sb : Sub' H15 H17 := S16.trans S17
    refine ok_cB (f27_one (by omega) (S17 _ _ B16) B17 (I12.agree A17) (I12'.agree A17) (J1.sub sb) (J2.sub sb) (by omega) (by omega)) fun H18 A18 => ok_biff rfl ?_
    have A1218 := A17.trans A18
    have Ab2 := agree_bump H18 4
    have A12b := A1218.trans Ab2
    refine ok_bift (sameB_agree (S2.agree A1218) Ab2) (ok_bind (row_at (S2.agree A12b) (by simp) (by simp [splice])) (ok_if ⟨rfl, rfl⟩ (ok_wr (T3.agree A12b) rfl (by simp [splice]) fun H19 W19 => ?_)))
    have S3' := (S3.agree A12b).wrote W19 (show i3 ≠ p3 by omega)
    refine ok_bift (sameB_at (S3.agree A1218) S3' rfl) (ok_bind (row_at S3' (by simp) (by simp [splice])) (ok_if ⟨rfl, rfl⟩ (ok_wr ((T4.agree A12b).wrote W19 (Ne.symm n3)) rfl (by simp [splice]) fun H20 W20 => ?_)))
    rw [ei]
    have AF := (A09.trans A912).trans A12b
    have hnF := AF.next
    refine ih (i + 1) n H20 _ (W20.fresh (W19.fresh (AF.fresh hF))) (by rw [W20.next, W19.next]; omega) ?_ ?_ (by omega) (by omega) (by omega)
    · have z7' : ∀ q, a7 = some q → N ≤ q.block := fun q e => by have := N7 q e; omega
      have z10' : ∀ q, a10 = some q → N ≤ q.block := fun q e => by have := N10 q e; omega
      exact ⟨_, _, a7, l7, c7, a10, l10, c10, z7, _, _, _, _, W19.at'.wrote W20 n3, W20.at',
        Cells.wrote (Cells.wrote (Z7.agree A12b) W19 (fun q e => by have := z7' q e; omega)) W20 (fun q e => by have := z7' q e; omega),
        Cells.wrote (Cells.wrote (Z10.agree A12b) W19 (fun q e => by have := z10' q e; omega)) W20 (fun q e => by have := z10' q e; omega),
        z7', z10', s7, stS_range t8, len7⟩
    · exact ((hC.agree AF).wrote W19 (fun q e => (ha0 q e).1)).wrote W20 (fun q e => (ha0 q e).2)
theorem f5_any {H : AHeap} (hF : ∀ i, H.next ≤ i → H.get i = none) {a : Option Addr} {len c : Nat} {cs0 : List Value} (hC : Cells H a (len * 3) cs0)
    (hb : ∀ j, j < len → ∃ x0 x1 x2 : Int, (cs0.drop (j * 3)).take 3 = [.int .u8 x0, .int .u8 x1, .int .u8 x2] ∧ (0 ≤ x0 ∧ x0 ≤ 255) ∧ (0 ≤ x1 ∧ x1 ≤ 255)) :
    ∃ k H', C k 5 [.slice a len c] H = some (.bool true, H') := by
  have hk : ∃ H', C (len + 4000 + 1) 5 [.slice a len c] H = some (.bool true, H') ∧ True := by
    rw [f5_eq]
    refine call_of_ok ?_
    refine ok_al fun i2 H2 hi2 n2 A2 B2 => ok_al fun i3 H3 hi3 n3 A3 B3 => ?_
    refine ok_wr (B2.agree A3) rfl (by simp) fun H4 W4 => ok_wr (B3.wrote W4 (by omega)) rfl (by simp) fun H5 W5 => ?_
    have A03 := A2.trans A3
    have A5 : Agree H H5 := (A03.wrote W4 (by omega)).wrote W5 (by have := A2.next; omega)
    have hne : ∀ q, a = some q → q.block < H.next := Cells.below hC
    have hn5 : H5.next = H3.next := by rw [W5.next, W4.next]
    have key := fun D => f5_loop (k := len + 4000) (N := H3.next) (p3 := i2) (p4 := i3) (c0 := c) (by omega) (by omega) (by omega) (by omega) hb (a0 := a)
      (fun q e => by have := hne q e; omega) len 0 (len + 4000) H5 D (A5.fresh hF) (by omega)
      ⟨0, 0, none, 0, 0, none, 0, 0, [], _, _, _, _, W4.at'.wrote W5 (by omega), W5.at', Ints.nil _, Ints.nil _, (fun q e => by cases e), (fun q e => by cases e), .nil, by omega, by omega⟩ (hC.agree A5) (by omega) (by omega) (by omega)
    obtain ⟨r, e, h⟩ := key _
    exact ⟨r, e, h, trivial⟩
  obtain ⟨H', e, _⟩ := hk
  exact ⟨_, H', e⟩
theorem locksetSteps_ok (n : Nat) : LawOk awk Try.prog 5 (n + 1 + 1 + 1 + 1) [22] := by
  intro H vs hF hA
  obtain ⟨v0, _, rfl, h0, hA⟩ := argsV_cons hA
  obtain rfl := argsV_nil hA
  obtain ⟨a, len, c, es, rfl, hC, hR⟩ := arg_slice (n := n + 1 + 1 + 1) ag22 und22 cells29 hF h0
  exact f5_any hF hC (rep_u8s3 (n := n + 1) und29 und5 hR)
end Go.Proofs.MxF
