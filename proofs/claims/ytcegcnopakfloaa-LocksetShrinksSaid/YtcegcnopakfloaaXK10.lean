/- LocksetShrinks. -/
import Derived.Test.YtcegcnopakfloaaXK9
set_option linter.unusedVariables false
namespace Go.Proofs.MxF
open Go Go.Mx Go.Proofs
/-- the state of the law -/
def OneS (N p3 : Nat) (H : AHeap) (st own : Int) (zs : List Int) : Prop := ∃ (a : Option Addr) (l c : Nat) (e3 v3 : Nat),
  At H p3 ⟨[.int .i64 st, .int .i64 own, .slice a l c], e3, .rw, v3⟩ ∧ Ints H a l zs ∧ (∀ q, a = some q → N ≤ q.block) ∧ Strict zs ∧ (0 ≤ st ∧ st ≤ 3) ∧ l ≤ 8
theorem stS_low {st own th : Int} {w : Bool} (h : 0 ≤ st ∧ st ≤ 3) : 1 ≤ stS st own th w ∧ st ≤ stS st own th w := by
  unfold stS
  cases h0 : st == 0 <;> cases h1 : st == 1 <;> cases own == th <;> cases w <;> simp at h0 h1 ⊢ <;> omega
theorem stS_one {st own th : Int} {w : Bool} (h : 0 ≤ st ∧ st ≤ 3) (e : stS st own th w = 1) : (∀ ls ex sh v, ¬ inS st own th w ls ex sh v) ∧ (st = 1 → owS st own th = own) := by
  unfold stS at e
  unfold inS owS
  cases h0 : st == 0 <;> cases h1 : st == 1 <;> cases h2 : own == th <;> cases w <;> rw [h0, h1, h2] at e <;> simp at h0 h1 h2 e ⊢ <;> simp_all
theorem inS_mem {st own th : Int} {w : Bool} {ls ex sh : List Int} {v : Int} (h : inS st own th w ls ex sh v) (h2 : 2 ≤ st) : v ∈ ls := by
  unfold inS at h
  rw [if_neg (by omega), if_neg (by omega)] at h
  exact h.1
section
variable {k N p3 p6 len : Nat} {a0 : Option Addr} {c0 : Nat}
theorem f7_l2 (hk : 3000 ≤ k) {n1 : Nat} {x13 : Int} {st own st' own' : Int} {zs ws : List Int} {H : AHeap} {a : Option Addr} {l c e6 v6 : Nat} (hne : p3 ≠ p6)
    (hs : OneS N p3 H st own zs) (h6 : At H p6 ⟨[.int .i64 st', .int .i64 own', .slice a l c], e6, .rw, v6⟩) (hw : Ints H a l ws) (hstr : Strict ws) (hl : l ≤ 8) (hsub : 2 ≤ st → ∀ v ∈ ws, v ∈ zs)
    (hst : 0 ≤ st ∧ st ≤ 3) {Q : Value × AHeap → Prop}
    (next : ∀ D H' e' v', Wrote H H' p3 ⟨[.int .i64 st', .int .i64 own', .slice a l c], e', .rw, v'⟩ → Ok (f7.L1 k n1 p3 a0 len c0 (len : Int) (IntKind.i64.wrap (x13 + 1)) D H') Q) :
    ∀ (m j n2 : Nat) (D : List Value), j + m = l → m < n2 → Ok (f7.L2 k n1 n2 p3 p6 a0 len c0 (len : Int) x13 a l c (l : Int) (j : Int) D H) Q := by
  intro m
  obtain ⟨az, lz, cz, e3, v3, t1, t2, t3, t4, t5, t6⟩ := hs
  induction m with
  | zero =>
    intro j n2 D hm hn
    obtain ⟨n2, rfl⟩ : ∃ j, n2 = j + 1 := ⟨n2 - 1, by omega⟩
    rw [f7.L2_s]
    refine ok_biff (by simp only [decide_eq_false_iff_not]; omega) (ok_bind (row_at h6 (by simp) (by simp)) (ok_if ⟨rfl, rfl⟩ (ok_wr t1 rfl (by simp) fun H1 W1 => next _ _ _ _ W1)))
  | succ m ih =>
    intro j n2 D hm hn
    obtain ⟨n2, rfl⟩ : ∃ j, n2 = j + 1 := ⟨n2 - 1, by omega⟩
    rw [f7.L2_s]
    have hlen := hw.len
    obtain ⟨q, x, hx, e, hq⟩ := Ints.at hw (i := j) (by omega)
    have hz : 2 ≤ st → hasI zs x = true := fun h2 => hasI_iff.2 (hsub h2 x (List.mem_of_getElem? hx))
    have rest : ∀ (D : Int → Option Addr → Nat → Nat → Bool → List Value) (D' : Int → List Value), Ok ((ldI .i64 H p3 0).bind fun x_2 =>
        bif (decide (x_2 ≥ (2 : Int))) then
        bSl (ldSl H p3 2) fun a_1 l_1 c_1 =>
        cB (C k 29 [.slice a_1 l_1 c_1, .int .i64 x] H) fun b H_1 =>
        bif (!b) then some (.bool false, H_1) else f7.L2 k n1 n2 p3 p6 a0 len c0 (len : Int) x13 a l c (l : Int) (IntKind.i64.wrap ((j : Int) + 1)) (D x_2 a_1 l_1 c_1 b) H_1
        else f7.L2 k n1 n2 p3 p6 a0 len c0 (len : Int) x13 a l c (l : Int) (IntKind.i64.wrap ((j : Int) + 1)) (D' x_2) H) Q := by
      intro D D'
      rw [wrapS (i := j) (l := l) (by omega) (by unfold maxLen; omega)]
      refine ok_bind (ldI_at t1 (by simp) rfl) (ok_bif (fun h2 => ?_) (fun h2 => ?_))
      · rw [decide_eq_true_eq] at h2
        refine ok_bSl (ldSl_at t1 (by simp) rfl) (ok_cB0 (f29_spec t2 (by unfold maxLen; omega) (by omega) x) (ok_biff (by rw [hz h2]; rfl) ?_))
        exact ih (j + 1) n2 _ (by omega) (by omega)
      · exact ih (j + 1) n2 _ (by omega) (by omega)
    refine ok_bift (by simp only [decide_eq_true_eq]; omega) (ok_bind e (ok_if (by omega) (ok_bind hq (ok_bif (fun hj => ?_) (fun hj => ?_)))))
    · rw [decide_eq_true_eq] at hj
      obtain ⟨j, rfl⟩ : ∃ j', j = j' + 1 := ⟨j - 1, by omega⟩
      obtain ⟨q', y, hy, e', hq'⟩ := Ints.at hw (i := j) (by omega)
      rw [e] at e'
      cases e'
      refine ok_bSl (ldSl_at h6 (by simp) rfl) (ok_bind e ?_)
      rw [wrapP (j := j) (by unfold maxLen; omega)]
      refine ok_if (by omega) (ok_bind hq' (ok_biff ?_ ?_))
      · rw [decide_eq_false_iff_not]
        obtain ⟨j1, g1⟩ := List.getElem?_eq_some_iff.1 hx
        obtain ⟨j0, g0⟩ := List.getElem?_eq_some_iff.1 hy
        have := List.pairwise_iff_getElem.1 hstr j (j + 1) j0 j1 (by omega)
        rw [g0, g1] at this
        omega
      · exact rest _ _
    · exact rest _ _

theorem f7_loop (hk : 3000 ≤ k) (hp3 : p3 < N) {cs0 : List Value}
    (hb : ∀ j, j < len → ∃ x0 x1 x2 : Int, (cs0.drop (j * 3)).take 3 = [.int .u8 x0, .int .u8 x1, .int .u8 x2] ∧ (0 ≤ x0 ∧ x0 ≤ 255) ∧ (0 ≤ x1 ∧ x1 ≤ 255))
    (ha0 : ∀ q, a0 = some q → q.block ≠ p3) : ∀ (m i n : Nat) (H : AHeap) (D : List Value) (st own : Int) (zs : List Int),
    (∀ i, H.next ≤ i → H.get i = none) → N ≤ H.next → OneS N p3 H st own zs → Cells H a0 (len * 3) cs0 → i ≤ 60 → i + m = len → m < n →
    Ok (f7.L1 k n p3 a0 len c0 (len : Int) (i : Int) D H) fun r => r.1 = .bool true := by
  intro m
  induction m with
  | zero =>
    intro i n H D st own zs hF hN hT hC hi hm hn
    obtain ⟨n, rfl⟩ : ∃ j, n = j + 1 := ⟨n - 1, by omega⟩
    rw [f7.L1_s]
    exact ok_biff (by simp only [decide_eq_false_iff_not]; omega) (ok_cB0 (awake28 (by omega) H) (Ok.ret rfl))
  | succ m ih =>
    intro i n H D st own zs hF hN hT hC hi hm hn
    obtain ⟨n, rfl⟩ : ∃ j, n = j + 1 := ⟨n - 1, by omega⟩
    rw [f7.L1_s]
    obtain ⟨x0, x1, x2, hrow, hx0, hx1⟩ := hb i (by omega)
    obtain ⟨q, eq, hq⟩ := hC.row (j := i * 3) (m := 3) (by omega) (by omega)
    rw [hrow] at hq
    refine ok_bift (by simp only [decide_eq_true_eq]; omega) (ok_bind eq (ok_if (by omega) (ok_bind hq ?_)))
    refine ok_al fun ib H1 hi1 nx1 A1 B1 => ok_if ⟨rfl, rfl⟩ (ok_wr B1 rfl (by simp) fun H2 W2 => ?_)
    refine ok_bif (fun _ => ok_cB0 (awake28 (by omega) H2) (Ok.ret rfl)) (fun h60 => ?_)
    simp only [decide_eq_false_iff_not] at h60
    have A2 : Agree H H2 := A1.wrote W2 (by omega)
    have B2 := W2.at'
    have F2 := A2.fresh hF
    obtain ⟨a, l, c, e3, v3, t1, t2, t3, t4, t5, t6⟩ := hT
    have ei : IntKind.i64.wrap ((i : Int) + 1) = ((i + 1 : Nat) : Int) := by rw [wrap_id (by omega) (by omega)]; rfl
    have Ab := agree_bump H2 19
    refine ok_if (by omega) (ok_bift (sameB_agree B2 Ab) (ok_bind (ldI_at (B2.agree Ab) (by simp) rfl) ?_))
    refine ok_cG1 (f23_spec (by omega) (H2.bump 19) x2) fun v H4 hp => ?_
    obtain ⟨a1, l1, c1, a2, l2, c2, e, I1, I2, A4⟩ := hp
    refine ⟨_, e, ?_⟩
    have A24 := Ab.trans A4
    have hl1 := I1.len
    have hl2 := I2.len
    have u1 := heldL_len 1 4 x2 0
    have u2 := heldL_len 2 4 x2 0
    have A04 := A2.trans A24
    have T2 := t1.agree A2
    have T4 := T2.agree A24
    have hn2 : H.next ≤ H2.next := A2.next
    have hn4 : H2.next ≤ H4.next := A24.next
    refine ok_bift (sameB_agree T2 A24) (ok_bind (row_at T4 (by simp) (by simp)) (ok_if (by omega) (ok_bift (sameB_agree B2 A24) (ok_bind (ldI_at (B2.agree A24) (by simp) rfl) (ok_if (by omega) (ok_bift (sameB_agree B2 A24) (ok_bind (ldI_at (B2.agree A24) (by simp) rfl) ?_)))))))
    refine ok_cT9 (f24_spec (by omega) st own ((IntKind.i64.wrap x0).tmod 3) ((x1.tmod 2) == 1) (t2.agree A04) I1 I2 (by omega) (by omega)) fun v H5 hp => ?_
    obtain ⟨a7, l7, c7, e7, ⟨ws, I7, s7, m7⟩, A5, N7⟩ := hp
    refine ⟨[.agg #[.int .i64 _, .int .i64 _, .slice a7 l7 c7], .bool _], e7, ok_exG rfl ?_⟩
    have A25 := A24.trans A5
    have hn5 : H4.next ≤ H5.next := A5.next
    have f16 : Free H5 (H2.next + 16) := (free_bump F2 (n := 19) (by omega)).agree (A4.trans A5)
    refine ok_als A25 f16 (by omega) fun H6 n6 A6 B6 S6 F6 => ok_if ⟨rfl, rfl⟩ (ok_wr B6 rfl (by simp) fun H7 W7 => ok_exB rfl ?_)
    have A07 : Agree H H7 := (A2.trans A6).wrote W7 (by omega)
    have hn6 : H6.next = H5.next := n6
    have hn7 : H7.next = H6.next := W7.next
    have T7 := (T2.agree A6).wrote W7 (show p3 ≠ H2.next + 16 by omega)
    have B7 := W7.at'
    have hb7 := Cells.below I7
    have hne7 : ∀ q, a7 = some q → q.block ≠ H2.next + 16 := by
      intro q e
      have h1 := N7 q e
      intro hh
      rcases I7.2 with ⟨e2, _⟩ | ⟨i', o', s', b', e2, g1, _⟩
      · rw [e2] at e; cases e
      · rw [e2] at e; cases e
        rw [show i' = H2.next + 16 from hh] at g1
        have := g1.2
        rw [f16.2] at this
        cases this
    have Z7 : Ints H7 a7 l7 ws := Cells.wrote (Cells.sub I7 S6) W7 hne7
    have st0 := stS_range (own := own) (th := (IntKind.i64.wrap x0).tmod 3) (w := (x1.tmod 2) == 1) t5
    have st1 := stS_low (own := own) (th := (IntKind.i64.wrap x0).tmod 3) (w := (x1.tmod 2) == 1) t5
    have st2 := stS_one (own := own) (th := (IntKind.i64.wrap x0).tmod 3) (w := (x1.tmod 2) == 1) t5
    have hmem := fun v => inS_mem (v := v) (st := st) (own := own) (th := (IntKind.i64.wrap x0).tmod 3) (w := (x1.tmod 2) == 1) (ls := zs) (ex := heldL 1 4 x2 0) (sh := heldL 2 4 x2 0)
    have hsubx := fun v => inS_sub (st := st) (own := own) (th := (IntKind.i64.wrap x0).tmod 3) (w := (x1.tmod 2) == 1) (ls := zs) (ex := heldL 1 4 x2 0) (sh := heldL 2 4 x2 0) (v := v)
    revert st0 st1 st2 hmem m7 B7 hsubx
    generalize stS st own ((IntKind.i64.wrap x0).tmod 3) ((x1.tmod 2) == 1) = st'
    generalize owS st own ((IntKind.i64.wrap x0).tmod 3) = own'
    generalize hin : inS st own ((IntKind.i64.wrap x0).tmod 3) ((x1.tmod 2) == 1) zs (heldL 1 4 x2 0) (heldL 2 4 x2 0) = mem
    intro m7 B7 st0 st1 st2 hmem hsubx
    have len7 : l7 ≤ 8 := by
      have h1 := strict_len s7 (xs := heldL 1 4 x2 0 ++ heldL 2 4 x2 0) (fun v hv => (hsubx v ((m7 v).1 hv)).1)
      rw [List.length_append] at h1
      have := I7.len
      omega
    have hempty : st' = 1 → l7 = 0 := by
      intro e1
      have := I7.len
      cases ws with
      | nil => simpa using this
      | cons w ws =>
        exfalso
        have h1 := (m7 w).1 (by simp)
        rw [← hin] at h1
        exact (st2 e1).1 _ _ _ _ h1
    have fin : ∀ D, Ok (f7.K1 k n p3 (H2.next + 16) a0 len c0 (len : Int) (i : Int) D H7) fun r => r.1 = .bool true := by
      intro D
      rw [f7.K1_eq]
      refine ok_bSl (ldSl_at B7 (by simp) rfl) ?_
      refine f7_l2 (N := N) hk (show p3 ≠ H2.next + 16 by omega) (st := st) (own := own) (zs := zs) (ws := ws) ⟨a, l, c, _, _, T7, t2.agree A07, t3, t4, t5, t6⟩ B7 Z7 s7 len7 (fun h2 v hv => hmem v ((m7 v).1 hv) h2) t5 (fun D' H8 e' v' W8 => ?_) l7 0 k _ (by omega) (by omega)
      rw [ei]
      have z7 : ∀ q, a7 = some q → N ≤ q.block := fun q e => by have : H4.next ≤ q.block := N7 q e; omega
      refine ih (i + 1) n H8 D' st' own' ws (W8.fresh (A07.fresh hF)) (by rw [W8.next]; have := A07.next; omega) ⟨a7, l7, c7, _, _, W8.at', Cells.wrote Z7 W8 (fun q e => by have := z7 q e; omega), z7, s7, st0, len7⟩ ((hC.agree A07).wrote W8 ha0) (by omega) (by omega) (by omega)
    refine ok_bind (ldI_at B7 (by simp) rfl) (ok_bind (ldI_at T7 (by simp) rfl) (ok_biff (by rw [decide_eq_false_iff_not]; omega) ?_))
    refine ok_bind (ldI_at B7 (by simp) rfl) (ok_biff (by rw [decide_eq_false_iff_not]; omega) ?_)
    refine ok_bind (ldI_at B7 (by simp) rfl) (ok_biff (by rw [decide_eq_false_iff_not]; omega) ?_)
    refine ok_bind (ldI_at B7 (by simp) rfl) (ok_bif (fun h3 => ?_) (fun h3 => ?_))
    · refine ok_bSl (ldSl_at B7 (by simp) rfl) (ok_biff (by rw [h3]; simp) ?_)
      refine ok_bind (ldI_at B7 (by simp) rfl) (ok_bif (fun h1 => ?_) (fun h1 => fin _))
      rw [beq_iff_eq] at h1
      refine ok_bSl (ldSl_at B7 (by simp) rfl) (ok_biff (by rw [decide_eq_false_iff_not, hempty h1]; decide) ?_)
      refine ok_bind (ldI_at T7 (by simp) rfl) (ok_bif (fun h2 => ?_) (fun h2 => fin _))
      rw [beq_iff_eq] at h2
      exact ok_bind (ldI_at B7 (by simp) rfl) (ok_bind (ldI_at T7 (by simp) rfl) (ok_biff (by rw [(st2 h1).2 h2]; simp) (fin _)))
    · refine ok_biff (by rw [h3]; rfl) ?_
      refine ok_bind (ldI_at B7 (by simp) rfl) (ok_bif (fun h1 => ?_) (fun h1 => fin _))
      rw [beq_iff_eq] at h1
      refine ok_bSl (ldSl_at B7 (by simp) rfl) (ok_biff (by rw [decide_eq_false_iff_not, hempty h1]; decide) ?_)
      refine ok_bind (ldI_at T7 (by simp) rfl) (ok_bif (fun h2 => ?_) (fun h2 => fin _))
      rw [beq_iff_eq] at h2
      exact ok_bind (ldI_at B7 (by simp) rfl) (ok_bind (ldI_at T7 (by simp) rfl) (ok_biff (by rw [(st2 h1).2 h2]; simp) (fin _)))
end
theorem f7_any {H : AHeap} (hF : ∀ i, H.next ≤ i → H.get i = none) {a : Option Addr} {len c : Nat} {cs0 : List Value} (hC : Cells H a (len * 3) cs0)
    (hb : ∀ j, j < len → ∃ x0 x1 x2 : Int, (cs0.drop (j * 3)).take 3 = [.int .u8 x0, .int .u8 x1, .int .u8 x2] ∧ (0 ≤ x0 ∧ x0 ≤ 255) ∧ (0 ≤ x1 ∧ x1 ≤ 255)) :
    ∃ k H', C k 7 [.slice a len c] H = some (.bool true, H') := by
  have hk : ∃ H', C (len + 4000 + 1) 7 [.slice a len c] H = some (.bool true, H') ∧ True := by
    rw [f7_eq]
    refine call_of_ok ?_
    refine ok_al fun i2 H2 hi2 n2 A2 B2 => ok_wr B2 rfl (by simp) fun H4 W4 => ?_
    have A4 : Agree H H4 := A2.wrote W4 (by omega)
    have hne : ∀ q, a = some q → q.block < H.next := Cells.below hC
    have hn4 : H4.next = H2.next := W4.next
    have key := fun D => f7_loop (k := len + 4000) (N := H2.next) (p3 := i2) (c0 := c) (by omega) (by omega) hb (a0 := a)
      (fun q e => by have := hne q e; omega) len 0 (len + 4000) H4 D 0 0 [] (A4.fresh hF) (by omega)
      ⟨none, 0, 0, _, _, W4.at', Ints.nil _, (fun q e => by cases e), .nil, by omega, by omega⟩ (hC.agree A4) (by omega) (by omega) (by omega)
    obtain ⟨r, e, h⟩ := key _
    exact ⟨r, e, h, trivial⟩
  obtain ⟨H', e, _⟩ := hk
  exact ⟨_, H', e⟩
theorem locksetShrinks_ok (n : Nat) : LawOk awk Try.prog 7 (n + 1 + 1 + 1 + 1) [22] := by
  intro H vs hF hA
  obtain ⟨v0, _, rfl, h0, hA⟩ := argsV_cons hA
  obtain rfl := argsV_nil hA
  obtain ⟨a, len, c, es, rfl, hC, hR⟩ := arg_slice (n := n + 1 + 1 + 1) ag22 und22 cells29 hF h0
  exact f7_any hF hC (rep_u8s3 (n := n + 1) und29 und5 hR)
end Go.Proofs.MxF
