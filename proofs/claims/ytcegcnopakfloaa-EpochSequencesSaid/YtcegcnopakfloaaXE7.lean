/- EpochCompact. -/
import Derived.Test.YtcegcnopakfloaaXE6
set_option linter.unusedVariables false
namespace Go.Proofs.MxF
open Go Go.Mx Go.Proofs

theorem awake22 {k : Nat} (hk : 1 ≤ k) (H : AHeap) : C k 22 [] H = some (.bool true, H) := by
  obtain ⟨k, rfl⟩ : ∃ j, k = j + 1 := ⟨k - 1, by omega⟩
  rfl

theorem und37 : Try.prog.underlying 37 = some (.slice 4) := by kernel_rfl
theorem und4 : Try.prog.underlying 4 = some .bool := by kernel_rfl
theorem und3 : Try.prog.underlying 3 = some (.int .i64) := by kernel_rfl
theorem cells4 : Try.prog.cellsOf 4 = 1 := by kernel_rfl

/-- entry t is n, all others are 0 -/
def one (t : Nat) (n : Int) : List Int := (List.replicate (t + 1) 0).set t n
theorem one_at (t : Nat) (n : Int) : atI (one t n) (t : Int) = n := by
  rw [atI_nat]
  unfold one
  simp [List.getD_eq_getElem?_getD]
theorem one_pos (t : Nat) {n : Int} (h : 0 ≤ n) (j : Int) : 0 ≤ atI (one t n) j := by
  unfold atI
  split
  · exact Int.le_refl _
  · unfold one
    rw [List.getD_eq_getElem?_getD, List.getElem?_set]
    split
    · split
      · simpa using h
      · simp
    · rw [List.getElem?_replicate]
      split <;> simp
theorem leqFrom_nil (t : Nat) {n : Int} (h : 0 ≤ n) : ∀ m i, leqFrom [] (one t n) i m = true := by
  intro m
  induction m with
  | zero => intro i; rfl
  | succ m ih =>
    intro i
    unfold leqFrom
    have := one_pos t h (i : Int)
    rw [show decide (atI [] (i : Int) > atI (one t n) (i : Int)) = false from by
      rw [decide_eq_false_iff_not, atI_nat]
      simp only [List.getD_nil]
      omega]
    exact ih (i + 1)
theorem leq_nil (t : Nat) {n : Int} (h : 0 ≤ n) : leq [] (one t n) = true := leqFrom_nil t h _ _

theorem covers_one {t : Nat} {n : Int} {x y : Int} (hn : 0 ≤ n) (h : x ≤ n) (hx : x = 0 ∨ y = (t : Int)) : covers (one t n) x y = true := by
  unfold covers
  rw [decide_eq_true_eq]
  rcases hx with rfl | rfl
  · exact one_pos t hn y
  · rw [one_at]; exact h

theorem f4_loop {k t len : Nat} (hk : 3000 ≤ k) (ht : t < 4) {cs0 : List Value} (hb : ∀ j, j < len → ∃ b, cs0[j]? = some (.bool b)) {a0 : Option Addr} {c0 : Nat} : ∀ (m i n : Nat) (H : AHeap) (D : List Value) (p5 e5 v5 : Nat) (w1 w2 r1 : Int) (rth : Nat) (a : Option Addr) (c : Nat),
    (∀ i, H.next ≤ i → H.get i = none) → At H p5 ⟨[.int .i64 w1, .int .i64 w2, .int .i64 r1, .int .i64 (rth : Int), .slice a 0 c], e5, .rw, v5⟩ → Ints H a 0 [] → (∀ q, a = some q → q.block ≠ p5) →
    Cells H a0 len cs0 → (∀ q, a0 = some q → q.block ≠ p5) →
    0 ≤ w1 → w1 ≤ i → (w1 = 0 ∨ w2 = (t : Int)) → 0 ≤ r1 → r1 ≤ i → (r1 = 0 ∨ (rth : Int) = (t : Int)) → rth < 4 → i ≤ 60 → i + m = len → m < n →
    Ok (f4.L1 k n (t : Int) p5 w1 a0 len c0 (len : Int) (i : Int) D H) fun r => r.1 = .bool true := by
  intro m
  induction m with
  | zero =>
    intro i n H D p5 e5 v5 w1 w2 r1 rth a c hF B hI hne hC hneC hw hw' hww hr hr' hrr hrt hi hm hn
    obtain ⟨n, rfl⟩ : ∃ j, n = j + 1 := ⟨n - 1, by omega⟩
    rw [f4.L1_s]
    exact ok_biff (by simp only [decide_eq_false_iff_not]; omega) (ok_cB0 (awake22 (by omega) H) (Ok.ret rfl))
  | succ m ih =>
    intro i n H D p5 e5 v5 w1 w2 r1 rth a c hF B hI hne hC hneC hw hw' hww hr hr' hrr hrt hi hm hn
    obtain ⟨n, rfl⟩ : ∃ j, n = j + 1 := ⟨n - 1, by omega⟩
    rw [f4.L1_s]
    obtain ⟨b, hb1⟩ := hb i (by omega)
    obtain ⟨q, eq, hq⟩ := hC.ldB hb1
    refine ok_bift (by simp only [decide_eq_true_eq]; omega) (ok_bind eq (ok_if (by omega) (ok_bind (show ldB H q.block (q.off + (i : Int).toNat * 1) = some b by rw [Nat.mul_one]; exact hq) ?_)))
    refine ok_bif (fun _ => ok_cB0 (awake22 (by omega) H) (Ok.ret rfl)) (fun h60 => ?_)
    simp only [decide_eq_false_iff_not] at h60
    have ew : IntKind.i64.wrap ((t : Int) + 1) = ((t + 1 : Nat) : Int) := by rw [wrap_id (by omega) (by omega)]; rfl
    have ei : IntKind.i64.wrap ((i : Int) + 1) = ((i + 1 : Nat) : Int) := by rw [wrap_id (by omega) (by omega)]; rfl
    rw [ew, ei]
    refine ok_if rfl (ok_if (by omega) (ok_al fun i1 H1 hi1 n1 A1 B1 => ok_if (by omega) ?_))
    rw [rep_ints] at B1
    have hO : Own H.next 1 H1 (some ⟨i1, 0, none⟩) (t + 1) (t + 1) (ints (List.replicate (t + 1) 0)) :=
      ⟨by simp [ints], Nat.le_refl _, .inr ⟨i1, _, rfl, by omega, B1, rfl, rfl, by simp [ints], by simp [ints]⟩⟩
    obtain ⟨q', H2, e', hw2, hO2, k2, n2⟩ := own_set hO (t := t) (by omega) (.int .i64 ((i + 1 : Nat) : Int))
    cases e'
    rw [ints_set] at hO2
    refine ok_bind hw2 ?_
    have A2 : Agree H H2 := k2.agree A1 (fun q e => by cases e; show H.next ≤ i1; omega)
    have B2 := B.agree A2
    have hc2 : Ints H2 (some ⟨i1, 0, none⟩) (t + 1) (one t ((i + 1 : Nat) : Int)) := hO2.ints
    have hcov1 : covers (one t ((i + 1 : Nat) : Int)) w1 w2 = true := covers_one (by omega) (by omega) hww
    have hcov2 : covers (one t ((i + 1 : Nat) : Int)) r1 (rth : Int) = true := covers_one (by omega) (by omega) hrr
    refine ok_bif (fun hb => ?_) (fun hb => ?_)
    · refine ok_bind (row_at B2 (by simp) (by simp)) ?_
      refine ok_cT1 (f17_spec (by omega) w1 w2 r1 (rth : Int) (t : Int) (hI.agree A2) hc2 (by omega)) fun H3 A3 => ?_
      refine ok_exG rfl (ok_exB rfl (ok_if ⟨rfl, rfl⟩ (ok_wr (B2.agree A3) rfl (by simp) fun H4 W4 => ?_)))
      rw [f4.K1_eq]
      have hfalse : wrace (one t ((i + 1 : Nat) : Int)) w1 w2 r1 (rth : Int) [] = false := by
        unfold wrace
        rw [hcov1, hcov2, leq_nil t (by omega)]; rfl
      rw [one_at] at W4
      refine ok_biff hfalse (ok_bSl (ldSl_at W4.at' (by simp) rfl) (ok_biff (by simp) (ok_bind (ldI_at W4.at' (by simp) rfl) (ok_biff (by simp) (ok_bind (ldI_at W4.at' (by simp) rfl) (ok_biff (by simp) ?_))))))
      rw [ei]
      have A3' := A2.trans A3
      have hF4 : ∀ j, H4.next ≤ j → H4.get j = none := W4.fresh (A3'.fresh hF)
      exact ih (i + 1) n H4 _ p5 _ _ _ (t : Int) 0 0 none 0 hF4 W4.at' (Ints.nil _) (fun q e => by cases e) ((hC.agree A3').wrote W4 hneC) hneC (by omega) (by omega) (.inr rfl) (by omega) (by omega) (.inl rfl) (by omega) (by omega) (by omega) (by omega)
    · refine ok_bind (row_at B2 (by simp) (by simp)) ?_
      have sp := f19_spec (k := k) (ac := some ⟨i1, 0, none⟩) (cc := t + 1) (c := c) (by omega) (A2.fresh hF) w1 w2 r1 rth t (hI.agree A2) hc2 (by omega) ht hrt
      have hrd : rdOut (one t ((i + 1 : Nat) : Int)) r1 rth [] t = (((i + 1 : Nat) : Int), (t : Int), []) := by
        unfold rdOut
        rw [hcov2, Bool.or_true, one_at]
        rfl
      rw [hrd, hcov1] at sp
      refine ok_cT3 (g := fun a' l' c' => [.agg #[.int .i64 w1, .int .i64 w2, .int .i64 ((i + 1 : Nat) : Int), .int .i64 (t : Int), .slice a' l' c'], .bool (!true)]) sp fun a' l' c' H3 hp => ?_
      obtain ⟨hI3, A3, hfr3⟩ := hp
      obtain rfl : l' = 0 := hI3.len
      refine ok_exG rfl (ok_exB rfl (ok_if ⟨rfl, rfl⟩ (ok_wr (B2.agree A3) rfl (by simp) fun H4 W4 => ?_)))
      rw [f4.K1_eq]
      refine ok_biff rfl (ok_bSl (ldSl_at W4.at' (by simp) rfl) (ok_biff (by simp) (ok_bind (ldI_at W4.at' (by simp) rfl) (ok_biff (by simp) (ok_bind (ldI_at W4.at' (by simp) rfl) (ok_biff (by simp) ?_))))))
      rw [ei]
      have A3' := A2.trans A3
      have hne3 : ∀ q, a' = some q → q.block ≠ p5 := by
        intro q e
        have := hfr3 q e
        have := B2.1
        omega
      exact ih (i + 1) n H4 _ p5 _ _ w1 w2 _ t a' c' (W4.fresh (A3'.fresh hF)) W4.at' (Cells.wrote hI3 W4 hne3) hne3 ((hC.agree A3').wrote W4 hneC) hneC (by omega) (by omega) hww (by omega) (by omega) (.inr rfl) (by omega) (by omega) (by omega) (by omega)

theorem ag37 : aggT Try.prog 37 = false := by kernel_rfl
theorem ag3 : aggT Try.prog 3 = false := by kernel_rfl

theorem uint_mod (x : Int) : ∃ t : Nat, t < 4 ∧ IntKind.i64.wrap ((IntKind.u64.wrap x).tmod (4 : Int)) = (t : Int) := by
  have h0 : 0 ≤ IntKind.u64.wrap x := by
    unfold IntKind.wrap
    simp only [IntKind.signed, Bool.false_and, Bool.false_eq_true, if_false]
    exact Int.emod_nonneg _ (by decide)
  have h1 : (IntKind.u64.wrap x).tmod 4 = (IntKind.u64.wrap x) % 4 := Int.tmod_eq_emod_of_nonneg h0
  refine ⟨((IntKind.u64.wrap x) % 4).toNat, by omega, ?_⟩
  rw [h1, wrap_id (by omega) (by omega)]
  omega

theorem f4_any {H : AHeap} (hF : ∀ i, H.next ≤ i → H.get i = none) (x : Int) {a : Option Addr} {len c : Nat} {cs0 : List Value} (hC : Cells H a len cs0) (hb : ∀ j, j < len → ∃ b, cs0[j]? = some (.bool b)) :
    ∃ k H', C k 4 [.slice a len c, .int .i64 x] H = some (.bool true, H') := by
  obtain ⟨t, ht, et⟩ := uint_mod x
  have hk : ∃ H', C (len + 4000 + 1) 4 [.slice a len c, .int .i64 x] H = some (.bool true, H') ∧ True := by
    rw [f4_eq, et]
    refine call_of_ok (ok_al fun i H1 hi n1 A1 B1 => ok_wr B1 rfl (by simp) fun H2 W2 => ?_)
    have hne : ∀ q, a = some q → q.block ≠ i := fun q e => by have := Cells.below hC q e; omega
    have key := fun D => f4_loop (k := len + 4000) (c0 := c) (by omega) ht hb len 0 (len + 4000) H2 D i _ _ 0 0 0 0 none 0 (W2.fresh (A1.fresh hF)) W2.at' (Ints.nil _) (fun q e => by cases e) ((hC.agree A1).wrote W2 hne) hne (by omega) (by omega) (.inl rfl) (by omega) (by omega) (.inl rfl) (by omega) (by omega) (by omega) (by omega)
    obtain ⟨r, e, h⟩ := key _
    exact ⟨r, e, h, trivial⟩
  obtain ⟨H', e, _⟩ := hk
  exact ⟨_, H', e⟩

theorem epochCompact_ok (n : Nat) : LawOk awk Try.prog 4 (n + 1 + 1 + 1) [37, 3] := by
  intro H vs hF hA
  obtain ⟨v0, _, rfl, h0, hA⟩ := argsV_cons hA
  obtain ⟨v1, _, rfl, h1, hA⟩ := argsV_cons hA
  obtain rfl := argsV_nil hA
  obtain ⟨a, len, c, es, rfl, hC, hR⟩ := arg_slice (n := n + 1 + 1) ag37 und37 cells4 hF h0
  obtain ⟨x, rfl, _⟩ := arg_int (n := n + 1 + 1) ag3 und3 h1
  rw [Nat.mul_one] at hC
  exact f4_any hF x hC (rep_bool (n := n + 1) und4 hR)
end Go.Proofs.MxF
