/- EpochSequences. -/
import Derived.Test.YtcegcnopakfloaaXE7
set_option linter.unusedVariables false
namespace Go.Mx
open Go Go.Proofs
theorem Cells.row {H : AHeap} {a : Option Addr} {n : Nat} {cs : List Value} (h : Cells H a n cs) {j m : Nat} (hm : 0 < m) (hj : j + m ≤ n) :
    ∃ q, a = some q ∧ H.row q.block (q.off + j) m = some ((cs.drop j).take m) := by
  rcases h.2 with ⟨_, e⟩ | ⟨i, o, s, b, e, h1, h2, h3, h4⟩
  · subst e
    have := h.1
    simp at this
    omega
  · refine ⟨_, e, ?_⟩
    rw [row_at (o := o + j) h1 h2 (by omega), ← h4, List.drop_take, List.drop_drop, List.take_take]
    rw [show min m (n - j) = m from by omega]
theorem tyRep_row {p : List Value → Prop} {sz : Nat} {q : List Value → Prop} (h : ∀ cs, p cs → cs.length = sz ∧ q cs) : ∀ {m : Nat} {cs : List Value}, TyRep p m cs → ∀ j, j < m → q ((cs.drop (j * sz)).take sz) := by
  intro m
  induction m with
  | zero => intro cs _ j hj; omega
  | succ m ih =>
    intro cs hr j hj
    obtain ⟨a, b, rfl, ha, hb⟩ := hr
    obtain ⟨hl, hq⟩ := h _ ha
    cases j with
    | zero => rw [Nat.zero_mul, List.drop_zero, ← hl, List.take_left' rfl]; exact hq
    | succ j =>
      have := ih hb j (by omega)
      rw [Nat.succ_mul, Nat.add_comm, ← hl, ← List.drop_drop, List.drop_left' rfl, hl]
      exact this
theorem tyRep_three {p : List Value → Prop} {cs : List Value} (h : TyRep p 3 cs) : ∃ a b c, cs = a ++ (b ++ (c ++ [])) ∧ p a ∧ p b ∧ p c := by
  obtain ⟨a, _, rfl, h0, b, _, rfl, h1, c, _, rfl, h2, rfl⟩ := h
  exact ⟨a, b, c, rfl, h0, h1, h2⟩
theorem ty_u8s3 {P : Program} {H : AHeap} {n : Nat} {t e : TypeId} (hu : P.underlying t = some (.array 3 e)) (he : P.underlying e = some (.int .u8)) (cs : List Value) (h : TyV P H (n + 1 + 1) t cs) :
    cs.length = 3 ∧ ∃ x0 x1 x2 : Int, cs = [.int .u8 x0, .int .u8 x1, .int .u8 x2] ∧ (0 ≤ x0 ∧ x0 ≤ 255) ∧ (0 ≤ x1 ∧ x1 ≤ 255) := by
  have hr := tyV_array hu h
  have wf : ∀ x : Int, (Lit.int .u8 x).wf = true → 0 ≤ x ∧ x ≤ 255 := by
    intro x hx
    simp only [Lit.wf, Bool.and_eq_true, decide_eq_true_eq] at hx
    exact hx
  obtain ⟨_, _, _, rfl, h0, h1, h2⟩ := tyRep_three hr
  obtain ⟨x0, rfl, w0⟩ := tyV_int he h0
  obtain ⟨x1, rfl, w1⟩ := tyV_int he h1
  obtain ⟨x2, rfl, w2⟩ := tyV_int he h2
  exact ⟨rfl, x0, x1, x2, rfl, wf _ w0, wf _ w1⟩
theorem rep_u8s3 {P : Program} {H : AHeap} {n m : Nat} {t e : TypeId} (hu : P.underlying t = some (.array 3 e)) (he : P.underlying e = some (.int .u8)) {cs : List Value} (h : TyRep (TyV P H (n + 1 + 1) t) m cs) :
    ∀ j, j < m → ∃ x0 x1 x2 : Int, (cs.drop (j * 3)).take 3 = [.int .u8 x0, .int .u8 x1, .int .u8 x2] ∧ (0 ≤ x0 ∧ x0 ≤ 255) ∧ (0 ≤ x1 ∧ x1 ≤ 255) :=
  tyRep_row (q := fun cs => ∃ x0 x1 x2 : Int, cs = [.int .u8 x0, .int .u8 x1, .int .u8 x2] ∧ (0 ≤ x0 ∧ x0 ≤ 255) ∧ (0 ≤ x1 ∧ x1 ≤ 255)) (fun cs h => ty_u8s3 hu he cs h) h
end Go.Mx
namespace Go.Proofs.MxF
open Go Go.Mx Go.Proofs

theorem und22 : Try.prog.underlying 22 = some (.slice 29) := by kernel_rfl
theorem und29 : Try.prog.underlying 29 = some (.array 3 5) := by kernel_rfl
theorem und5 : Try.prog.underlying 5 = some (.int .u8) := by kernel_rfl
theorem cells29 : Try.prog.cellsOf 29 = 3 := by kernel_rfl
theorem ag22 : aggT Try.prog 22 = false := by kernel_rfl

theorem putI_len (xs : List Int) (t : Nat) (v : Int) : (putI xs t v).length = max xs.length (t + 1) := by
  unfold putI
  rw [List.length_set, List.length_append, List.length_replicate]
  omega
theorem rdOut_len {cl : List Int} {rt : Int} {rth : Nat} {rd : List Int} {t : Nat} (h : rd.length ≤ 4) (ht : t < 4) (hr : rth < 4) : (rdOut cl rt rth rd t).2.2.length ≤ 4 := by
  unfold rdOut
  cases decide (0 < rd.length)
  · cases ((rt == 0) || covers cl rt rth)
    · show (putI (putI [] rth rt) t (atI cl t)).length ≤ 4
      rw [putI_len, putI_len]
      simp
      omega
    · exact h
  · show (putI rd t (atI cl t)).length ≤ 4
    rw [putI_len]
    omega
theorem rdOut_thread {cl : List Int} {rt : Int} {rth : Nat} {rd : List Int} {t : Nat} (ht : t < 4) (hr : rth < 4) : ∃ r' : Nat, r' < 4 ∧ (rdOut cl rt rth rd t).2.1 = (r' : Int) := by
  unfold rdOut
  cases decide (0 < rd.length)
  · cases ((rt == 0) || covers cl rt rth)
    · exact ⟨0, by omega, rfl⟩
    · exact ⟨t, ht, rfl⟩
  · exact ⟨rth, hr, rfl⟩
theorem u8_mod {x : Int} (h : 0 ≤ x) (h' : x ≤ 255) : ∃ t : Nat, t < 4 ∧ (IntKind.i64.wrap x).tmod (4 : Int) = (t : Int) := by
  rw [wrap_id h (by omega), Int.tmod_eq_emod_of_nonneg h]
  exact ⟨(x % 4).toNat, by omega, by omega⟩

/-- a clock of the law -/
def Clk (N : Nat) (H : AHeap) (v : Option Value) : Prop := ∃ a l c xs, v = some (.slice a l c) ∧ Ints H a l xs ∧ l ≤ 4 ∧ ∀ q, a = some q → N ≤ q.block
/-- both histories are alike -/
def Two (N p4 p5 : Nat) (H : AHeap) : Prop := ∃ (w1 w2 r1 : Int) (rth : Nat) (a : Option Addr) (l c : Nat) (a' : Option Addr) (l' c' : Nat) (rd : List Int) (e4 v4 e5 v5 : Nat),
  At H p4 ⟨[.int .i64 w1, .int .i64 w2, .int .i64 r1, .int .i64 (rth : Int), .slice a l c], e4, .rw, v4⟩ ∧
  At H p5 ⟨[.int .i64 w1, .int .i64 w2, .int .i64 r1, .int .i64 (rth : Int), .slice a' l' c'], e5, .rw, v5⟩ ∧
  Ints H a l rd ∧ Ints H a' l' rd ∧ (∀ q, a = some q → N ≤ q.block) ∧ (∀ q, a' = some q → N ≤ q.block) ∧ rth < 4 ∧ l ≤ 4
def Clks (N pc : Nat) (H : AHeap) : Prop := ∃ cs v, At H pc ⟨cs, 1, .rw, v⟩ ∧ cs.length = 4 ∧ ∀ j, j < 4 → Clk N H cs[j]?

theorem Clk.agree {N : Nat} {H H' : AHeap} {v : Option Value} (h : Clk N H v) (A : Agree H H') : Clk N H' v := by
  obtain ⟨a, l, c, xs, e, h1, h2, h3⟩ := h
  exact ⟨a, l, c, xs, e, h1.agree A, h2, h3⟩
theorem Clk.wrote {N : Nat} {H H' : AHeap} {i : Nat} {b' : Blk} {v : Option Value} (h : Clk N H v) (w : Wrote H H' i b') (hi : i < N) : Clk N H' v := by
  obtain ⟨a, l, c, xs, e, h1, h2, h3⟩ := h
  exact ⟨a, l, c, xs, e, Cells.wrote h1 w (fun q e => by have := h3 q e; omega), h2, h3⟩
theorem Clks.agree {N pc : Nat} {H H' : AHeap} (h : Clks N pc H) (A : Agree H H') : Clks N pc H' := by
  obtain ⟨cs, v, h1, h2, h3⟩ := h
  exact ⟨cs, v, h1.agree A, h2, fun j hj => (h3 j hj).agree A⟩
theorem Clks.wrote {N pc i : Nat} {H H' : AHeap} {b' : Blk} (h : Clks N pc H) (w : Wrote H H' i b') (hi : i < N) (hne : pc ≠ i) : Clks N pc H' := by
  obtain ⟨cs, v, h1, h2, h3⟩ := h
  exact ⟨cs, v, h1.wrote w hne, h2, fun j hj => (h3 j hj).wrote w hi⟩
theorem Two.agree {N p4 p5 : Nat} {H H' : AHeap} (h : Two N p4 p5 H) (A : Agree H H') : Two N p4 p5 H' := by
  obtain ⟨w1, w2, r1, rth, a, l, c, a', l', c', rd, e4, v4, e5, v5, h1, h2, h3, h4, h5, h6, h7, h8⟩ := h
  exact ⟨w1, w2, r1, rth, a, l, c, a', l', c', rd, e4, v4, e5, v5, h1.agree A, h2.agree A, h3.agree A, h4.agree A, h5, h6, h7, h8⟩
theorem Two.wrote {N p4 p5 i : Nat} {H H' : AHeap} {b' : Blk} (h : Two N p4 p5 H) (w : Wrote H H' i b') (hi : i < N) (h4' : p4 ≠ i) (h5' : p5 ≠ i) : Two N p4 p5 H' := by
  obtain ⟨w1, w2, r1, rth, a, l, c, a', l', c', rd, e4, v4, e5, v5, h1, h2, h3, h4, h5, h6, h7, h8⟩ := h
  exact ⟨w1, w2, r1, rth, a, l, c, a', l', c', rd, e4, v4, e5, v5, h1.wrote w h4', h2.wrote w h5', Cells.wrote h3 w (fun q e => by have := h5 q e; omega), Cells.wrote h4 w (fun q e => by have := h6 q e; omega), h5, h6, h7, h8⟩
theorem Clks.set {N pc : Nat} {H H' : AHeap} {cs : List Value} {v : Nat} {t : Nat} (ht : t < 4) (hl : cs.length = 4) (h3 : ∀ j, j < 4 → Clk N H cs[j]?) {a : Option Addr} {l c : Nat} {xs : List Int}
    (hx : Ints H a l xs) (hl4 : l ≤ 4) (hN : ∀ q, a = some q → N ≤ q.block) (hp : pc < N) (w : Wrote H H' pc ⟨splice cs (0 + t * 1) [.slice a l c], 1, .rw, v⟩) : Clks N pc H' := by
  have hs : splice cs (0 + t * 1) [.slice a l c] = cs.set t (.slice a l c) := by
    rw [Nat.zero_add, Nat.mul_one]
    unfold splice
    rw [List.set_eq_take_append_cons_drop, if_pos (by omega)]
    simp
  rw [hs] at w
  refine ⟨_, v, w.at', by rw [List.length_set]; exact hl, fun j hj => ?_⟩
  rw [List.getElem?_set]
  by_cases hjt : t = j
  · rw [if_pos hjt, if_pos (by omega)]
    exact ⟨a, l, c, xs, rfl, Cells.wrote hx w (fun q e => by have := hN q e; omega), hl4, hN⟩
  · rw [if_neg hjt]
    exact (h3 j hj).wrote w hp

theorem f3_tail {k n : Nat} (hk : 3000 ≤ k) {N p4 p5 : Nat} {b : Bool} {a3 a14 : Option Addr} {l3 c3 l14 c14 : Nat} {x15 x16 : Int} {D : List Value} {H : AHeap} {Q : Value × AHeap → Prop} (h : Two N p4 p5 H)
    (next : ∀ D H', Agree H H' → Ok (f3.L1 k n a3 l3 c3 p4 p5 a14 l14 c14 x15 (IntKind.i64.wrap (x16 + 1)) D H') Q) :
    Ok (f3.K1 k n a3 l3 c3 p4 p5 b b a14 l14 c14 x15 x16 D H) Q := by
  obtain ⟨w1, w2, r1, rth, a, l, c, a', l', c', rd, e4, v4, e5, v5, h1, h2, h3, h4, h5, h6, h7, h8⟩ := h
  rw [f3.K1_eq]
  refine ok_biff (by simp) (ok_bind (row_at h1 (by simp) (by simp)) (ok_bind (row_at h2 (by simp) (by simp)) ?_))
  refine ok_cB (f21_spec (by omega) w1 w2 r1 (rth : Int) h3 h4 (by omega)) fun H1 A1 => ?_
  exact ok_biff rfl (next _ _ A1)

theorem f3_loop {k N pc p4 p5 len : Nat} (hk : 3000 ≤ k) (hpc : pc < N) (hp4 : p4 < N) (hp5 : p5 < N) (n1 : pc ≠ p4) (n2 : pc ≠ p5) (n3 : p4 ≠ p5) {cs0 : List Value}
    (hb : ∀ j, j < len → ∃ x0 x1 x2 : Int, (cs0.drop (j * 3)).take 3 = [.int .u8 x0, .int .u8 x1, .int .u8 x2] ∧ (0 ≤ x0 ∧ x0 ≤ 255) ∧ (0 ≤ x1 ∧ x1 ≤ 255))
    {a0 : Option Addr} {c0 : Nat} (ha0 : ∀ q, a0 = some q → q.block ≠ pc ∧ q.block ≠ p4 ∧ q.block ≠ p5) : ∀ (m i n : Nat) (H : AHeap) (D : List Value),
    (∀ i, H.next ≤ i → H.get i = none) → N ≤ H.next → Clks N pc H → Two N p4 p5 H → Cells H a0 (len * 3) cs0 → i ≤ 60 → i + m = len → m < n →
    Ok (f3.L1 k n (some ⟨pc, 0, none⟩) 4 4 p4 p5 a0 len c0 (len : Int) (i : Int) D H) fun r => r.1 = .bool true := by
  intro m
  induction m with
  | zero =>
    intro i n H D hF hN hK hT hC hi hm hn
    obtain ⟨n, rfl⟩ : ∃ j, n = j + 1 := ⟨n - 1, by omega⟩
    rw [f3.L1_s]
    exact ok_biff (by simp only [decide_eq_false_iff_not]; omega) (ok_cB0 (awake22 (by omega) H) (Ok.ret rfl))
  | succ m ih =>
    intro i n H D hF hN hK hT hC hi hm hn
    obtain ⟨n, rfl⟩ : ∃ j, n = j + 1 := ⟨n - 1, by omega⟩
    rw [f3.L1_s]
    obtain ⟨x0, x1, x2, hrow, hx0, hx1⟩ := hb i (by omega)
    obtain ⟨q, eq, hq⟩ := hC.row (j := i * 3) (m := 3) (by omega) (by omega)
    rw [hrow] at hq
    refine ok_bift (by simp only [decide_eq_true_eq]; omega) (ok_bind eq (ok_if (by omega) (ok_bind hq ?_)))
    refine ok_al fun ib H1 hi1 nx1 A1 B1 => ok_if ⟨rfl, rfl⟩ (ok_wr B1 rfl (by simp) fun H2 W2 => ?_)
    refine ok_bif (fun _ => ok_cB0 (awake22 (by omega) H2) (Ok.ret rfl)) (fun h60 => ?_)
    simp only [decide_eq_false_iff_not] at h60
    have A2 : Agree H H2 := A1.wrote W2 (by omega)
    have B2 := W2.at'
    have K2 := hK.agree A2
    have T2 := hT.agree A2
    have C2 := hC.agree A2
    have F2 := A2.fresh hF
    have N2 : N ≤ H2.next := Nat.le_trans hN A2.next
    clear A1 B1 W2 hK hT hC hF
    refine ok_if (by omega) (ok_bind (ldI_at B2 (by simp) rfl) ?_)
    obtain ⟨t, ht, et⟩ := u8_mod hx0.1 hx0.2
    obtain ⟨u, hu, eu⟩ := u8_mod hx1.1 hx1.2
    rw [et]
    obtain ⟨cs, vc, hP, hlen, hclk⟩ := K2
    obtain ⟨ta, tl, tc, txs, te, tI, tl4, tN⟩ := hclk t ht
    obtain ⟨ua, ul, uc, uxs, ue, uI, ul4, uN⟩ := hclk u hu
    have Ab := agree_bump H2 18
    have hPb := hP.agree Ab
    have B2b := B2.agree Ab
    refine ok_bind rfl (ok_if (by omega) (ok_bift (sameB_agree hP Ab) (ok_bSl (ldSl_at (o := 0 + t * 1) hPb (by simp) (by rw [Nat.zero_add, Nat.mul_one]; exact te)) ?_)))
    refine ok_if (by omega) (ok_bift (sameB_agree B2 Ab) (ok_bind (ldI_at B2b (by simp) rfl) ?_))
    rw [eu]
    refine ok_bind rfl (ok_if (by omega) (ok_bift (sameB_agree hP Ab) (ok_bSl (ldSl_at (o := 0 + u * 1) hPb (by simp) (by rw [Nat.zero_add, Nat.mul_one]; exact ue)) ?_)))
    refine ok_cSl (f16_spec (by omega) (tI.agree Ab) (uI.agree Ab) (by omega)) fun a2 l2 c2 H4 hp4' => ?_
    obtain ⟨el2, ⟨zs2, hI2⟩, A4⟩ := hp4'
    refine ok_cSl (f15_spec ht (by omega) hI2 (by omega)) fun a5 l5 c5 H5 hp5' => ?_
    obtain ⟨el5, ⟨zs5, hI5, hN5⟩, A5⟩ := hp5'
    have A25 := (Ab.trans A4).trans A5
    have hN5' : ∀ q, a5 = some q → N ≤ q.block := fun q e => by have := hN5 q e; have := (Ab.trans A4).next; omega
    refine ok_bind rfl (ok_if (by omega) (ok_wr (hP.agree A25) rfl (by simp [hlen]; omega) fun H6 W6 => ?_))
    have K6 : Clks N pc H6 := Clks.set ht hlen (fun j hj => (hclk j hj).agree A25) hI5 (by omega) hN5' hpc W6
    have T6 := (T2.agree A25).wrote W6 hpc (Ne.symm n1) (Ne.symm n2)
    have C6 := (C2.agree A25).wrote W6 (fun q e => (ha0 q e).1)
    have B6 := (B2.agree A25).wrote W6 (show ib ≠ pc by omega)
    have F6 := W6.fresh (A25.fresh F2)
    have N6 : N ≤ H6.next := by rw [W6.next]; have := A25.next; omega
    have hlt : i + 1 + m = len := by omega
    have next : ∀ H7, Agree H2 H7 → True := fun _ _ => trivial
    clear A5 A4 Ab A25 hP hPb B2b tI uI hI2 hI5 hclk W6 B2 T2 C2 hq
    refine ok_if (by omega) (ok_bind (ldI_at B6 (by simp) rfl) ?_)
    have ei : IntKind.i64.wrap ((i : Int) + 1) = ((i + 1 : Nat) : Int) := by rw [wrap_id (by omega) (by omega)]; rfl
    obtain ⟨w1, w2, r1, rth, a, l, c, a', l', c', rd, e4, v4, e5, v5, h1, h2, h3, h4, h5, h6, h7, h8⟩ := T6
    have hl8 := h3.len
    have hl9 := h4.len
    obtain ⟨cs6, vc6, hP6, hlen6, hclk6⟩ := K6
    obtain ⟨ta6, tl6, tc6, txs6, te6, tI6, tl46, tN6⟩ := hclk6 t ht
    have Ab6 := agree_bump H6 12
    refine ok_bif (fun hw => ?_) (fun hw => ?_)
    · refine ok_bift (sameB_agree h1 Ab6) (ok_bind (row_at (h1.agree Ab6) (by simp) (by simp)) ?_)
      refine ok_bind rfl (ok_if (by omega) (ok_bift (sameB_agree hP6 Ab6) (ok_bSl (ldSl_at (o := 0 + t * 1) (hP6.agree Ab6) (by simp) (by rw [Nat.zero_add, Nat.mul_one]; exact te6)) ?_)))
      refine ok_cT1 (f17_spec (by omega) w1 w2 r1 (rth : Int) (t : Int) (h3.agree Ab6) (tI6.agree Ab6) (by omega)) fun H7 A7 => ?_
      have A67 := Ab6.trans A7
      refine ok_exG rfl (ok_if ⟨rfl, rfl⟩ (ok_wr (h1.agree A67) rfl (by simp) fun H8 W8 => ok_exB rfl ?_))
      have P8 := (hP6.agree A67).wrote W8 n1
      have h28 := (h2.agree A67).wrote W8 (Ne.symm n3)
      have Ab8 := agree_bump H8 12
      have F8 := W8.fresh (A67.fresh F6)
      have N8 : N ≤ H8.next := by rw [W8.next]; have := A67.next; omega
      have rd8 : Ints H8 a' l' rd := Cells.wrote (h4.agree A67) W8 (fun q e => by have := h6 q e; omega)
      have tI8 : Ints H8 ta6 tl6 txs6 := Cells.wrote (tI6.agree A67) W8 (fun q e => by have := tN6 q e; omega)
      have C8 : Cells H8 a0 (len * 3) cs0 := (C6.agree A67).wrote W8 (fun q e => (ha0 q e).2.1)
      have K8 : Clks N pc H8 := Clks.wrote (Clks.agree ⟨cs6, vc6, hP6, hlen6, hclk6⟩ A67) W8 hp4 n1
      refine ok_bift (sameB_agree h28 Ab8) (ok_bind (row_at (h28.agree Ab8) (by simp) (by simp)) ?_)
      refine ok_bind rfl (ok_if (by omega) (ok_bift (sameB_agree P8 Ab8) (ok_bSl (ldSl_at (o := 0 + t * 1) (P8.agree Ab8) (by simp) (by rw [Nat.zero_add, Nat.mul_one]; exact te6)) ?_)))
      refine ok_cT1 (f18_spec (by omega) w1 w2 r1 (rth : Int) (t : Int) (rd8.agree Ab8) (tI8.agree Ab8) (by omega)) fun H9 A9 => ?_
      have A89 := Ab8.trans A9
      refine ok_exG rfl (ok_if ⟨rfl, rfl⟩ (ok_wr (h28.agree A89) rfl (by simp) fun H10 W10 => ok_exB rfl ?_))
      refine f3_tail (N := N) hk ?_ ?_
      · exact ⟨_, _, _, 0, none, 0, 0, none, 0, 0, [], _, _, _, _, (W8.at'.agree A89).wrote W10 n3, W10.at', Ints.nil _, Ints.nil _, (fun q e => by cases e), (fun q e => by cases e), by omega, by omega⟩
      · intro D' H11 A11
        rw [ei]
        refine ih (i + 1) n H11 _ (A11.fresh (W10.fresh (A89.fresh F8))) ?_ (((K8.agree A89).wrote W10 hp5 n2).agree A11) ?_ ((((C8.agree A89).wrote W10 (fun q e => (ha0 q e).2.2)).agree A11)) (by omega) hlt (by omega)
        · have := A11.next; have := W10.next; have := A89.next; omega
        · exact Two.agree ⟨_, _, _, 0, none, 0, 0, none, 0, 0, [], _, _, _, _, (W8.at'.agree A89).wrote W10 n3, W10.at', Ints.nil _, Ints.nil _, (fun q e => by cases e), (fun q e => by cases e), by omega, by omega⟩ A11
    · obtain ⟨r', hr', er'⟩ := rdOut_thread (cl := txs6) (rt := r1) (rd := rd) ht h7
      have hlr : (rdOut txs6 r1 rth rd t).2.2.length ≤ 4 := rdOut_len (by omega) ht h7
      refine ok_bift (sameB_agree h1 Ab6) (ok_bind (row_at (h1.agree Ab6) (by simp) (by simp)) ?_)
      refine ok_bind rfl (ok_if (by omega) (ok_bift (sameB_agree hP6 Ab6) (ok_bSl (ldSl_at (o := 0 + t * 1) (hP6.agree Ab6) (by simp) (by rw [Nat.zero_add, Nat.mul_one]; exact te6)) ?_)))
      refine ok_cT3 (g := fun a' l' c' => [.agg #[.int .i64 w1, .int .i64 w2, .int .i64 (rdOut txs6 r1 rth rd t).1, .int .i64 (rdOut txs6 r1 rth rd t).2.1, .slice a' l' c'], .bool (!covers txs6 w1 w2)]) (f19_spec (by omega) (Ab6.fresh F6) w1 w2 r1 rth t (h3.agree Ab6) (tI6.agree Ab6) (by omega) ht h7) fun a7 l7 c7 H7 hh7 => ?_
      obtain ⟨I7, A7, N7⟩ := hh7
      have hl7 := I7.len
      have A67 := Ab6.trans A7
      have N7' : ∀ q, a7 = some q → N ≤ q.block := fun q e => by have := N7 q e; have := Ab6.next; omega
      refine ok_exG rfl (ok_if ⟨rfl, rfl⟩ (ok_wr (h1.agree A67) rfl (by simp) fun H8 W8 => ok_exB rfl ?_))
      have P8 := (hP6.agree A67).wrote W8 n1
      have h28 := (h2.agree A67).wrote W8 (Ne.symm n3)
      have Ab8 := agree_bump H8 12
      have F8 := W8.fresh (A67.fresh F6)
      have N8 : N ≤ H8.next := by rw [W8.next]; have := A67.next; omega
      have rd8 : Ints H8 a' l' rd := Cells.wrote (h4.agree A67) W8 (fun q e => by have := h6 q e; omega)
      have I8 : Ints H8 a7 l7 (rdOut txs6 r1 rth rd t).2.2 := Cells.wrote I7 W8 (fun q e => by have := N7' q e; omega)
      have tI8 : Ints H8 ta6 tl6 txs6 := Cells.wrote (tI6.agree A67) W8 (fun q e => by have := tN6 q e; omega)
      have C8 : Cells H8 a0 (len * 3) cs0 := (C6.agree A67).wrote W8 (fun q e => (ha0 q e).2.1)
      have K8 : Clks N pc H8 := Clks.wrote (Clks.agree ⟨cs6, vc6, hP6, hlen6, hclk6⟩ A67) W8 hp4 n1
      refine ok_bift (sameB_agree h28 Ab8) (ok_bind (row_at (h28.agree Ab8) (by simp) (by simp)) ?_)
      refine ok_bind rfl (ok_if (by omega) (ok_bift (sameB_agree P8 Ab8) (ok_bSl (ldSl_at (o := 0 + t * 1) (P8.agree Ab8) (by simp) (by rw [Nat.zero_add, Nat.mul_one]; exact te6)) ?_)))
      refine ok_cT3 (g := fun a' l' c' => [.agg #[.int .i64 w1, .int .i64 w2, .int .i64 (rdOut txs6 r1 rth rd t).1, .int .i64 (rdOut txs6 r1 rth rd t).2.1, .slice a' l' c'], .bool (!covers txs6 w1 w2)]) (f20_spec (by omega) (Ab8.fresh F8) w1 w2 r1 rth t (rd8.agree Ab8) (tI8.agree Ab8) (by omega) ht h7) fun a9 l9 c9 H9 hh9 => ?_
      obtain ⟨I9, A9, N9⟩ := hh9
      have hl9' := I9.len
      have A89 := Ab8.trans A9
      have N9' : ∀ q, a9 = some q → N ≤ q.block := fun q e => by have := N9 q e; have := Ab8.next; omega
      refine ok_exG rfl (ok_if ⟨rfl, rfl⟩ (ok_wr (h28.agree A89) rfl (by simp) fun H10 W10 => ok_exB rfl ?_))
      have two : Two N p4 p5 H10 := by
        have w4 := (W8.at'.agree A89).wrote W10 n3
        have w5 := W10.at'
        rw [er'] at w4 w5
        exact ⟨_, _, _, r', a7, l7, c7, a9, l9, c9, _, _, _, _, _, w4, w5, Cells.wrote (I8.agree A89) W10 (fun q e => by have := N7' q e; omega), Cells.wrote I9 W10 (fun q e => by have := N9' q e; omega), N7', N9', hr', by omega⟩
      refine f3_tail (N := N) hk two ?_
      intro D' H11 A11
      rw [ei]
      refine ih (i + 1) n H11 _ (A11.fresh (W10.fresh (A89.fresh F8))) ?_ (((K8.agree A89).wrote W10 hp5 n2).agree A11) (two.agree A11) ((((C8.agree A89).wrote W10 (fun q e => (ha0 q e).2.2)).agree A11)) (by omega) hlt (by omega)
      have := A11.next; have := W10.next; have := A89.next; omega

theorem f3_any {H : AHeap} (hF : ∀ i, H.next ≤ i → H.get i = none) {a : Option Addr} {len c : Nat} {cs0 : List Value} (hC : Cells H a (len * 3) cs0)
    (hb : ∀ j, j < len → ∃ x0 x1 x2 : Int, (cs0.drop (j * 3)).take 3 = [.int .u8 x0, .int .u8 x1, .int .u8 x2] ∧ (0 ≤ x0 ∧ x0 ≤ 255) ∧ (0 ≤ x1 ∧ x1 ≤ 255)) :
    ∃ k H', C k 3 [.slice a len c] H = some (.bool true, H') := by
  have hk : ∃ H', C (len + 4000 + 1) 3 [.slice a len c] H = some (.bool true, H') ∧ True := by
    rw [f3_eq]
    refine call_of_ok (ok_if rfl (ok_if (by omega) ?_))
    refine ok_al fun i H1 hi n1 A1 B1 => ok_al fun i2 H2 hi2 n2 A2 B2 => ok_al fun i3 H3 hi3 n3 A3 B3 => ?_
    refine ok_wr (B2.agree A3) rfl (by simp) fun H4 W4 => ok_wr (B3.wrote W4 (by omega)) rfl (by simp) fun H5 W5 => ?_
    have A03 := (A1.trans A2).trans A3
    have A5 : Agree H H5 := (A03.wrote W4 (by omega)).wrote W5 (by have := (A1.trans A2).next; omega)
    have hB : At H5 i ⟨[.slice none 0 0, .slice none 0 0, .slice none 0 0, .slice none 0 0], 1, .rw, 0⟩ := (((B1.agree A2).agree A3).wrote W4 (by omega)).wrote W5 (by omega)
    have hne : ∀ q, a = some q → q.block < H.next := Cells.below hC
    have hn5 : H5.next = H3.next := by rw [W5.next, W4.next]
    have key := fun D => f3_loop (k := len + 4000) (N := H3.next) (pc := i) (p4 := i2) (p5 := i3) (c0 := c) (by omega) (by omega) (by omega) (by omega) (by omega) (by omega) (by omega) hb (a0 := a)
      (fun q e => by have := hne q e; omega) len 0 (len + 4000) H5 D (A5.fresh hF) (by omega) ⟨_, 0, hB, rfl, fun j hj => ⟨none, 0, 0, [], by
        match j, hj with
        | 0, _ => rfl
        | 1, _ => rfl
        | 2, _ => rfl
        | 3, _ => rfl, Ints.nil _, by omega, fun q e => by cases e⟩⟩
      ⟨0, 0, 0, 0, none, 0, 0, none, 0, 0, [], _, _, _, _, W4.at'.wrote W5 (by omega), W5.at', Ints.nil _, Ints.nil _, (fun q e => by cases e), (fun q e => by cases e), by omega, by omega⟩ (hC.agree A5) (by omega) (by omega) (by omega)
    obtain ⟨r, e, h⟩ := key _
    exact ⟨r, e, h, trivial⟩
  obtain ⟨H', e, _⟩ := hk
  exact ⟨_, H', e⟩

theorem epochSequences_ok (n : Nat) : LawOk awk Try.prog 3 (n + 1 + 1 + 1 + 1) [22] := by
  intro H vs hF hA
  obtain ⟨v0, _, rfl, h0, hA⟩ := argsV_cons hA
  obtain rfl := argsV_nil hA
  obtain ⟨a, len, c, es, rfl, hC, hR⟩ := arg_slice (n := n + 1 + 1 + 1) ag22 und22 cells29 hF h0
  exact f3_any hF hC (rep_u8s3 (n := n + 1) und29 und5 hR)
end Go.Proofs.MxF
