/- Texts of this claim, laid together: O14 O15 O16 O17 O18 O19 O20 O21 O22 O23 P1 P2 O24 P3 P4. -/
import Derived.Test.YtcegcnopakfloaaXGg
import Derived.Test.YtcegcnopakfloaaXGc
import Derived.Test.YtcegcnopakfloaaXGf
section
set_option linter.unusedSimpArgs false
/- The reference's Copy. -/
set_option linter.unusedVariables false
namespace Go.Mx
open Go
theorem Free.keep {a : Option Addr} {H H' : AHeap} {s : Nat} (h : Free H s) (k : Keep a H H') (hne : ∀ q, a = some q → q.block ≠ s) : Free H' s :=
  ⟨Nat.lt_of_lt_of_le h.1 k.next, (k.old s h.1 hne).trans h.2⟩
theorem own_ne_free {N sz : Nat} {H : AHeap} {a : Option Addr} {l c s : Nat} {cs : List Value} (h : Own N sz H a l c cs) (f : Free H s) : ∀ q, a = some q → q.block ≠ s := by
  intro q e
  rcases h.2.2 with ⟨e1, _⟩ | ⟨i, b, e1, h0, h1, _⟩
  · rw [e1] at e; cases e
  · rw [e1] at e; cases e; exact Free.ne f h1
end Go.Mx
namespace Go.Proofs.MxF
open Go Go.Mx Go.Proofs
section
variable {k : Nat} {F : Nat → Prop} {H0 : AHeap} {p1 p2 p3 M : Nat} {aL0 : Option Addr} {lL0 cL0 : Nat} {aD0 : Option Addr} {lD0 cD0 : Nat} {aT0 : Option Addr} {lT0 cT0 : Nat} {aD : Option Addr} {lD cD : Nat} {aT : Option Addr} {lT cT : Nat} {ls : List LkV} {s : SyncS}
theorem f74_loop (hk : 1100 ≤ k) (hP : SyncP F H0 aL0 lL0 aD0 lD0 aT0 lT0 ls s) (hF : ∀ i, H0.next ≤ i → H0.get i = none) (hlL1 : lL0 ≤ 1000) (hrd : ∀ x ∈ ls, x.l ≤ 1000) (z1 : H0.next ≤ p1) (z2 : H0.next ≤ p2) (z3 : H0.next ≤ p3) (z4 : p1 < M) (z5 : p2 < M) (z6 : p3 < M) (z7 : p1 ≠ p3) (z8 : p2 ≠ p3) (hNM : H0.next ≤ M)
    (nD1 : ∀ q, aD = some q → q.block ≠ p2 ∧ q.block ≠ p3 ∧ H0.next ≤ q.block) (nT1 : ∀ q, aT = some q → q.block ≠ p2 ∧ q.block ≠ p3 ∧ H0.next ≤ q.block) (aDT : Apart aD aT) :
    ∀ (m j n : Nat) (cur : List LkV) (aL : Option Addr) (lL cL : Nat) (H : AHeap) (D : List Value) (e1 v1 e2 v2 e3 v3 : Nat) (y0 y1 y2 y3 : Value), j + m = lL0 → m < n → Agree H0 H → M ≤ H.next →
    At H p1 ⟨[.slice aL0 lL0 cL0, .int .i64 s.tx, .slice aD0 lD0 cD0, .slice aT0 lT0 cT0], e1, .rw, v1⟩ → At H p2 ⟨[y0, y1, y2, y3], e2, .rw, v2⟩ → At H p3 ⟨[.slice aL lL cL, .int .i64 s.tx, .slice aD lD cD, .slice aT lT cT], e3, .rw, v3⟩ →
    Own M 2 H aL lL cL (cur.flatMap rowL) → Own H0.next 1 H aD lD cD (s.done.flatMap rowB) → Own H0.next 3 H aT lT cT (s.ths.flatMap rowT) → cur.map LkV.pure = s.locks.take j →
    (∀ x ∈ cur, Own M 1 H x.a x.l x.c (ints x.rd)) → (∀ x ∈ cur, Apart aL x.a) → cur.Pairwise (fun x y => Apart x.a y.a) → Apart aD aL → Apart aT aL → (∀ x ∈ cur, Apart aD x.a) → (∀ x ∈ cur, Apart aT x.a) →
    Ok (f74.L1 k n p1 p2 p3 (j : Int) D H) fun r => ∃ cs, r.1 = .agg (cs : List Value).toArray ∧ OwnR H0.next r.2 cs s ∧ Agree H0 r.2 := by
  intro m
  have nD : ∀ q, aD = some q → q.block ≠ p2 ∧ q.block ≠ p3 := fun q e => ⟨(nD1 q e).1, (nD1 q e).2.1⟩
  have nT : ∀ q, aT = some q → q.block ≠ p2 ∧ q.block ≠ p3 := fun q e => ⟨(nT1 q e).1, (nT1 q e).2.1⟩
  have ow : ∀ {N sz : Nat} {H H' : AHeap} {a : Option Addr} {l c i : Nat} {cs : List Value} {b : Blk}, Own N sz H a l c cs → Wrote H H' i b → (∀ q, a = some q → q.block ≠ i) → Own N sz H' a l c cs := by
    intro N sz H H' a l c i cs b h w hne
    refine ⟨h.1, h.2.1, ?_⟩
    rcases h.2.2 with h | ⟨ii, bl, e, h0, h1, h2⟩
    · exact .inl h
    · exact .inr ⟨ii, bl, e, h0, h1.wrote w (hne _ e), h2⟩
  induction m with
  | zero =>
    intro j n cur aL lL cL H D e1 v1 e2 v2 e3 v3 y0 y1 y2 y3 hm hn A hM b1 b2 b3 oL oD oT hcur hr hap hpw aDL aTL hD hT
    obtain ⟨n, rfl⟩ : ∃ j, n = j + 1 := ⟨n - 1, by omega⟩
    rw [f74.L1_s]
    refine ok_bSl (ldSl_at b1 (by simp) rfl) (ok_biff (by simp only [decide_eq_false_iff_not]; omega) (ok_bind (row_at b3 (by simp) (by simp)) (ok_if ⟨rfl, rfl⟩ (ok_wr b2 rfl (by simp) fun H7 W7 => ok_bind (row_at W7.at' (by simp) (by simp [splice])) (Ok.ret ?_)))))
    have hlen := hP.lenL'
    rw [List.take_of_length_le (by omega)] at hcur
    refine ⟨_, rfl, ⟨aL, lL, cL, aD, lD, cD, aT, lT, cT, cur, rfl, ⟨(oL.wrote W7 z5).lower hNM, ow oD W7 (fun q e => (nD q e).1), ow oT W7 (fun q e => (nT q e).1), fun x hx => ((hr x hx).wrote W7 z5).lower hNM, hcur, aDL.symm, aTL.symm, aDT, hap, hD, hT, hpw⟩⟩, A.wrote W7 z2⟩
  | succ m ih =>
    intro j n cur aL lL cL H D e1 v1 e2 v2 e3 v3 y0 y1 y2 y3 hm hn A hM b1 b2 b3 oL oD oT hcur hr hap hpw aDL aTL hD hT
    obtain ⟨n, rfl⟩ : ∃ j, n = j + 1 := ⟨n - 1, by omega⟩
    rw [f74.L1_s]
    have FH := A.fresh hF
    have Ab := agree_bump H 21
    have nb : (H.bump 21).next = H.next + 21 := rfl
    have f8 : Free (H.bump 21) (H.next + 8) := free_bump FH (by omega)
    have f17 : Free (H.bump 21) (H.next + 17) := free_bump FH (by omega)
    have hlenL := hP.lenL
    have hx := List.getElem?_eq_getElem (show j < ls.length by omega)
    revert hx
    generalize ls[j]'(show j < ls.length by omega) = x
    intro hx
    have hxm := List.mem_of_getElem? hx
    have hxl := hrd x hxm
    have hpx : s.locks[j]? = some x.pure := by rw [← hP.locks, List.getElem?_map, hx]; rfl
    refine ok_bSl (ldSl_at b1 (by simp) rfl) (ok_bift (by simp only [decide_eq_true_eq]; omega) ?_)
    refine ok_als Ab f8 (by omega) fun H1 n1 A1 B1 S1 G1 => ?_
    obtain ⟨q, eq, hq⟩ := tbl_ldSl rowL_len (hP.L.1.agree (A.trans A1)) hx (j := 1) rfl
    have sq := (hP.L.1.agree A).stay eq
    refine ok_bift (sameB_agree b1 A1) (ok_bSl (ldSl_at (b1.agree A1) (by simp) rfl) (ok_bind eq (ok_if (by omega) (ok_bift (sq _ A1) (ok_bSl hq ?_)))))
    have hO : Own H.next 1 H1 (some ⟨H.next + 8, 0, none⟩) 0 0 [] := ⟨by simp, Nat.le_refl _, .inr ⟨_, _, rfl, by omega, B1, rfl, rfl, by simp, by simp⟩⟩
    refine ok_cSl (app_own (by decide) (app26' _ _ _ _ _ _ _) hO (cs' := ints x.rd) (by rw [Nat.mul_one]; exact (hP.rd x hxm).1.agree (A.trans A1)) A1.next (by omega) (by omega)) fun a2 l2 c2 H2 hp => ?_
    obtain ⟨rfl, o2, k2, or2⟩ := hp
    rw [List.nil_append, Nat.zero_add] at o2
    have A2 : Agree H H2 := k2.agree A1 (fun q e => by cases e; show H.next ≤ H.next + 8; omega)
    have f17' : Free H2 (H.next + 17) := (G1 _ f17 (by omega)).keep k2 (fun q e => by cases e; show H.next + 8 ≠ H.next + 17; omega)
    obtain ⟨q', eq', hq'⟩ := tbl_ldI rowL_len (hP.L.1.agree (A.trans A2)) hx (j := 0) rfl
    rw [eq] at eq'
    cases eq'
    refine ok_bift (sameB_agree b3 A2) (ok_bSl (ldSl_at (b3.agree A2) (by simp) rfl) (ok_bift (sameB_agree b1 A2) (ok_bSl (ldSl_at (b1.agree A2) (by simp) rfl) (ok_bind eq (ok_if (by omega) (ok_bift (sq _ A2) (ok_bind hq' ?_)))))))
    refine ok_als A2 f17' (by omega) fun H3 n3 A3 B3 S3 G3 => ?_
    have hb2 : ∀ q, a2 = some q → H.next ≤ q.block := o2.block
    have o2' : Own H.next 1 H3 a2 x.l c2 (ints x.rd) := o2.sub S3
    have hlcur : cur.length = j := by
      have := congrArg List.length hcur
      rw [List.length_map, List.length_take] at this
      have := hP.lenL'
      omega
    have hlL : lL = j := by have := oL.1; rw [flat_len rowL_len] at this; omega
    rw [show 0 + x.l = x.l from Nat.zero_add _] at B3 ⊢
    refine ok_cSl (app_own (by decide) (app61 _ _ _ _ _ _ _) (oL.agree A3) (cs' := rowL ⟨x.own, a2, x.l, c2, x.rd⟩) ⟨rfl, .inr ⟨H.next + 17, 0, none, _, rfl, B3, by simp, by simp, rfl⟩⟩ (Nat.le_trans hM A3.next) (by omega) (by omega)) fun a4 l4 c4 H4 hp => ?_
    obtain ⟨rfl, o4, k4, or4⟩ := hp
    rw [← flat_snoc] at o4
    have K : Keep aL H H4 := Keep.of_agree A3 k4
    have hbL := oL.block
    have hne : ∀ {p : Nat}, p < M → ∀ r, aL = some r → r.block ≠ p := fun hp r e => by have := hbL r e; omega
    have nA := A.next
    have nK := K.next
    refine ok_wr (b3.keep K (hne z6)) rfl (by simp) fun H5 W5 => ?_
    rw [wrapS (l := lL0) (by omega) (by unfold maxLen; omega)]
    have gL2 : Apart aL a2 := by
      intro r r' e e'
      have := Cells.below oL.cells r e
      have := hb2 r' e'
      omega
    have g24 : Apart a2 a4 := apart_grow gL2.symm o2'.cells or4
    have hnew : Own M 1 H5 a2 x.l c2 (ints x.rd) := (((o2'.keep k4 gL2.symm).lower (show M ≤ H.next by omega)).wrote W5 z6)
    have gD2 : Apart aD a2 := apart_new oD.cells hb2
    have gT2 : Apart aT a2 := apart_new oT.cells hb2
    refine ih (j + 1) n (cur ++ [⟨x.own, a2, x.l, c2, x.rd⟩]) a4 _ c4 H5 _ _ _ _ _ _ _ y0 y1 y2 y3 (by omega) (by omega) ((K.agree A fun r e => by have := hbL r e; omega).wrote W5 z3) (by rw [W5.next]; omega)
      ((b1.keep K (hne z4)).wrote W5 z7) ((b2.keep K (hne z5)).wrote W5 z8) W5.at' (o4.wrote W5 z6) (ow (oD.keep K aDL) W5 (fun q e => (nD q e).2)) (ow (oT.keep K aTL) W5 (fun q e => (nT q e).2)) ?_ ?_ ?_ ?_ (apart_grow aDL (oD.cells.agree A3) or4) (apart_grow aTL (oT.cells.agree A3) or4) ?_ ?_
    · rw [List.map_append, hcur, List.take_add_one, hpx]; rfl
    · intro y hy
      rcases List.mem_append.1 hy with hy | hy
      · exact ((hr y hy).keep K (hap y hy).symm).wrote W5 z6
      · rw [List.mem_singleton] at hy; subst hy; exact hnew
    · intro y hy
      rcases List.mem_append.1 hy with hy | hy
      · exact (apart_grow (hap y hy).symm ((hr y hy).cells.agree A3) or4).symm
      · rw [List.mem_singleton] at hy; subst hy; exact g24.symm
    · rw [List.pairwise_append]
      refine ⟨hpw, List.pairwise_singleton _ _, fun y hy z hz => ?_⟩
      rw [List.mem_singleton] at hz
      subst hz
      exact apart_new (hr y hy).cells hb2
    · intro y hy
      rcases List.mem_append.1 hy with hy | hy
      · exact hD y hy
      · rw [List.mem_singleton] at hy; subst hy; exact gD2
    · intro y hy
      rcases List.mem_append.1 hy with hy | hy
      · exact hT y hy
      · rw [List.mem_singleton] at hy; subst hy; exact gT2
theorem f74_spec (hk : 1200 ≤ k) {H : AHeap} (hF : ∀ i, H.next ≤ i → H.get i = none) {sc : List Value} (hs : SyncR F H sc s) (h1 : s.locks.length ≤ 1000) (h2 : s.done.length ≤ 1000) (h3 : s.ths.length ≤ 1000) (hr : ∀ x ∈ s.locks, x.rd.length ≤ 1000) :
    Ok (C k 74 [.agg sc.toArray] H) fun r => ∃ cs, r.1 = .agg (cs : List Value).toArray ∧ OwnR H.next r.2 cs s ∧ Agree H r.2 := by
  obtain ⟨k, rfl⟩ : ∃ j, k = j + 1 := ⟨k - 1, by omega⟩
  obtain ⟨aL, lL, cL, aD, lD, cD, aT, lT, cT, ls, rfl, hs⟩ := hs
  have e1 := hs.lenL
  have e1' := hs.lenL'
  have e2 := hs.lenD
  have e3 := hs.lenT
  rw [f74_eq]
  refine ok_al fun i H1 hi n1 A1 B1 => ok_al fun i' H2 hi' n2 A2 B2 => ?_
  have A02 := A1.trans A2
  have F2 := A02.fresh hF
  have Ab := agree_bump H2 13
  have nb : (H2.bump 13).next = H2.next + 13 := rfl
  have f2 : Free (H2.bump 13) (H2.next + 2) := free_bump F2 (by omega)
  have f6 : Free (H2.bump 13) (H2.next + 6) := free_bump F2 (by omega)
  have f11 : Free (H2.bump 13) (H2.next + 11) := free_bump F2 (by omega)
  have B12 := B1.agree A2
  refine ok_als Ab f2 (by omega) fun H3 n3 A3 B3 S3 G3 => ?_
  refine ok_bift (sameB_agree B12 A3) (ok_bSl (ldSl_at (B12.agree A3) (by simp) rfl) ?_)
  have hO : Own H2.next 1 H3 (some ⟨H2.next + 2, 0, none⟩) 0 0 [] := ⟨by simp, Nat.le_refl _, .inr ⟨_, _, rfl, by omega, B3, rfl, rfl, by simp, by simp⟩⟩
  refine ok_cSl (app_own (by decide) (app37 _ _ _ _ _ _ _) hO (cs' := s.done.flatMap rowB) (hs.D.1.agree (A02.trans A3)) A3.next (by omega) (by omega)) fun aD' lD' cD' H4 hp => ?_
  obtain ⟨rfl, oD, kD, orD⟩ := hp
  rw [List.nil_append, Nat.zero_add] at oD
  have A4 : Agree H2 H4 := kD.agree A3 (fun q e => by cases e; show H2.next ≤ H2.next + 2; omega)
  have ne2 : ∀ {j : Nat}, j ≠ H2.next + 2 → ∀ q : Addr, some (⟨H2.next + 2, 0, none⟩ : Addr) = some q → q.block ≠ j := fun hj q e => by cases e; exact Ne.symm hj
  have f6' : Free H4 (H2.next + 6) := (G3 _ f6 (by omega)).keep kD (ne2 (by omega))
  have f11' : Free H4 (H2.next + 11) := (G3 _ f11 (by omega)).keep kD (ne2 (by omega))
  refine ok_als A4 f6' (by omega) fun H5 n5 A5 B5 S5 G5 => ?_
  refine ok_bift (sameB_agree B12 A5) (ok_bSl (ldSl_at (B12.agree A5) (by simp) rfl) ?_)
  have hO5 : Own H2.next 3 H5 (some ⟨H2.next + 6, 0, none⟩) 0 0 [] := ⟨by simp, Nat.le_refl _, .inr ⟨_, _, rfl, by omega, B5, rfl, rfl, by simp, by simp⟩⟩
  refine ok_cSl (app_own (by decide) (app62 _ _ _ _ _ _ _) hO5 (cs' := s.ths.flatMap rowT) (hs.T.1.agree (A02.trans A5)) A5.next (by omega) (by omega)) fun aT' lT' cT' H6 hp => ?_
  obtain ⟨rfl, oT, kT, orT⟩ := hp
  rw [List.nil_append, Nat.zero_add] at oT
  have A6 : Agree H2 H6 := kT.agree A5 (fun q e => by cases e; show H2.next ≤ H2.next + 6; omega)
  have oD5 := oD.sub S5
  have neD6 : ∀ q, aD' = some q → q.block ≠ H2.next + 6 := own_ne_free oD f6'
  have oD6 := oD5.keep kT (fun q q' e e' => by cases e'; exact Ne.symm (neD6 q e))
  have f11'' : Free H6 (H2.next + 11) := (G5 _ f11' (by omega)).keep kT (fun q e => by cases e; show H2.next + 6 ≠ H2.next + 11; omega)
  refine ok_bift (sameB_agree B12 A6) (ok_bind (ldI_at (B12.agree A6) (by simp) rfl) ?_)
  have neD11 := own_ne_free oD6 f11''
  have neT11 := own_ne_free oT f11''
  refine ok_als A6 f11'' (by omega) fun H7 n7 A7 B7 S7 G7 => ok_wr B7 rfl (by simp) fun H8 W8 => ?_
  rw [show 0 + lD = lD from Nat.zero_add _, show 0 + lT = lT from Nat.zero_add _] at W8 ⊢
  have A28 : Agree H2 H8 := A7.wrote W8 (by omega)
  have hDT : Apart aD' aT' := by
    intro q q' e e'
    rcases orT q' e' with ⟨r, er, eb⟩ | hge
    · cases er
      rw [← eb]
      exact Ne.symm (neD6 q e)
    · have h1 := Cells.below oD5.cells q e
      omega
  have bD := oD.block
  have bT := oT.block
  have n8 := W8.next
  have n28 := A28.next
  have n37 := A3.next
  have nkD := kD.next
  have nkT := kT.next
  have ow : ∀ {N sz : Nat} {a : Option Addr} {l c : Nat} {cs : List Value}, Own N sz H7 a l c cs → (∀ q, a = some q → q.block ≠ H2.next + 11) → Own N sz H8 a l c cs := by
    intro N sz a l c cs h hne
    refine ⟨h.1, h.2.1, ?_⟩
    rcases h.2.2 with h | ⟨ii, bl, e, h0, h1, h2⟩
    · exact .inl h
    · exact .inr ⟨ii, bl, e, h0, h1.wrote W8 (hne _ e), h2⟩
  have n3' : H3.next = H2.next + 13 := n3.trans nb
  refine f74_loop (k := k) (H0 := H) (p1 := i) (p2 := i') (p3 := H2.next + 11) (M := H2.next + 13) (by omega) hs hF (by omega) (rd_le hs hr) (by omega) (by omega) (by omega) (by omega) (by omega) (by omega) (by omega) (by omega) (by omega)
    (fun q e => ⟨by have := bD q e; omega, neD11 q e, by have := bD q e; omega⟩) (fun q e => ⟨by have := bT q e; omega, neT11 q e, by have := bT q e; omega⟩) hDT
    lL 0 k [] none 0 0 H8 _ _ _ _ _ _ _ _ _ _ _ (by omega) (by omega) (A02.trans A28) (by omega) (B12.agree A28) (B2.agree A28) W8.at' (Own.nil _ _ _)
    (ow ((oD6.lower (show H.next ≤ H2.next by omega)).sub S7) neD11) (ow ((oT.lower (show H.next ≤ H2.next by omega)).sub S7) neT11) rfl (fun x hx => by cases hx) (fun x hx => by cases hx) .nil (fun _ _ _ e => by cases e) (fun _ _ _ e => by cases e) (fun x hx => by cases hx) (fun x hx => by cases hx)
end
end Go.Proofs.MxF
end

section
set_option linter.unusedSimpArgs false
/- Who waits; readers put in and taken out. -/
set_option linter.unusedVariables false
namespace Go.Proofs.MxF
open Go Go.Mx Go.Proofs
def waitFrom (c : Int) : List ThS → Nat → List Int
  | [], _ => []
  | t :: ts, i => (if ((t.st == 3) && (t.cd == c)) = true then [(i : Int)] else []) ++ waitFrom c ts (i + 1)
def waitS (s : SyncS) (c : Int) : List Int := waitFrom c s.ths 0
theorem waitFrom_len (c : Int) : ∀ (ts : List ThS) (i : Nat), (waitFrom c ts i).length ≤ ts.length := by
  intro ts
  induction ts with
  | nil => intro i; simp [waitFrom]
  | cons t ts ih =>
    intro i
    have := ih (i + 1)
    unfold waitFrom
    rw [List.length_append]
    split <;> simp <;> omega
section
variable {k : Nat} {F : Nat → Prop} {H0 : AHeap} {aT : Option Addr} {lT cT : Nat} {s : SyncS} {c : Int}
theorem f68_loop (hT : CellsF F H0 aT (lT * 3) (s.ths.flatMap rowT)) (hl : lT ≤ 1000) {N : Nat} (hN : H0.next = N) : ∀ (m i n : Nat) (a : Option Addr) (l cc : Nat) (xs : List Int) (H : AHeap) (D : List Value), i + m = lT → m < n → Agree H0 H → Own N 1 H a l cc (ints xs) → l ≤ i →
    xs ++ waitFrom c (s.ths.drop i) i = waitS s c →
    Ok (f68.L1 k n c a l cc aT lT cT (lT : Int) (i : Int) D H) fun r => ∃ a' l' c', r.1 = .slice a' l' c' ∧ (Own N 1 r.2 a' l' c' (ints (waitS s c)) ∧ Agree H0 r.2) := by
  intro m
  have hlen : lT = s.ths.length := by have := hT.1.1; rw [flat_len rowT_len] at this; omega
  induction m with
  | zero =>
    intro i n a l cc xs H D hm hn A o hli hw
    obtain ⟨n, rfl⟩ : ∃ j, n = j + 1 := ⟨n - 1, by omega⟩
    rw [f68.L1_s]
    rw [List.drop_eq_nil_of_le (by omega)] at hw
    have hw : xs ++ [] = waitS s c := hw
    rw [List.append_nil] at hw
    refine ok_biff (by simp only [decide_eq_false_iff_not]; omega) (Ok.ret ⟨a, l, cc, rfl, ?_, A⟩)
    rw [← hw]; exact o
  | succ m ih =>
    intro i n a l cc xs H D hm hn A o hli hw
    obtain ⟨n, rfl⟩ : ∃ j, n = j + 1 := ⟨n - 1, by omega⟩
    rw [f68.L1_s]
    have hx := List.getElem?_eq_getElem (show i < s.ths.length by omega)
    revert hx
    generalize s.ths[i]'(show i < s.ths.length by omega) = t
    intro hx
    rw [drop_cons hx] at hw
    obtain ⟨q, eq, hq⟩ := tbl_row rowT_len (by omega) (hT.1.agree A) hx
    have ew : IntKind.i64.wrap ((i : Int) + 1) = ((i + 1 : Nat) : Int) := wrapS (l := lT) (by omega) (by unfold maxLen; omega)
    rw [ew]
    refine ok_bift (by simp only [decide_eq_true_eq]; omega) (ok_bind eq (ok_if (by omega) (ok_bind hq (ok_al fun j H1 hj n1 A1 B1 => ok_if ⟨rfl, rfl⟩ (ok_wr B1 rfl (by simp [rowT]) fun H2 W2 => ?_)))))
    have A2 : Agree H H2 := A1.wrote W2 (by omega)
    have A02 := A.trans A2
    have hb := o.block
    have skip : ((t.st == 3) && (t.cd == c)) = false → ∀ D, Ok (f68.L1 k n c a l cc aT lT cT (lT : Int) ((i + 1 : Nat) : Int) D H2) fun r => ∃ a' l' c', r.1 = .slice a' l' c' ∧ (Own N 1 r.2 a' l' c' (ints (waitS s c)) ∧ Agree H0 r.2) := by
      intro hf D
      have hw2 : xs ++ ((if ((t.st == 3) && (t.cd == c)) = true then [(i : Int)] else []) ++ waitFrom c (s.ths.drop (i + 1)) (i + 1)) = waitS s c := hw
      rw [hf] at hw2
      exact ih (i + 1) n a l cc xs H2 D (by omega) (by omega) A02 (o.agree A2) (by omega) (by simpa using hw2)
    refine ok_bind (ldI_at W2.at' (by simp) rfl) (ok_bif (fun h3 => ?_) (fun h3 => skip (by rw [h3]; rfl) _))
    refine ok_bind (ldI_at W2.at' (by simp) rfl) (ok_bif (fun hc => ?_) (fun hc => skip (by rw [h3, hc]; rfl) _))
    have hw2 : xs ++ ((if ((t.st == 3) && (t.cd == c)) = true then [(i : Int)] else []) ++ waitFrom c (s.ths.drop (i + 1)) (i + 1)) = waitS s c := hw
    rw [h3, hc, if_pos (show (true && true) = true from rfl), ← List.append_assoc] at hw2
    refine ok_al fun j2 H3 hj2 n3 A3 B3 => ?_
    have A3' := A2.trans A3
    refine ok_cSl (app_own (by decide) (app26' _ _ _ _ _ _ _) (o.agree A3') (cs' := ints [(i : Int)]) ⟨rfl, .inr ⟨j2, 0, none, _, rfl, B3, by simp, by simp, by simp [ints]⟩⟩ (by have := (A.trans A3').next; omega) (by omega) (by omega)) fun a2 l2 c2 H4 hp => ?_
    obtain ⟨rfl, o2, k2, or2⟩ := hp
    rw [ints_app] at o2
    exact ih (i + 1) n a2 _ c2 _ H4 _ (by omega) (by omega) (k2.agree (A.trans A3') (fun q e => by have := hb q e; omega)) o2 (by omega) hw2
theorem f68_spec (hk : 1100 ≤ k) {H : AHeap} {sc : List Value} (hs : SyncR F H sc s) (h3 : s.ths.length ≤ 1000) :
    ∃ a' l' c' H', C k 68 [.agg sc.toArray, .int .i64 c] H = some (.slice a' l' c', H') ∧ (Own H.next 1 H' a' l' c' (ints (waitS s c)) ∧ Agree H H') := by
  obtain ⟨k, rfl⟩ : ∃ j, k = j + 1 := ⟨k - 1, by omega⟩
  obtain ⟨aL, lL, cL, aD, lD, cD, aT, lT, cT, ls, rfl, hs⟩ := hs
  have e3 := hs.lenT
  rw [f68_eq]
  refine callsl_of_ok (ok_al fun i H1 hi n1 A1 B1 => ok_bSl (ldSl_at B1 (by simp) rfl) ?_)
  have key := fun D => f68_loop (k := k) (c := c) (cT := cT) (hs.T.agree A1) (by omega) rfl lT 0 k none 0 0 [] H1 D (by omega) (by omega) (Agree.refl H1) (Own.nil _ _ _) (Nat.le_refl _) rfl
  obtain ⟨r, e, a', l', c', e1, o, A⟩ := key _
  exact ⟨r, e, a', l', c', e1, o.lower (by omega), A1.trans A⟩
theorem f77_loop {p : Nat} {aL : Option Addr} {lL cL : Nat} {aD : Option Addr} {lD cD : Nat} {tx : Int} (hT : CellsF F H0 aT (lT * 3) (s.ths.flatMap rowT)) (hl : lT ≤ 1000) {N : Nat} (hN : H0.next = N) {e0 v0 : Nat} (b : At H0 p ⟨[.slice aL lL cL, .int .i64 tx, .slice aD lD cD, .slice aT lT cT], e0, .rw, v0⟩) :
    ∀ (m i n : Nat) (a : Option Addr) (l cc : Nat) (xs : List Int) (H : AHeap) (D : List Value), i + m = lT → m < n → Agree H0 H → Own N 1 H a l cc (ints xs) → l ≤ i →
    xs ++ waitFrom c (s.ths.drop i) i = waitS s c →
    Ok (f77.L1 k n c p a l cc (i : Int) D H) fun r => ∃ a' l' c', r.1 = .slice a' l' c' ∧ (Own N 1 r.2 a' l' c' (ints (waitS s c)) ∧ Agree H0 r.2) := by
  intro m
  have hlen : lT = s.ths.length := by have := hT.1.1; rw [flat_len rowT_len] at this; omega
  induction m with
  | zero =>
    intro i n a l cc xs H D hm hn A o hli hw
    obtain ⟨n, rfl⟩ : ∃ j, n = j + 1 := ⟨n - 1, by omega⟩
    rw [f77.L1_s]
    rw [List.drop_eq_nil_of_le (by omega)] at hw
    have hw : xs ++ [] = waitS s c := hw
    rw [List.append_nil] at hw
    refine ok_bSl (ldSl_at (b.agree A) (by simp) rfl) (ok_biff (by simp only [decide_eq_false_iff_not]; omega) (Ok.ret ⟨a, l, cc, rfl, ?_, A⟩))
    rw [← hw]; exact o
  | succ m ih =>
    intro i n a l cc xs H D hm hn A o hli hw
    obtain ⟨n, rfl⟩ : ∃ j, n = j + 1 := ⟨n - 1, by omega⟩
    rw [f77.L1_s]
    have hx := List.getElem?_eq_getElem (show i < s.ths.length by omega)
    revert hx
    generalize s.ths[i]'(show i < s.ths.length by omega) = t
    intro hx
    rw [drop_cons hx] at hw
    have bb := b.agree A
    obtain ⟨q, eq, hq⟩ := tbl_ldI rowT_len (hT.1.agree A) hx (j := 0) rfl
    obtain ⟨q', eq', hq'⟩ := tbl_ldI rowT_len (hT.1.agree A) hx (j := 1) rfl
    have ew : IntKind.i64.wrap ((i : Int) + 1) = ((i + 1 : Nat) : Int) := wrapS (l := lT) (by omega) (by unfold maxLen; omega)
    rw [ew]
    have hb := o.block
    have skip : ((t.st == 3) && (t.cd == c)) = false → ∀ D, Ok (f77.L1 k n c p a l cc ((i + 1 : Nat) : Int) D H) fun r => ∃ a' l' c', r.1 = .slice a' l' c' ∧ (Own N 1 r.2 a' l' c' (ints (waitS s c)) ∧ Agree H0 r.2) := by
      intro hf D
      have hw2 : xs ++ ((if ((t.st == 3) && (t.cd == c)) = true then [(i : Int)] else []) ++ waitFrom c (s.ths.drop (i + 1)) (i + 1)) = waitS s c := hw
      rw [hf] at hw2
      exact ih (i + 1) n a l cc xs H D (by omega) (by omega) A o (by omega) (by simpa using hw2)
    refine ok_bSl (ldSl_at bb (by simp) rfl) (ok_bift (by simp only [decide_eq_true_eq]; omega) (ok_bSl (ldSl_at bb (by simp) rfl) (ok_bind eq (ok_if (by omega) (ok_bind hq (ok_bif (fun h3 => ?_) (fun h3 => skip (by rw [h3]; rfl) _)))))))
    refine ok_bSl (ldSl_at bb (by simp) rfl) (ok_bind eq' (ok_if (by omega) (ok_bind hq' (ok_bif (fun hc => ?_) (fun hc => skip (by rw [h3, hc]; rfl) _)))))
    have hw2 : xs ++ ((if ((t.st == 3) && (t.cd == c)) = true then [(i : Int)] else []) ++ waitFrom c (s.ths.drop (i + 1)) (i + 1)) = waitS s c := hw
    rw [h3, hc, if_pos (show (true && true) = true from rfl), ← List.append_assoc] at hw2
    refine ok_al fun j2 H3 hj2 n3 A3 B3 => ?_
    refine ok_cSl (app_own (by decide) (app26' _ _ _ _ _ _ _) (o.agree A3) (cs' := ints [(i : Int)]) ⟨rfl, .inr ⟨j2, 0, none, _, rfl, B3, by simp, by simp, by simp [ints]⟩⟩ (by have := (A.trans A3).next; omega) (by omega) (by omega)) fun a2 l2 c2 H4 hp => ?_
    obtain ⟨rfl, o2, k2, or2⟩ := hp
    rw [ints_app] at o2
    exact ih (i + 1) n a2 _ c2 _ H4 _ (by omega) (by omega) (k2.agree (A.trans A3) (fun q e => by have := hb q e; omega)) o2 (by omega) hw2
theorem f77_spec (hk : 1100 ≤ k) {H : AHeap} {sc : List Value} (hs : SyncR F H sc s) (h3 : s.ths.length ≤ 1000) :
    ∃ a' l' c' H', C k 77 [.agg sc.toArray, .int .i64 c] H = some (.slice a' l' c', H') ∧ (Own H.next 1 H' a' l' c' (ints (waitS s c)) ∧ Agree H H') := by
  obtain ⟨k, rfl⟩ : ∃ j, k = j + 1 := ⟨k - 1, by omega⟩
  obtain ⟨aL, lL, cL, aD, lD, cD, aT, lT, cT, ls, rfl, hs⟩ := hs
  have e3 := hs.lenT
  rw [f77_eq]
  refine callsl_of_ok (ok_al fun i H1 hi n1 A1 B1 => ?_)
  have key := fun D => f77_loop (k := k) (c := c) (p := i) (hs.T.agree A1) (by omega) rfl B1 lT 0 k none 0 0 [] H1 D (by omega) (by omega) (Agree.refl H1) (Own.nil _ _ _) (Nat.le_refl _) rfl
  obtain ⟨r, e, a', l', c', e1, o, A⟩ := key _
  exact ⟨r, e, a', l', c', e1, o.lower (by omega), A1.trans A⟩
end
end Go.Proofs.MxF
end

section
set_option linter.unusedSimpArgs false
/- Readers put in and taken out. -/
set_option linter.unusedVariables false
namespace Go.Proofs.MxF
open Go Go.Mx Go.Proofs
/-- into an ascending list -/
def insI (v : Int) : List Int → List Int
  | [] => [v]
  | x :: xs => if x < v then x :: insI v xs else if x = v then x :: xs else v :: x :: xs
def setI (xs : List Int) : List Int := xs.foldl (fun acc v => insI v acc) []
theorem mem_insI {v w : Int} : ∀ {xs : List Int}, w ∈ insI v xs ↔ w = v ∨ w ∈ xs := by
  intro xs
  induction xs with
  | nil => simp [insI]
  | cons x xs ih =>
    unfold insI
    split
    · rw [List.mem_cons, ih, List.mem_cons]
      constructor
      · rintro (h | h | h)
        · exact .inr (.inl h)
        · exact .inl h
        · exact .inr (.inr h)
      · rintro (h | h | h)
        · exact .inr (.inl h)
        · exact .inl h
        · exact .inr (.inr h)
    · split
      · rename_i e
        subst e
        simp
      · simp
theorem strict_insI {v : Int} : ∀ {xs : List Int}, Strict xs → Strict (insI v xs) := by
  intro xs
  induction xs with
  | nil => intro _; exact List.pairwise_singleton _ _
  | cons x xs ih =>
    intro h
    have hc := List.pairwise_cons.1 h
    unfold insI
    split
    · rename_i hlt
      refine List.pairwise_cons.2 ⟨fun w hw => ?_, ih hc.2⟩
      rcases mem_insI.1 hw with rfl | hw
      · exact hlt
      · exact hc.1 w hw
    · split
      · exact h
      · refine List.pairwise_cons.2 ⟨fun w hw => ?_, h⟩
        rcases List.mem_cons.1 hw with rfl | hw
        · omega
        · have := hc.1 w hw; omega
theorem foldl_ins (xs : List Int) : ∀ acc : List Int, Strict acc → Strict (xs.foldl (fun acc v => insI v acc) acc) ∧ ∀ w, w ∈ xs.foldl (fun acc v => insI v acc) acc ↔ w ∈ acc ∨ w ∈ xs := by
  induction xs with
  | nil => intro acc h; exact ⟨h, fun w => by simp⟩
  | cons x xs ih =>
    intro acc h
    obtain ⟨h1, h2⟩ := ih (insI x acc) (strict_insI h)
    refine ⟨h1, fun w => ?_⟩
    rw [List.foldl_cons, h2, mem_insI, List.mem_cons]
    constructor
    · rintro ((h | h) | h)
      · exact .inr (.inl h)
      · exact .inl h
      · exact .inr (.inr h)
    · rintro (h | h | h)
      · exact .inl (.inr h)
      · exact .inl (.inl h)
      · exact .inr h
theorem setI_strict (xs : List Int) : Strict (setI xs) := (foldl_ins xs [] .nil).1
theorem mem_setI {xs : List Int} {w : Int} : w ∈ setI xs ↔ w ∈ xs := by
  unfold setI
  rw [(foldl_ins xs [] .nil).2]
  simp
theorem setI_of {xs zs : List Int} (h : Strict zs) (hm : ∀ v, v ∈ zs ↔ v ∈ xs) : zs = setI xs := strict_ext h (setI_strict xs) fun v => by rw [hm, mem_setI]

/-- out of a list -/
def delI (t : Int) (xs : List Int) : List Int := xs.filter fun x => !(x == t)
section
variable {k N : Nat} {a : Option Addr} {l c : Nat} {xs : List Int} {p e v0 : Nat} {t : Int}
theorem f91_spec (hk : 1 ≤ k) {H : AHeap} (hp : At H p ⟨[.int .i64 t], e, .rw, v0⟩) (v : Int) : C k 91 [.int .i64 v, .pointer (some ⟨p, 0, none⟩)] H = some (.bool (v == t), H) := by
  obtain ⟨k, rfl⟩ : ∃ j, k = j + 1 := ⟨k - 1, by omega⟩
  rw [f91_eq]
  exact eq_of_ok (ok_bind (ldI_at hp (by simp) rfl) (Ok.ret rfl))
theorem f86b_l1 (hl : l < maxLen) (hk : 1 ≤ k) {H : AHeap} (h : Ints H a l xs) (hp : At H p ⟨[.int .i64 t], e, .rw, v0⟩) : ∀ (m i n : Nat) (D : List Value), i + m = l → m < n →
    delI t (xs.take i) = xs.take i →
    Ok (f86x91.L1 k n a l c p (l : Int) (i : Int) D H) fun r => (r = (.int .i64 (-1), H) ∧ delI t xs = xs) ∨ ∃ (j : Nat) (x : Int), r = (.int .i64 (j : Int), H) ∧ delI t (xs.take j) = xs.take j ∧ xs[j]? = some x ∧ (x == t) = true := by
  intro m
  induction m with
  | zero =>
    intro i n D hm hn hf
    obtain ⟨n, rfl⟩ : ∃ j, n = j + 1 := ⟨n - 1, by omega⟩
    rw [f86x91.L1_s]
    refine ok_biff (by simp only [decide_eq_false_iff_not]; omega) (Ok.ret (.inl ⟨rfl, ?_⟩))
    rw [List.take_of_length_le (by have := h.len; omega)] at hf
    exact hf
  | succ m ih =>
    intro i n D hm hn hf
    obtain ⟨n, rfl⟩ : ∃ j, n = j + 1 := ⟨n - 1, by omega⟩
    rw [f86x91.L1_s]
    obtain ⟨q, x, hx, eq, hq⟩ := Ints.at h (i := i) (by omega)
    refine ok_bift (by simp only [decide_eq_true_eq]; omega) (ok_bind eq (ok_if (by omega) (ok_bind hq ?_)))
    refine ok_cB0 (f91_spec hk hp x) (ok_bif (fun hc => Ok.ret (.inr ⟨i, x, rfl, hf, hx, hc⟩)) (fun hc => ?_))
    rw [wrapS (l := l) (by omega) (Nat.le_of_lt hl)]
    refine ih (i + 1) n _ (by omega) (by omega) ?_
    unfold delI at hf ⊢
    rw [filter_take hx, if_pos (by rw [hc]; rfl), hf, List.take_add_one, hx]
    rfl
theorem f81b_l1 (hl : l < maxLen) (hk : 1 ≤ k) (hne : ∀ q, a = some q → q.block ≠ p) (hxl : xs.length = l) :
    ∀ (m j w n : Nat) (zs : List Int) (H : AHeap) (D : List Value), j + m = l → m < n → w < j → Own N 1 H a l c (ints zs) → zs.take w = delI t (xs.take j) → zs.drop j = xs.drop j →
    At H p ⟨[.int .i64 t], e, .rw, v0⟩ →
    Ok (f81x91.L1 k n a l c p (w : Int) (j : Int) D H) fun r => ∃ l', r.1 = .slice a l' c ∧ (Own N 1 r.2 a l' c (ints (delI t xs)) ∧ Keep a H r.2) := by
  intro m
  induction m with
  | zero =>
    intro j w n zs H D hm hn hw h ht hd hp
    obtain ⟨n, rfl⟩ : ∃ j, n = j + 1 := ⟨n - 1, by omega⟩
    rw [f81x91.L1_s]
    have hlen := h.len
    obtain ⟨q, hq, _⟩ := own_get h (t := 0) (x := zs[0]) (List.getElem?_eq_getElem (by omega))
    refine ok_biff (by simp only [decide_eq_false_iff_not]; omega) (ok_bSl (cutLo (by omega) h.2.1) ?_)
    obtain ⟨H', e, h1, h2⟩ := own_clear h (k := w) (by omega) hq (c - w)
    subst hq
    refine ok_bind e (ok_bSl (cutHi (by omega) h.2.1) (Ok.ret ⟨w, rfl, ?_, h2⟩))
    rw [ht, List.take_of_length_le (by omega)] at h1
    exact h1
  | succ m ih =>
    intro j w n zs H D hm hn hw h ht hd hp
    obtain ⟨n, rfl⟩ : ∃ j, n = j + 1 := ⟨n - 1, by omega⟩
    rw [f81x91.L1_s]
    have hlen := h.len
    have g1 : xs[j]? = some xs[j] := List.getElem?_eq_getElem (by omega)
    revert g1
    generalize xs[j] = x
    intro g1
    have gz : zs[j]? = some x := by
      have : (zs.drop j)[0]? = (xs.drop j)[0]? := by rw [hd]
      rw [List.getElem?_drop, List.getElem?_drop] at this
      exact this.trans g1
    have hft := filter_take (kp := fun x => !(x == t)) g1
    have hd1 : zs.drop (j + 1) = xs.drop (j + 1) := by
      have := congrArg (List.drop 1) hd
      rw [List.drop_drop, List.drop_drop] at this
      exact this
    obtain ⟨q, eq, lq, _⟩ := own_get h gz
    refine ok_bift (by simp only [decide_eq_true_eq]; omega) (ok_bind eq (ok_if (by omega) (ok_bind lq (ok_cB0 (f91_spec hk hp x) ?_))))
    rw [wrapS (i := j) (l := l) (by omega) (Nat.le_of_lt hl)]
    refine ok_bif (fun hc => ?_) (fun hc => ?_)
    · refine ok_bind eq (ok_if (by omega) ?_)
      obtain ⟨s, H2, es, hwr, h2, k2, n2'⟩ := own_set h (t := w) (by omega) (.int .i64 x)
      rw [eq] at es
      cases es
      refine ok_bind hwr ?_
      rw [ints_set'] at h2
      rw [wrapS (i := w) (l := l) (by omega) (Nat.le_of_lt hl)]
      rw [if_pos hc] at hft
      have t2 : (zs.set w x).take (w + 1) = delI t (xs.take (j + 1)) := by
        unfold delI at ht ⊢
        rw [hft, ← ht, List.take_add_one, List.getElem?_set_self (by omega), List.take_set, List.set_eq_of_length_le (by rw [List.length_take]; omega)]
        rfl
      have d2 : (zs.set w x).drop (j + 1) = xs.drop (j + 1) := by rw [List.drop_set_of_lt (by omega)]; exact hd1
      obtain ⟨r, er, l', r1, r2, r3⟩ := ih (j + 1) (w + 1) n (zs.set w x) H2 _ (by omega) (by omega) (by omega) h2 t2 d2 (hp.keep k2 hne)
      exact ⟨r, er, l', r1, r2, k2.trans (Orig.refl _ _) r3⟩
    · rw [if_neg (by rw [hc]; decide)] at hft
      obtain ⟨r, er, l', r1, r2, r3⟩ := ih (j + 1) w n zs H _ (by omega) (by omega) (by omega) h (by unfold delI at ht ⊢; rw [hft]; exact ht) hd1 hp
      exact ⟨r, er, l', r1, r2, r3⟩
theorem f81b_spec {H : AHeap} (hl : l < maxLen) (hk : l + 10 ≤ k) (hne : ∀ q, a = some q → q.block ≠ p) (h : Own N 1 H a l c (ints xs)) (hp : At H p ⟨[.int .i64 t], e, .rw, v0⟩) :
    ∃ a' l' c' H', C k 81 [.slice a l c, .func (.func 91) #[] #[.pointer (some ⟨p, 0, none⟩)]] H = some (.slice a' l' c', H') ∧ (a' = a ∧ Own N 1 H' a' l' c' (ints (delI t xs)) ∧ Keep a H H') := by
  obtain ⟨k, rfl⟩ : ∃ j, k = j + 1 + 1 := ⟨k - 2, by omega⟩
  have hlen := h.len
  rw [f81x91_eq, f86x91_eq]
  obtain ⟨r, er, hr⟩ := f86b_l1 (k := k) (a := a) (c := c) hl (by omega) h.ints hp l 0 k [.int .i64 0, undef, .slice a l c, undef, undef, undef, undef, undef, undef, undef, undef, undef] (by omega) (by omega) rfl
  rcases hr with ⟨rfl, hx⟩ | ⟨j, x, rfl, hj, gx, hx⟩
  · refine callsl_of_ok (ok_cI0 (n := -1) er (ok_bift rfl (Ok.ret ⟨a, l, c, rfl, rfl, ?_, (Agree.refl H).keep⟩)))
    rw [hx]; exact h
  · have hjl : j < xs.length := (List.getElem?_eq_some_iff.1 gx).1
    refine callsl_of_ok (ok_cI0 (n := (j : Int)) er (ok_biff (by simp only [beq_eq_false_iff_ne, ne_eq]; omega) ?_))
    rw [wrapS (l := l) (by omega) (Nat.le_of_lt hl)]
    have hft := filter_take (kp := fun x => !(x == t)) gx
    unfold delI at hj
    rw [if_neg (by rw [hx]; decide), hj] at hft
    have key := fun D => f81b_l1 (k := k + 1) (N := N) (e := e) (v0 := v0) (c := c) (t := t) hl (by omega) hne hlen.symm (l - (j + 1)) (j + 1) j (k + 1) xs H D (by omega) (by omega) (by omega) h hft.symm rfl hp
    obtain ⟨r, e, l', r1, r2, r3⟩ := key _
    exact ⟨r, e, a, l', c, r1, rfl, r2, r3⟩
/-- without -/
theorem f76_loop {H0 : AHeap} (h0 : Ints H0 a l xs) (hl : l ≤ 1000) (hN : H0.next = N) : ∀ (m i n : Nat) (b : Option Addr) (lb cb : Nat) (zs : List Int) (H : AHeap) (D : List Value), i + m = l → m < n → Agree H0 H → Own N 1 H b lb cb (ints zs) → lb ≤ i → zs = delI t (xs.take i) →
    Ok (f76.L1 k n a l c t b lb cb (i : Int) D H) fun r => ∃ a' l' c', r.1 = .slice a' l' c' ∧ (Own N 1 r.2 a' l' c' (ints (delI t xs)) ∧ Agree H0 r.2) := by
  intro m
  induction m with
  | zero =>
    intro i n b lb cb zs H D hm hn A o hlb hz
    obtain ⟨n, rfl⟩ : ∃ j, n = j + 1 := ⟨n - 1, by omega⟩
    rw [f76.L1_s]
    rw [List.take_of_length_le (by have := h0.len; omega)] at hz
    refine ok_biff (by simp only [decide_eq_false_iff_not]; omega) (Ok.ret ⟨b, lb, cb, rfl, ?_, A⟩)
    rw [← hz]; exact o
  | succ m ih =>
    intro i n b lb cb zs H D hm hn A o hlb hz
    obtain ⟨n, rfl⟩ : ∃ j, n = j + 1 := ⟨n - 1, by omega⟩
    rw [f76.L1_s]
    obtain ⟨q, x, hx, eq, hq⟩ := Ints.at (h0.agree A) (i := i) (by omega)
    have hft := filter_take (kp := fun x => !(x == t)) hx
    rw [wrapS (i := i) (l := l) (by omega) (by unfold maxLen; omega)]
    have hb := o.block
    refine ok_bift (by simp only [decide_eq_true_eq]; omega) (ok_bind eq (ok_if (by omega) (ok_bind hq (ok_bif (fun hc => ?_) (fun hc => ?_)))))
    · have hc2 : (!(x == t)) = true := hc
      rw [if_pos hc2] at hft
      refine ok_bind eq (ok_if (by omega) (ok_bind hq (ok_al fun j2 H3 hj2 n3 A3 B3 => ?_)))
      refine ok_cSl (app_own (by decide) (app26' _ _ _ _ _ _ _) (o.agree A3) (cs' := ints [x]) ⟨rfl, .inr ⟨j2, 0, none, _, rfl, B3, by simp, by simp, by simp [ints]⟩⟩ (by have := (A.trans A3).next; omega) (by omega) (by omega)) fun a2 l2 c2 H4 hp => ?_
      obtain ⟨rfl, o2, k2, or2⟩ := hp
      rw [ints_app] at o2
      exact ih (i + 1) n a2 _ c2 _ H4 _ (by omega) (by omega) (k2.agree (A.trans A3) (fun q e => by have := hb q e; omega)) o2 (by omega) (by rw [hz]; unfold delI; rw [hft])
    · have hc' : (!(x == t)) = false := hc
      rw [if_neg (by rw [hc']; decide)] at hft
      exact ih (i + 1) n b lb cb zs H _ (by omega) (by omega) A o (by omega) (by rw [hz]; unfold delI; rw [hft])
theorem f76_spec (hk : 1100 ≤ k) {H : AHeap} (h : Ints H a l xs) (hl : l ≤ 1000) :
    ∃ a' l' c' H', C k 76 [.slice a l c, .int .i64 t] H = some (.slice a' l' c', H') ∧ (Own H.next 1 H' a' l' c' (ints (delI t xs)) ∧ Agree H H') := by
  obtain ⟨k, rfl⟩ : ∃ j, k = j + 1 := ⟨k - 1, by omega⟩
  rw [f76_eq]
  have key := fun D => f76_loop (k := k) (c := c) (t := t) h hl rfl l 0 k none 0 0 [] H D (by omega) (by omega) (Agree.refl H) (Own.nil _ _ _) (Nat.le_refl _) rfl
  obtain ⟨r, e, a', l', c', e1, o, A⟩ := key _
  exact callsl_of_ok ⟨r, e, a', l', c', e1, o, A⟩
end
end Go.Proofs.MxF
end

section
set_option linter.unusedSimpArgs false
/- Put and Union. -/
set_option linter.unusedVariables false
namespace Go.Proofs.MxF
open Go Go.Mx Go.Proofs
theorem insI_drop {v : Int} : ∀ {xs : List Int} {k : Nat}, (∀ x ∈ xs.take k, x < v) → insI v xs = xs.take k ++ insI v (xs.drop k) := by
  intro xs
  induction xs with
  | nil => intro k _; simp
  | cons x xs ih =>
    intro k h
    cases k with
    | zero => simp
    | succ k =>
      have hx : x < v := h x (by simp)
      have := ih (k := k) (fun y hy => h y (by rw [List.take_succ_cons]; exact List.mem_cons_of_mem _ hy))
      rw [List.take_succ_cons, List.drop_succ_cons, insI, if_pos hx, this]
      rfl
section
variable {k N : Nat} {a : Option Addr} {l c : Nat} {xs : List Int} {v : Int}
theorem cells_take {H : AHeap} {i : Nat} (h : Ints H a l xs) (hi : i ≤ l) : Cells H a (i * 1) (ints (xs.take i)) := by
  have hlen := h.len
  have e : ints (xs.take i) = (ints xs).take i := by unfold ints; rw [List.map_take]
  rw [e, Nat.mul_one]
  refine ⟨by rw [List.length_take, h.1]; omega, ?_⟩
  rcases h.2 with ⟨e1, e2⟩ | ⟨ii, o, s, b, e1, g1, g2, g3, g4⟩
  · exact .inl ⟨e1, by rw [e2]; simp⟩
  · exact .inr ⟨ii, o, s, b, e1, g1, g2, by omega, by rw [← g4, List.take_take, Nat.min_eq_left hi]⟩
theorem cells_drop {H : AHeap} {i : Nat} (h : Ints H a l xs) (hi : i ≤ l) : Cells H (a.map fun a => ⟨a.block, a.off + i * 1, a.spot⟩) ((l - i) * 1) (ints (xs.drop i)) := by
  have hlen := h.len
  have e : ints (xs.drop i) = (ints xs).drop i := by unfold ints; rw [List.map_drop]
  rw [e, Nat.mul_one, Nat.mul_one]
  refine ⟨by rw [List.length_drop, h.1], ?_⟩
  rcases h.2 with ⟨e1, e2⟩ | ⟨ii, o, s, b, e1, g1, g2, g3, g4⟩
  · exact .inl ⟨by rw [e1]; rfl, by rw [e2]; simp⟩
  · refine .inr ⟨ii, o + i, s, b, by rw [e1]; rfl, g1, g2, by omega, ?_⟩
    rw [← g4, List.drop_take, List.drop_drop]
def PutQ (N : Nat) (H : AHeap) (v : Int) (xs : List Int) (r : Value × AHeap) : Prop := ∃ a' l' c', r.1 = .slice a' l' c' ∧ (Own N 1 r.2 a' l' c' (ints (insI v xs)) ∧ Agree H r.2)
theorem f95_K1 {H : AHeap} {i : Nat} {D : List Value} (h : Own N 1 H a l c (ints xs)) (hN : N ≤ H.next) (hl : l ≤ 1000) (hi : i ≤ l) (h1 : ∀ x ∈ xs.take i, x < v) (h2 : ∀ x, xs[i]? = some x → ¬ x < v ∧ ¬ x = v) :
    Ok (f95.K1 k a l c v (i : Int) D H) (PutQ N H v xs) := by
  rw [f95.K1_eq]
  have hlen := h.len
  refine ok_al fun j H1 hj n1 A1 B1 => ok_bSl (cutHi hi h.2.1) ?_
  have hO : Own H.next 1 H1 (some ⟨j, 0, none⟩) 0 0 [] := ⟨by simp, Nat.le_refl _, .inr ⟨j, _, rfl, by omega, B1, rfl, rfl, by simp, by simp⟩⟩
  refine ok_cSl (app_own (by decide) (app26' _ _ _ _ _ _ _) hO (cells_take (h.agree A1).ints hi) (by omega) (by omega) (by omega)) fun a2 l2 c2 H2 hp => ?_
  obtain ⟨rfl, o2, k2, or2⟩ := hp
  rw [List.nil_append] at o2
  have A2 : Agree H H2 := k2.agree A1 (fun q e => by cases e; show H.next ≤ j; omega)
  refine ok_al fun j3 H3 hj3 n3 A3 B3 => ?_
  have A03 := A2.trans A3
  refine ok_cSl (app_own (by decide) (app26' _ _ _ _ _ _ _) (o2.agree A3) (cs' := ints [v]) ⟨rfl, .inr ⟨j3, 0, none, _, rfl, B3, by simp, by simp, by simp [ints]⟩⟩ A03.next (by omega) (by omega)) fun a4 l4 c4 H4 hp => ?_
  obtain ⟨rfl, o4, k4, or4⟩ := hp
  rw [ints_app] at o4
  have A4 : Agree H H4 := k4.agree A03 o2.block
  refine ok_bSl (cutLo hi h.2.1) ?_
  refine ok_cSl (app_own (by decide) (app26' _ _ _ _ _ _ _) o4 (cells_drop (h.agree A4).ints hi) A4.next (by omega) (by omega)) fun a5 l5 c5 H5 hp => ?_
  obtain ⟨rfl, o5, k5, or5⟩ := hp
  rw [ints_app] at o5
  have hres : xs.take i ++ [v] ++ xs.drop i = insI v xs := by
    rw [insI_drop h1, List.append_assoc]
    congr 1
    cases e : xs.drop i with
    | nil => rfl
    | cons x r =>
      have hx : xs[i]? = some x := by
        have : (xs.drop i)[0]? = some x := by rw [e]; rfl
        rw [List.getElem?_drop] at this
        exact this
      obtain ⟨g1, g2⟩ := h2 x hx
      rw [insI, if_neg g1, if_neg g2]
      rfl
  rw [hres] at o5
  exact Ok.ret ⟨a5, _, c5, rfl, o5.lower hN, k5.agree A4 o4.block⟩
theorem f95_loop {H : AHeap} (h : Own N 1 H a l c (ints xs)) (hN : N ≤ H.next) (hl : l ≤ 1000) : ∀ (m i n : Nat) (D : List Value), i + m = l → m < n → (∀ x ∈ xs.take i, x < v) → Ok (f95.L1 k n a l c v (i : Int) D H) (PutQ N H v xs) := by
  intro m
  have hlen := h.len
  induction m with
  | zero =>
    intro i n D hm hn ht
    obtain ⟨n, rfl⟩ : ∃ j, n = j + 1 := ⟨n - 1, by omega⟩
    rw [f95.L1_s]
    refine ok_biff (by simp only [decide_eq_false_iff_not]; omega) (ok_biff (by simp only [decide_eq_false_iff_not]; omega) ?_)
    exact f95_K1 h hN hl (by omega) ht (fun x hx => by rw [List.getElem?_eq_none (by omega)] at hx; cases hx)
  | succ m ih =>
    intro i n D hm hn ht
    obtain ⟨n, rfl⟩ : ∃ j, n = j + 1 := ⟨n - 1, by omega⟩
    rw [f95.L1_s]
    obtain ⟨q, x, hx, e, hq⟩ := Ints.at h.ints (i := i) (by omega)
    refine ok_bift (by simp only [decide_eq_true_eq]; omega) (ok_bind e (ok_if (by omega) (ok_bind hq (ok_bif (fun hc => ?_) (fun hc => ?_)))))
    · rw [decide_eq_true_eq] at hc
      rw [wrapS (l := l) (by omega) (by unfold maxLen; omega)]
      refine ih (i + 1) n _ (by omega) (by omega) (fun y hy => ?_)
      rw [List.take_add_one, hx, List.mem_append] at hy
      rcases hy with hy | hy
      · exact ht y hy
      · simp at hy; rw [hy]; exact hc
    · rw [decide_eq_false_iff_not] at hc
      refine ok_bift (by simp only [decide_eq_true_eq]; omega) (ok_bind e (ok_if (by omega) (ok_bind hq (ok_bif (fun hc' => ?_) (fun hc' => ?_)))))
      · rw [beq_iff_eq] at hc'
        subst hc'
        refine Ok.ret ⟨a, l, c, rfl, ?_, Agree.refl H⟩
        have : insI x xs = xs := by
          rw [insI_drop ht, drop_cons hx, insI, if_neg (by omega), if_pos rfl, ← drop_cons hx, List.take_append_drop]
        rw [this]; exact h
      · have hne : ¬ x = v := by simpa using hc'
        exact f95_K1 h hN hl (by omega) ht (fun y hy => by rw [hx] at hy; cases hy; exact ⟨hc, hne⟩)
theorem f95_spec (hk : 1100 ≤ k) {H : AHeap} (h : Own N 1 H a l c (ints xs)) (hN : N ≤ H.next) (hl : l ≤ 1000) :
    ∃ a' l' c' H', C k 95 [.slice a l c, .int .i64 v] H = some (.slice a' l' c', H') ∧ (Own N 1 H' a' l' c' (ints (insI v xs)) ∧ Agree H H') := by
  obtain ⟨k, rfl⟩ : ∃ j, k = j + 1 := ⟨k - 1, by omega⟩
  rw [f95_eq]
  have key := fun D => f95_loop (k := k) (v := v) h hN hl l 0 k D (by omega) (by omega) (by simp)
  obtain ⟨r, e, a', l', c', e1, o, A⟩ := key _
  exact callsl_of_ok ⟨r, e, a', l', c', e1, o, A⟩
theorem insI_len (v : Int) (xs : List Int) : (insI v xs).length ≤ xs.length + 1 := by
  induction xs with
  | nil => simp [insI]
  | cons x xs ih =>
    unfold insI
    split
    · simp; omega
    · split <;> simp
theorem f75_l2 {b : Option Addr} {lb cb : Nat} {ys : List Int} (hk : 1200 ≤ k) {H0 : AHeap} (hy : Ints H0 b lb ys) (hlb : lb ≤ 300) (hN : H0.next = N) (ws : List Int) : ∀ (m i n : Nat) (a : Option Addr) (l c : Nat) (os : List Int) (H : AHeap) (D : List Value), i + m = lb → m < n → Agree H0 H → Own N 1 H a l c (ints os) → os.length ≤ 400 + i →
    os = (ys.take i).foldl (fun acc v => insI v acc) ws →
    Ok (f75.L2 k n b lb cb a l c (i : Int) D H) fun r => ∃ a' l' c', r.1 = .slice a' l' c' ∧ (Own N 1 r.2 a' l' c' (ints (ys.foldl (fun acc v => insI v acc) ws)) ∧ Agree H0 r.2) := by
  intro m
  induction m with
  | zero =>
    intro i n a l c os H D hm hn A o hlo hz
    obtain ⟨n, rfl⟩ : ∃ j, n = j + 1 := ⟨n - 1, by omega⟩
    rw [f75.L2_s]
    rw [List.take_of_length_le (by have := hy.len; omega)] at hz
    refine ok_biff (by simp only [decide_eq_false_iff_not]; omega) (Ok.ret ⟨a, l, c, rfl, ?_, A⟩)
    rw [← hz]; exact o
  | succ m ih =>
    intro i n a l c os H D hm hn A o hlo hz
    obtain ⟨n, rfl⟩ : ∃ j, n = j + 1 := ⟨n - 1, by omega⟩
    rw [f75.L2_s]
    have hol := o.len
    obtain ⟨q, x, hx, eq, hq⟩ := Ints.at (hy.agree A) (i := i) (by omega)
    refine ok_bift (by simp only [decide_eq_true_eq]; omega) (ok_bind eq (ok_if (by omega) (ok_bind hq ?_)))
    refine ok_cSl (f95_spec (v := x) (by omega) o (by rw [← hN]; exact A.next) (by omega)) fun a2 l2 c2 H2 hp => ?_
    obtain ⟨o2, A2⟩ := hp
    rw [wrapS (i := i) (l := lb) (by omega) (by unfold maxLen; omega)]
    refine ih (i + 1) n a2 l2 c2 _ H2 _ (by omega) (by omega) (A.trans A2) o2 (by have := insI_len x os; omega) ?_
    rw [List.take_add_one, hx, List.foldl_append, ← hz]; rfl
theorem f75_l1 {a0 : Option Addr} {l0 c0 : Nat} {b : Option Addr} {lb cb : Nat} {ys : List Int} (hk : 1200 ≤ k) {H0 : AHeap} (h0 : Ints H0 a0 l0 xs) (hy : Ints H0 b lb ys) (hl0 : l0 ≤ 300) (hlb : lb ≤ 300) (hN : H0.next = N) : ∀ (m i n : Nat) (a : Option Addr) (l c : Nat) (os : List Int) (H : AHeap) (D : List Value), i + m = l0 → m < n → Agree H0 H → Own N 1 H a l c (ints os) → os.length ≤ i →
    os = setI (xs.take i) →
    Ok (f75.L1 k n a0 l0 c0 b lb cb a l c (i : Int) D H) fun r => ∃ a' l' c', r.1 = .slice a' l' c' ∧ (Own N 1 r.2 a' l' c' (ints (setI (xs ++ ys))) ∧ Agree H0 r.2) := by
  intro m
  induction m with
  | zero =>
    intro i n a l c os H D hm hn A o hlo hz
    obtain ⟨n, rfl⟩ : ∃ j, n = j + 1 := ⟨n - 1, by omega⟩
    rw [f75.L1_s]
    rw [List.take_of_length_le (by have := h0.len; omega)] at hz
    refine ok_biff (by simp only [decide_eq_false_iff_not]; omega) ?_
    have e : setI (xs ++ ys) = ys.foldl (fun acc v => insI v acc) os := by unfold setI at hz ⊢; rw [List.foldl_append, ← hz]
    rw [e]
    exact f75_l2 hk hy hlb hN os lb 0 k a l c os H _ (by omega) (by omega) A o (by omega) rfl
  | succ m ih =>
    intro i n a l c os H D hm hn A o hlo hz
    obtain ⟨n, rfl⟩ : ∃ j, n = j + 1 := ⟨n - 1, by omega⟩
    rw [f75.L1_s]
    have hol := o.len
    obtain ⟨q, x, hx, eq, hq⟩ := Ints.at (h0.agree A) (i := i) (by omega)
    refine ok_bift (by simp only [decide_eq_true_eq]; omega) (ok_bind eq (ok_if (by omega) (ok_bind hq ?_)))
    refine ok_cSl (f95_spec (v := x) (by omega) o (by rw [← hN]; exact A.next) (by omega)) fun a2 l2 c2 H2 hp => ?_
    obtain ⟨o2, A2⟩ := hp
    rw [wrapS (i := i) (l := l0) (by omega) (by unfold maxLen; omega)]
    refine ih (i + 1) n a2 l2 c2 _ H2 _ (by omega) (by omega) (A.trans A2) o2 (by have := insI_len x os; omega) ?_
    unfold setI at hz ⊢
    rw [List.take_add_one, hx, List.foldl_append, ← hz]; rfl
/-- Union -/
theorem f75_spec {a0 : Option Addr} {l0 c0 : Nat} {b : Option Addr} {lb cb : Nat} {ys : List Int} (hk : 1300 ≤ k) {H : AHeap} (h0 : Ints H a0 l0 xs) (hy : Ints H b lb ys) (hl0 : l0 ≤ 300) (hlb : lb ≤ 300) :
    ∃ a' l' c' H', C k 75 [.slice a0 l0 c0, .slice b lb cb] H = some (.slice a' l' c', H') ∧ (Own H.next 1 H' a' l' c' (ints (setI (xs ++ ys))) ∧ Agree H H') := by
  obtain ⟨k, rfl⟩ : ∃ j, k = j + 1 := ⟨k - 1, by omega⟩
  rw [f75_eq]
  have key := fun D => f75_l1 (k := k) (c0 := c0) (cb := cb) (by omega) h0 hy hl0 hlb rfl l0 0 k none 0 0 [] H D (by omega) (by omega) (Agree.refl H) (Own.nil _ _ _) (by simp) rfl
  obtain ⟨r, e, a', l', c', e1, o, A⟩ := key _
  exact callsl_of_ok ⟨r, e, a', l', c', e1, o, A⟩
end
end Go.Proofs.MxF
end

section
set_option linter.unusedSimpArgs false
/- What an event changes: the thread and the locks. -/
set_option linter.unusedVariables false
namespace Go.Mx
open Go
/-- what lies below N stays -/
structure Lo (N : Nat) (H H' : AHeap) : Prop where
  next : H.next ≤ H'.next
  old : ∀ j, j < N → H'.get j = H.get j
  fresh : (∀ i, H.next ≤ i → H.get i = none) → ∀ i, H'.next ≤ i → H'.get i = none
theorem Lo.refl (N : Nat) (H : AHeap) : Lo N H H := ⟨Nat.le_refl _, fun _ _ => rfl, fun h => h⟩
theorem Lo.trans {N : Nat} {A B D : AHeap} (h : Lo N A B) (k : Lo N B D) : Lo N A D := ⟨Nat.le_trans h.next k.next, fun j hj => (k.old j hj).trans (h.old j hj), fun f => k.fresh (h.fresh f)⟩
theorem Agree.lo {N : Nat} {H H' : AHeap} (A : Agree H H') (h : N ≤ H.next) : Lo N H H' := ⟨A.next, fun j hj => A.old j (Nat.lt_of_lt_of_le hj h), A.fresh⟩
theorem Keep.lo {N : Nat} {a : Option Addr} {H H' : AHeap} (k : Keep a H H') (h : N ≤ H.next) (ha : ∀ q, a = some q → N ≤ q.block) : Lo N H H' :=
  ⟨k.next, fun j hj => k.old j (Nat.lt_of_lt_of_le hj h) fun q e => by have := ha q e; omega, k.fresh⟩
theorem At.lo {N : Nat} {H H' : AHeap} {j : Nat} {b : Blk} (h : At H j b) (k : Lo N H H') (hj : j < N) : At H' j b := ⟨Nat.lt_of_lt_of_le h.1 k.next, (k.old j hj).trans h.2⟩
theorem Lo.agree {N : Nat} {H0 H H' : AHeap} (k : Lo N H H') (A : Agree H0 H) (h : H0.next ≤ N) : Agree H0 H' :=
  ⟨Nat.le_trans A.next k.next, fun j hj => (k.old j (Nat.lt_of_lt_of_le hj h)).trans (A.old j hj), fun f => k.fresh (A.fresh f)⟩
end Go.Mx
namespace Go.Proofs.MxF
open Go Go.Mx Go.Proofs
def setTh (s : SyncS) (i : Int) (y : ThS) : SyncS := { s with ths := s.ths.set i.toNat y }
def setLk (s : SyncS) (i : Int) (y : LockS) : SyncS := { s with locks := s.locks.set i.toNat y }
def ownS (w : Wld) (s : SyncS) (th kind obj : Int) : SyncS :=
  bif kind == 1 then setTh s th ⟨2, (thS s th).cd, (thS s th).at'⟩
  else bif kind == 2 then setTh s th ⟨5, (thS s th).cd, (thS s th).at'⟩
  else bif kind == 14 then setTh s th ⟨(thS s th).st, (thS s th).cd, true⟩
  else bif kind == 15 then setTh s th ⟨(thS s th).st, (thS s th).cd, false⟩
  else bif (kind == 6 || kind == 10) then setLk s obj ⟨th, (lkS s obj).rd⟩
  else bif (kind == 7 || kind == 11) then setLk s obj ⟨-1, (lkS s obj).rd⟩
  else bif kind == 8 then setLk s obj ⟨(lkS s obj).own, setI ((lkS s obj).rd ++ [th])⟩
  else bif kind == 9 then setLk s obj ⟨(lkS s obj).own, delI th (lkS s obj).rd⟩
  else bif kind == 16 then setTh (setLk s (mtx w obj) ⟨-1, (lkS s (mtx w obj)).rd⟩) th ⟨3, obj, (thS s th).at'⟩
  else bif kind == 17 then setTh (setLk s (mtx w obj) ⟨th, (lkS s (mtx w obj)).rd⟩) th ⟨2, 0, (thS s th).at'⟩
  else s
section
variable {k N : Nat} {F : Nat → Prop} {H0 : AHeap} {p5 p6 p7 M : Nat} {a0 : Option Addr} {l0 c0 : Nat} {a1 : Option Addr} {l1 c1 : Nat} {a2 : Option Addr} {l2 c2 : Nat} {a3 : Option Addr} {l3 c3 : Nat} {a4 : Option Addr} {l4 c4 : Nat} {a5 : Option Addr} {l5 c5 : Nat} {ks : List (ByteArray × Bool)} {cs : List (ByteArray × Int)} {w : Wld}
  {aL : Option Addr} {lL cL : Nat} {aD : Option Addr} {lD cD : Nat} {aT : Option Addr} {lT cT : Nat} {ls : List LkV} {s : SyncS} {th obj : Int}
/-- what is known when a state of ours is changed -/
structure Mine (F : Nat → Prop) (N M : Nat) (H : AHeap) (p5 p6 p7 : Nat) (a0 : Option Addr) (l0 c0 : Nat) (a1 : Option Addr) (l1 c1 : Nat) (a2 : Option Addr) (l2 c2 : Nat) (a3 : Option Addr) (l3 c3 : Nat) (a4 : Option Addr) (l4 c4 : Nat) (a5 : Option Addr) (l5 c5 : Nat) (ks : List (ByteArray × Bool)) (cs : List (ByteArray × Int)) (w : Wld)
    (aL : Option Addr) (lL cL : Nat) (aD : Option Addr) (lD cD : Nat) (aT : Option Addr) (lT cT : Nat) (ls : List LkV) (s : SyncS) (th : Int) : Prop where
  W : WorldP F H l0 a1 l1 a2 l2 l3 l4 ks cs w
  O : OwnP N H aL lL cL aD lD cD aT lT cT ls s
  b : WS p5 p6 H a0 l0 c0 a1 l1 c1 a2 l2 c2 a3 l3 c3 a4 l4 c4 a5 l5 c5 aL lL cL s.tx aD lD cD aT lT cT
  b7 : ∃ e v, At H p7 ⟨[.int .i64 th], e, .rw, v⟩
  fit : fitsS w s = true
  th : inR th w.threads = true
  rd : ∀ x ∈ ls, x.l ≤ 11
  below : (∀ q, aL = some q → q.block < M) ∧ (∀ q, aT = some q → q.block < M) ∧ ∀ x ∈ ls, ∀ q, x.a = some q → q.block < M
  up : M ≤ p5 ∧ M ≤ p6 ∧ M ≤ p7
  nn : N ≤ H.next
theorem Mine.lens {H : AHeap} (h : Mine F N M H p5 p6 p7 a0 l0 c0 a1 l1 c1 a2 l2 c2 a3 l3 c3 a4 l4 c4 a5 l5 c5 ks cs w aL lL cL aD lD cD aT lT cT ls s th) :
    lL = w.rw.length ∧ lD = w.futures ∧ lT = w.threads ∧ l2 = w.mutex.length ∧ (∀ i, inR i w.mutex.length = true → inR (mtx w i) w.rw.length = true) := by
  obtain ⟨f1, f2, f3, f4⟩ := fits_facts h.fit
  have := h.O.toP.lenL'
  have := h.O.toP.lenD
  have := h.O.toP.lenT
  have := h.W.lenN'
  exact ⟨by omega, by omega, by omega, by omega, f1⟩
/-- what a change of ours comes to -/
def Mined (N : Nat) (H0 : AHeap) (aL : Option Addr) (lL cL : Nat) (aD : Option Addr) (lD cD : Nat) (aT : Option Addr) (lT cT : Nat) (s' : SyncS) (r : Value × AHeap) : Prop :=
  r.1 = .tuple #[] ∧ ∃ ls', OwnP N r.2 aL lL cL aD lD cD aT lT cT ls' s' ∧ Lo N H0 r.2
theorem mine_T {H : AHeap} (A : Lo N H0 H) (h : OwnP N H aL lL cL aD lD cD aT lT cT ls s) (hN : N ≤ H.next) {i : Int} (hi : inR i lT = true) {j : Nat} {vs : List Value} {y : ThS} (hv : 0 < vs.length) (hj : j + vs.length ≤ 3) (hy : rowT y = splice (rowT (thS s i)) j vs) {q : Addr} (eq : aT = some q)
    {K : AHeap → Option (Value × AHeap)} {Q : Value × AHeap → Prop} (k : ∀ H', OwnP N H' aL lL cL aD lD cD aT lT cT ls (setTh s i y) → Lo N H0 H' → Keep aT H H' → H'.next = H.next → Ok (K H') Q) :
    Ok ((H.wr q.block (q.off + i.toNat * 3 + j) vs).bind K) Q := by
  obtain ⟨q', H', eq', hw, o, k1, n1⟩ := h.setT hi hv hj hy
  rw [eq] at eq'
  cases eq'
  exact ok_bind hw (k H' o (A.trans (k1.lo hN h.T.block)) k1 n1)
theorem mine_O {H : AHeap} (A : Lo N H0 H) (h : OwnP N H aL lL cL aD lD cD aT lT cT ls s) (hN : N ≤ H.next) {i : Int} (hi : inR i lL = true) (o : Int) {q : Addr} (eq : aL = some q)
    {K : AHeap → Option (Value × AHeap)} {Q : Value × AHeap → Prop} (k : ∀ H' ls', OwnP N H' aL lL cL aD lD cD aT lT cT ls' (setLk s i ⟨o, (lkS s i).rd⟩) → Lo N H0 H' → Keep aL H H' → H'.next = H.next → Ok (K H') Q) :
    Ok ((H.wr q.block (q.off + i.toNat * 2 + 0) [.int .i64 o]).bind K) Q := by
  obtain ⟨q', H', ls', eq', hw, ow, k1, n1⟩ := h.setO hi o
  rw [eq] at eq'
  cases eq'
  exact ok_bind hw (k H' ls' ow (A.trans (k1.lo hN h.L.block)) k1 n1)
theorem own_some {N sz : Nat} {H : AHeap} {a : Option Addr} {l c : Nat} {cs : List Value} (h : Own N sz H a l c cs) (hl : 0 < l) : ∃ q, a = some q := by
  rcases h.2.2 with ⟨_, e⟩ | ⟨i, b, e, _⟩
  · have := h.2.1; omega
  · exact ⟨_, e⟩
/-- a condition's mutex gets an owner -/
theorem mutex_own {H : AHeap} (A : Lo N H0 H) (h : Mine F N M H p5 p6 p7 a0 l0 c0 a1 l1 c1 a2 l2 c2 a3 l3 c3 a4 l4 c4 a5 l5 c5 ks cs w aL lL cL aD lD cD aT lT cT ls s th) (hn : inR obj w.mutex.length = true) {n : Nat} {q : Addr} (eq : aL = some q) (o : Int)
    {K : AHeap → Option (Value × AHeap)} {Q : Value × AHeap → Prop}
    (k : ∀ H' ls', OwnP N H' aL lL cL aD lD cD aT lT cT ls' (setLk s (mtx w obj) ⟨o, (lkS s (mtx w obj)).rd⟩) → Lo N H0 H' → N ≤ H'.next → Ok (K H') Q) :
    Ok (if 0 ≤ mtx w obj ∧ mtx w obj < (lL : Int) then ((H.bump n).wr q.block (q.off + (mtx w obj).toNat * 2 + 0) [.int .i64 o]).bind K else none) Q := by
  obtain ⟨e1, e2, e3, e4, e5⟩ := h.lens
  have hm := e5 _ hn
  have r2 := inR_iff.1 hm
  have Ab := agree_bump H n
  refine ok_if (by omega) (mine_O (A.trans (Ab.lo h.nn)) (h.O.agree Ab) (Nat.le_trans h.nn Ab.next) (i := mtx w obj) (by rw [e1]; exact hm) o eq fun H' ls' ow lo k1 n1 => k H' ls' ow lo ?_)
  rw [n1]; exact Nat.le_trans h.nn Ab.next
end
end Go.Proofs.MxF
end

section
set_option linter.unusedSimpArgs false
/- object.own. -/
set_option linter.unusedVariables false
namespace Go.Proofs.MxF
open Go Go.Mx Go.Proofs
section
variable {k N : Nat} {F : Nat → Prop} {H0 : AHeap} {p5 p6 p7 M : Nat} {a0 : Option Addr} {l0 c0 : Nat} {a1 : Option Addr} {l1 c1 : Nat} {a2 : Option Addr} {l2 c2 : Nat} {a3 : Option Addr} {l3 c3 : Nat} {a4 : Option Addr} {l4 c4 : Nat} {a5 : Option Addr} {l5 c5 : Nat} {ks : List (ByteArray × Bool)} {cs : List (ByteArray × Int)} {w : Wld}
  {aL : Option Addr} {lL cL : Nat} {aD : Option Addr} {lD cD : Nat} {aT : Option Addr} {lT cT : Nat} {ls : List LkV} {s : SyncS} {th obj : Int}
/-- the readers of a lock, as a slice of ours -/
theorem OwnP.rdAt {H : AHeap} (h : OwnP N H aL lL cL aD lD cD aT lT cT ls s) {i : Int} (hi : inR i lL = true) :
    ∃ q x, aL = some q ∧ ls[i.toNat]? = some x ∧ x ∈ ls ∧ x.pure = lkS s i ∧ ldSl H q.block (q.off + i.toNat * 2 + 1) = some (x.a, x.l, x.c) ∧ Own N 1 H x.a x.l x.c (ints x.rd) := by
  obtain ⟨x, hx, px, ix⟩ := h.toP.lk hi
  obtain ⟨q, e, hq⟩ := tbl_ldSl rowL_len h.toP.L.1 hx (j := 1) rfl
  rw [(nat_cast_toNat hi).1] at hq
  exact ⟨q, x, e, hx, List.mem_of_getElem? hx, px, hq, h.rd x (List.mem_of_getElem? hx)⟩
theorem f69_K2 (hk : 1100 ≤ k) {H : AHeap} (A : Lo N H0 H) (hF : ∀ i, H.next ≤ i → H.get i = none) (h : Mine F N M H p5 p6 p7 a0 l0 c0 a1 l1 c1 a2 l2 c2 a3 l3 c3 a4 l4 c4 a5 l5 c5 ks cs w aL lL cL aD lD cD aT lT cT ls s th) {kind : Int} (hn : namedS w kind obj = true) (D : List Value) (b : Bool)
    (hb : b = (kind == 7 || kind == 11)) (g1 : (kind == 1) = false) (g2 : (kind == 2) = false) (g14 : (kind == 14) = false) (g15 : (kind == 15) = false) (g6 : (kind == 6 || kind == 10) = false) {qT : Addr} (eT : aT = some qT) :
    Ok (f69.K2 k obj p5 p6 p7 qT.block (qT.off + th.toNat * 3) kind b D H) (Mined N H0 aL lL cL aD lD cD aT lT cT (ownS w s th kind obj)) := by
  obtain ⟨e1, e2, e3, e4, e5⟩ := h.lens
  obtain ⟨e, v, b5⟩ := h.b.b2
  obtain ⟨e', v', b6⟩ := h.b.b3
  obtain ⟨e'', v'', b7⟩ := h.b7
  have hth : inR th lT = true := by rw [e3]; exact h.th
  have bel := h.below
  have up := h.up
  rw [f69.K2_eq]
  unfold ownS
  rw [g1, g2, g14, g15, g6, ← hb]
  refine ok_bif (fun hc => ?_) (fun hc => ?_)
  · rw [hc]
    have hkd : kind = 7 ∨ kind = 11 := by rw [hc] at hb; have hb := hb.symm; simp only [Bool.or_eq_true, beq_iff_eq] at hb; exact hb
    have ho : inR obj w.rw.length = true := by rcases hkd with rfl | rfl <;> exact and_l (b := _) hn
    have ro := inR_iff.1 ho
    obtain ⟨q, eq⟩ := own_some h.O.L (by omega)
    exact ok_bSl (ldSl_at b6 (by simp) rfl) (ok_bind eq (ok_if (by omega) (mine_O A h.O h.nn (i := obj) (by rw [e1]; exact ho) (-1) eq fun H' ls' ow lo k1 n1 => Ok.ret ⟨rfl, ls', ow, lo⟩)))
  rw [hc]
  refine ok_bif (fun c => ?_) (fun g8 => ?_)
  · have hk8 := c
    rw [c]
    rw [beq_iff_eq] at hk8
    subst hk8
    have ho : inR obj w.rw.length = true := and_l (b := _) hn
    have ro := inR_iff.1 ho
    have hoL : inR obj lL = true := by rw [e1]; exact ho
    have Ab := agree_bump H 10
    have nb : (H.bump 10).next = H.next + 10 := rfl
    obtain ⟨q, x, eq, hx, hxm, px, hq, ox⟩ := (h.O.agree Ab).rdAt (i := obj) hoL
    have hxl := h.rd x hxm
    have f7 : Free (H.bump 10) (H.next + 7) := free_bump hF (by omega)
    refine ok_bift (sameB_agree b6 Ab) (ok_bSl (ldSl_at (b6.agree Ab) (by simp) rfl) (ok_bind eq (ok_if (by omega) (ok_bift (own_same h.O.L eq _ Ab) (ok_bSl hq ?_)))))
    refine ok_bift (sameB_agree b7 Ab) (ok_bind (ldI_at (b7.agree Ab) (by simp) rfl) ?_)
    refine ok_als Ab f7 (by omega) fun H2 n2 A2 B2 S2 G2 => ?_
    have ox2 : Own N 1 H2 x.a x.l x.c (ints x.rd) := (h.O.rd x hxm).agree A2
    refine ok_cSl (app_own (by decide) (app26' _ _ _ _ _ _ _) ox2 (cs' := ints [th]) ⟨rfl, .inr ⟨H.next + 7, 0, none, _, rfl, B2, by simp, by simp, by simp [ints]⟩⟩ (Nat.le_trans h.nn A2.next) (by omega) (by omega)) fun a6 l6 c6 H3 hp => ?_
    obtain ⟨rfl, o3, k3, or3⟩ := hp
    rw [ints_app] at o3
    refine ok_cT1 (f83_short (by omega) (by omega) o3) fun H4 hp => ?_
    obtain ⟨⟨ys, o4, s4, p4⟩, k4⟩ := hp
    have Ab4 := agree_bump H4 8
    have hm : maxLen = 9223372036854775807 := rfl
    refine ok_cSl (f84_spec (by omega) (by omega) (o4.agree Ab4)) fun a7 l7 c7 H5 hp => ?_
    obtain ⟨rfl, o5, k5⟩ := hp
    have hset : cmp ys = setI (x.rd ++ [th]) := setI_of (cmp_strict s4) fun v => by rw [mem_cmp, p4.mem_iff]
    rw [hset] at o5
    have kA : Keep x.a H H3 := Keep.of_agree A2 k3
    have orA : Orig x.a H.next a7 := fun q e => (or3 q e).imp id fun h => Nat.le_trans A2.next h
    have k45 : Keep a7 H3 H5 := (k4.trans (Orig.refl _ _) (Keep.of_agree Ab4 k5))
    have kH5 : Keep x.a H H5 := kA.trans orA k45
    have orH : ∀ q, a7 = some q → (∃ q', x.a = some q' ∧ q'.block = q.block) ∨ H.next ≤ q.block := orA
    have nex : ∀ {p : Nat}, M ≤ p → ∀ q, x.a = some q → q.block ≠ p := fun hp q e => by have := bel.2.2 x hxm q e; omega
    have p6lt := b6.1
    have ne7 : ∀ q, a7 = some q → q.block ≠ p6 := by
      intro q e
      rcases orH q e with ⟨q', e', eb⟩ | hge
      · rw [← eb]; exact nex up.2.1 q' e'
      · omega
    have b63 := b6.keep kA (nex up.2.1)
    have b64 := b63.keep k4 ne7
    have b65 := (b64.agree Ab4).keep k5 ne7
    refine ok_bift (sameB_at b64 b65 rfl) (ok_bSl (ldSl_at b65 (by simp) rfl) (ok_bind eq (ok_if (by omega) ?_)))
    obtain ⟨q', H6, ls', eq', hw, ow, k6, n6⟩ := h.O.setR (i := obj) hoL hx kH5 o5 orH
    rw [eq] at eq'
    cases eq'
    refine ok_bind hw (Ok.ret ⟨rfl, ls', ?_, ?_⟩)
    · have : setLk s obj ⟨(lkS s obj).own, setI ((lkS s obj).rd ++ [th])⟩ = { s with locks := s.locks.set obj.toNat ⟨(lkS s obj).own, setI (x.rd ++ [th])⟩ } := by rw [← px]; rfl
      show OwnP N H6 aL lL cL aD lD cD aT lT cT ls' (setLk s obj ⟨(lkS s obj).own, setI ((lkS s obj).rd ++ [th])⟩)
      rw [this]
      exact ow
    · have hN5 : N ≤ H5.next := Nat.le_trans h.nn kH5.next
      exact (A.trans (kH5.lo h.nn (h.O.rd x hxm).block)).trans (k6.lo hN5 h.O.L.block)
  rw [g8]
  refine ok_bif (fun c => ?_) (fun g9 => ?_)
  · have hk9 := c
    rw [c]
    rw [beq_iff_eq] at hk9
    subst hk9
    have ho : inR obj w.rw.length = true := and_l (b := _) hn
    have ro := inR_iff.1 ho
    have hoL : inR obj lL = true := by rw [e1]; exact ho
    have Ab := agree_bump H 14
    obtain ⟨q, x, eq, hx, hxm, px, hq, ox⟩ := (h.O.agree Ab).rdAt (i := obj) hoL
    have hxl := h.rd x hxm
    have hm : maxLen = 9223372036854775807 := rfl
    have nex : ∀ {p : Nat}, M ≤ p → ∀ q, x.a = some q → q.block ≠ p := fun hp q e => by have := bel.2.2 x hxm q e; omega
    refine ok_bift (sameB_agree b6 Ab) (ok_bSl (ldSl_at (b6.agree Ab) (by simp) rfl) (ok_bind eq (ok_if (by omega) (ok_bift (own_same h.O.L eq _ Ab) (ok_bSl hq ?_)))))
    refine ok_cSl (f81b_spec (by omega) (by omega) (nex up.2.2) ox (b7.agree Ab)) fun a7 l7 c7 H5 hp => ?_
    obtain ⟨rfl, o5, k5⟩ := hp
    have kH5 : Keep x.a H H5 := Keep.of_agree Ab k5
    have b65 := b6.keep kH5 (nex up.2.1)
    refine ok_bift (sameB_at b6 b65 rfl) (ok_bSl (ldSl_at b65 (by simp) rfl) (ok_bind eq (ok_if (by omega) ?_)))
    obtain ⟨q', H6, ls', eq', hw, ow, k6, n6⟩ := h.O.setR (i := obj) hoL hx kH5 o5 (fun q e => .inl ⟨q, e, rfl⟩)
    rw [eq] at eq'
    cases eq'
    refine ok_bind hw (Ok.ret ⟨rfl, ls', ?_, ?_⟩)
    · have : setLk s obj ⟨(lkS s obj).own, delI th (lkS s obj).rd⟩ = { s with locks := s.locks.set obj.toNat ⟨(lkS s obj).own, delI th x.rd⟩ } := by rw [← px]; rfl
      show OwnP N H6 aL lL cL aD lD cD aT lT cT ls' (setLk s obj ⟨(lkS s obj).own, delI th (lkS s obj).rd⟩)
      rw [this]
      exact ow
    · have hN5 : N ≤ H5.next := Nat.le_trans h.nn kH5.next
      exact (A.trans (kH5.lo h.nn (h.O.rd x hxm).block)).trans (k6.lo hN5 h.O.L.block)
  rw [g9]
  -- the two events of a condition
  have fin : ∀ (o st cd : Int) (H' : AHeap) (ls' : List LkV), OwnP N H' aL lL cL aD lD cD aT lT cT ls' (setLk s (mtx w obj) ⟨o, (lkS s (mtx w obj)).rd⟩) → Lo N H0 H' → N ≤ H'.next →
      Ok ((H'.wr qT.block (qT.off + th.toNat * 3 + 0) [.int .i64 st]).bind fun H10 => (H10.wr qT.block (qT.off + th.toNat * 3 + 1) [.int .i64 cd]).bind fun H11 => some (Value.tuple #[], H11))
        (Mined N H0 aL lL cL aD lD cD aT lT cT (setTh (setLk s (mtx w obj) ⟨o, (lkS s (mtx w obj)).rd⟩) th ⟨st, cd, (thS s th).at'⟩)) := by
    intro o st cd H' ls' ow lo hN
    refine mine_T lo ow hN (i := th) hth (y := ⟨st, (thS s th).cd, (thS s th).at'⟩) (by simp) (by simp) rfl eT fun H2 ow2 lo2 k2 n2 => ?_
    have hts : thS (setTh (setLk s (mtx w obj) ⟨o, (lkS s (mtx w obj)).rd⟩) th ⟨st, (thS s th).cd, (thS s th).at'⟩) th = ⟨st, (thS s th).cd, (thS s th).at'⟩ := by
      have hl := h.O.toP.lenT
      have := (nat_cast_toNat hth).2
      unfold thS setTh setLk
      rw [List.getD_eq_getElem?_getD, List.getElem?_set_self (by show th.toNat < s.ths.length; omega)]
      rfl
    refine mine_T lo2 ow2 (by omega) (i := th) hth (y := ⟨st, cd, (thS s th).at'⟩) (by simp) (by simp) (by rw [hts]; rfl) eT fun H3 ow3 lo3 k3 n3 => Ok.ret ⟨rfl, ls', ?_, lo3⟩
    have : setTh (setTh (setLk s (mtx w obj) ⟨o, (lkS s (mtx w obj)).rd⟩) th ⟨st, (thS s th).cd, (thS s th).at'⟩) th ⟨st, cd, (thS s th).at'⟩ = setTh (setLk s (mtx w obj) ⟨o, (lkS s (mtx w obj)).rd⟩) th ⟨st, cd, (thS s th).at'⟩ := by
      unfold setTh setLk
      rw [List.set_set]
    rw [this] at ow3
    exact ow3
  refine ok_bif (fun c => ?_) (fun g16 => ?_)
  · rw [c]
    have hm16 : inR obj w.mutex.length = true := mtx_named hn (by rw [beq_iff_eq] at c; omega)
    have r1 := inR_iff.1 hm16
    have Ab := agree_bump H 11
    obtain ⟨q2, eq2, hq2⟩ := (h.W.agree Ab).mt (i := obj) (by rw [e4]; exact hm16)
    have hmm := e5 _ hm16
    have r2 := inR_iff.1 hmm
    obtain ⟨q, eq⟩ := own_some h.O.L (by omega)
    refine ok_bift (sameB_agree b6 Ab) (ok_bSl (ldSl_at (b6.agree Ab) (by simp) rfl) (ok_bift (sameB_agree b5 Ab) (ok_bSl (ldSl_at (b5.agree Ab) (by simp) rfl) (ok_bind eq2 (ok_if (by omega) (ok_bift (h.W.N.1.stay eq2 _ Ab) (ok_bind hq2 (ok_bind eq ?_))))))))
    exact mutex_own A h hm16 eq (-1) fun H' ls' ow lo hN => fin (-1) 3 obj H' ls' ow lo hN
  rw [g16]
  refine ok_bif (fun c => ?_) (fun g17 => ?_)
  · rw [c]
    have hm16 : inR obj w.mutex.length = true := mtx_named hn (by rw [beq_iff_eq] at c; omega)
    have r1 := inR_iff.1 hm16
    have Ab := agree_bump H 12
    obtain ⟨q2, eq2, hq2⟩ := (h.W.agree Ab).mt (i := obj) (by rw [e4]; exact hm16)
    have hmm := e5 _ hm16
    have r2 := inR_iff.1 hmm
    obtain ⟨q, eq⟩ := own_some h.O.L (by omega)
    refine ok_bift (sameB_agree b6 Ab) (ok_bSl (ldSl_at (b6.agree Ab) (by simp) rfl) (ok_bift (sameB_agree b5 Ab) (ok_bSl (ldSl_at (b5.agree Ab) (by simp) rfl) (ok_bind eq2 (ok_if (by omega) (ok_bift (h.W.N.1.stay eq2 _ Ab) (ok_bind hq2 (ok_bift (sameB_agree b7 Ab) (ok_bind (ldI_at (b7.agree Ab) (by simp) rfl) (ok_bind eq ?_))))))))))
    exact mutex_own A h hm16 eq th fun H' ls' ow lo hN => fin th 2 0 H' ls' ow lo hN
  rw [g17]
  exact Ok.ret ⟨rfl, ls, h.O, A⟩
theorem f69_K1 (hk : 1100 ≤ k) {H : AHeap} (A : Lo N H0 H) (hF : ∀ i, H.next ≤ i → H.get i = none) (h : Mine F N M H p5 p6 p7 a0 l0 c0 a1 l1 c1 a2 l2 c2 a3 l3 c3 a4 l4 c4 a5 l5 c5 ks cs w aL lL cL aD lD cD aT lT cT ls s th) {kind : Int} (hn : namedS w kind obj = true) (D : List Value) (b : Bool)
    (hb : b = (kind == 6 || kind == 10)) (g1 : (kind == 1) = false) (g2 : (kind == 2) = false) (g14 : (kind == 14) = false) (g15 : (kind == 15) = false) {qT : Addr} (eT : aT = some qT) :
    Ok (f69.K1 k obj p5 p6 p7 qT.block (qT.off + th.toNat * 3) kind b D H) (Mined N H0 aL lL cL aD lD cD aT lT cT (ownS w s th kind obj)) := by
  obtain ⟨e1, e2, e3, e4, e5⟩ := h.lens
  obtain ⟨e, v, b5⟩ := h.b.b2
  obtain ⟨e', v', b6⟩ := h.b.b3
  obtain ⟨e'', v'', b7⟩ := h.b7
  rw [f69.K1_eq]
  refine ok_bif (fun hc => ?_) (fun hc => ?_)
  · have hkd : kind = 6 ∨ kind = 10 := by rw [hc] at hb; have hb := hb.symm; simp only [Bool.or_eq_true, beq_iff_eq] at hb; exact hb
    have ho : inR obj w.rw.length = true := by rcases hkd with rfl | rfl <;> exact and_l (b := _) hn
    have ro := inR_iff.1 ho
    obtain ⟨q, eq⟩ := own_some h.O.L (by omega)
    have es : ownS w s th kind obj = setLk s obj ⟨th, (lkS s obj).rd⟩ := by rcases hkd with rfl | rfl <;> rfl
    rw [es]
    exact ok_bSl (ldSl_at b6 (by simp) rfl) (ok_bind (ldI_at b7 (by simp) rfl) (ok_bind eq (ok_if (by omega) (mine_O A h.O h.nn (i := obj) (by rw [e1]; exact ho) th eq fun H' ls' ow lo k1 n1 => Ok.ret ⟨rfl, ls', ow, lo⟩))))
  rw [hc] at hb
  refine ok_bif (fun c => ?_) (fun g7 => ?_)
  · exact f69_K2 hk A hF h hn _ _ (by rw [c]; rfl) g1 g2 g14 g15 hb.symm eT
  · exact f69_K2 hk A hF h hn _ _ (by rw [g7]; rfl) g1 g2 g14 g15 hb.symm eT
/-- object.own -/
theorem f69_spec (hk : 1200 ≤ k) {H : AHeap} (hF : ∀ i, H.next ≤ i → H.get i = none) (hN : N ≤ H.next) (hW : WorldP F H l0 a1 l1 a2 l2 l3 l4 ks cs w) (hO : OwnP N H aL lL cL aD lD cD aT lT cT ls s) (fit : fitsS w s = true) (ht : inR th w.threads = true) (hrd : ∀ x ∈ ls, x.l ≤ 11) {kind : Int} (hn : namedS w kind obj = true) :
    Ok (C k 69 [.agg #[.slice a0 l0 c0, .slice a1 l1 c1, .slice a2 l2 c2, .slice a3 l3 c3, .slice a4 l4 c4, .slice a5 l5 c5], .agg #[.slice aL lL cL, .int .i64 s.tx, .slice aD lD cD, .slice aT lT cT], .int .i64 th, .int .i64 kind, .int .i64 obj] H)
      (Mined N H aL lL cL aD lD cD aT lT cT (ownS w s th kind obj)) := by
  obtain ⟨k, rfl⟩ : ∃ j, k = j + 1 := ⟨k - 1, by omega⟩
  rw [f69_eq]
  refine ok_al fun i H1 hi n1 A1 B1 => ok_al fun i' H2 hi' n2 A2 B2 => ok_al fun i'' H3 hi'' n3 A3 B3 => ?_
  have A03 := (A1.trans A2).trans A3
  have bl := hO.blocks
  have h : Mine F N H.next H3 i i' i'' a0 l0 c0 a1 l1 c1 a2 l2 c2 a3 l3 c3 a4 l4 c4 a5 l5 c5 ks cs w aL lL cL aD lD cD aT lT cT ls s th :=
    ⟨hW.agree A03, hO.agree A03, ⟨⟨_, _, (B1.agree A2).agree A3⟩, ⟨_, _, B2.agree A3⟩⟩, ⟨_, _, B3⟩, fit, ht, hrd, ⟨bl.1, bl.2.2.1, bl.2.2.2⟩, ⟨by omega, by omega, by omega⟩, by omega⟩
  obtain ⟨e1, e2, e3, e4, e5⟩ := h.lens
  have rt := inR_iff.1 ht
  have A := A03.lo hN
  have hN3 : N ≤ H3.next := h.nn
  have hth : inR th lT = true := by rw [e3]; exact ht
  obtain ⟨qT, eT⟩ := own_some hO.T (by omega)
  refine ok_bSl (ldSl_at (B2.agree A3) (by simp) rfl) (ok_bind (ldI_at B3 (by simp) rfl) (ok_bind eT (ok_if (by omega) ?_)))
  refine ok_bif (fun c => ?_) (fun g1 => ?_)
  · have es : ownS w s th kind obj = setTh s th ⟨2, (thS s th).cd, (thS s th).at'⟩ := by unfold ownS; rw [c]; rfl
    rw [es]
    exact mine_T A h.O hN3 (i := th) hth (by simp) (by simp) rfl eT fun H' ow lo k1 n1 => Ok.ret ⟨rfl, ls, ow, lo⟩
  refine ok_bif (fun c => ?_) (fun g2 => ?_)
  · have es : ownS w s th kind obj = setTh s th ⟨5, (thS s th).cd, (thS s th).at'⟩ := by unfold ownS; rw [g1, c]; rfl
    rw [es]
    exact mine_T A h.O hN3 (i := th) hth (by simp) (by simp) rfl eT fun H' ow lo k1 n1 => Ok.ret ⟨rfl, ls, ow, lo⟩
  refine ok_bif (fun c => ?_) (fun g14 => ?_)
  · have es : ownS w s th kind obj = setTh s th ⟨(thS s th).st, (thS s th).cd, true⟩ := by unfold ownS; rw [g1, g2, c]; rfl
    rw [es]
    exact mine_T A h.O hN3 (i := th) hth (by simp) (by simp) rfl eT fun H' ow lo k1 n1 => Ok.ret ⟨rfl, ls, ow, lo⟩
  refine ok_bif (fun c => ?_) (fun g15 => ?_)
  · have es : ownS w s th kind obj = setTh s th ⟨(thS s th).st, (thS s th).cd, false⟩ := by unfold ownS; rw [g1, g2, g14, c]; rfl
    rw [es]
    exact mine_T A h.O hN3 (i := th) hth (by simp) (by simp) rfl eT fun H' ow lo k1 n1 => Ok.ret ⟨rfl, ls, ow, lo⟩
  refine ok_bif (fun c => ?_) (fun g6 => ?_)
  · exact f69_K1 (by omega) A (A03.fresh hF) h hn _ _ (by rw [c]; rfl) g1 g2 g14 g15 eT
  · exact f69_K1 (by omega) A (A03.fresh hF) h hn _ _ (by rw [g6]; rfl) g1 g2 g14 g15 eT
end
end Go.Proofs.MxF
end

section
set_option linter.unusedSimpArgs false
/- object.Apply. -/
set_option linter.unusedVariables false
namespace Go.Proofs.MxF
open Go Go.Mx Go.Proofs
def wakeT (s : SyncS) (u : Int) : SyncS := setTh s u ⟨4, (thS s u).cd, (thS s u).at'⟩
def wakeAll (s : SyncS) (us : List Int) : SyncS := us.foldl wakeT s
def wakeOne (s : SyncS) (obj wake : Int) : Int := bif hasI (waitS s obj) wake then wake else (waitS s obj).headD 0
def applyV (w : Wld) (s : SyncS) (th kind obj wake : Int) : SyncS × Int :=
  bif kind == 18 then (bif (waitS s obj).isEmpty then (s, -1) else (wakeT s (wakeOne s obj wake), wakeOne s obj wake))
  else bif kind == 19 then (wakeAll s (waitS s obj), ((waitS s obj).length : Int))
  else bif kind == 12 then ({ s with tx := th }, 0)
  else bif kind == 13 then ({ s with tx := -1 }, 0)
  else bif kind == 20 then (setTh s obj ⟨1, (thS s obj).cd, (thS s obj).at'⟩, 0)
  else bif kind == 22 then ({ s with done := s.done.set obj.toNat true }, 0)
  else (ownS w s th kind obj, 0)
def zeroS : SyncS := ⟨[], 0, [], []⟩
/-- the state behind an event, its value, and whether it can happen -/
def applyR (w : Wld) (s : SyncS) (th kind obj wake : Int) : SyncS × Int × Bool :=
  bif enabledS w s th kind obj then ((applyV w s th kind obj wake).1, (applyV w s th kind obj wake).2, true) else (zeroS, 0, false)
theorem waitFrom_mem {c : Int} : ∀ {ts : List ThS} {i : Nat} {u : Int}, u ∈ waitFrom c ts i → (i : Int) ≤ u ∧ u < (i + ts.length : Nat) := by
  intro ts
  induction ts with
  | nil => intro i u h; cases h
  | cons t ts ih =>
    intro i u h
    unfold waitFrom at h
    rcases List.mem_append.1 h with h | h
    · split at h
      · rw [List.mem_singleton] at h; subst h; simp; omega
      · cases h
    · have := ih h
      simp at this ⊢
      omega
theorem waitS_mem {s : SyncS} {c u : Int} (h : u ∈ waitS s c) : inR u s.ths.length = true := by
  have := waitFrom_mem h
  rw [inR_iff]
  simp at this
  exact this
theorem setTh_len {s : SyncS} {i : Int} {y : ThS} : (setTh s i y).ths.length = s.ths.length := by unfold setTh; rw [List.length_set]
theorem zeroR (F : Nat → Prop) (H : AHeap) : SyncR F H [.slice none 0 0, .int .i64 0, .slice none 0 0, .slice none 0 0] zeroS :=
  ⟨none, 0, 0, none, 0, 0, none, 0, 0, [], rfl, ⟨⟨Cells.nil _, fun q e => by cases e⟩, ⟨Cells.nil _, fun q e => by cases e⟩, ⟨Cells.nil _, fun q e => by cases e⟩, rfl, fun x hx => by cases hx⟩⟩
section
variable {k N : Nat} {F : Nat → Prop} {H0 : AHeap} {p7 p12 M : Nat} {aL : Option Addr} {lL cL : Nat} {aD : Option Addr} {lD cD : Nat} {aT : Option Addr} {lT cT : Nat} {ls : List LkV} {s : SyncS} {th obj wake : Int}
/-- object.notify -/
theorem f67_spec (hk : 1200 ≤ k) {H : AHeap} (hN : N ≤ H.next) (hO : OwnP N H aL lL cL aD lD cD aT lT cT ls s) (h3 : s.ths.length ≤ 1000) :
    Ok (C k 67 [.agg #[.slice aL lL cL, .int .i64 s.tx, .slice aD lD cD, .slice aT lT cT], .int .i64 obj, .int .i64 wake] H)
      fun r => r.1 = .int .i64 (bif (waitS s obj).isEmpty then -1 else wakeOne s obj wake) ∧ OwnP N r.2 aL lL cL aD lD cD aT lT cT ls (bif (waitS s obj).isEmpty then s else wakeT s (wakeOne s obj wake)) ∧ Lo N H r.2 := by
  obtain ⟨k, rfl⟩ : ∃ j, k = j + 1 := ⟨k - 1, by omega⟩
  rw [f67_eq]
  have lT' := hO.toP.lenT
  refine ok_al fun i H1 hi n1 A1 B1 => ?_
  have r6 : H1.row i 0 4 = some [.slice aL lL cL, .int .i64 s.tx, .slice aD lD cD, .slice aT lT cT] := row_at B1 (by simp) (by simp)
  refine ok_bind r6 ?_
  have hs : SyncR (N ≤ ·) H1 [.slice aL lL cL, .int .i64 s.tx, .slice aD lD cD, .slice aT lT cT] s := ⟨aL, lL, cL, aD, lD, cD, aT, lT, cT, ls, rfl, (hO.agree A1).toP⟩
  refine ok_cSl (f68_spec (c := obj) (by omega) hs h3) fun a l c H2 hp => ?_
  obtain ⟨o2, A2⟩ := hp
  have A02 := A1.trans A2
  have hl := o2.len
  have hO2 := hO.agree A02
  have hN2 : N ≤ H2.next := Nat.le_trans hN A02.next
  have hwl := waitFrom_len obj s.ths 0
  have hwl' : (waitS s obj).length ≤ s.ths.length := hwl
  have hm : maxLen = 9223372036854775807 := rfl
  cases hws : waitS s obj with
  | nil =>
    rw [hws] at hl
    have hl0 : l = 0 := hl
    subst hl0
    exact ok_bift rfl (Ok.ret ⟨rfl, hO2, A02.lo hN⟩)
  | cons u us =>
    have hu : u ∈ waitS s obj := by rw [hws]; simp
    have hlp : l = us.length + 1 := by rw [hws] at hl; exact hl
    obtain ⟨q, x, hx, eq, hq⟩ := Ints.at o2.ints (i := 0) (by omega)
    rw [hws] at hx
    have hxu : x = u := (Option.some.inj hx).symm
    subst hxu
    have hone : wakeOne s obj wake = bif hasI (waitS s obj) wake then wake else x := by unfold wakeOne; rw [hws]; rfl
    show Ok _ fun (r : Value × AHeap) => r.1 = Value.int .i64 (wakeOne s obj wake) ∧ OwnP N r.2 aL lL cL aD lD cD aT lT cT ls (wakeT s (wakeOne s obj wake)) ∧ Lo N H r.2
    rw [hone]
    refine ok_biff (by simp; omega) (ok_bind eq (ok_if (by omega) (ok_bind hq (ok_cB0 (f63_spec o2.ints (by omega) (by omega) wake) (ok_bif (fun hb => ?_) (fun hb => ?_))))))
    · rw [hb]
      have hin : inR wake lT = true := by rw [lT']; exact waitS_mem (hasI_iff.1 hb)
      have hr := inR_iff.1 hin
      obtain ⟨qT, eT⟩ := own_some hO.T (by omega)
      exact ok_bSl (ldSl_at (B1.agree A2) (by simp) rfl) (ok_bind eT (ok_if (by omega) (mine_T (A02.lo hN) hO2 hN2 (i := wake) hin (y := ⟨4, (thS s wake).cd, (thS s wake).at'⟩) (by simp) (by simp) rfl eT fun H' ow lo k1 n1 => Ok.ret ⟨rfl, ow, lo⟩)))
    · rw [hb]
      have hin : inR x lT = true := by rw [lT']; exact waitS_mem hu
      have hr := inR_iff.1 hin
      obtain ⟨qT, eT⟩ := own_some hO.T (by omega)
      exact ok_bSl (ldSl_at (B1.agree A2) (by simp) rfl) (ok_bind eT (ok_if (by omega) (mine_T (A02.lo hN) hO2 hN2 (i := x) hin (y := ⟨4, (thS s x).cd, (thS s x).at'⟩) (by simp) (by simp) rfl eT fun H' ow lo k1 n1 => Ok.ret ⟨rfl, ow, lo⟩)))

/-- what an event's end comes to -/
def Applied (H0 : AHeap) (s' : SyncS) (v : Int) (b : Bool) (r : Value × AHeap) : Prop :=
  ∃ cs, r.1 = .tuple #[.agg (cs : List Value).toArray, .int .i64 v, .bool b] ∧ SyncR (H0.next ≤ ·) r.2 cs s' ∧ Agree H0 r.2
theorem f38_K1 {H : AHeap} (A : Agree H0 H) (hN : H0.next ≤ N) (hO : OwnP N H aL lL cL aD lD cD aT lT cT ls s) {e7 v7 e12 v12 : Nat} {y0 y1 y2 y3 : Value} {v : Int} {D : List Value}
    (b7 : At H p7 ⟨[.slice aL lL cL, .int .i64 s.tx, .slice aD lD cD, .slice aT lT cT], e7, .rw, v7⟩) (b12 : At H p12 ⟨[y0, y1, y2, y3], e12, .rw, v12⟩) (z : p12 < N) (z' : H0.next ≤ p12) :
    Ok (f38.K1 k p7 p12 v D H) (Applied H0 s v true) := by
  rw [f38.K1_eq]
  refine ok_bind (row_at b7 (by simp) (by simp)) (ok_if ⟨rfl, rfl⟩ (ok_wr b12 rfl (by simp) fun H7 W7 => ok_bind (row_at W7.at' (by simp) (by simp [splice])) (Ok.ret ?_)))
  exact ⟨_, rfl, ⟨aL, lL, cL, aD, lD, cD, aT, lT, cT, ls, rfl, (hO.wrote W7 z).toP.mono fun _ h => Nat.le_trans hN h⟩, A.wrote W7 z'⟩
theorem f38_loop {H1 : AHeap} {a : Option Addr} {l c : Nat} {us : List Int} (hA1 : Agree H0 H1) (hN : H0.next ≤ N) (hN1 : N ≤ H1.next) (hu : Ints H1 a l us) (hlen : l ≤ 1000) (hin : ∀ u ∈ us, inR u lT = true) (hne : ∀ q q', a = some q → aT = some q' → q'.block ≠ q.block) (z7 : p7 < N) (z12 : p12 < N) (z' : H0.next ≤ p12) {y0 y1 y2 y3 : Value} {e7 v7 e12 v12 : Nat}
    (b7 : At H1 p7 ⟨[.slice aL lL cL, .int .i64 s.tx, .slice aD lD cD, .slice aT lT cT], e7, .rw, v7⟩) (b12 : At H1 p12 ⟨[y0, y1, y2, y3], e12, .rw, v12⟩) (tx : Int) (htx : tx = s.tx) :
    ∀ (m i n : Nat) (s' : SyncS) (H : AHeap) (D : List Value), i + m = l → m < n → Lo N H1 H → N ≤ H.next → Ints H a l us → OwnP N H aL lL cL aD lD cD aT lT cT ls s' → s'.tx = s.tx → s'.ths.length = lT →
    Ok (f38.L1 k n p7 p12 (i : Int) a l c (l : Int) (i : Int) D H) (Applied H0 ((us.drop i).foldl wakeT s') (l : Int) true) := by
  intro m
  induction m with
  | zero =>
    intro i n s' H D hm hn lo hNH hI hO ht hl
    obtain ⟨n, rfl⟩ : ∃ j, n = j + 1 := ⟨n - 1, by omega⟩
    rw [f38.L1_s]
    rw [List.drop_eq_nil_of_le (by have := hI.len; omega)]
    have hil : i = l := by omega
    subst hil
    refine ok_biff (by simp only [decide_eq_false_iff_not]; omega) ?_
    have bb7 := b7.lo lo z7
    rw [← ht] at bb7
    exact f38_K1 (lo.agree hA1 hN) hN hO bb7 (b12.lo lo z12) z12 z'
  | succ m ih =>
    intro i n s' H D hm hn lo hNH hI hO ht hl
    obtain ⟨n, rfl⟩ : ∃ j, n = j + 1 := ⟨n - 1, by omega⟩
    rw [f38.L1_s]
    obtain ⟨q, x, hx, eq, hq⟩ := Ints.at hI (i := i) (by omega)
    rw [drop_cons hx, List.foldl_cons]
    have hxin := hin x (List.mem_of_getElem? hx)
    have hr := inR_iff.1 hxin
    obtain ⟨qT, eT⟩ := own_some hO.T (by omega)
    have bb7 := b7.lo lo z7
    refine ok_bift (by simp only [decide_eq_true_eq]; omega) (ok_bind eq (ok_if (by omega) (ok_bind hq (ok_bSl (ldSl_at bb7 (by simp) rfl) (ok_bind eT (ok_if (by omega) ?_))))))
    refine mine_T lo hO hNH (i := x) hxin (y := ⟨4, (thS s' x).cd, (thS s' x).at'⟩) (by simp) (by simp) rfl eT fun H' ow lo' k1 n1 => ?_
    rw [wrapS (i := i) (l := l) (by omega) (by unfold maxLen; omega)]
    refine ih (i + 1) n (wakeT s' x) H' _ (by omega) (by omega) lo' (by omega) (Cells.keep hI k1 fun q q' e e' => hne q q' e e') ow ht ?_
    unfold wakeT
    rw [setTh_len]
    exact hl
end
end Go.Proofs.MxF
end

section
set_option linter.unusedSimpArgs false
/- object.Apply: the whole. -/
set_option linter.unusedVariables false
namespace Go.Proofs.MxF
open Go Go.Mx Go.Proofs
theorem f38_spec {k : Nat} (hk : 1400 ≤ k) {F G : Nat → Prop} {H : AHeap} (hF : ∀ i, H.next ≤ i → H.get i = none) {wc sc : List Value} {w : Wld} {s : SyncS} (hw : WorldR F H wc w) (hs : SyncR G H sc s) (hr : ∀ x ∈ s.locks, x.rd.length ≤ 11) (th kind obj wake : Int) :
    Ok (C k 38 [.agg wc.toArray, .agg sc.toArray, .int .i64 th, .int .i64 kind, .int .i64 obj, .int .i64 wake] H) (Applied H (applyR w s th kind obj wake).1 (applyR w s th kind obj wake).2.1 (applyR w s th kind obj wake).2.2) := by
  obtain ⟨k, rfl⟩ : ∃ j, k = j + 1 := ⟨k - 1, by omega⟩
  have hw0 := hw
  have hs0 := hs
  have hr1000 : ∀ x ∈ s.locks, x.rd.length ≤ 1000 := fun x hx => Nat.le_trans (hr x hx) (by omega)
  obtain ⟨a0, l0, c0, a1, l1, c1, a2, l2, c2, a3, l3, c3, a4, l4, c4, a5, l5, c5, ks, cs, rfl, hw⟩ := hw
  obtain ⟨aL, lL, cL, aD, lD, cD, aT, lT, cT, ls, rfl, hs⟩ := hs
  rw [f38_eq]
  refine ok_al fun i H1 hi n1 A1 B1 => ok_al fun i' H2 hi' n2 A2 B2 => ok_al fun i'' H3 hi'' n3 A3 B3 => ?_
  have A03 := (A1.trans A2).trans A3
  have B1' := (B1.agree A2).agree A3
  have B2' := B2.agree A3
  have rw5 : ∀ H', Agree H3 H' → H'.row i 0 6 = some [.slice a0 l0 c0, .slice a1 l1 c1, .slice a2 l2 c2, .slice a3 l3 c3, .slice a4 l4 c4, .slice a5 l5 c5] := fun H' A => row_at (B1'.agree A) (by simp) (by simp)
  have rw6 : ∀ H', Agree H3 H' → H'.row i' 0 4 = some [.slice aL lL cL, .int .i64 s.tx, .slice aD lD cD, .slice aT lT cT] := fun H' A => row_at (B2'.agree A) (by simp) (by simp)
  have hk1 : 1300 ≤ k := by omega
  unfold applyR
  refine ok_bind (rw5 _ (Agree.refl _)) (ok_bind (rw6 _ (Agree.refl _)) (ok_cB (f39_spec hk1 (hw0.agree A03) (hs0.agree A03) hr1000 th kind obj) fun H4 A4 => ok_bif (fun c => ?_) (fun c => ?_)))
  · have he : enabledS w s th kind obj = false := by simpa using c
    rw [he]
    refine ok_wr (B3.agree A4) rfl (by simp) fun H5 W5 => ok_bind (row_at W5.at' (by simp) (by simp [splice])) (Ok.ret ?_)
    exact ⟨_, rfl, zeroR _ _, (A03.trans A4).wrote W5 (by omega)⟩
  have he : enabledS w s th kind obj = true := by simpa using c
  rw [he]
  show Ok _ (Applied H (applyV w s th kind obj wake).1 (applyV w s th kind obj wake).2 true)
  have hfit : fitsS w s = true := and_l he
  have hth : inR th w.threads = true := and_l (and_r he)
  have hn : namedS w kind obj = true := and_l (and_r (and_r he))
  obtain ⟨ff1, ff2, ff3, ff4⟩ := fits_facts hfit
  have hbig := hw.big
  have lK := hw.lenK'
  have lf := hw.f
  have lt := hw.t
  refine ok_bind (rw6 _ A4) ?_
  refine ok_cGs (f66_spec (k := k) (F := G) (s := s) (by omega) (hs0.agree (A03.trans A4)) (by omega) (by omega) (by omega) hr1000) fun cs' v H6 hp => ?_
  obtain ⟨⟨bL, mL, dL, bD, mD, dD, bT, mT, dT, ms, rfl, hO⟩, A6⟩ := hp
  replace A6 : Agree H4 H6 := A6
  replace hO : OwnP H4.next H6 bL mL dL bD mD dD bT mT dT ms s := hO
  have A36 := A4.trans A6
  have n4 := A4.next
  have A06 := A03.trans A36
  refine ok_if ⟨rfl, rfl⟩ (ok_wr (B2'.agree A36) rfl (by simp) fun H7 W7 => ?_)
  have A07 : Agree H H7 := A06.wrote W7 (by omega)
  have hO7 := hO.wrote W7 (show i' < H4.next by omega)
  have b7 := W7.at'
  have b12 := (B3.agree A36).wrote W7 (show i'' ≠ i' by omega)
  have b5 := (B1'.agree A36).wrote W7 (show i ≠ i' by omega)
  have n7 := W7.next
  have n6 := A6.next
  have hN7 : H4.next ≤ H7.next := by omega
  have r6 : H7.row i' 0 4 = some [.slice bL mL dL, .int .i64 s.tx, .slice bD mD dD, .slice bT mT dT] := row_at b7 (by simp) (by simp [splice])
  have lT := hO7.toP.lenT
  have lD' := hO7.toP.lenD
  refine ok_bif (fun c => ?_) (fun g18 => ?_)
  · have ea : applyV w s th kind obj wake = ((bif (waitS s obj).isEmpty then s else wakeT s (wakeOne s obj wake)), (bif (waitS s obj).isEmpty then -1 else wakeOne s obj wake)) := by
      unfold applyV
      rw [c]
      cases (waitS s obj).isEmpty <;> rfl
    rw [ea]
    refine ok_bind r6 ?_
    obtain ⟨⟨v, H8⟩, ev, hv, ow, lo⟩ := f67_spec (k := k) (wake := wake) (obj := obj) (by omega) hN7 hO7 (by omega)
    have hv' : v = .int .i64 (bif (waitS s obj).isEmpty then -1 else wakeOne s obj wake) := hv
    subst hv'
    refine ok_cI (P := fun H' => H' = H8) ⟨H8, ev, rfl⟩ fun H' e => ?_
    subst e
    have htx : (bif (waitS s obj).isEmpty then s else wakeT s (wakeOne s obj wake)).tx = s.tx := by cases (waitS s obj).isEmpty <;> rfl
    exact f38_K1 (lo.agree A07 (by omega)) (by omega) ow (by rw [htx]; exact b7.lo lo (by omega)) (b12.lo lo (by omega)) (by omega) (by omega)
  refine ok_bif (fun c => ?_) (fun g19 => ?_)
  · have ea : applyV w s th kind obj wake = (wakeAll s (waitS s obj), ((waitS s obj).length : Int)) := by
      unfold applyV
      rw [g18, c]
      rfl
    rw [ea]
    refine ok_bind r6 ?_
    have hs7 : SyncR (H4.next ≤ ·) H7 [.slice bL mL dL, .int .i64 s.tx, .slice bD mD dD, .slice bT mT dT] s := ⟨bL, mL, dL, bD, mD, dD, bT, mT, dT, ms, rfl, hO7.toP⟩
    refine ok_cSl (f68_spec (c := obj) (by omega) hs7 (by omega)) fun a l c' H8 hp => ?_
    obtain ⟨o8, A8⟩ := hp
    have hl := o8.len
    have hwl' : (waitS s obj).length ≤ s.ths.length := waitFrom_len obj s.ths 0
    have bt := Cells.below hO7.T.cells
    have ob8 := o8.block
    have n8 := A8.next
    have key := fun D => f38_loop (k := k) (N := H4.next) (H0 := H) (c := c') (s := s) (A07.trans A8) (by omega) (by omega) o8.ints (by omega) (fun u hu => by rw [lT]; exact waitS_mem hu) (fun q q' e e' => by have := ob8 q e; have := bt q' e'; omega) (by omega) (by omega) (by omega)
      (b7.agree A8) (b12.agree A8) s.tx rfl l 0 k s H8 D (by omega) (by omega) (Lo.refl _ _) (by omega) o8.ints (hO7.agree A8) rfl lT.symm
    rw [← hl]
    exact key _
  refine ok_bif (fun c => ?_) (fun g12 => ?_)
  · have ea : applyV w s th kind obj wake = ({ s with tx := th }, 0) := by unfold applyV; rw [g18, g19, c]; rfl
    rw [ea]
    refine ok_wr b7 rfl (by simp [splice]) fun H8 W8 => ?_
    have hO8 : OwnP H4.next H8 bL mL dL bD mD dD bT mT dT ms { s with tx := th } := by
      have h := hO7.wrote W8 (show i' < H4.next by omega)
      exact ⟨h.L, h.D, h.T, h.rd, h.locks, h.aLD, h.aLT, h.aDT, h.apL, h.apD, h.apT, h.apR⟩
    exact f38_K1 (A07.wrote W8 (by omega)) (by omega) hO8 W8.at' (b12.wrote W8 (by omega)) (by omega) (by omega)
  refine ok_bif (fun c => ?_) (fun g13 => ?_)
  · have ea : applyV w s th kind obj wake = ({ s with tx := -1 }, 0) := by unfold applyV; rw [g18, g19, g12, c]; rfl
    rw [ea]
    refine ok_wr b7 rfl (by simp [splice]) fun H8 W8 => ?_
    have hO8 : OwnP H4.next H8 bL mL dL bD mD dD bT mT dT ms { s with tx := -1 } := by
      have h := hO7.wrote W8 (show i' < H4.next by omega)
      exact ⟨h.L, h.D, h.T, h.rd, h.locks, h.aLD, h.aLT, h.aDT, h.apL, h.apD, h.apT, h.apR⟩
    exact f38_K1 (A07.wrote W8 (by omega)) (by omega) hO8 W8.at' (b12.wrote W8 (by omega)) (by omega) (by omega)
  refine ok_bif (fun c => ?_) (fun g20 => ?_)
  · have ea : applyV w s th kind obj wake = (setTh s obj ⟨1, (thS s obj).cd, (thS s obj).at'⟩, 0) := by unfold applyV; rw [g18, g19, g12, g13, c]; rfl
    rw [ea]
    have ho : inR obj w.threads = true := by rw [beq_iff_eq] at c; subst c; exact hn
    have ho' : inR obj mT = true := by rw [lT, ff4]; exact ho
    have r := inR_iff.1 ho'
    obtain ⟨qT, eT⟩ := own_some hO7.T (by omega)
    refine ok_bSl (ldSl_at b7 (by simp) rfl) (ok_bind eT (ok_if (by omega) (mine_T (Lo.refl _ _) hO7 hN7 (i := obj) ho' (y := ⟨1, (thS s obj).cd, (thS s obj).at'⟩) (by simp) (by simp) rfl eT fun H' ow lo k1 n1 => ?_)))
    exact f38_K1 (lo.agree A07 (by omega)) (by omega) ow (b7.lo lo (by omega)) (b12.lo lo (by omega)) (by omega) (by omega)
  refine ok_bif (fun c => ?_) (fun g22 => ?_)
  · have ea : applyV w s th kind obj wake = ({ s with done := s.done.set obj.toNat true }, 0) := by unfold applyV; rw [g18, g19, g12, g13, g20, c]; rfl
    rw [ea]
    have ho : inR obj w.futures = true := by rw [beq_iff_eq] at c; subst c; exact hn
    have ho' : inR obj mD = true := by rw [lD', ff3]; exact ho
    have r := inR_iff.1 ho'
    obtain ⟨qD, H', eD, hwr, ow, k1, n1⟩ := hO7.setD (i := obj) ho' true
    have lo : Lo H4.next H7 H' := k1.lo hN7 hO7.D.block
    refine ok_bSl (ldSl_at b7 (by simp) rfl) (ok_bind eD (ok_if (by omega) (ok_bind hwr ?_)))
    exact f38_K1 (lo.agree A07 (by omega)) (by omega) ow (b7.lo lo (by omega)) (b12.lo lo (by omega)) (by omega) (by omega)
  · have ea : applyV w s th kind obj wake = (ownS w s th kind obj, 0) := by unfold applyV; rw [g18, g19, g12, g13, g20, g22]; rfl
    rw [ea]
    have r5 : H7.row i 0 6 = some [.slice a0 l0 c0, .slice a1 l1 c1, .slice a2 l2 c2, .slice a3 l3 c3, .slice a4 l4 c4, .slice a5 l5 c5] := row_at b5 (by simp) (by simp)
    refine ok_bind r5 (ok_bind r6 ?_)
    have hrd : ∀ x ∈ ms, x.l ≤ 11 := rd_le hO7.toP hr
    obtain ⟨⟨v, H8⟩, ev, hv, ls', ow, lo⟩ := f69_spec (k := k) (N := H4.next) (F := F) (a0 := a0) (c0 := c0) (c1 := c1) (c2 := c2) (a3 := a3) (c3 := c3) (a4 := a4) (c4 := c4) (a5 := a5) (l5 := l5) (c5 := c5) (by omega) (A07.fresh hF) hN7 (hw.agree A07) hO7 hfit hth hrd hn
    have hv' : v = .tuple #[] := hv
    subst hv'
    refine ok_cT1 (g := []) (P := fun H' => H' = H8) ⟨H8, ev, rfl⟩ fun H' e => ?_
    subst e
    have htx : (ownS w s th kind obj).tx = s.tx := by
      have st : ∀ (b : Bool) (x y : SyncS), x.tx = s.tx → y.tx = s.tx → (bif b then x else y).tx = s.tx := by intro b x y hx hy; cases b; exact hy; exact hx
      unfold ownS
      exact st _ _ _ rfl (st _ _ _ rfl (st _ _ _ rfl (st _ _ _ rfl (st _ _ _ rfl (st _ _ _ rfl (st _ _ _ rfl (st _ _ _ rfl (st _ _ _ rfl (st _ _ _ rfl rfl)))))))))
    exact f38_K1 (lo.agree A07 (by omega)) (by omega) ow (by rw [htx]; exact b7.lo lo (by omega)) (b12.lo lo (by omega)) (by omega) (by omega)
end Go.Proofs.MxF
end

section
set_option linter.unusedSimpArgs false
/- The reference's Apply. -/
set_option linter.unusedVariables false
namespace Go.Proofs.MxF
open Go Go.Mx Go.Proofs
section
variable {k N : Nat} {F : Nat → Prop} {H0 : AHeap} {p6 p7 p12 : Nat} {a0 : Option Addr} {l0 c0 : Nat} {a1 : Option Addr} {l1 c1 : Nat} {a2 : Option Addr} {l2 c2 : Nat} {a3 : Option Addr} {l3 c3 : Nat} {a4 : Option Addr} {l4 c4 : Nat} {a5 : Option Addr} {l5 c5 : Nat} {ks : List (ByteArray × Bool)} {cs : List (ByteArray × Int)} {w : Wld}
  {aL : Option Addr} {lL cL : Nat} {aD : Option Addr} {lD cD : Nat} {aT : Option Addr} {lT cT : Nat} {ls : List LkV} {s : SyncS} {th obj wake : Int}
/-- what is known after the copy -/
structure Aft (F : Nat → Prop) (N : Nat) (H0 H : AHeap) (p6 p7 p12 : Nat) (a0 : Option Addr) (l0 c0 : Nat) (a1 : Option Addr) (l1 c1 : Nat) (a2 : Option Addr) (l2 c2 : Nat) (a3 : Option Addr) (l3 c3 : Nat) (a4 : Option Addr) (l4 c4 : Nat) (a5 : Option Addr) (l5 c5 : Nat) (ks : List (ByteArray × Bool)) (cs : List (ByteArray × Int)) (w : Wld)
    (aL : Option Addr) (lL cL : Nat) (aD : Option Addr) (lD cD : Nat) (aT : Option Addr) (lT cT : Nat) (ls : List LkV) (s : SyncS) (th : Int) : Prop where
  A : Agree H0 H
  W : WorldP F H l0 a1 l1 a2 l2 l3 l4 ks cs w
  O : OwnP N H aL lL cL aD lD cD aT lT cT ls s
  b : WS p6 p7 H a0 l0 c0 a1 l1 c1 a2 l2 c2 a3 l3 c3 a4 l4 c4 a5 l5 c5 aL lL cL s.tx aD lD cD aT lT cT
  b12 : ∃ y0 y1 y2 y3 e v, At H p12 ⟨[y0, y1, y2, y3], e, .rw, v⟩
  fit : fitsS w s = true
  th : inR th w.threads = true
  rd : ∀ x ∈ ls, x.l ≤ 11
  z : p6 < N ∧ p7 < N ∧ p12 < N ∧ H0.next ≤ p7 ∧ H0.next ≤ p12 ∧ H0.next ≤ N ∧ p7 ≠ p12
  nn : N ≤ H.next
theorem Aft.lens {H : AHeap} (h : Aft F N H0 H p6 p7 p12 a0 l0 c0 a1 l1 c1 a2 l2 c2 a3 l3 c3 a4 l4 c4 a5 l5 c5 ks cs w aL lL cL aD lD cD aT lT cT ls s th) :
    lL = w.rw.length ∧ lD = w.futures ∧ lT = w.threads ∧ l2 = w.mutex.length ∧ (∀ i, inR i w.mutex.length = true → inR (mtx w i) w.rw.length = true) := by
  obtain ⟨f1, f2, f3, f4⟩ := fits_facts h.fit
  have := h.O.toP.lenL'
  have := h.O.toP.lenD
  have := h.O.toP.lenT
  have := h.W.lenN'
  exact ⟨by omega, by omega, by omega, by omega, f1⟩
theorem f41_K1 {H H1 : AHeap} (h : Aft F N H0 H p6 p7 p12 a0 l0 c0 a1 l1 c1 a2 l2 c2 a3 l3 c3 a4 l4 c4 a5 l5 c5 ks cs w aL lL cL aD lD cD aT lT cT ls s th) (lo : Lo N H H1) {ls' : List LkV} {s' : SyncS} (hO : OwnP N H1 aL lL cL aD lD cD aT lT cT ls' s') (ht : s'.tx = s.tx) {v : Int} {D : List Value} :
    Ok (f41.K1 k p7 p12 v D H1) (Applied H0 s' v true) := by
  obtain ⟨e', v', b7⟩ := h.b.b3
  obtain ⟨y0, y1, y2, y3, e, v2, b12⟩ := h.b12
  obtain ⟨z1, z2, z3, z4, z5, z6, z7⟩ := h.z
  rw [f41.K1_eq]
  have b7' := b7.lo lo z2
  rw [← ht] at b7'
  refine ok_bind (row_at b7' (by simp) (by simp)) (ok_if ⟨rfl, rfl⟩ (ok_wr (b12.lo lo z3) rfl (by simp) fun H7 W7 => ok_bind (row_at W7.at' (by simp) (by simp [splice])) (Ok.ret ?_)))
  exact ⟨_, rfl, ⟨aL, lL, cL, aD, lD, cD, aT, lT, cT, ls', rfl, (hO.wrote W7 z3).toP.mono fun _ h => Nat.le_trans z6 h⟩, (lo.agree h.A z6).wrote W7 z5⟩
theorem f41_loop {H1 : AHeap} {a : Option Addr} {l c : Nat} {us : List Int} (h : Aft F N H0 H1 p6 p7 p12 a0 l0 c0 a1 l1 c1 a2 l2 c2 a3 l3 c3 a4 l4 c4 a5 l5 c5 ks cs w aL lL cL aD lD cD aT lT cT ls s th) (hu : Ints H1 a l us) (hlen : l ≤ 1000) (hin : ∀ u ∈ us, inR u lT = true) (hne : ∀ q q', a = some q → aT = some q' → q'.block ≠ q.block) :
    ∀ (m i n : Nat) (s' : SyncS) (H : AHeap) (D : List Value), i + m = l → m < n → Lo N H1 H → N ≤ H.next → Ints H a l us → OwnP N H aL lL cL aD lD cD aT lT cT ls s' → s'.tx = s.tx → s'.ths.length = lT →
    Ok (f41.L1 k n p7 p12 a l c (i : Int) D H) (Applied H0 ((us.drop i).foldl wakeT s') (l : Int) true) := by
  intro m
  induction m with
  | zero =>
    intro i n s' H D hm hn lo hNH hI hO ht hl
    obtain ⟨n, rfl⟩ : ∃ j, n = j + 1 := ⟨n - 1, by omega⟩
    rw [f41.L1_s]
    rw [List.drop_eq_nil_of_le (by have := hI.len; omega)]
    exact ok_biff (by simp only [decide_eq_false_iff_not]; omega) (f41_K1 h lo hO ht)
  | succ m ih =>
    intro i n s' H D hm hn lo hNH hI hO ht hl
    obtain ⟨n, rfl⟩ : ∃ j, n = j + 1 := ⟨n - 1, by omega⟩
    rw [f41.L1_s]
    have Ab := agree_bump H 9
    obtain ⟨q, x, hx, eq, hq⟩ := Ints.at (hI.agree Ab) (i := i) (by omega)
    rw [drop_cons hx, List.foldl_cons]
    have hxin := hin x (List.mem_of_getElem? hx)
    have hr := inR_iff.1 hxin
    obtain ⟨qT, eT⟩ := own_some hO.T (by omega)
    obtain ⟨e', v', b7⟩ := h.b.b3
    have bb7 := b7.lo lo h.z.2.1
    refine ok_bift (by simp only [decide_eq_true_eq]; omega) (ok_bift (sameB_agree bb7 Ab) (ok_bSl (ldSl_at (bb7.agree Ab) (by simp) rfl) (ok_bind eq (ok_if (by omega) (ok_bift (Cells.stay hI eq _ Ab) (ok_bind hq (ok_bind eT (ok_if (by omega) ?_))))))))
    have nb : (H.bump 9).next = H.next + 9 := rfl
    refine mine_T (lo.trans (Ab.lo hNH)) (hO.agree Ab) (by omega) (i := x) hxin (y := ⟨4, (thS s' x).cd, (thS s' x).at'⟩) (by simp) (by simp) rfl eT fun H' ow lo' k1 n1 => ?_
    rw [wrapS (i := i) (l := l) (by omega) (by unfold maxLen; omega)]
    refine ih (i + 1) n (wakeT s' x) H' _ (by omega) (by omega) lo' (by omega) (Cells.keep (hI.agree Ab) k1 fun q q' e e' => hne q q' e e') ow ht ?_
    unfold wakeT
    rw [setTh_len]
    exact hl
/-- two writes to the thread of an event -/
theorem thread2 {H' : AHeap} {ls' : List LkV} {s1 : SyncS} {n : Nat} (h : Aft F N H0 H' p6 p7 p12 a0 l0 c0 a1 l1 c1 a2 l2 c2 a3 l3 c3 a4 l4 c4 a5 l5 c5 ks cs w aL lL cL aD lD cD aT lT cT ls s th) {H1 : AHeap} (lo : Lo N H' H1) (hN : N ≤ H1.next) (ow : OwnP N H1 aL lL cL aD lD cD aT lT cT ls' s1) (hts : thS s1 th = thS s th) (hlen : s1.ths.length = s.ths.length) (st cd : Int) {q : Addr} (eT : aT = some q) :
    ∃ H2 H3, (H1.bump n).wr q.block (q.off + th.toNat * 3 + 0) [.int .i64 st] = some H2 ∧ H2.wr q.block (q.off + th.toNat * 3 + 1) [.int .i64 cd] = some H3 ∧ OwnP N H3 aL lL cL aD lD cD aT lT cT ls' (setTh s1 th ⟨st, cd, (thS s th).at'⟩) ∧ Lo N H' H2 ∧ Lo N H' H3 := by
  obtain ⟨e1, e2, e3, e4, e5⟩ := h.lens
  have hth : inR th lT = true := by rw [e3]; exact h.th
  have Ab := agree_bump H1 n
  have hNb : N ≤ (H1.bump n).next := Nat.le_trans hN Ab.next
  have hl := h.O.toP.lenT
  have hts2 : thS (setTh s1 th ⟨st, (thS s1 th).cd, (thS s1 th).at'⟩) th = ⟨st, (thS s1 th).cd, (thS s1 th).at'⟩ := by
    have := (nat_cast_toNat hth).2
    unfold thS setTh
    rw [List.getD_eq_getElem?_getD, List.getElem?_set_self (by omega)]
    rfl
  obtain ⟨q', H2, eq', hw, o2, k2, n2⟩ := (ow.agree Ab).setT (i := th) hth (j := 0) (vs := [.int .i64 st]) (y := ⟨st, (thS s1 th).cd, (thS s1 th).at'⟩) (by simp) (by simp) rfl
  rw [eT] at eq'
  cases eq'
  obtain ⟨q', H3, eq', hw3, o3, k3, n3⟩ := OwnP.setT (s := setTh s1 th ⟨st, (thS s1 th).cd, (thS s1 th).at'⟩) o2 (i := th) hth (j := 1) (vs := [.int .i64 cd]) (y := ⟨st, cd, (thS s th).at'⟩) (by simp) (by simp) (by rw [hts2, hts]; rfl)
  rw [eT] at eq'
  cases eq'
  have lo2 : Lo N H' H2 := lo.trans ((Ab.lo hN).trans (k2.lo hNb ow.T.block))
  refine ⟨H2, H3, hw, hw3, ?_, lo2, lo2.trans (k3.lo (by omega) ow.T.block)⟩
  have : setTh (setTh s1 th ⟨st, (thS s1 th).cd, (thS s1 th).at'⟩) th ⟨st, cd, (thS s th).at'⟩ = setTh s1 th ⟨st, cd, (thS s th).at'⟩ := by unfold setTh; rw [List.set_set]
  rw [← this]
  exact o3
end
end Go.Proofs.MxF
end

section
set_option linter.unusedSimpArgs false
/- The reference's Apply: the kinds. -/
set_option linter.unusedVariables false
namespace Go.Proofs.MxF
open Go Go.Mx Go.Proofs
section
variable {k N : Nat} {F : Nat → Prop} {H0 : AHeap} {p6 p7 p12 : Nat} {a0 : Option Addr} {l0 c0 : Nat} {a1 : Option Addr} {l1 c1 : Nat} {a2 : Option Addr} {l2 c2 : Nat} {a3 : Option Addr} {l3 c3 : Nat} {a4 : Option Addr} {l4 c4 : Nat} {a5 : Option Addr} {l5 c5 : Nat} {ks : List (ByteArray × Bool)} {cs : List (ByteArray × Int)} {w : Wld}
  {aL : Option Addr} {lL cL : Nat} {aD : Option Addr} {lD cD : Nat} {aT : Option Addr} {lT cT : Nat} {ls : List LkV} {s : SyncS} {th obj wake : Int}
theorem f41_K3 (hk : 1300 ≤ k) {H : AHeap} (hF : ∀ i, H.next ≤ i → H.get i = none) (h : Aft F N H0 H p6 p7 p12 a0 l0 c0 a1 l1 c1 a2 l2 c2 a3 l3 c3 a4 l4 c4 a5 l5 c5 ks cs w aL lL cL aD lD cD aT lT cT ls s th) {kind : Int} (hn : namedS w kind obj = true) (D : List Value) (b : Bool)
    (hb : b = (kind == 7 || kind == 11)) (g1 : (kind == 1) = false) (g2 : (kind == 2) = false) (g6 : (kind == 6 || kind == 10) = false) :
    Ok (f41.K3 k th obj wake p6 p7 p12 0 kind b D H) (Applied H0 (applyV w s th kind obj wake).1 (applyV w s th kind obj wake).2 true) := by
  obtain ⟨e1, e2, e3, e4, e5⟩ := h.lens
  obtain ⟨e, v, b6⟩ := h.b.b2
  obtain ⟨e', v', b7⟩ := h.b.b3
  obtain ⟨z1, z2, z3, z4, z5, z6, z7⟩ := h.z
  have hth : inR th lT = true := by rw [e3]; exact h.th
  have rt := inR_iff.1 hth
  have hNn := h.nn
  have hbig := h.W.big
  have lTl := h.O.toP.lenT
  have lK := h.W.lenK'
  obtain ⟨qT, eT⟩ := own_some h.O.T (by omega)
  rw [f41.K3_eq]
  refine ok_bif (fun hc => ?_) (fun hc => ?_)
  · have hkd : kind = 7 ∨ kind = 11 := by rw [hc] at hb; have hb := hb.symm; simp only [Bool.or_eq_true, beq_iff_eq] at hb; exact hb
    have ho : inR obj w.rw.length = true := by rcases hkd with rfl | rfl <;> exact and_l (b := _) hn
    have ro := inR_iff.1 ho
    obtain ⟨q, eq⟩ := own_some h.O.L (by omega)
    have ea : applyV w s th kind obj wake = (setLk s obj ⟨-1, (lkS s obj).rd⟩, 0) := by rcases hkd with rfl | rfl <;> rfl
    rw [ea]
    exact ok_bSl (ldSl_at b7 (by simp) rfl) (ok_bind eq (ok_if (by omega) (mine_O (Lo.refl _ _) h.O hNn (i := obj) (by rw [e1]; exact ho) (-1) eq fun H' ls' ow lo k1 n1 => f41_K1 h lo ow rfl)))
  rw [hc] at hb
  refine ok_bif (fun c => ?_) (fun g8 => ?_)
  · rw [beq_iff_eq] at c
    subst c
    have ho : inR obj w.rw.length = true := and_l (b := _) hn
    have ro := inR_iff.1 ho
    have hoL : inR obj lL = true := by rw [e1]; exact ho
    have Ab := agree_bump H 15
    have nb : (H.bump 15).next = H.next + 15 := rfl
    obtain ⟨q, x, eq, hx, hxm, px, hq, ox⟩ := (h.O.agree Ab).rdAt (i := obj) hoL
    have hxl := h.rd x hxm
    have f10 : Free (H.bump 15) (H.next + 10) := free_bump hF (by omega)
    refine ok_bift (sameB_agree b7 Ab) (ok_bSl (ldSl_at (b7.agree Ab) (by simp) rfl) (ok_bind eq (ok_if (by omega) (ok_bift (own_same h.O.L eq _ Ab) (ok_bSl hq ?_)))))
    refine ok_als Ab f10 (by omega) fun H2 n2 A2 B2 S2 G2 => ?_
    have ox2 : Own N 1 H2 x.a x.l x.c (ints x.rd) := (h.O.rd x hxm).agree A2
    have hth1 : Ints H2 (some ⟨H.next + 10, 0, none⟩) 1 [th] := ⟨rfl, .inr ⟨H.next + 10, 0, none, _, rfl, B2, by simp, by simp, by simp [ints]⟩⟩
    refine ok_cSl (f75_spec (by omega) ox2.ints hth1 (by omega) (by omega)) fun a6 l6 c6 H3 hp => ?_
    obtain ⟨o3, A3⟩ := hp
    have A23 := A2.trans A3
    refine ok_bift (sameB_agree b7 A23) (ok_bSl (ldSl_at (b7.agree A23) (by simp) rfl) (ok_bind eq (ok_if (by omega) ?_)))
    have n2' := A2.next
    obtain ⟨q', H6, ls', eq', hw, ow, k6, n6⟩ := h.O.setR (i := obj) hoL hx (A23.keep (a := x.a)) (o3.lower (by omega)) (fun q e => .inr (by have := o3.block q e; omega))
    rw [eq] at eq'
    cases eq'
    have ea : applyV w s th 8 obj wake = (setLk s obj ⟨(lkS s obj).own, setI (x.rd ++ [th])⟩, 0) := by
      show (setLk s obj ⟨(lkS s obj).own, setI ((lkS s obj).rd ++ [th])⟩, (0 : Int)) = _
      rw [← px]; rfl
    rw [ea]
    refine ok_bind hw (f41_K1 h ((A23.lo hNn).trans (k6.lo (by have := A23.next; omega) h.O.L.block)) ow rfl)
  refine ok_bif (fun c => ?_) (fun g9 => ?_)
  · rw [beq_iff_eq] at c
    subst c
    have ho : inR obj w.rw.length = true := and_l (b := _) hn
    have ro := inR_iff.1 ho
    have hoL : inR obj lL = true := by rw [e1]; exact ho
    have Ab := agree_bump H 14
    obtain ⟨q, x, eq, hx, hxm, px, hq, ox⟩ := (h.O.agree Ab).rdAt (i := obj) hoL
    have hxl := h.rd x hxm
    refine ok_bift (sameB_agree b7 Ab) (ok_bSl (ldSl_at (b7.agree Ab) (by simp) rfl) (ok_bind eq (ok_if (by omega) (ok_bift (own_same h.O.L eq _ Ab) (ok_bSl hq ?_)))))
    refine ok_cSl (f76_spec (t := th) (by omega) ox.ints (by omega)) fun a6 l6 c6 H3 hp => ?_
    obtain ⟨o3, A3⟩ := hp
    have A23 := Ab.trans A3
    refine ok_bift (sameB_agree b7 A23) (ok_bSl (ldSl_at (b7.agree A23) (by simp) rfl) (ok_bind eq (ok_if (by omega) ?_)))
    have n2' := Ab.next
    obtain ⟨q', H6, ls', eq', hw, ow, k6, n6⟩ := h.O.setR (i := obj) hoL hx (A23.keep (a := x.a)) (o3.lower (by omega)) (fun q e => .inr (by have := o3.block q e; omega))
    rw [eq] at eq'
    cases eq'
    have ea : applyV w s th 9 obj wake = (setLk s obj ⟨(lkS s obj).own, delI th x.rd⟩, 0) := by
      show (setLk s obj ⟨(lkS s obj).own, delI th (lkS s obj).rd⟩, (0 : Int)) = _
      rw [← px]; rfl
    rw [ea]
    refine ok_bind hw (f41_K1 h ((A23.lo hNn).trans (k6.lo (by have := A23.next; omega) h.O.L.block)) ow rfl)
  obtain ⟨y0, y1, y2, y3, e12, v12, b12⟩ := h.b12
  have setTx : ∀ t : Int, applyV w s th kind obj wake = ({ s with tx := t }, 0) → ∀ D, Ok ((AHeap.wr H p7 1 [.int .i64 t]).bind fun H_7 => f41.K1 k p7 p12 0 D H_7) (Applied H0 (applyV w s th kind obj wake).1 (applyV w s th kind obj wake).2 true) := by
    intro t ea D
    rw [ea]
    refine ok_wr b7 rfl (by simp) fun H8 W8 => ?_
    have hO8 : OwnP N H8 aL lL cL aD lD cD aT lT cT ls { s with tx := t } := by
      have h := h.O.wrote W8 z2
      exact ⟨h.L, h.D, h.T, h.rd, h.locks, h.aLD, h.aLT, h.aDT, h.apL, h.apD, h.apT, h.apR⟩
    rw [f41.K1_eq]
    refine ok_bind (row_at W8.at' (by simp) (by simp [splice])) (ok_if ⟨rfl, rfl⟩ (ok_wr (b12.wrote W8 (Ne.symm z7)) rfl (by simp [splice]) fun H7 W7 => ok_bind (row_at W7.at' (by simp) (by simp [splice])) (Ok.ret ?_)))
    exact ⟨_, rfl, ⟨aL, lL, cL, aD, lD, cD, aT, lT, cT, ls, rfl, (hO8.wrote W7 z3).toP.mono fun _ h => Nat.le_trans z6 h⟩, (h.A.wrote W8 z4).wrote W7 z5⟩
  refine ok_bif (fun c => ?_) (fun g12 => ?_)
  · exact setTx th (by rw [beq_iff_eq] at c; subst c; rfl) _
  refine ok_bif (fun c => ?_) (fun g13 => ?_)
  · exact setTx (-1) (by rw [beq_iff_eq] at c; subst c; rfl) _
  refine ok_bif (fun c => ?_) (fun g14 => ?_)
  · rw [beq_iff_eq] at c; subst c
    exact ok_bSl (ldSl_at b7 (by simp) rfl) (ok_bind eT (ok_if (by omega) (mine_T (Lo.refl _ _) h.O hNn (i := th) hth (y := ⟨(thS s th).st, (thS s th).cd, true⟩) (by simp) (by simp) rfl eT fun H' ow lo k1 n1 => f41_K1 h lo ow rfl)))
  refine ok_bif (fun c => ?_) (fun g15 => ?_)
  · rw [beq_iff_eq] at c; subst c
    exact ok_bSl (ldSl_at b7 (by simp) rfl) (ok_bind eT (ok_if (by omega) (mine_T (Lo.refl _ _) h.O hNn (i := th) hth (y := ⟨(thS s th).st, (thS s th).cd, false⟩) (by simp) (by simp) rfl eT fun H' ow lo k1 n1 => f41_K1 h lo ow rfl)))
  refine ok_bif (fun c => ?_) (fun g16 => ?_)
  · have hm16 : inR obj w.mutex.length = true := mtx_named hn (by rw [beq_iff_eq] at c; omega)
    have ea : applyV w s th kind obj wake = (setTh (setLk s (mtx w obj) ⟨-1, (lkS s (mtx w obj)).rd⟩) th ⟨3, obj, (thS s th).at'⟩, 0) := by rw [beq_iff_eq] at c; subst c; rfl
    rw [ea]
    have r1 := inR_iff.1 hm16
    have Ab := agree_bump H 11
    obtain ⟨q2, eq2, hq2⟩ := (h.W.agree Ab).mt (i := obj) (by rw [e4]; exact hm16)
    have hmm := e5 _ hm16
    have r2 := inR_iff.1 hmm
    obtain ⟨q, eq⟩ := own_some h.O.L (by omega)
    refine ok_bift (sameB_agree b7 Ab) (ok_bSl (ldSl_at (b7.agree Ab) (by simp) rfl) (ok_bift (sameB_agree b6 Ab) (ok_bSl (ldSl_at (b6.agree Ab) (by simp) rfl) (ok_bind eq2 (ok_if (by omega) (ok_bift (h.W.N.1.stay eq2 _ Ab) (ok_bind hq2 (ok_bind eq (ok_if (by omega) ?_)))))))))
    refine mine_O (Ab.lo hNn) (h.O.agree Ab) (Nat.le_trans hNn Ab.next) (i := mtx w obj) (by rw [e1]; exact hmm) (-1) eq fun H' ls' ow lo k1 n1 => ?_
    have hN' : N ≤ H'.next := by rw [n1]; exact Nat.le_trans hNn Ab.next
    obtain ⟨H2, H3, w2, w3, o3, lo2, lo3⟩ := thread2 (n := 13) h lo hN' ow rfl rfl 3 obj eT
    have Ab' := agree_bump H' 13
    have bb := b7.lo lo z2
    have bb2 := b7.lo lo2 z2
    refine ok_bift (sameB_agree bb Ab') (ok_bSl (ldSl_at (bb.agree Ab') (by simp) rfl) (ok_bind eT (ok_if (by omega) (ok_bind w2 ?_))))
    exact ok_bift (sameB_at bb bb2 rfl) (ok_bSl (ldSl_at bb2 (by simp) rfl) (ok_bind eT (ok_if (by omega) (ok_bind w3 (f41_K1 h lo3 o3 rfl)))))
  refine ok_bif (fun c => ?_) (fun g17 => ?_)
  · have hm16 : inR obj w.mutex.length = true := mtx_named hn (by rw [beq_iff_eq] at c; omega)
    have ea : applyV w s th kind obj wake = (setTh (setLk s (mtx w obj) ⟨th, (lkS s (mtx w obj)).rd⟩) th ⟨2, 0, (thS s th).at'⟩, 0) := by rw [beq_iff_eq] at c; subst c; rfl
    rw [ea]
    have r1 := inR_iff.1 hm16
    have Ab := agree_bump H 12
    obtain ⟨q2, eq2, hq2⟩ := (h.W.agree Ab).mt (i := obj) (by rw [e4]; exact hm16)
    have hmm := e5 _ hm16
    have r2 := inR_iff.1 hmm
    obtain ⟨q, eq⟩ := own_some h.O.L (by omega)
    refine ok_bift (sameB_agree b7 Ab) (ok_bSl (ldSl_at (b7.agree Ab) (by simp) rfl) (ok_bift (sameB_agree b6 Ab) (ok_bSl (ldSl_at (b6.agree Ab) (by simp) rfl) (ok_bind eq2 (ok_if (by omega) (ok_bift (h.W.N.1.stay eq2 _ Ab) (ok_bind hq2 (ok_bind eq (ok_if (by omega) ?_)))))))))
    refine mine_O (Ab.lo hNn) (h.O.agree Ab) (Nat.le_trans hNn Ab.next) (i := mtx w obj) (by rw [e1]; exact hmm) th eq fun H' ls' ow lo k1 n1 => ?_
    have hN' : N ≤ H'.next := by rw [n1]; exact Nat.le_trans hNn Ab.next
    obtain ⟨H2, H3, w2, w3, o3, lo2, lo3⟩ := thread2 (n := 12) h lo hN' ow rfl rfl 2 0 eT
    have Ab' := agree_bump H' 12
    have bb := b7.lo lo z2
    have bb2 := b7.lo lo2 z2
    refine ok_bift (sameB_agree bb Ab') (ok_bSl (ldSl_at (bb.agree Ab') (by simp) rfl) (ok_bind eT (ok_if (by omega) (ok_bind w2 ?_))))
    exact ok_bift (sameB_at bb bb2 rfl) (ok_bSl (ldSl_at bb2 (by simp) rfl) (ok_bind eT (ok_if (by omega) (ok_bind w3 (f41_K1 h lo3 o3 rfl)))))
  have r6 : H.row p7 0 4 = some [.slice aL lL cL, .int .i64 s.tx, .slice aD lD cD, .slice aT lT cT] := row_at b7 (by simp) (by simp)
  have hs7 : SyncR (N ≤ ·) H [.slice aL lL cL, .int .i64 s.tx, .slice aD lD cD, .slice aT lT cT] s := ⟨aL, lL, cL, aD, lD, cD, aT, lT, cT, ls, rfl, h.O.toP⟩
  have hwl' : (waitS s obj).length ≤ s.ths.length := waitFrom_len obj s.ths 0
  have ltw := h.W.t
  have hm : maxLen = 9223372036854775807 := rfl
  refine ok_bif (fun c => ?_) (fun g18 => ?_)
  · rw [beq_iff_eq] at c; subst c
    refine ok_bind r6 (ok_cSl (f77_spec (c := obj) (by omega) hs7 (by omega)) fun a l c' H2 hp => ?_)
    obtain ⟨o2, A2⟩ := hp
    have hl := o2.len
    have hO2 := h.O.agree A2
    have hN2 : N ≤ H2.next := Nat.le_trans hNn A2.next
    cases hws : waitS s obj with
    | nil =>
      rw [hws] at hl
      have hl0 : l = 0 := hl
      subst hl0
      have ea : applyV w s th 18 obj wake = (s, -1) := by
        show (bif (waitS s obj).isEmpty then (s, (-1 : Int)) else (wakeT s (wakeOne s obj wake), wakeOne s obj wake)) = _
        rw [hws]; rfl
      rw [ea]
      exact ok_biff rfl (f41_K1 h (A2.lo hNn) hO2 rfl)
    | cons u us =>
      have hu : u ∈ waitS s obj := by rw [hws]; simp
      have hlp : l = us.length + 1 := by rw [hws] at hl; exact hl
      obtain ⟨q, x, hx, eq, hq⟩ := Ints.at o2.ints (i := 0) (by omega)
      rw [hws] at hx
      have hxu : x = u := (Option.some.inj hx).symm
      subst hxu
      have ea : applyV w s th 18 obj wake = (wakeT s (bif hasI (waitS s obj) wake then wake else x), (bif hasI (waitS s obj) wake then wake else x)) := by
        show (bif (waitS s obj).isEmpty then (s, (-1 : Int)) else (wakeT s (wakeOne s obj wake), wakeOne s obj wake)) = _
        unfold wakeOne
        rw [hws]; rfl
      rw [ea]
      refine ok_bift (by simp only [decide_eq_true_eq]; omega) (ok_bind eq (ok_if (by omega) (ok_bind hq (ok_cB0 (f78_spec o2.ints (by omega) (by omega) wake) (ok_bif (fun hb => ?_) (fun hb => ?_))))))
      · rw [hb]
        have hin : inR wake lT = true := by rw [lTl]; exact waitS_mem (hasI_iff.1 hb)
        have hr := inR_iff.1 hin
        exact ok_bSl (ldSl_at (b7.agree A2) (by simp) rfl) (ok_bind eT (ok_if (by omega) (mine_T (A2.lo hNn) hO2 hN2 (i := wake) hin (y := ⟨4, (thS s wake).cd, (thS s wake).at'⟩) (by simp) (by simp) rfl eT fun H' ow lo k1 n1 => f41_K1 h lo ow rfl)))
      · rw [hb]
        have hin : inR x lT = true := by rw [lTl]; exact waitS_mem hu
        have hr := inR_iff.1 hin
        exact ok_bSl (ldSl_at (b7.agree A2) (by simp) rfl) (ok_bind eT (ok_if (by omega) (mine_T (A2.lo hNn) hO2 hN2 (i := x) hin (y := ⟨4, (thS s x).cd, (thS s x).at'⟩) (by simp) (by simp) rfl eT fun H' ow lo k1 n1 => f41_K1 h lo ow rfl)))
  refine ok_bif (fun c => ?_) (fun g19 => ?_)
  · rw [beq_iff_eq] at c; subst c
    refine ok_bind r6 (ok_cSl (f77_spec (c := obj) (by omega) hs7 (by omega)) fun a l c' H8 hp => ?_)
    obtain ⟨o8, A8⟩ := hp
    have hl := o8.len
    have ea : applyV w s th 19 obj wake = ((waitS s obj).foldl wakeT s, (l : Int)) := by rw [hl]; rfl
    rw [ea]
    have ob8 := o8.block
    have bt := Cells.below h.O.T.cells
    have n8 := A8.next
    have h8 : Aft F N H0 H8 p6 p7 p12 a0 l0 c0 a1 l1 c1 a2 l2 c2 a3 l3 c3 a4 l4 c4 a5 l5 c5 ks cs w aL lL cL aD lD cD aT lT cT ls s th :=
      ⟨h.A.trans A8, h.W.agree A8, h.O.agree A8, h.b.agree A8, ⟨y0, y1, y2, y3, _, _, b12.agree A8⟩, h.fit, h.th, h.rd, h.z, by omega⟩
    have key := fun D => f41_loop (k := k) (c := c') h8 o8.ints (by omega) (fun u hu => by rw [lTl]; exact waitS_mem hu) (fun q q' e e' => by have := ob8 q e; have := bt q' e'; omega) l 0 k s H8 D (by omega) (by omega) (Lo.refl _ _) (by omega) o8.ints (h.O.agree A8) rfl lTl.symm
    exact key _
  refine ok_bif (fun c => ?_) (fun g20 => ?_)
  · rw [beq_iff_eq] at c; subst c
    have ho : inR obj w.threads = true := hn
    have ho' : inR obj lT = true := by rw [e3]; exact ho
    have r := inR_iff.1 ho'
    exact ok_bSl (ldSl_at b7 (by simp) rfl) (ok_bind eT (ok_if (by omega) (mine_T (Lo.refl _ _) h.O hNn (i := obj) ho' (y := ⟨1, (thS s obj).cd, (thS s obj).at'⟩) (by simp) (by simp) rfl eT fun H' ow lo k1 n1 => f41_K1 h lo ow rfl)))
  refine ok_bif (fun c => ?_) (fun g22 => ?_)
  · rw [beq_iff_eq] at c; subst c
    have ho : inR obj w.futures = true := hn
    have ho' : inR obj lD = true := by rw [e2]; exact ho
    have r := inR_iff.1 ho'
    obtain ⟨qD, H', eD, hwr, ow, k1, n1⟩ := h.O.setD (i := obj) ho' true
    exact ok_bSl (ldSl_at b7 (by simp) rfl) (ok_bind eD (ok_if (by omega) (ok_bind hwr (f41_K1 h (k1.lo hNn h.O.D.block) ow rfl))))
  have ea : applyV w s th kind obj wake = (s, 0) := by
    unfold applyV ownS
    rw [g18, g19, g12, g13, g20, g22, g1, g2, g14, g15, g6, ← hb, g8, g9, g16, g17]
    rfl
  rw [ea]
  exact f41_K1 h (Lo.refl _ _) h.O rfl
theorem f41_K2 (hk : 1300 ≤ k) {H : AHeap} (hF : ∀ i, H.next ≤ i → H.get i = none) (h : Aft F N H0 H p6 p7 p12 a0 l0 c0 a1 l1 c1 a2 l2 c2 a3 l3 c3 a4 l4 c4 a5 l5 c5 ks cs w aL lL cL aD lD cD aT lT cT ls s th) {kind : Int} (hn : namedS w kind obj = true) (D : List Value) (b : Bool)
    (hb : b = (kind == 6 || kind == 10)) (g1 : (kind == 1) = false) (g2 : (kind == 2) = false) :
    Ok (f41.K2 k th obj wake p6 p7 p12 0 kind b D H) (Applied H0 (applyV w s th kind obj wake).1 (applyV w s th kind obj wake).2 true) := by
  obtain ⟨e1, e2, e3, e4, e5⟩ := h.lens
  obtain ⟨e', v', b7⟩ := h.b.b3
  rw [f41.K2_eq]
  refine ok_bif (fun hc => ?_) (fun hc => ?_)
  · have hkd : kind = 6 ∨ kind = 10 := by rw [hc] at hb; have hb := hb.symm; simp only [Bool.or_eq_true, beq_iff_eq] at hb; exact hb
    have ho : inR obj w.rw.length = true := by rcases hkd with rfl | rfl <;> exact and_l (b := _) hn
    have ro := inR_iff.1 ho
    obtain ⟨q, eq⟩ := own_some h.O.L (by omega)
    have ea : applyV w s th kind obj wake = (setLk s obj ⟨th, (lkS s obj).rd⟩, 0) := by rcases hkd with rfl | rfl <;> rfl
    rw [ea]
    exact ok_bSl (ldSl_at b7 (by simp) rfl) (ok_bind eq (ok_if (by omega) (mine_O (Lo.refl _ _) h.O h.nn (i := obj) (by rw [e1]; exact ho) th eq fun H' ls' ow lo k1 n1 => f41_K1 h lo ow rfl)))
  rw [hc] at hb
  refine ok_bif (fun c => ?_) (fun g7 => ?_)
  · exact f41_K3 hk hF h hn _ _ (by rw [c]; rfl) g1 g2 hb.symm
  · exact f41_K3 hk hF h hn _ _ (by rw [g7]; rfl) g1 g2 hb.symm
end
/-- interleaveref08.Apply -/
theorem f41_spec {k : Nat} (hk : 1400 ≤ k) {F G : Nat → Prop} {H : AHeap} (hF : ∀ i, H.next ≤ i → H.get i = none) {wc sc : List Value} {w : Wld} {s : SyncS} (hw : WorldR F H wc w) (hs : SyncR G H sc s) (hr : ∀ x ∈ s.locks, x.rd.length ≤ 11) (th kind obj wake : Int) :
    Ok (C k 41 [.agg wc.toArray, .agg sc.toArray, .int .i64 th, .int .i64 kind, .int .i64 obj, .int .i64 wake] H) (Applied H (applyR w s th kind obj wake).1 (applyR w s th kind obj wake).2.1 (applyR w s th kind obj wake).2.2) := by
  obtain ⟨k, rfl⟩ : ∃ j, k = j + 1 := ⟨k - 1, by omega⟩
  have hw0 := hw
  have hs0 := hs
  have hr1000 : ∀ x ∈ s.locks, x.rd.length ≤ 1000 := fun x hx => Nat.le_trans (hr x hx) (by omega)
  obtain ⟨a0, l0, c0, a1, l1, c1, a2, l2, c2, a3, l3, c3, a4, l4, c4, a5, l5, c5, ks, cs, rfl, hw⟩ := hw
  obtain ⟨aL, lL, cL, aD, lD, cD, aT, lT, cT, ls, rfl, hs⟩ := hs
  rw [f41_eq]
  refine ok_al fun i H1 hi n1 A1 B1 => ok_al fun i' H2 hi' n2 A2 B2 => ok_al fun i'' H3 hi'' n3 A3 B3 => ?_
  have A03 := (A1.trans A2).trans A3
  have B1' := (B1.agree A2).agree A3
  have B2' := B2.agree A3
  have rw5 : ∀ H', Agree H3 H' → H'.row i 0 6 = some [.slice a0 l0 c0, .slice a1 l1 c1, .slice a2 l2 c2, .slice a3 l3 c3, .slice a4 l4 c4, .slice a5 l5 c5] := fun H' A => row_at (B1'.agree A) (by simp) (by simp)
  have rw6 : ∀ H', Agree H3 H' → H'.row i' 0 4 = some [.slice aL lL cL, .int .i64 s.tx, .slice aD lD cD, .slice aT lT cT] := fun H' A => row_at (B2'.agree A) (by simp) (by simp)
  have hk1 : 1300 ≤ k := by omega
  unfold applyR
  refine ok_bind (rw5 _ (Agree.refl _)) (ok_bind (rw6 _ (Agree.refl _)) (ok_cB (f73_spec hk1 (hw0.agree A03) (hs0.agree A03) hr1000 th kind obj) fun H4 A4 => ok_bif (fun c => ?_) (fun c => ?_)))
  · have he : enabledS w s th kind obj = false := by simpa using c
    rw [he]
    refine ok_wr (B3.agree A4) rfl (by simp) fun H5 W5 => ok_bind (row_at W5.at' (by simp) (by simp [splice])) (Ok.ret ?_)
    exact ⟨_, rfl, zeroR _ _, (A03.trans A4).wrote W5 (by omega)⟩
  have he : enabledS w s th kind obj = true := by simpa using c
  rw [he]
  show Ok _ (Applied H (applyV w s th kind obj wake).1 (applyV w s th kind obj wake).2 true)
  have hfit : fitsS w s = true := and_l he
  have hth : inR th w.threads = true := and_l (and_r he)
  have hn : namedS w kind obj = true := and_l (and_r (and_r he))
  obtain ⟨ff1, ff2, ff3, ff4⟩ := fits_facts hfit
  have hbig := hw.big
  have lK := hw.lenK'
  have lf := hw.f
  have lt := hw.t
  refine ok_bind (rw6 _ A4) ?_
  refine ok_cGs (f74_spec (k := k) (F := G) (s := s) (by omega) ((A03.trans A4).fresh hF) (hs0.agree (A03.trans A4)) (by omega) (by omega) (by omega) hr1000) fun cs' v H6 hp => ?_
  obtain ⟨⟨bL, mL, dL, bD, mD, dD, bT, mT, dT, ms, rfl, hO⟩, A6⟩ := hp
  replace A6 : Agree H4 H6 := A6
  replace hO : OwnP H4.next H6 bL mL dL bD mD dD bT mT dT ms s := hO
  have A36 := A4.trans A6
  have n4 := A4.next
  have A06 := A03.trans A36
  refine ok_if ⟨rfl, rfl⟩ (ok_wr (B2'.agree A36) rfl (by simp) fun H7 W7 => ?_)
  have A07 : Agree H H7 := A06.wrote W7 (by omega)
  have hO7 := hO.wrote W7 (show i' < H4.next by omega)
  have b12 := (B3.agree A36).wrote W7 (show i'' ≠ i' by omega)
  have b5 := (B1'.agree A36).wrote W7 (show i ≠ i' by omega)
  have n7 := W7.next
  have n6 := A6.next
  have h : Aft F H4.next H H7 i i' i'' a0 l0 c0 a1 l1 c1 a2 l2 c2 a3 l3 c3 a4 l4 c4 a5 l5 c5 ks cs w bL mL dL bD mD dD bT mT dT ms s th :=
    ⟨A07, hw.agree A07, hO7, ⟨⟨_, _, b5⟩, ⟨_, _, W7.at'⟩⟩, ⟨_, _, _, _, _, _, b12⟩, hfit, hth, rd_le hO7.toP hr, by omega, by omega⟩
  have b7 := W7.at'
  obtain ⟨e1, e2, e3, e4, e5⟩ := h.lens
  have hthT : inR th mT = true := by rw [e3]; exact hth
  have rt := inR_iff.1 hthT
  obtain ⟨qT, eT⟩ := own_some hO7.T (by omega)
  refine ok_bif (fun c => ?_) (fun g1 => ?_)
  · rw [beq_iff_eq] at c; subst c
    exact ok_bSl (ldSl_at b7 (by simp) rfl) (ok_bind eT (ok_if (by omega) (mine_T (Lo.refl _ _) hO7 h.nn (i := th) hthT (y := ⟨2, (thS s th).cd, (thS s th).at'⟩) (by simp) (by simp) rfl eT fun H' ow lo k1 n1 => f41_K1 h lo ow rfl)))
  refine ok_bif (fun c => ?_) (fun g2 => ?_)
  · rw [beq_iff_eq] at c; subst c
    exact ok_bSl (ldSl_at b7 (by simp) rfl) (ok_bind eT (ok_if (by omega) (mine_T (Lo.refl _ _) hO7 h.nn (i := th) hthT (y := ⟨5, (thS s th).cd, (thS s th).at'⟩) (by simp) (by simp) rfl eT fun H' ow lo k1 n1 => f41_K1 h lo ow rfl)))
  refine ok_bif (fun c => ?_) (fun g6 => ?_)
  · exact f41_K2 hk1 (A07.fresh hF) h hn _ _ (by rw [c]; rfl) g1 g2
  · exact f41_K2 hk1 (A07.fresh hF) h hn _ _ (by rw [g6]; rfl) g1 g2
end Go.Proofs.MxF
end

section
set_option linter.unusedSimpArgs false
/- Which states are reached in the world of the laws. -/
set_option linter.unusedVariables false
namespace Go.Proofs.MxF
open Go Go.Mx Go.Proofs
/-- the world of the laws -/
def w0 : Wld := ⟨1, [false, false, true], [0], 1, 3⟩
structure LkI (i : Int) (l : LockS) : Prop where
  lo : -1 ≤ l.own
  hi : l.own < 3
  ex : 0 ≤ l.own → l.rd = []
  norw : i ≠ 2 → l.rd = []
  str : Strict l.rd
  mem : ∀ r ∈ l.rd, inR r 3 = true
structure ThI (s : SyncS) (i : Int) (t : ThS) : Prop where
  lo : 0 ≤ t.st
  hi : t.st ≤ 5
  cd : t.cd = 0
  wt : t.st = 3 ∨ t.st = 4 → (lkS s 0).own ≠ i
  nw : t.st = 0 ∨ t.st = 1 → (∀ j, inR j 3 = true → (lkS s j).own ≠ i ∧ i ∉ (lkS s j).rd) ∧ s.tx ≠ i ∧ t.at' = false
structure InvS (s : SyncS) : Prop where
  nl : s.locks.length = 3
  nt : s.ths.length = 3
  nd : s.done.length = 1
  lk : ∀ i, inR i 3 = true → LkI i (lkS s i)
  th : ∀ i, inR i 3 = true → ThI s i (thS s i)
  tlo : -1 ≤ s.tx
  thi : s.tx < 3

theorem inR_eq {i j : Int} {n : Nat} (hi : inR i n = true) (hj : inR j n = true) (h : i.toNat = j.toNat) : i = j := by
  have := inR_iff.1 hi
  have := inR_iff.1 hj
  omega
theorem lkS_setLk {s : SyncS} {i j : Int} {y : LockS} (hn : s.locks.length = 3) (hi : inR i 3 = true) (hj : inR j 3 = true) : lkS (setLk s i y) j = if i = j then y else lkS s j := by
  unfold lkS setLk
  have := inR_iff.1 hi
  rw [List.getD_eq_getElem?_getD, List.getD_eq_getElem?_getD, List.getElem?_set]
  split
  · rename_i e
    rw [if_pos (inR_eq hi hj e), if_pos (by omega)]; rfl
  · rename_i e
    rw [if_neg (fun h => e (by rw [h]))]
theorem thS_setTh {s : SyncS} {i j : Int} {y : ThS} (hn : s.ths.length = 3) (hi : inR i 3 = true) (hj : inR j 3 = true) : thS (setTh s i y) j = if i = j then y else thS s j := by
  unfold thS setTh
  have := inR_iff.1 hi
  rw [List.getD_eq_getElem?_getD, List.getD_eq_getElem?_getD, List.getElem?_set]
  split
  · rename_i e
    rw [if_pos (inR_eq hi hj e), if_pos (by omega)]; rfl
  · rename_i e
    rw [if_neg (fun h => e (by rw [h]))]
theorem lkS_setTh {s : SyncS} {i j : Int} {y : ThS} : lkS (setTh s i y) j = lkS s j := rfl
theorem thS_setLk {s : SyncS} {i j : Int} {y : LockS} : thS (setLk s i y) j = thS s j := rfl

/-- a thread is set -/
theorem inv_setTh {s : SyncS} {i : Int} {y : ThS} (h : InvS s) (hi : inR i 3 = true) (hy : ThI s i y) : InvS (setTh s i y) := by
  refine ⟨h.nl, by rw [setTh_len]; exact h.nt, h.nd, h.lk, fun j hj => ?_, h.tlo, h.thi⟩
  rw [thS_setTh h.nt hi hj]
  split
  · rename_i e
    subst e
    exact ⟨hy.lo, hy.hi, hy.cd, hy.wt, hy.nw⟩
  · have := h.th j hj
    exact ⟨this.lo, this.hi, this.cd, this.wt, this.nw⟩
/-- a lock is set, by a thread that is neither new nor waits -/
theorem inv_setLk {s : SyncS} {i : Int} {y : LockS} (h : InvS s) (hi : inR i 3 = true) (hy : LkI i y)
    (hown : ∀ j, inR j 3 = true → y.own = j → (lkS s i).own = j ∨ ¬ ((thS s j).st = 0 ∨ (thS s j).st = 1) ∧ ¬ ((thS s j).st = 3 ∨ (thS s j).st = 4))
    (hrd : ∀ j, inR j 3 = true → j ∈ y.rd → j ∈ (lkS s i).rd ∨ ¬ ((thS s j).st = 0 ∨ (thS s j).st = 1)) : InvS (setLk s i y) := by
  refine ⟨by unfold setLk; rw [List.length_set]; exact h.nl, h.nt, h.nd, fun j hj => ?_, fun j hj => ?_, h.tlo, h.thi⟩
  · rw [lkS_setLk h.nl hi hj]
    split
    · rename_i e; subst e; exact hy
    · exact h.lk j hj
  · rw [thS_setLk]
    have ht := h.th j hj
    refine ⟨ht.lo, ht.hi, ht.cd, fun hw => ?_, fun hn => ⟨fun m hm => ?_, (ht.nw hn).2⟩⟩
    · rw [lkS_setLk h.nl hi (by decide)]
      split
      · rename_i e
        subst e
        intro e
        rcases hown j hj e with h1 | h1
        · exact ht.wt hw h1
        · exact h1.2 hw
      · exact ht.wt hw
    · rw [lkS_setLk h.nl hi hm]
      have := (ht.nw hn).1 m hm
      split
      · rename_i e
        subst e
        refine ⟨fun e => ?_, fun e => ?_⟩
        · rcases hown j hj e with h1 | h1
          · exact this.1 h1
          · exact h1.1 hn
        · rcases hrd j hj e with h1 | h1
          · exact this.2 h1
          · exact h1 hn
      · exact this
theorem inv_tx {s : SyncS} {t : Int} (h : InvS s) (h1 : -1 ≤ t) (h2 : t < 3) (h3 : ∀ j, inR j 3 = true → t = j → ¬ ((thS s j).st = 0 ∨ (thS s j).st = 1)) : InvS { s with tx := t } := by
  refine ⟨h.nl, h.nt, h.nd, h.lk, fun j hj => ?_, h1, h2⟩
  have ht := h.th j hj
  exact ⟨ht.lo, ht.hi, ht.cd, ht.wt, fun hn => ⟨(ht.nw hn).1, fun e => h3 j hj e hn, (ht.nw hn).2.2⟩⟩
theorem inv_done {s : SyncS} {d : List Bool} (h : InvS s) (h1 : d.length = 1) : InvS { s with done := d } :=
  ⟨h.nl, h.nt, h1, h.lk, fun j hj => by have ht := h.th j hj; exact ⟨ht.lo, ht.hi, ht.cd, ht.wt, ht.nw⟩, h.tlo, h.thi⟩
theorem inv_wakeAll {s : SyncS} (h : InvS s) : ∀ (us : List Int), (∀ u ∈ us, inR u 3 = true ∧ (thS s u).st = 3 ∨ (thS s u).st = 4 ∧ inR u 3 = true) → InvS (us.foldl wakeT s) := by
  intro us
  induction us generalizing s with
  | nil => intro _; exact h
  | cons u us ih =>
    intro hu
    rw [List.foldl_cons]
    have h0 := hu u (by simp)
    have hin : inR u 3 = true := by rcases h0 with h0 | h0; exact h0.1; exact h0.2
    have hst : (thS s u).st = 3 ∨ (thS s u).st = 4 := by rcases h0 with h0 | h0; exact .inl h0.2; exact .inr h0.1
    have ht := h.th u hin
    refine ih (inv_setTh h hin ⟨by show (0 : Int) ≤ 4; omega, by show (4 : Int) ≤ 5; omega, ht.cd, fun _ => ht.wt hst, fun e => by exfalso; revert e; show ¬ ((4 : Int) = 0 ∨ (4 : Int) = 1); omega⟩) fun v hv => ?_
    have hv0 := hu v (by simp [hv])
    have hvin : inR v 3 = true := by rcases hv0 with h0 | h0; exact h0.1; exact h0.2
    unfold wakeT
    rw [thS_setTh h.nt hin hvin]
    split
    · exact .inr ⟨rfl, hvin⟩
    · exact hv0
theorem waitS_st {s : SyncS} {c u : Int} (h : u ∈ waitS s c) : (thS s u).st = 3 ∧ (thS s u).cd = c := by
  have key : ∀ (ts : List ThS) (i : Nat), u ∈ waitFrom c ts i → ∃ t, ts[u.toNat - i]? = some t ∧ (i : Int) ≤ u ∧ t.st = 3 ∧ t.cd = c := by
    intro ts
    induction ts with
    | nil => intro i h; cases h
    | cons t ts ih =>
      intro i h
      unfold waitFrom at h
      rcases List.mem_append.1 h with h | h
      · split at h
        · rename_i hc
          rw [List.mem_singleton] at h
          subst h
          have h1 := beq_iff_eq.1 (and_l hc)
          have h2 := beq_iff_eq.1 (and_r hc)
          exact ⟨t, by simp, Int.le_refl _, h1, h2⟩
        · cases h
      · obtain ⟨t', h1, h2, h3, h4⟩ := ih (i + 1) h
        refine ⟨t', ?_, by omega, h3, h4⟩
        rw [show u.toNat - i = (u.toNat - (i + 1)) + 1 from by omega, List.getElem?_cons_succ]
        exact h1
  obtain ⟨t, h1, h2, h3, h4⟩ := key s.ths 0 h
  have : thS s u = t := by
    unfold thS
    rw [List.getD_eq_getElem?_getD, show u.toNat = u.toNat - 0 from rfl, h1]; rfl
  rw [this]
  exact ⟨h3, h4⟩
theorem strict_delI {t : Int} {xs : List Int} (h : Strict xs) : Strict (delI t xs) := h.filter _
end Go.Proofs.MxF
end

section
set_option linter.unusedSimpArgs false
/- What an event leaves is reached. -/
set_option linter.unusedVariables false
namespace Go.Proofs.MxF
open Go Go.Mx Go.Proofs
theorem named_lk {obj : Int} {kind : Int} (h : namedS w0 kind obj = true) (hk : kind = 6 ∨ kind = 7) : inR obj 3 = true ∧ obj ≠ 2 := by
  have h' : (inR obj 3 && !(([false, false, true] : List Bool).getD obj.toNat false)) = true := by rcases hk with rfl | rfl <;> exact h
  refine ⟨and_l h', fun e => ?_⟩
  subst e
  have := and_r h'
  revert this
  decide
theorem named_rw {obj : Int} {kind : Int} (h : namedS w0 kind obj = true) (hk : kind = 8 ∨ kind = 9 ∨ kind = 10 ∨ kind = 11) : obj = 2 := by
  have h' : (inR obj 3 && (([false, false, true] : List Bool).getD obj.toNat false)) = true := by rcases hk with rfl | rfl | rfl | rfl <;> exact h
  have h1 := inR_iff.1 (and_l h')
  have h2 := and_r h'
  have : obj = 0 ∨ obj = 1 ∨ obj = 2 := by omega
  rcases this with rfl | rfl | rfl
  · exact absurd h2 (by decide)
  · exact absurd h2 (by decide)
  · rfl
theorem named_cd {obj : Int} {kind : Int} (h : namedS w0 kind obj = true) (hk : kind = 16 ∨ kind = 17 ∨ kind = 18 ∨ kind = 19) : obj = 0 := by
  have h' : inR obj 1 = true := by rcases hk with rfl | rfl | rfl | rfl <;> exact h
  have := inR_iff.1 h'
  omega
theorem mtx0 : mtx w0 0 = 0 := by decide
theorem setI_mem_inR {xs : List Int} {t : Int} (h : ∀ r ∈ xs, inR r 3 = true) (ht : inR t 3 = true) : ∀ r ∈ setI (xs ++ [t]), inR r 3 = true := by
  intro r hr
  rw [mem_setI, List.mem_append, List.mem_singleton] at hr
  rcases hr with hr | rfl
  · exact h r hr
  · exact ht
theorem inv_apply {s : SyncS} {th kind obj wake : Int} (h : InvS s) (he : enabledS w0 s th kind obj = true) : InvS (applyV w0 s th kind obj wake).1 := by
  have hth : inR th 3 = true := and_l (and_r he)
  have hn : namedS w0 kind obj = true := and_l (and_r (and_r he))
  have hr : readyS w0 s th kind obj = true := and_r (and_r (and_r he))
  have ht := h.th th hth
  have rt := inR_iff.1 hth
  -- of a running thread
  have run : ∀ {k : Int}, k = kind → (k == 1) = false → (k == 17) = false → (thS s th).st = 2 ∧ runningS w0 s th k obj = true := by
    intro k e h1 h17
    subst e
    unfold readyS at hr
    rw [h1, h17] at hr
    have hr : (((thS s th).st == 2) && runningS w0 s th k obj) = true := hr
    exact ⟨beq_iff_eq.1 (and_l hr), and_r hr⟩
  have other : ∀ j, inR j 3 = true → th = j → (thS s th).st = 2 → ¬ ((thS s j).st = 0 ∨ (thS s j).st = 1) ∧ ¬ ((thS s j).st = 3 ∨ (thS s j).st = 4) := by
    intro j hj e h2
    subst e
    omega
  have same : ∀ {y : ThS}, y.st = 2 ∨ y.st = 5 → y.cd = 0 → ThI s th y := by
    intro y hy hc
    exact ⟨by omega, by omega, hc, fun e => by omega, fun e => by omega⟩
  rcases kinds kind with rfl | rfl | rfl | rfl | rfl | rfl | rfl | rfl | rfl | rfl | rfl | rfl | rfl | rfl | rfl | rfl | rfl | rfl | rfl | rfl | rfl | rfl | rfl | hne
  · exact inv_setTh h hth (same (.inl rfl) ht.cd)
  · exact inv_setTh h hth (same (.inr rfl) ht.cd)
  · exact h
  · exact h
  · exact h
  · obtain ⟨h2, hrun⟩ := run rfl rfl rfl
    obtain ⟨ho, hne⟩ := named_lk hn (.inl rfl)
    have hl := h.lk obj ho
    exact inv_setLk h ho ⟨by show -1 ≤ th; omega, by show th < 3; omega, fun _ => hl.norw hne, hl.norw, hl.str, hl.mem⟩ (fun j hj e => .inr (other j hj e h2)) (fun j hj e => .inl e)
  · obtain ⟨h2, hrun⟩ := run rfl rfl rfl
    obtain ⟨ho, hne⟩ := named_lk hn (.inr rfl)
    have hl := h.lk obj ho
    exact inv_setLk h ho ⟨by show (-1 : Int) ≤ -1; omega, by show (-1 : Int) < 3; omega, fun _ => hl.norw hne, hl.norw, hl.str, hl.mem⟩ (fun j hj e => by exfalso; have := inR_iff.1 hj; have e : (-1 : Int) = j := e; omega) (fun j hj e => .inl e)
  · obtain ⟨h2, hrun⟩ := run rfl rfl rfl
    obtain rfl := named_rw hn (.inl rfl)
    have ho : inR 2 3 = true := by decide
    have hl := h.lk 2 ho
    have hrun' : (((lkS s 2).own == -1) && !hasI (lkS s 2).rd th) = true := hrun
    have hown := beq_iff_eq.1 (and_l hrun')
    refine inv_setLk h ho ⟨hl.lo, hl.hi, fun e => by exfalso; have e : 0 ≤ (lkS s 2).own := e; omega, fun e => absurd rfl e, setI_strict _, setI_mem_inR hl.mem hth⟩ (fun j hj e => .inl e) (fun j hj e => ?_)
    have e : j ∈ setI ((lkS s 2).rd ++ [th]) := e
    rw [mem_setI, List.mem_append, List.mem_singleton] at e
    rcases e with e | e
    · exact .inl e
    · exact .inr (other j hj e.symm h2).1
  · obtain ⟨h2, hrun⟩ := run rfl rfl rfl
    obtain rfl := named_rw hn (.inr (.inl rfl))
    have ho : inR 2 3 = true := by decide
    have hl := h.lk 2 ho
    refine inv_setLk h ho ⟨hl.lo, hl.hi, fun e => ?_, fun e => absurd rfl e, strict_delI hl.str, fun r hr => hl.mem r (List.mem_filter.1 hr).1⟩ (fun j hj e => .inl e) (fun j hj e => .inl (List.mem_filter.1 e).1)
    show delI th (lkS s 2).rd = []
    rw [hl.ex e]; rfl
  · obtain ⟨h2, hrun⟩ := run rfl rfl rfl
    obtain rfl := named_rw hn (.inr (.inr (.inl rfl)))
    have ho : inR 2 3 = true := by decide
    have hl := h.lk 2 ho
    have hrun' : (((lkS s 2).own == -1) && (((lkS s 2).rd.length : Int) == 0)) = true := hrun
    have hlen := beq_iff_eq.1 (and_r hrun')
    have hnil : (lkS s 2).rd = [] := List.eq_nil_of_length_eq_zero (by omega)
    exact inv_setLk h ho ⟨by show -1 ≤ th; omega, by show th < 3; omega, fun _ => hnil, hl.norw, hl.str, hl.mem⟩ (fun j hj e => .inr (other j hj e h2)) (fun j hj e => .inl e)
  · obtain ⟨h2, hrun⟩ := run rfl rfl rfl
    obtain rfl := named_rw hn (.inr (.inr (.inr rfl)))
    have ho : inR 2 3 = true := by decide
    have hl := h.lk 2 ho
    have hrun' : ((lkS s 2).own == th) = true := hrun
    have hown := beq_iff_eq.1 hrun'
    have hnil : (lkS s 2).rd = [] := hl.ex (by omega)
    exact inv_setLk h ho ⟨by show (-1 : Int) ≤ -1; omega, by show (-1 : Int) < 3; omega, fun _ => hnil, hl.norw, hl.str, hl.mem⟩ (fun j hj e => by exfalso; have := inR_iff.1 hj; have e : (-1 : Int) = j := e; omega) (fun j hj e => .inl e)
  · obtain ⟨h2, hrun⟩ := run rfl rfl rfl
    exact inv_tx h (by omega) (by omega) fun j hj e => (other j hj e h2).1
  · exact inv_tx h (by omega) (by omega) fun j hj e => by exfalso; have := inR_iff.1 hj; omega
  · obtain ⟨h2, hrun⟩ := run rfl rfl rfl
    exact inv_setTh h hth (same (.inl h2) ht.cd)
  · obtain ⟨h2, hrun⟩ := run rfl rfl rfl
    exact inv_setTh h hth (same (.inl h2) ht.cd)
  · obtain ⟨h2, hrun⟩ := run rfl rfl rfl
    obtain rfl := named_cd hn (.inl rfl)
    have ho : inR 0 3 = true := by decide
    have hl := h.lk 0 ho
    have h0 : InvS (setLk s (mtx w0 0) ⟨-1, (lkS s (mtx w0 0)).rd⟩) := by
      rw [mtx0]
      exact inv_setLk h ho ⟨by show (-1 : Int) ≤ -1; omega, by show (-1 : Int) < 3; omega, fun _ => hl.norw (by decide), hl.norw, hl.str, hl.mem⟩ (fun j hj e => by exfalso; have := inR_iff.1 hj; have e : (-1 : Int) = j := e; omega) (fun j hj e => .inl e)
    refine inv_setTh h0 hth ⟨by show (0 : Int) ≤ 3; omega, by show (3 : Int) ≤ 5; omega, rfl, fun _ => ?_, fun e => by exfalso; have e : (3 : Int) = 0 ∨ (3 : Int) = 1 := e; omega⟩
    rw [mtx0, lkS_setLk h.nl ho ho, if_pos rfl]
    show (-1 : Int) ≠ th
    omega
  · obtain rfl := named_cd hn (.inr (.inl rfl))
    have hr' : (((thS s th).st == 4) && (((thS s th).cd == 0) && ((lkS s (mtx w0 0)).own == -1))) = true := hr
    have h4 := beq_iff_eq.1 (and_l hr')
    have hown := beq_iff_eq.1 (and_r (and_r hr'))
    rw [mtx0] at hown
    have ho : inR 0 3 = true := by decide
    have hl := h.lk 0 ho
    -- the thread first, then the lock
    have h1 : InvS (setTh s th ⟨2, 0, (thS s th).at'⟩) := inv_setTh h hth (same (.inl rfl) rfl)
    have h2 : InvS (setLk (setTh s th ⟨2, 0, (thS s th).at'⟩) 0 ⟨th, (lkS s 0).rd⟩) := by
      refine inv_setLk h1 ho ⟨by show -1 ≤ th; omega, by show th < 3; omega, fun _ => hl.norw (by decide), hl.norw, hl.str, hl.mem⟩ (fun j hj e => .inr ?_) (fun j hj e => .inl e)
      have e : th = j := e
      subst e
      rw [thS_setTh h.nt hth hth, if_pos rfl]
      exact ⟨by show ¬ ((2 : Int) = 0 ∨ (2 : Int) = 1); omega, by show ¬ ((2 : Int) = 3 ∨ (2 : Int) = 4); omega⟩
    have e : (applyV w0 s th 17 0 wake).1 = setLk (setTh s th ⟨2, 0, (thS s th).at'⟩) 0 ⟨th, (lkS s 0).rd⟩ := by
      show setTh (setLk s (mtx w0 0) ⟨th, (lkS s (mtx w0 0)).rd⟩) th ⟨2, 0, (thS s th).at'⟩ = _
      rw [mtx0]; rfl
    rw [e]
    exact h2
  · have e : (applyV w0 s th 18 obj wake).1 = (bif (waitS s obj).isEmpty then s else wakeT s (wakeOne s obj wake)) := by
      show (bif (waitS s obj).isEmpty then (s, (-1 : Int)) else (wakeT s (wakeOne s obj wake), wakeOne s obj wake)).1 = _
      cases (waitS s obj).isEmpty <;> rfl
    rw [e]
    cases hw : waitS s obj with
    | nil => exact h
    | cons u us =>
      have hmem : wakeOne s obj wake ∈ waitS s obj := by
        unfold wakeOne
        cases hb : hasI (waitS s obj) wake
        · rw [hw]; simp
        · exact hasI_iff.1 hb
      have hin := waitS_mem hmem
      rw [h.nt] at hin
      have := inv_wakeAll h [wakeOne s obj wake] (fun u hu => by rw [List.mem_singleton] at hu; subst hu; exact .inl ⟨hin, (waitS_st hmem).1⟩)
      exact this
  · exact inv_wakeAll h (waitS s obj) fun u hu => .inl ⟨by have := waitS_mem hu; rw [h.nt] at this; exact this, (waitS_st hu).1⟩
  · obtain ⟨h2, hrun⟩ := run rfl rfl rfl
    have ho : inR obj 3 = true := hn
    have hrun' : ((obj != th) && ((thS s obj).st == 0)) = true := hrun
    have h0 := beq_iff_eq.1 (and_r hrun')
    have hto := h.th obj ho
    exact inv_setTh h ho ⟨by show (0 : Int) ≤ 1; omega, by show (1 : Int) ≤ 5; omega, hto.cd, fun e => by exfalso; have e : (1 : Int) = 3 ∨ (1 : Int) = 4 := e; omega, fun _ => hto.nw (.inl h0)⟩
  · exact h
  · exact inv_done h (by rw [List.length_set]; exact h.nd)
  · exact h
  · exfalso
    have : namedS w0 kind obj = false := by
      unfold namedS
      rw [hne 1 (by decide), hne 2 (by decide), hne 3 (by decide), hne 4 (by decide), hne 5 (by decide), hne 6 (by decide), hne 7 (by decide), hne 8 (by decide), hne 9 (by decide), hne 10 (by decide), hne 11 (by decide), hne 12 (by decide), hne 13 (by decide), hne 14 (by decide), hne 15 (by decide), hne 16 (by decide), hne 17 (by decide), hne 18 (by decide), hne 19 (by decide), hne 20 (by decide), hne 21 (by decide), hne 22 (by decide), hne 23 (by decide)]
      rfl
    rw [this] at hn
    cases hn
theorem inv_start : InvS (startS 3 1 3) := by
  have ex : ∀ i, inR i 3 = true → i = 0 ∨ i = 1 ∨ i = 2 := fun i hi => by have := inR_iff.1 hi; omega
  refine ⟨rfl, rfl, rfl, fun i hi => ?_, fun i hi => ?_, by decide, by decide⟩
  · have e : lkS (startS 3 1 3) i = ⟨-1, []⟩ := by rcases ex i hi with rfl | rfl | rfl <;> rfl
    rw [e]
    exact ⟨by decide, by decide, fun _ => rfl, fun _ => rfl, .nil, fun r hr => by cases hr⟩
  · have hl : ∀ j, inR j 3 = true → lkS (startS 3 1 3) j = ⟨-1, []⟩ := fun j hj => by rcases ex j hj with rfl | rfl | rfl <;> rfl
    have e : thS (startS 3 1 3) i = ⟨1, 0, false⟩ ∨ thS (startS 3 1 3) i = ⟨0, 0, false⟩ := by
      rcases ex i hi with rfl | rfl | rfl
      · exact .inl rfl
      · exact .inr rfl
      · exact .inr rfl
    have ri := inR_iff.1 hi
    have nw : (∀ j, inR j 3 = true → (lkS (startS 3 1 3) j).own ≠ i ∧ i ∉ (lkS (startS 3 1 3) j).rd) ∧ (startS 3 1 3).tx ≠ i := by
      refine ⟨fun j hj => ?_, ?_⟩
      · rw [hl j hj]
        exact ⟨by show (-1 : Int) ≠ i; omega, by simp⟩
      · show (-1 : Int) ≠ i; omega
    rcases e with e | e <;> rw [e]
    · exact ⟨by decide, by decide, rfl, fun e => by exfalso; have e : (1 : Int) = 3 ∨ (1 : Int) = 4 := e; omega, fun _ => ⟨nw.1, nw.2, rfl⟩⟩
    · exact ⟨by decide, by decide, rfl, fun e => by exfalso; have e : (0 : Int) = 3 ∨ (0 : Int) = 4 := e; omega, fun _ => ⟨nw.1, nw.2, rfl⟩⟩
theorem strict_len' : ∀ {zs xs : List Int}, Strict zs → (∀ v, v ∈ zs → v ∈ xs) → zs.length ≤ xs.length := by
  intro zs
  induction zs with
  | nil => intro xs _ _; simp
  | cons z zs ih =>
    intro xs h hs
    rw [Strict, List.pairwise_cons] at h
    have hz := hs z (by simp)
    have := ih (xs := xs.erase z) h.2 (fun v hv => by
      have hne : v ≠ z := by have := h.1 v hv; omega
      exact (List.mem_erase_of_ne hne).2 (hs v (List.mem_cons_of_mem _ hv)))
    rw [List.length_erase_of_mem hz] at this
    have : 0 < xs.length := List.length_pos_of_mem hz
    simp
    omega
theorem inv_rd {s : SyncS} (h : InvS s) : ∀ x ∈ s.locks, x.rd.length ≤ 3 := by
  intro x hx
  obtain ⟨i, hi⟩ := List.getElem?_of_mem hx
  have hlt := (List.getElem?_eq_some_iff.1 hi).1
  have hin : inR (i : Int) 3 = true := by rw [inR_iff, ← h.nl]; omega
  have hl := h.lk (i : Int) hin
  have e : lkS s (i : Int) = x := by unfold lkS; rw [List.getD_eq_getElem?_getD, Int.toNat_natCast, hi]; rfl
  rw [e] at hl
  have := strict_len' hl.str (xs := [0, 1, 2]) (fun v hv => by have := inR_iff.1 (hl.mem v hv); simp; omega)
  exact this
end Go.Proofs.MxF
end

section
set_option linter.unusedSimpArgs false
/- The world of the laws; the states that are reached. -/
set_option linter.unusedVariables false
namespace Go.Mx
open Go
theorem ok_cTs {R : Type} {Q : R → Prop} {X : Option (Value × AHeap)} {K : Array Value → AHeap → Option R} {P : Value × AHeap → Prop} (h : Ok X P) (k : ∀ v H', P (v, H') → ∃ g : List Value, v = .tuple g.toArray ∧ Ok (K g.toArray H') Q) : Ok (cT X K) Q := by
  obtain ⟨⟨v, H'⟩, e, hp⟩ := h
  obtain ⟨g, rfl, hk⟩ := k v H' hp
  unfold cT
  rw [e]
  exact hk
theorem ok_exI {R : Type} {Q : R → Prop} {X : Option Value} {κ : IntKind} {K : Int → Option R} {n : Int} (h : X = some (.int κ n)) (k : Ok (K n) Q) : Ok (exI κ X K) Q := by
  subst h
  unfold exI asI
  simpa using k
end Go.Mx
namespace Go.Proofs.MxF
open Go Go.Mx Go.Proofs
theorem CellsF.below {F : Nat → Prop} {H : AHeap} {a : Option Addr} {n : Nat} {cs : List Value} (h : CellsF F H a n cs) : CellsF (fun j => F j ∧ j < H.next) H a n cs := ⟨h.1, fun q e => ⟨h.2 q e, Cells.below h.1 q e⟩⟩
theorem SyncR.below {F : Nat → Prop} {H : AHeap} {cs : List Value} {s : SyncS} (h : SyncR F H cs s) : SyncR (fun j => F j ∧ j < H.next) H cs s := by
  obtain ⟨aL, lL, cL, aD, lD, cD, aT, lT, cT, ls, e, h⟩ := h
  exact ⟨aL, lL, cL, aD, lD, cD, aT, lT, cT, ls, e, ⟨CellsF.below h.L, CellsF.below h.D, CellsF.below h.T, h.locks, fun x hx => CellsF.below (h.rd x hx)⟩⟩
theorem SyncR.len {F : Nat → Prop} {H : AHeap} {cs : List Value} {s : SyncS} (h : SyncR F H cs s) : cs.length = 4 ∧ notTup (.agg cs.toArray) = true := by
  obtain ⟨aL, lL, cL, aD, lD, cD, aT, lT, cT, ls, rfl, h⟩ := h
  exact ⟨rfl, rfl⟩
theorem WorldR.mono {F G : Nat → Prop} {H : AHeap} {wc : List Value} {w : Wld} (h : WorldR F H wc w) (k : ∀ i, F i → G i) : WorldR G H wc w := by
  obtain ⟨a0, l0, c0, a1, l1, c1, a2, l2, c2, a3, l3, c3, a4, l4, c4, a5, l5, c5, ks, cs, e, h⟩ := h
  exact ⟨a0, l0, c0, a1, l1, c1, a2, l2, c2, a3, l3, c3, a4, l4, c4, a5, l5, c5, ks, cs, e, ⟨h.c, h.K.mono k, h.kq, h.N.mono k, h.cq, h.f, h.t, h.big⟩⟩
theorem WorldR.below {F : Nat → Prop} {H : AHeap} {wc : List Value} {w : Wld} (h : WorldR F H wc w) : WorldR (fun j => F j ∧ j < H.next) H wc w := by
  obtain ⟨a0, l0, c0, a1, l1, c1, a2, l2, c2, a3, l3, c3, a4, l4, c4, a5, l5, c5, ks, cs, e, h⟩ := h
  exact ⟨a0, l0, c0, a1, l1, c1, a2, l2, c2, a3, l3, c3, a4, l4, c4, a5, l5, c5, ks, cs, e, ⟨h.c, CellsF.below h.K, h.kq, CellsF.below h.N, h.cq, h.f, h.t, h.big⟩⟩
theorem WorldR.len {F : Nat → Prop} {H : AHeap} {wc : List Value} {w : Wld} (h : WorldR F H wc w) : wc.length = 6 ∧ notTup (.agg wc.toArray) = true := by
  obtain ⟨a0, l0, c0, a1, l1, c1, a2, l2, c2, a3, l3, c3, a4, l4, c4, a5, l5, c5, ks, cs, rfl, h⟩ := h
  exact ⟨rfl, rfl⟩
/-- world() -/
theorem f36_spec {k : Nat} (hk : 1 ≤ k) (H : AHeap) : Ok (C k 36 [] H) fun r => ∃ cs, r.1 = .agg (cs : List Value).toArray ∧ WorldR (H.next ≤ ·) r.2 cs w0 ∧ Agree H r.2 := by
  obtain ⟨k, rfl⟩ : ∃ j, k = j + 1 := ⟨k - 1, by omega⟩
  rw [f36_eq]
  refine ok_al fun i H1 hi n1 A1 B1 => ok_al fun i2 H2 hi2 n2 A2 B2 => ok_al fun i3 H3 hi3 n3 A3 B3 => ok_al fun i4 H4 hi4 n4 A4 B4 => ok_al fun i5 H5 hi5 n5 A5 B5 => ok_al fun i6 H6 hi6 n6 A6 B6 => ?_
  have A16 := (((A2.trans A3).trans A4).trans A5).trans A6
  refine ok_wr (B1.agree A16) rfl (by simp) fun H7 W7 => ok_bind (row_at W7.at' (by simp) (by simp [splice])) (Ok.ret ?_)
  have A07 : Agree H H7 := (A1.trans A16).wrote W7 (by omega)
  have b3 := ((B3.agree A4).agree A5 |>.agree A6).wrote W7 (show i3 ≠ i by omega)
  have b4 := ((B4.agree A5).agree A6).wrote W7 (show i4 ≠ i by omega)
  refine ⟨_, rfl, ⟨some ⟨i2, 0, none⟩, 1, 1, some ⟨i3, 0, none⟩, 3, 3, some ⟨i4, 0, none⟩, 1, 1, some ⟨i5, 0, none⟩, 1, 1, some ⟨i6, 0, none⟩, 3, 3, none, 0, 0, [(⟨#[109]⟩, false), (⟨#[110]⟩, false), (⟨#[114]⟩, true)], [(⟨#[99]⟩, 0)], rfl, ⟨rfl, ⟨⟨rfl, .inr ⟨i3, 0, none, _, rfl, b3, by simp, by simp, rfl⟩⟩, fun q e => by cases e; show H.next ≤ i3; omega⟩, rfl,
    ⟨⟨rfl, .inr ⟨i4, 0, none, _, rfl, b4, by simp, by simp, rfl⟩⟩, fun q e => by cases e; show H.next ≤ i4; omega⟩, rfl, rfl, rfl, by omega⟩⟩, A07⟩
/-- try -/
def Tried (H : AHeap) (r : Value × AHeap) : Prop := ∃ t kd o wk : Int, r.1 = .tuple #[.int .i64 t, .int .i64 kd, .int .i64 o, .int .i64 wk] ∧ Agree H r.2
theorem f40_K2 {k : Nat} {H0 H : AHeap} (A : Agree H0 H) {p : Nat} {x0 x1 x2 x3 : Int} {e v : Nat} (b : At H p ⟨[.int .i8 x0, .int .i8 x1, .int .i8 x2, .int .i8 x3], e, .rw, v⟩) (kd o : Int) (D : List Value) : Ok (f40.K2 k p kd o D H) (Tried H0) := by
  rw [f40.K2_eq]
  have Ab := agree_bump H 17
  exact ok_bift (sameB_agree b Ab) (ok_bind (ldI_at (b.agree Ab) (by simp) rfl) (ok_bift (sameB_agree b Ab) (ok_bind (ldI_at (b.agree Ab) (by simp) rfl) (Ok.ret ⟨_, _, _, _, rfl, A.trans Ab⟩))))
theorem f40_K1 {k : Nat} {H0 H : AHeap} (A : Agree H0 H) {p : Nat} {x0 x1 x2 x3 : Int} {e v : Nat} (b : At H p ⟨[.int .i8 x0, .int .i8 x1, .int .i8 x2, .int .i8 x3], e, .rw, v⟩) (kd o kd' : Int) (f : Bool) (D : List Value) : Ok (f40.K1 k p kd o kd' f D H) (Tried H0) := by
  rw [f40.K1_eq]
  refine ok_bif (fun _ => f40_K2 A b _ _ _) (fun _ => ?_)
  refine ok_bif (fun _ => ok_bif (fun _ => f40_K2 A b _ _ _) (fun _ => f40_K2 A b _ _ _)) (fun _ => ?_)
  refine ok_bif (fun _ => ok_bif (fun _ => f40_K2 A b _ _ _) (fun _ => f40_K2 A b _ _ _)) (fun _ => ?_)
  refine ok_bif (fun _ => ok_bif (fun _ => f40_K2 A b _ _ _) (fun _ => f40_K2 A b _ _ _)) (fun _ => ?_)
  refine ok_bif (fun _ => ok_bif (fun _ => f40_K2 A b _ _ _) (fun _ => f40_K2 A b _ _ _)) (fun _ => ?_)
  refine ok_bif (fun _ => ok_bif (fun _ => f40_K2 A b _ _ _) (fun _ => f40_K2 A b _ _ _)) (fun _ => ?_)
  refine ok_bif (fun _ => ok_bif (fun _ => f40_K2 A b _ _ _) (fun _ => f40_K2 A b _ _ _)) (fun _ => ?_)
  refine ok_bif (fun _ => ok_bif (fun _ => f40_K2 A b _ _ _) (fun _ => f40_K2 A b _ _ _)) (fun _ => ?_)
  exact ok_bif (fun _ => f40_K2 A b _ _ _) (fun _ => f40_K2 A b _ _ _)
theorem f40_spec {k : Nat} (hk : 1 ≤ k) (H : AHeap) (x0 x1 x2 x3 : Int) : Ok (C k 40 [.agg #[.int .i8 x0, .int .i8 x1, .int .i8 x2, .int .i8 x3]] H) (Tried H) := by
  obtain ⟨k, rfl⟩ : ∃ j, k = j + 1 := ⟨k - 1, by omega⟩
  rw [f40_eq]
  refine ok_al fun i H1 hi n1 A1 B1 => ok_bind (ldI_at B1 (by simp) rfl) (ok_bind (ldI_at B1 (by simp) rfl) ?_)
  refine ok_bif (fun _ => f40_K1 A1 B1 _ _ _ _ _) (fun _ => ?_)
  refine ok_bif (fun _ => f40_K1 A1 B1 _ _ _ _ _) (fun _ => ?_)
  refine ok_bif (fun _ => f40_K1 A1 B1 _ _ _ _ _) (fun _ => ?_)
  refine ok_bif (fun _ => f40_K1 A1 B1 _ _ _ _ _) (fun _ => ?_)
  refine ok_bif (fun _ => f40_K1 A1 B1 _ _ _ _ _) (fun _ => ?_)
  exact ok_bif (fun _ => f40_K1 A1 B1 _ _ _ _ _) (fun _ => f40_K1 A1 B1 _ _ _ _ _)
/-- rows of events -/
def Evs (es : List Value) (l : Nat) : Prop := ∀ j, j < l → ∃ x0 x1 x2 x3 : Int, (es.drop (j * 4)).take 4 = [.int .i8 x0, .int .i8 x1, .int .i8 x2, .int .i8 x3]
theorem rd11 {s : SyncS} (h : InvS s) : ∀ x ∈ s.locks, x.rd.length ≤ 11 := fun x hx => by have := inv_rd h x hx; omega
theorem inv_applyR {s : SyncS} {th kind obj wake : Int} (h : InvS s) (he : (applyR w0 s th kind obj wake).2.2 = true) : InvS (applyR w0 s th kind obj wake).1 := by
  unfold applyR at he ⊢
  cases hh : enabledS w0 s th kind obj
  · rw [hh] at he; cases he
  · exact inv_apply h hh
section
variable {k : Nat} {H0 : AHeap} {p2 p4 p5 M : Nat} {wc : List Value} {a1 : Option Addr} {l1 c1 : Nat} {es : List Value}
theorem f37_loop (hk : 1500 ≤ k) (hF : ∀ i, H0.next ≤ i → H0.get i = none) (hM : H0.next ≤ M) (hw : WorldR (fun _ => True) H0 wc w0) (hes : Cells H0 a1 (l1 * 4) es) (hev : Evs es l1) (hl1 : l1 ≤ 1000) (z1 : H0.next ≤ p2) (z2 : H0.next ≤ p4) (z3 : H0.next ≤ p5) (z4 : p2 < M) (z5 : p4 < M) (z6 : p5 < M) (z7 : p2 ≠ p5) (z8 : p4 ≠ p5) :
    ∀ (m i n : Nat) (H : AHeap) (D : List Value) (s : SyncS) (cs : List Value) (e2 v2 e4 v4 e5 v5 : Nat) (y0 y1 y2 y3 : Value), i + m = l1 → m < n → Agree H0 H → M ≤ H.next → At H p2 ⟨wc, e2, .rw, v2⟩ → At H p4 ⟨[y0, y1, y2, y3], e4, .rw, v4⟩ → At H p5 ⟨cs, e5, .rw, v5⟩ →
    SyncR (fun j => H0.next ≤ j ∧ j ≠ p4 ∧ j ≠ p5) H cs s → InvS s →
    Ok (f37.L1 k n a1 l1 c1 p2 p4 p5 (i : Int) D H) fun r => ∃ cs, r.1 = .agg (cs : List Value).toArray ∧ (∃ s, SyncR (H0.next ≤ ·) r.2 cs s ∧ InvS s) ∧ Agree H0 r.2 := by
  intro m
  induction m with
  | zero =>
    intro i n H D s cs e2 v2 e4 v4 e5 v5 y0 y1 y2 y3 hm hn A hMn b2 b4 b5 hs hI
    obtain ⟨n, rfl⟩ : ∃ j, n = j + 1 := ⟨n - 1, by omega⟩
    rw [f37.L1_s]
    obtain ⟨hlen, hnt⟩ := hs.len
    have r5 : H.row p5 0 4 = some cs := by rw [row_at b5 (by simp) (by simp [hlen]), List.drop_zero, List.take_of_length_le (by simp [hlen])]
    refine ok_biff (by simp only [decide_eq_false_iff_not]; omega) (ok_bind r5 (ok_if ⟨hnt, hlen⟩ (ok_wr b4 rfl (by simp [hlen]) fun H7 W7 => ?_)))
    have b4' : At H7 p4 ⟨cs, e4, .rw, v4 + 1⟩ := by
      have := W7.at'
      have e : splice [y0, y1, y2, y3] 0 cs = cs := by unfold splice; rw [hlen]; simp
      rw [e] at this
      exact this
    have r4 : H7.row p4 0 4 = some cs := by rw [row_at b4' (by simp) (by simp [hlen]), List.drop_zero, List.take_of_length_le (by simp [hlen])]
    exact ok_bind r4 (Ok.ret ⟨cs, rfl, ⟨s, (hs.wrote W7 (by simp)).mono fun _ h => h.1, hI⟩, A.wrote W7 z2⟩)
  | succ m ih =>
    intro i n H D s cs e2 v2 e4 v4 e5 v5 y0 y1 y2 y3 hm hn A hMn b2 b4 b5 hs hI
    obtain ⟨n, rfl⟩ : ∃ j, n = j + 1 := ⟨n - 1, by omega⟩
    rw [f37.L1_s]
    obtain ⟨hlen, hnt⟩ := hs.len
    obtain ⟨hwl, hwn⟩ := hw.len
    obtain ⟨x0, x1, x2, x3, hrow⟩ := hev i (by omega)
    obtain ⟨q, eq, hq⟩ := (hes.agree A).row (j := i * 4) (m := 4) (by omega) (by omega)
    rw [hrow] at hq
    refine ok_bift (by simp only [decide_eq_true_eq]; omega) (ok_bind eq (ok_if (by omega) (ok_bind hq ?_)))
    refine ok_cTs (f40_spec (by omega) H x0 x1 x2 x3) fun v H1 hp => ?_
    obtain ⟨t, kd, o, wk, hv, A1⟩ := hp
    replace hv : v = .tuple #[.int .i64 t, .int .i64 kd, .int .i64 o, .int .i64 wk] := hv
    replace A1 : Agree H H1 := A1
    refine ⟨_, hv, ok_exI rfl (ok_exI rfl (ok_exI rfl (ok_exI rfl ?_)))⟩
    have r2 : H1.row p2 0 6 = some wc := by rw [row_at (b2.agree A1) (by simp) (by simp [hwl]), List.drop_zero, List.take_of_length_le (by simp [hwl])]
    have r5 : H1.row p5 0 4 = some cs := by rw [row_at (b5.agree A1) (by simp) (by simp [hlen]), List.drop_zero, List.take_of_length_le (by simp [hlen])]
    have A01 := A.trans A1
    refine ok_bind r2 (ok_bind r5 (ok_cTs (f38_spec (k := k) (by omega) (A01.fresh hF) (hw.agree A01) (hs.agree A1) (rd11 hI) t kd o wk) fun v H2 hp => ?_))
    obtain ⟨cs2, hv, hs2, A2⟩ := hp
    replace hv : v = .tuple #[.agg cs2.toArray, .int .i64 (applyR w0 s t kd o wk).2.1, .bool (applyR w0 s t kd o wk).2.2] := hv
    replace A2 : Agree H1 H2 := A2
    replace hs2 : SyncR (H1.next ≤ ·) H2 cs2 (applyR w0 s t kd o wk).1 := hs2
    obtain ⟨hlen2, hnt2⟩ := hs2.len
    refine ⟨_, hv, ok_exG rfl (ok_exI rfl (ok_exB rfl (ok_al fun j H3 hj n3 A3 B3 => ok_if ⟨hnt2, hlen2⟩ (ok_wr B3 rfl (by simp [hlen2]) fun H4 W4 => ?_))))⟩
    have A02 := A01.trans A2
    have n0 := A.next
    have n1 := A1.next
    have n2 := A2.next
    have A04 : Agree H0 H4 := (A02.trans A3).wrote W4 (by omega)
    have A24 : Agree H2 H4 := A3.wrote W4 (by omega)
    have A14 := A2.trans A24
    have n4 := W4.next
    rw [wrapS (i := i) (l := l1) (by omega) (by unfold maxLen; omega)]
    refine ok_bif (fun hok => ?_) (fun hok => ?_)
    · have b4' : At H4 j ⟨cs2, 0, .rw, 1⟩ := by
        have := W4.at'
        have e : splice [.slice none 0 0, .int .i64 0, .slice none 0 0, .slice none 0 0] 0 cs2 = cs2 := by unfold splice; rw [hlen2]; simp
        rw [e] at this
        exact this
      have r4 : H4.row j 0 4 = some cs2 := by rw [row_at b4' (by simp) (by simp [hlen2]), List.drop_zero, List.take_of_length_le (by simp [hlen2])]
      refine ok_bind r4 (ok_if ⟨hnt2, hlen2⟩ (ok_wr (((b5.agree A1).agree A14)) rfl (by simp [hlen2, hlen]) fun H5 W5 => ?_))
      have b5' : At H5 p5 ⟨cs2, e5, .rw, v5 + 1⟩ := by
        have := W5.at'
        have e : splice cs 0 cs2 = cs2 := by unfold splice; rw [hlen2, List.take_zero, List.drop_eq_nil_of_le (by omega)]; simp
        rw [e] at this
        exact this
      have hs4 : SyncR (fun j => H1.next ≤ j) H5 cs2 (applyR w0 s t kd o wk).1 := (hs2.agree A24).wrote W5 (by omega)
      exact ih (i + 1) n H5 _ _ cs2 _ _ _ _ _ _ y0 y1 y2 y3 (by omega) (by omega) (A04.wrote W5 z3) (by rw [W5.next]; omega) ((((b2.agree A1).agree A14)).wrote W5 z7) (((b4.agree A1).agree A14).wrote W5 z8) b5' (hs4.mono fun x hx => ⟨by omega, by omega, by omega⟩) (inv_applyR hI hok)
    · exact ih (i + 1) n H4 _ s cs _ _ _ _ _ _ y0 y1 y2 y3 (by omega) (by omega) A04 (by omega) ((b2.agree A1).agree A14) ((b4.agree A1).agree A14) ((b5.agree A1).agree A14) ((hs.agree A1).agree A14) hI
end
theorem f37_spec {k : Nat} (hk : 1600 ≤ k) {H : AHeap} (hF : ∀ i, H.next ≤ i → H.get i = none) {wc : List Value} (hw : WorldR (fun _ => True) H wc w0) {a1 : Option Addr} {l1 c1 : Nat} {es : List Value} (hes : Cells H a1 (l1 * 4) es) (hev : Evs es l1) (hl1 : l1 ≤ 1000) :
    Ok (C k 37 [.agg wc.toArray, .slice a1 l1 c1] H) fun r => ∃ cs, r.1 = .agg (cs : List Value).toArray ∧ (∃ s, SyncR (H.next ≤ ·) r.2 cs s ∧ InvS s) ∧ Agree H r.2 := by
  obtain ⟨k, rfl⟩ : ∃ j, k = j + 1 := ⟨k - 1, by omega⟩
  have hw0 := hw
  obtain ⟨a0, l0, c0, b1, m1, d1, a2, l2, c2, a3, l3, c3, a4, l4, c4, a5, l5, c5, ks, cs, rfl, hw⟩ := hw
  rw [f37_eq]
  refine ok_al fun i H1 hi n1 A1 B1 => ok_al fun i' H2 hi' n2 A2 B2 => ?_
  have A02 := A1.trans A2
  have r2 : H2.row i 0 6 = some [.slice a0 l0 c0, .slice b1 m1 d1, .slice a2 l2 c2, .slice a3 l3 c3, .slice a4 l4 c4, .slice a5 l5 c5] := row_at (B1.agree A2) (by simp) (by simp)
  have hm1 : m1 = 3 := hw.lenK'
  have hl3 : l3 = 1 := hw.f
  have hl4 : l4 = 3 := hw.t
  refine ok_bind r2 (ok_cGs (f33_spec (k := k) (l1 := m1) (l3 := l3) (l4 := l4) (by omega) (A02.fresh hF) (by omega) (by omega) (by omega)) fun cs' v H3 hp => ?_)
  obtain ⟨hs, A3⟩ := hp
  replace A3 : Agree H2 H3 := A3
  replace hs : SyncR (H2.next ≤ ·) H3 cs' (startS m1 l3 l4) := hs
  rw [hm1, hl3, hl4] at hs
  obtain ⟨hlen, hnt⟩ := hs.len
  refine ok_al fun j H4 hj n4 A4 B4 => ok_if ⟨hnt, hlen⟩ (ok_wr B4 rfl (by simp [hlen]) fun H5 W5 => ?_)
  have n3 := A3.next
  have A25 : Agree H2 H5 := (A3.trans A4).wrote W5 (by omega)
  have A35 : Agree H3 H5 := A4.wrote W5 (by omega)
  have n5 := W5.next
  have b5 : At H5 j ⟨cs', 0, .rw, 1⟩ := by
    have := W5.at'
    have e : splice [.slice none 0 0, .int .i64 0, .slice none 0 0, .slice none 0 0] 0 cs' = cs' := by unfold splice; rw [hlen]; simp
    rw [e] at this
    exact this
  have hs5 := (hs.below).agree A35
  exact f37_loop (k := k) (H0 := H) (p2 := i) (p4 := i') (p5 := j) (M := H4.next) (c1 := c1) (by omega) hF (by omega) hw0 hes hev hl1 (by omega) (by omega) (by omega) (by omega) (by omega) (by omega) (by omega) (by omega)
    l1 0 k H5 _ _ cs' _ _ _ _ _ _ _ _ _ _ (by omega) (by omega) (A02.trans A25) (by omega) ((B1.agree A2).agree A25) (B2.agree A25) b5 (hs5.mono fun x hx => by have h1 : H2.next ≤ x := hx.1; have h2 : x < H3.next := hx.2; exact ⟨by omega, by omega, by omega⟩) inv_start
end Go.Proofs.MxF
end

section
set_option linter.unusedSimpArgs false
/- A lock that is acquired and released; events on different locks. -/
set_option linter.unusedVariables false
namespace Go.Proofs.MxF
open Go Go.Mx Go.Proofs
theorem InvS.fits {s : SyncS} (h : InvS s) : fitsS w0 s = true := by
  unfold fitsS
  rw [h.nl, h.nt, h.nd]
  rfl
theorem en_eq {s : SyncS} (h : InvS s) {th kind obj : Int} (k1 : (kind == 1) = false) (k17 : (kind == 17) = false) :
    enabledS w0 s th kind obj = (inR th 3 && (namedS w0 kind obj && (((thS s th).st == 2) && runningS w0 s th kind obj))) := by
  unfold enabledS readyS
  rw [h.fits, k1, k17]
  rfl
theorem en_iff {s : SyncS} (h : InvS s) {th kind obj : Int} (k1 : (kind == 1) = false) (k17 : (kind == 17) = false) :
    enabledS w0 s th kind obj = true ↔ inR th 3 = true ∧ namedS w0 kind obj = true ∧ (thS s th).st = 2 ∧ runningS w0 s th kind obj = true := by
  rw [en_eq h k1 k17, Bool.and_eq_true, Bool.and_eq_true, Bool.and_eq_true, beq_iff_eq]
theorem setLk_setLk {s : SyncS} {i : Int} {x y : LockS} : setLk (setLk s i x) i y = setLk s i y := by
  unfold setLk
  rw [List.set_set]
theorem setLk_self {s : SyncS} {i : Int} (h : inR i s.locks.length = true) : setLk s i (lkS s i) = s := by
  have hl := (nat_cast_toNat h).2
  have e : s.locks.set i.toNat (lkS s i) = s.locks := by
    unfold lkS
    rw [List.getD_eq_getElem?_getD, List.getElem?_eq_getElem hl]
    exact List.set_getElem_self hl
  unfold setLk
  rw [e]
theorem setLk_comm {s : SyncS} {i j : Int} {x y : LockS} (h : i.toNat ≠ j.toNat) : setLk (setLk s i x) j y = setLk (setLk s j y) i x := by
  unfold setLk
  rw [List.set_comm _ _ h]
theorem lk_back {s : SyncS} (h : InvS s) {i : Int} (hi : inR i 3 = true) {x y : LockS} (e : y = lkS s i) : setLk (setLk s i x) i y = s := by
  rw [setLk_setLk, e, setLk_self (by rw [h.nl]; exact hi)]
theorem set_del {t : Int} {xs : List Int} (h : Strict xs) (hn : hasI xs t = false) : delI t (setI (xs ++ [t])) = xs := by
  refine strict_ext (strict_delI (setI_strict _)) h fun v => ?_
  unfold delI
  rw [List.mem_filter, mem_setI, List.mem_append, List.mem_singleton]
  have ht : t ∉ xs := fun e => by rw [hasI_iff.2 e] at hn; cases hn
  constructor
  · rintro ⟨h1 | rfl, h2⟩
    · exact h1
    · simp at h2
  · intro h1
    refine ⟨.inl h1, ?_⟩
    have : v ≠ t := fun e => ht (e ▸ h1)
    simpa using this
/-- what an event on a lock makes of the lock -/
def lkF (kind th : Int) (l : LockS) : LockS :=
  bif (kind == 6 || kind == 10) then ⟨th, l.rd⟩ else bif (kind == 7 || kind == 11) then ⟨-1, l.rd⟩ else bif kind == 8 then ⟨l.own, setI (l.rd ++ [th])⟩ else ⟨l.own, delI th l.rd⟩
def OnLk (k : Int) : Prop := k = 6 ∨ k = 7 ∨ k = 8 ∨ k = 9 ∨ k = 10 ∨ k = 11
theorem OnLk.apply {k : Int} (h : OnLk k) {s : SyncS} {th obj wake : Int} : applyV w0 s th k obj wake = (setLk s obj (lkF k th (lkS s obj)), 0) := by
  rcases h with rfl | rfl | rfl | rfl | rfl | rfl <;> rfl
theorem OnLk.run {k : Int} (h : OnLk k) {s : SyncS} {th obj : Int} : runningS w0 s th k obj = lockingS (lkS s obj) th k := by
  rcases h with rfl | rfl | rfl | rfl | rfl | rfl <;> rfl
theorem OnLk.n1 {k : Int} (h : OnLk k) : (k == 1) = false ∧ (k == 17) = false := by
  rcases h with rfl | rfl | rfl | rfl | rfl | rfl <;> exact ⟨rfl, rfl⟩
theorem OnLk.inR {k : Int} (h : OnLk k) {obj : Int} (hn : namedS w0 k obj = true) : MxF.inR obj 3 = true := by
  rcases h with rfl | rfl | rfl | rfl | rfl | rfl
  · exact (named_lk hn (.inl rfl)).1
  · exact (named_lk hn (.inr rfl)).1
  · rw [named_rw hn (.inl rfl)]; rfl
  · rw [named_rw hn (.inr (.inl rfl))]; rfl
  · rw [named_rw hn (.inr (.inr (.inl rfl)))]; rfl
  · rw [named_rw hn (.inr (.inr (.inr rfl)))]; rfl
/-- an acquiring and its release -/
theorem released {s : SyncS} (h : InvS s) {th k j obj : Int} (hk : k = 6 ∧ j = 7 ∨ k = 8 ∧ j = 9 ∨ k = 10 ∧ j = 11) (he : enabledS w0 s th k obj = true) :
    enabledS w0 (applyV w0 s th k obj (-1)).1 th k obj = false ∧ enabledS w0 (applyV w0 s th k obj (-1)).1 th j obj = true ∧ (applyV w0 (applyV w0 s th k obj (-1)).1 th j obj (-1)).1 = s := by
  have hI := inv_apply (wake := -1) h he
  have ok : OnLk k := by rcases hk with ⟨rfl, _⟩ | ⟨rfl, _⟩ | ⟨rfl, _⟩ <;> simp [OnLk]
  have oj : OnLk j := by rcases hk with ⟨_, rfl⟩ | ⟨_, rfl⟩ | ⟨_, rfl⟩ <;> simp [OnLk]
  obtain ⟨hth, hn, hst, hrun⟩ := (en_iff h ok.n1.1 ok.n1.2).1 he
  have hin := ok.inR hn
  have rt := inR_iff.1 hth
  rw [ok.apply] at hI ⊢
  rw [oj.apply]
  rw [ok.run] at hrun
  have hl := h.lk obj hin
  have hlk : lkS (setLk s obj (lkF k th (lkS s obj))) obj = lkF k th (lkS s obj) := by rw [lkS_setLk h.nl hin hin, if_pos rfl]
  have h1 : lockingS (lkF k th (lkS s obj)) th k = false ∧ lockingS (lkF k th (lkS s obj)) th j = true ∧ lkF j th (lkF k th (lkS s obj)) = lkS s obj := by
    revert hrun hl
    generalize lkS s obj = x
    intro hrun hl
    obtain ⟨o, rd⟩ := x
    rcases hk with ⟨rfl, rfl⟩ | ⟨rfl, rfl⟩ | ⟨rfl, rfl⟩
    · have hrun : (o == -1) = true := hrun
      have ho := beq_iff_eq.1 hrun
      subst ho
      refine ⟨?_, ?_, rfl⟩
      · show (th == -1) = false
        rw [beq_eq_false_iff_ne]; omega
      · show (th == th) = true
        simp
    · have hrun : ((o == -1) && !hasI rd th) = true := hrun
      have ho := beq_iff_eq.1 (and_l hrun)
      have hh : hasI rd th = false := by have := and_r hrun; simpa using this
      subst ho
      have hi : hasI (setI (rd ++ [th])) th = true := by rw [hasI_iff, mem_setI]; simp
      refine ⟨?_, ?_, ?_⟩
      · show ((-1 : Int) == -1 && !hasI (setI (rd ++ [th])) th) = false
        rw [hi]; rfl
      · exact hi
      · show LockS.mk (-1) (delI th (setI (rd ++ [th]))) = _
        rw [set_del hl.str hh]
    · have hrun : ((o == -1) && ((rd.length : Int) == 0)) = true := hrun
      have ho := beq_iff_eq.1 (and_l hrun)
      subst ho
      refine ⟨?_, ?_, rfl⟩
      · show ((th == -1) && ((rd.length : Int) == 0)) = false
        rw [show (th == -1) = false from by rw [beq_eq_false_iff_ne]; omega]; rfl
      · show (th == th) = true
        simp
  have hnj : namedS w0 j obj = true := by rcases hk with ⟨rfl, rfl⟩ | ⟨rfl, rfl⟩ | ⟨rfl, rfl⟩ <;> exact hn
  refine ⟨?_, ?_, ?_⟩
  · rw [en_eq hI ok.n1.1 ok.n1.2, ok.run]
    show (inR th 3 && (namedS w0 k obj && (((thS s th).st == 2) && lockingS (lkS (setLk s obj (lkF k th (lkS s obj))) obj) th k))) = false
    rw [hlk, h1.1]; simp
  · refine (en_iff hI oj.n1.1 oj.n1.2).2 ⟨hth, hnj, hst, ?_⟩
    rw [oj.run]
    show lockingS (lkS (setLk s obj (lkF k th (lkS s obj))) obj) th j = true
    rw [hlk, h1.2.1]
  · show setLk (setLk s obj (lkF k th (lkS s obj))) obj (lkF j th (lkS (setLk s obj (lkF k th (lkS s obj))) obj)) = s
    rw [hlk]
    exact lk_back h hin h1.2.2
theorem wakeOne_mem {s : SyncS} {obj wake : Int} (h : waitS s obj ≠ []) : wakeOne s obj wake ∈ waitS s obj := by
  unfold wakeOne
  cases hb : hasI (waitS s obj) wake
  · cases hw : waitS s obj with
    | nil => exact absurd hw h
    | cons u us => simp
  · exact hasI_iff.1 hb
theorem wakeOne_in {s : SyncS} {obj wake : Int} (h : waitS s obj ≠ []) : inR (wakeOne s obj wake) s.ths.length = true ∧ (thS s (wakeOne s obj wake)).st = 3 := ⟨waitS_mem (wakeOne_mem h), (waitS_st (wakeOne_mem h)).1⟩
def OnM (k : Int) : Prop := k = 6 ∨ k = 7 ∨ k = 18 ∨ k = 16
def OnR (k : Int) : Prop := k = 8 ∨ k = 9 ∨ k = 10 ∨ k = 11
theorem OnR.lk {k : Int} (h : OnR k) : OnLk k := .inr (.inr h)
theorem OnM.n1 {k : Int} (h : OnM k) : (k == 1) = false ∧ (k == 17) = false := by rcases h with rfl | rfl | rfl | rfl <;> exact ⟨rfl, rfl⟩
theorem OnM.run {k : Int} (h : OnM k) {s s' : SyncS} {th : Int} (hl : lkS s' 0 = lkS s 0) : runningS w0 s' th k 0 = runningS w0 s th k 0 := by
  rcases h with rfl | rfl | rfl | rfl
  · show lockingS (lkS s' 0) th 6 = lockingS (lkS s 0) th 6
    rw [hl]
  · show lockingS (lkS s' 0) th 7 = lockingS (lkS s 0) th 7
    rw [hl]
  · show ((lkS s' 0).own == th) = ((lkS s 0).own == th)
    rw [hl]
  · show ((lkS s' 0).own == th) = ((lkS s 0).own == th)
    rw [hl]
theorem setTh_setLk {s : SyncS} {i j : Int} {x : ThS} {y : LockS} : setTh (setLk s j y) i x = setLk (setTh s i x) j y := rfl
/-- the event on the mutex: what it leaves of the rest -/
theorem OnM.facts {k : Int} (h : OnM k) {s : SyncS} (hI : InvS s) {t u : Int} (ht : inR t 3 = true) (hu : inR u 3 = true) (hne : t ≠ u) (hst : (thS s u).st = 2) :
    lkS (applyV w0 s t k 0 (-1)).1 2 = lkS s 2 ∧ (thS (applyV w0 s t k 0 (-1)).1 u).st = 2 ∧ ∀ y, (applyV w0 (setLk s 2 y) t k 0 (-1)).1 = setLk (applyV w0 s t k 0 (-1)).1 2 y := by
  have c02 : ∀ {x y : LockS}, setLk (setLk s 2 y) 0 x = setLk (setLk s 0 x) 2 y := fun {x y} => setLk_comm (by decide)
  have l02 : ∀ {x : LockS}, lkS (setLk s 0 x) 2 = lkS s 2 := fun {x} => by rw [lkS_setLk hI.nl (by decide) (by decide), if_neg (by decide)]
  have l20 : ∀ {x : LockS}, lkS (setLk s 2 x) 0 = lkS s 0 := fun {x} => by rw [lkS_setLk hI.nl (by decide) (by decide), if_neg (by decide)]
  rcases h with rfl | rfl | rfl | rfl
  · refine ⟨l02, hst, fun y => ?_⟩
    show setLk (setLk s 2 y) 0 ⟨t, (lkS (setLk s 2 y) 0).rd⟩ = setLk (setLk s 0 ⟨t, (lkS s 0).rd⟩) 2 y
    rw [l20, c02]
  · refine ⟨l02, hst, fun y => ?_⟩
    show setLk (setLk s 2 y) 0 ⟨-1, (lkS (setLk s 2 y) 0).rd⟩ = setLk (setLk s 0 ⟨-1, (lkS s 0).rd⟩) 2 y
    rw [l20, c02]
  · have e : ∀ s', (applyV w0 s' t 18 0 (-1)).1 = bif (waitS s' 0).isEmpty then s' else wakeT s' (wakeOne s' 0 (-1)) := fun s' => by
      show (bif (waitS s' 0).isEmpty then (s', (-1 : Int)) else (wakeT s' (wakeOne s' 0 (-1)), wakeOne s' 0 (-1))).1 = _
      cases (waitS s' 0).isEmpty <;> rfl
    rw [e]
    refine ⟨?_, ?_, fun y => ?_⟩
    · cases (waitS s 0).isEmpty <;> rfl
    · cases hw : (waitS s 0).isEmpty
      · have hne : waitS s 0 ≠ [] := by intro e; rw [e] at hw; cases hw
        obtain ⟨h1, h2⟩ := wakeOne_in (wake := -1) hne
        rw [hI.nt] at h1
        show (thS (setTh s (wakeOne s 0 (-1)) _) u).st = 2
        rw [thS_setTh hI.nt h1 hu, if_neg (fun e => by rw [e] at h2; omega)]
        exact hst
      · exact hst
    · rw [e]
      show (bif (waitS s 0).isEmpty then setLk s 2 y else wakeT (setLk s 2 y) (wakeOne s 0 (-1))) = _
      cases (waitS s 0).isEmpty <;> rfl
  · refine ⟨?_, ?_, fun y => ?_⟩
    · show lkS (setTh (setLk s 0 _) t _) 2 = _
      rw [lkS_setTh, l02]
    · show (thS (setTh (setLk s 0 _) t _) u).st = 2
      rw [thS_setTh (s := setLk s 0 ⟨-1, (lkS s (mtx w0 0)).rd⟩) hI.nt ht hu, if_neg hne]
      exact hst
    · show setTh (setLk (setLk s 2 y) 0 ⟨-1, (lkS (setLk s 2 y) 0).rd⟩) t ⟨3, 0, (thS s t).at'⟩ = setLk (setTh (setLk s 0 ⟨-1, (lkS s 0).rd⟩) t ⟨3, 0, (thS s t).at'⟩) 2 y
      rw [l20, c02]; rfl
theorem indep {s : SyncS} (h : InvS s) {t u k j : Int} (hk : OnM k) (hj : OnR j) (hne : t ≠ u) (p : enabledS w0 s t k 0 = true) (q : enabledS w0 s u j 2 = true) :
    enabledS w0 (applyV w0 s t k 0 (-1)).1 u j 2 = true ∧ enabledS w0 (applyV w0 s u j 2 (-1)).1 t k 0 = true ∧
      (applyV w0 (applyV w0 s t k 0 (-1)).1 u j 2 (-1)).1 = (applyV w0 (applyV w0 s u j 2 (-1)).1 t k 0 (-1)).1 := by
  have hIa := inv_apply (wake := -1) h p
  have hIb := inv_apply (wake := -1) h q
  obtain ⟨ht, hnk, hst, hrun⟩ := (en_iff h hk.n1.1 hk.n1.2).1 p
  obtain ⟨hu, hnj, hsu, hrunj⟩ := (en_iff h hj.lk.n1.1 hj.lk.n1.2).1 q
  obtain ⟨f1, f2, f3⟩ := hk.facts h ht hu hne hsu
  refine ⟨(en_iff hIa hj.lk.n1.1 hj.lk.n1.2).2 ⟨hu, hnj, f2, ?_⟩, (en_iff hIb hk.n1.1 hk.n1.2).2 ⟨ht, hnk, ?_, ?_⟩, ?_⟩
  · rw [hj.lk.run] at hrunj ⊢
    rw [f1]; exact hrunj
  · rw [hj.lk.apply]; exact hst
  · rw [hj.lk.apply, hk.run (s := s)]
    · exact hrun
    · show lkS (setLk s 2 _) 0 = _
      rw [lkS_setLk h.nl (by decide) (by decide), if_neg (by decide)]
  · rw [hj.lk.apply, hj.lk.apply, f1]
    exact (f3 _).symm
end Go.Proofs.MxF
end

section
set_option linter.unusedSimpArgs false
/- A notification: whom it wakes. -/
set_option linter.unusedVariables false
namespace Go.Proofs.MxF
open Go Go.Mx Go.Proofs
theorem waitFrom_in {c : Int} : ∀ {ts : List ThS} {i j : Nat} {t : ThS}, ts[j]? = some t → t.st = 3 → t.cd = c → ((i + j : Nat) : Int) ∈ waitFrom c ts i := by
  intro ts
  induction ts with
  | nil => intro i j t h; simp at h
  | cons t' ts ih =>
    intro i j t h h1 h2
    unfold waitFrom
    rw [List.mem_append]
    cases j with
    | zero =>
      left
      simp at h
      subst h
      rw [h1, h2]
      simp
    | succ j =>
      right
      rw [List.getElem?_cons_succ] at h
      have := ih (i := i + 1) h h1 h2
      rw [show i + (j + 1) = i + 1 + j from by omega]
      exact this
theorem wait_iff {s : SyncS} (h : InvS s) {i : Int} (hi : inR i 3 = true) : i ∈ waitS s 0 ↔ (thS s i).st = 3 := by
  constructor
  · intro hm
    exact (waitS_st hm).1
  · intro hs
    have hr := inR_iff.1 hi
    have hx := List.getElem?_eq_getElem (show i.toNat < s.ths.length by rw [h.nt]; omega)
    have e : thS s i = s.ths[i.toNat]'(by rw [h.nt]; omega) := by unfold thS; rw [List.getD_eq_getElem?_getD, hx]; rfl
    have hc := (h.th i hi).cd
    rw [e] at hs hc
    have := waitFrom_in (c := 0) (i := 0) hx hs hc
    rw [show ((0 + i.toNat : Nat) : Int) = i from by omega] at this
    exact this
theorem waitFrom_count (c : Int) : ∀ (ts : List ThS) (i : Nat), (waitFrom c ts i).length = (ts.filter fun t => (t.st == 3) && (t.cd == c)).length := by
  intro ts
  induction ts with
  | nil => intro i; rfl
  | cons t ts ih =>
    intro i
    unfold waitFrom
    rw [List.length_append, ih, List.filter_cons]
    split <;> simp <;> omega
def cntW (s : SyncS) (i : Nat) : Nat := ((s.ths.take i).filter fun t => (t.st == 3) && (t.cd == 0)).length
theorem cntW_end {s : SyncS} (h : InvS s) : cntW s 3 = (waitS s 0).length := by
  unfold cntW waitS
  rw [waitFrom_count, List.take_of_length_le (by rw [h.nt]; omega)]
theorem cntW_step {s : SyncS} (h : InvS s) {i : Nat} (hi : i < 3) : cntW s (i + 1) = if ((thS s (i : Int)).st == 3) = true then cntW s i + 1 else cntW s i := by
  have hin : inR (i : Int) 3 = true := by rw [inR_iff]; omega
  have hx := List.getElem?_eq_getElem (show i < s.ths.length by rw [h.nt]; omega)
  have e : thS s (i : Int) = s.ths[i]'(by rw [h.nt]; omega) := by unfold thS; rw [List.getD_eq_getElem?_getD, Int.toNat_natCast, hx]; rfl
  have hc := (h.th i hin).cd
  rw [e] at hc ⊢
  unfold cntW
  rw [List.take_add_one, hx, List.filter_append, List.length_append]
  have e2 : (Option.some (s.ths[i]'(by rw [h.nt]; omega))).toList = [s.ths[i]'(by rw [h.nt]; omega)] := rfl
  rw [e2, List.filter_cons, List.filter_nil, hc]
  split
  · rename_i hs
    rw [if_pos (by simpa using hs)]; rfl
  · rename_i hs
    rw [if_neg (by simpa using hs)]; rfl
theorem cntW_le {s : SyncS} {i : Nat} : cntW s i ≤ i := by
  unfold cntW
  have := List.length_filter_le (fun t : ThS => (t.st == 3) && (t.cd == 0)) (s.ths.take i)
  rw [List.length_take] at this
  omega
theorem wakeAll_st {i : Int} (hi : inR i 3 = true) : ∀ (us : List Int) (s : SyncS), s.ths.length = 3 → (∀ u ∈ us, inR u 3 = true) → (thS (us.foldl wakeT s) i).st = if i ∈ us then 4 else (thS s i).st := by
  intro us
  induction us with
  | nil => intro s _ _; simp
  | cons u us ih =>
    intro s hl hu
    rw [List.foldl_cons, ih (wakeT s u) (by unfold wakeT; rw [setTh_len]; exact hl) (fun v hv => hu v (by simp [hv]))]
    have hst : (thS (wakeT s u) i).st = if u = i then 4 else (thS s i).st := by
      unfold wakeT
      rw [thS_setTh hl (hu u (by simp)) hi]
      split <;> rfl
    by_cases h1 : i ∈ us
    · rw [if_pos h1, if_pos (by simp [h1])]
    · rw [if_neg h1, hst]
      by_cases h2 : u = i
      · subst h2
        rw [if_pos rfl, if_pos (by simp)]
      · rw [if_neg h2, if_neg]
        intro h3
        rcases List.mem_cons.1 h3 with h3 | h3
        · exact h2 h3.symm
        · exact h1 h3
theorem wakeAll_len : ∀ (us : List Int) (s : SyncS), (us.foldl wakeT s).ths.length = s.ths.length := by
  intro us
  induction us with
  | nil => intro s; rfl
  | cons u us ih => intro s; rw [List.foldl_cons, ih]; unfold wakeT; rw [setTh_len]
structure Notif (s sa sb : SyncS) (v n wk : Int) : Prop where
  la : sa.ths.length = 3
  lb : sb.ths.length = 3
  hv : v = -1 ∧ waitS s 0 = [] ∨ v ∈ waitS s 0
  hw : wk ∈ waitS s 0 → v = wk
  ha : ∀ i, inR i 3 = true → ((thS sa i).st != (thS s i).st) = (v == i)
  hb : ∀ i, inR i 3 = true → ((thS sb i).st != (thS s i).st) = ((thS s i).st == 3)
  hn : n = ((waitS s 0).length : Int)
theorem notified {s : SyncS} (h : InvS s) (t wk : Int) : Notif s (applyV w0 s t 18 0 wk).1 (applyV w0 s t 19 0 wk).1 (applyV w0 s t 18 0 wk).2 (applyV w0 s t 19 0 wk).2 wk := by
  have e18 : applyV w0 s t 18 0 wk = bif (waitS s 0).isEmpty then (s, -1) else (wakeT s (wakeOne s 0 wk), wakeOne s 0 wk) := rfl
  have e19 : applyV w0 s t 19 0 wk = ((waitS s 0).foldl wakeT s, ((waitS s 0).length : Int)) := rfl
  have hus : ∀ u ∈ waitS s 0, inR u 3 = true := fun u hu => by rw [← h.nt]; exact waitS_mem hu
  rw [e18, e19]
  have hb : ∀ i, inR i 3 = true → ((thS ((waitS s 0).foldl wakeT s) i).st != (thS s i).st) = ((thS s i).st == 3) := by
    intro i hi
    rw [wakeAll_st hi _ _ h.nt hus]
    by_cases hm : i ∈ waitS s 0
    · rw [if_pos hm, (wait_iff h hi).1 hm]; rfl
    · rw [if_neg hm]
      have : ¬ (thS s i).st = 3 := fun e => hm ((wait_iff h hi).2 e)
      simp [this]
  cases hw : (waitS s 0).isEmpty
  · have hne : waitS s 0 ≠ [] := by intro e; rw [e] at hw; cases hw
    have hm := wakeOne_mem (wake := wk) hne
    refine ⟨by show (setTh s _ _).ths.length = 3; rw [setTh_len]; exact h.nt, by rw [wakeAll_len]; exact h.nt, .inr hm, fun hk => ?_, fun i hi => ?_, hb, rfl⟩
    · show wakeOne s 0 wk = wk
      unfold wakeOne
      rw [hasI_iff.2 hk]; rfl
    · show ((thS (setTh s (wakeOne s 0 wk) ⟨4, _, _⟩) i).st != (thS s i).st) = (wakeOne s 0 wk == i)
      rw [thS_setTh h.nt (hus _ hm) hi]
      split
      · rename_i e
        rw [← e]
        rw [(wait_iff h (hus _ hm)).1 hm]
        simp
      · rename_i e
        simp [e]
  · have he : waitS s 0 = [] := by cases hh : waitS s 0 with
      | nil => rfl
      | cons a b => rw [hh] at hw; cases hw
    refine ⟨h.nt, by rw [wakeAll_len]; exact h.nt, .inl ⟨rfl, he⟩, fun hk => (by rw [he] at hk; cases hk), fun i hi => ?_, hb, rfl⟩
    have hr := inR_iff.1 hi
    show ((thS s i).st != (thS s i).st) = ((-1 : Int) == i)
    rw [show ((-1 : Int) == i) = false from by rw [beq_eq_false_iff_ne]; omega]
    simp
theorem en_notify {s : SyncS} (h : InvS s) (t : Int) : enabledS w0 s t 18 0 = enabledS w0 s t 19 0 := by
  rw [en_eq h rfl rfl, en_eq h rfl rfl]; rfl
end Go.Proofs.MxF
end
