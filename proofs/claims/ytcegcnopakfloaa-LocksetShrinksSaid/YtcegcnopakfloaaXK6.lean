/- lockset.Step. -/
import Derived.Test.YtcegcnopakfloaaXK5
set_option linter.unusedVariables false
namespace Go.Proofs.MxF
open Go Go.Mx Go.Proofs
/-- the state and the owner after an access -/
def stS (st own th : Int) (w : Bool) : Int := bif st == 0 then 1 else bif st == 1 then (bif own == th then 1 else bif w then 3 else 2) else bif w then 3 else st
def owS (st own th : Int) : Int := bif st == 0 then th else bif st == 1 then (bif own == th then own else 0) else 0
/-- which locks are left -/
def inS (st own th : Int) (w : Bool) (ls ex sh : List Int) (v : Int) : Prop :=
  if st = 0 then False else if st = 1 then (if own = th then False else if w = true then v ∈ ex else v ∈ ex ∨ v ∈ sh)
  else v ∈ ls ∧ (if w = true then v ∈ ex else v ∈ ex ∨ v ∈ sh)
def stPost (H0 : AHeap) (st' own' : Int) (mem : Int → Prop) (r : Value × AHeap) : Prop :=
  ∃ a l c, r.1 = .tuple #[.agg #[.int .i64 st', .int .i64 own', .slice a l c], .bool ((st' == 3) && ((l : Int) == 0))] ∧
    ((∃ zs, Ints r.2 a l zs ∧ Strict zs ∧ ∀ v, v ∈ zs ↔ mem v) ∧ Agree H0 r.2 ∧ ∀ q, a = some q → H0.next ≤ q.block)

theorem wrote_agree0 {H0 H H' : AHeap} {i : Nat} {b : Blk} (A : Agree H0 H) (w : Wrote H H' i b) (h : H0.next ≤ i) : Agree H0 H' := A.wrote w h

theorem f24_K1 {k : Nat} {H0 H : AHeap} (A : Agree H0 H) {p8 p11 : Nat} {e8 v8 e11 v11 : Nat} {y0 y1 y2 : Value} {st' own' : Int} {a : Option Addr} {l c : Nat} {D : List Value} {zs : List Int} {mem : Int → Prop}
    (h8 : At H p8 ⟨[y0, y1, y2], e8, .rw, v8⟩) (h11 : At H p11 ⟨[.int .i64 st', .int .i64 own', .slice a l c], e11, .rw, v11⟩) (hne : p8 ≠ p11) (hp : H0.next ≤ p8)
    (hz : Ints H a l zs) (hza : ∀ q, a = some q → H0.next ≤ q.block) (hz8 : ∀ q, a = some q → q.block ≠ p8) (hs : Strict zs) (hm : ∀ v, v ∈ zs ↔ mem v) :
    Ok (f24.K1 k p8 p11 D H) (stPost H0 st' own' mem) := by
  rw [f24.K1_eq]
  have Ab := agree_bump H 12
  have g11 := h11.agree Ab
  refine ok_bift (sameB_agree h11 Ab) (ok_bind (row_at g11 (by simp) (by simp)) (ok_bift (sameB_agree h11 Ab) (ok_bind (ldI_at g11 (by simp) rfl) (ok_if ⟨rfl, rfl⟩ (ok_wr (h8.agree Ab) rfl (by simp) fun H1 W1 => ?_)))))
  have k11 := g11.wrote W1 (Ne.symm hne)
  have A1 : Agree H0 H1 := (A.trans Ab).wrote W1 hp
  have hz1 : Ints H1 a l zs := Cells.wrote (hz.agree Ab) W1 hz8
  refine ok_bif (fun hc => ?_) (fun hc => ?_)
  · refine ok_bift (sameB_at h11 k11 rfl) (ok_bSl (ldSl_at k11 (by simp) rfl) (ok_bind (row_at W1.at' (by simp) (by simp [splice])) (Ok.ret ?_)))
    exact ⟨a, l, c, by rw [hc]; rfl, ⟨zs, hz1, hs, hm⟩, A1, hza⟩
  · refine ok_bind (row_at W1.at' (by simp) (by simp [splice])) (Ok.ret ?_)
    exact ⟨a, l, c, by rw [hc]; rfl, ⟨zs, hz1, hs, hm⟩, A1, hza⟩
theorem f24_spec {k : Nat} (hk : 1200 ≤ k) {H : AHeap} {a : Option Addr} {l c : Nat} {a1 : Option Addr} {l1 c1 : Nat} {a2 : Option Addr} {l2 c2 : Nat} {ls ex sh : List Int} (st own th : Int) (w : Bool)
    (h : Ints H a l ls) (h1 : Ints H a1 l1 ex) (h2 : Ints H a2 l2 sh) (hl : l ≤ 12) (hl1 : l1 + l2 ≤ 12) :
    Ok (C k 24 [.agg #[.int .i64 st, .int .i64 own, .slice a l c], .int .i64 th, .bool w, .agg #[.slice a1 l1 c1, .slice a2 l2 c2]] H) (stPost H (stS st own th w) (owS st own th) (inS st own th w ls ex sh)) := by
  obtain ⟨k, rfl⟩ : ∃ j, k = j + 1 := ⟨k - 1, by omega⟩
  rw [f24_eq]
  refine ok_al fun i H1 hi n1 A1 B1 => ok_al fun i' H2 hi' n2 A2 B2 => ok_al fun i'' H3 hi'' n3 A3 B3 => ?_
  have A03 := (A1.trans A2).trans A3
  have P1 := (B1.agree A2).agree A3
  have P2 := B2.agree A3
  have Ab := agree_bump H3 8
  have A0b := A03.trans Ab
  refine ok_bift (sameB_agree P2 Ab) (ok_bSl (ldSl_at (P2.agree Ab) (by simp) rfl) ?_)
  refine ok_cSl (app_own (by decide) (app26' _ _ _ _ _ _ _) (Own.nil H3.next 1 _) (cs' := ints ex) (by rw [Nat.mul_one]; exact h1.agree A0b) Ab.next (by omega) (by omega)) fun a4 l4 c4 H4 hp => ?_
  obtain ⟨rfl, o4, k4, _⟩ := hp
  rw [List.nil_append] at o4
  have A4 := Ab.trans k4.none
  refine ok_bift (sameB_agree P2 A4) (ok_bSl (ldSl_at (P2.agree A4) (by simp) rfl) ?_)
  refine ok_cSl (app_own (by decide) (app26' _ _ _ _ _ _ _) o4 (cs' := ints sh) (by rw [Nat.mul_one]; exact h2.agree (A03.trans A4)) A4.next (by omega) (by omega)) fun a5 l5 c5 H5 hp => ?_
  obtain ⟨rfl, o5, k5, _⟩ := hp
  rw [ints_app] at o5
  have A5 : Agree H3 H5 := k5.agree A4 o4.block
  refine ok_cSl (f55_spec (by omega) (by omega) o5.ints) fun a6 l6 c6 H6 hp => ?_
  obtain ⟨⟨all, o6, s6, m6, len6⟩, A6⟩ := hp
  have A36 := A5.trans A6
  have A06 := A03.trans A36
  have Q1 := P1.agree A36
  have Q2 := P2.agree A36
  have Q3 := B3.agree A36
  refine ok_bind (ldI_at Q1 (by simp) rfl) ?_
  refine ok_al fun p H7 hp7 n7 A7 B7 => ok_wr B7 rfl (by simp) fun H8 W8 => ?_
  have A68 : Agree H6 H8 := A7.wrote W8 (by omega)
  have A08 := A06.trans A68
  have R1 := Q1.agree A68
  have R2 := Q2.agree A68
  have R3 := Q3.agree A68
  have R8 := W8.at'
  have ls8 := h.agree A08
  have ex8 := h1.agree A08
  have sh8 := h2.agree A08
  have all8 : Ints H8 a6 l6 all := o6.ints.agree A68
  have hall : ∀ v, v ∈ all ↔ v ∈ ex ∨ v ∈ sh := fun v => by rw [m6, List.mem_append]
  have hn36 := A36.next
  have hn5 := A5.next
  have hn6 := A6.next
  have hN8 := A68.next
  have hb6 : ∀ q, a6 = some q → H3.next ≤ q.block := fun q e => by have := o6.block q e; omega
  have hb6' : ∀ q, a6 = some q → q.block ≠ p := fun q e => by have := Cells.below o6.cells q e; omega
  have hl6 := o6.len
  have hlx : (ex ++ sh).length = l1 + l2 := by rw [List.length_append, ← h1.len, ← h2.len]
  have hpn : H.next ≤ i'' := by omega
  have hip : i'' ≠ p := by omega
  refine ok_bind (ldI_at R1 (by simp) rfl) (ok_bif (fun h0 => ?_) (fun h0 => ?_))
  · rw [beq_iff_eq] at h0
    subst h0
    refine ok_wr R8 rfl (by simp [splice]) fun H9 W9 => ?_
    refine f24_K1 (A08.wrote W9 (by omega)) (zs := []) (R3.wrote W9 hip) W9.at' hip hpn (Ints.nil _) (fun q e => by cases e) (fun q e => by cases e) .nil (fun v => ?_)
    simp [inS]
  have hst0 : ¬ st = 0 := by simpa using h0
  -- the last part: another thread's access
  have last : ∀ D, ¬ (st = 1 ∧ own = th) → Ok (f24.K2 k w i i' i'' a6 l6 c6 p false D H8) (stPost H (stS st own th w) (owS st own th) (inS st own th w ls ex sh)) := by
    intro D hno
    rw [f24.K2_eq]
    have fin : ∀ D b, (b = true ↔ st = 1 ∧ w = true) → Ok (f24.K3 k w i i' i'' a6 l6 c6 p b D H8) (stPost H (stS st own th w) (owS st own th) (inS st own th w ls ex sh)) := by
      intro D b hb
      rw [f24.K3_eq]
      refine ok_bif (fun hc => ?_) (fun hc => ?_)
      · obtain ⟨rfl, rfl⟩ := hb.1 hc
        have hown : ¬ own = th := fun e => hno ⟨rfl, e⟩
        have hob : (own == th) = false := by simpa using hown
        refine ok_bSl (ldSl_at R2 (by simp) rfl) (ok_cSl (f55_spec (by omega) (by omega) ex8) fun a9 l9 c9 H9 hp => ?_)
        obtain ⟨⟨zs, o9, s9, m9, _⟩, A9⟩ := hp
        have hb9 := o9.block
        refine ok_wr (R8.agree A9) rfl (by simp [splice]) fun HA WA => ok_wr WA.at' rfl (by simp [splice]) fun HB WB => ?_
        have hnp : ∀ q, a9 = some q → q.block ≠ p := fun q e => by have := hb9 q e; have := R8.1; omega
        have e1 : stS 1 own th true = 3 := by simp [stS, hob]
        have e2 : owS 1 own th = 0 := by simp [owS, hob]
        rw [e1, e2]
        refine f24_K1 (((A08.trans A9).wrote WA (by omega)).wrote WB (by omega)) (zs := zs) (((R3.agree A9).wrote WA hip).wrote WB hip) WB.at' hip hpn (Cells.wrote (Cells.wrote o9.ints WA hnp) WB hnp)
          (fun q e => by have := hb9 q e; have := A08.next; omega) (fun q e => by have := hb9 q e; have := R3.1; omega) s9 (fun v => ?_)
        simp [inS, hown, m9]
      · have hnb : ¬ (st = 1 ∧ w = true) := fun h => by have := hb.2 h; rw [hc] at this; cases this
        refine ok_bind (ldI_at R1 (by simp) rfl) (ok_bif (fun hc1 => ?_) (fun hc1 => ?_))
        · rw [beq_iff_eq] at hc1
          subst hc1
          have hown : ¬ own = th := fun e => hno ⟨rfl, e⟩
          have hob : (own == th) = false := by simpa using hown
          have hw : w = false := by cases w with
            | false => rfl
            | true => exact absurd ⟨rfl, rfl⟩ hnb
          subst hw
          refine ok_wr R8 rfl (by simp [splice]) fun HA WA => ok_wr WA.at' rfl (by simp [splice]) fun HB WB => ?_
          have e1 : stS 1 own th false = 2 := by simp [stS, hob]
          have e2 : owS 1 own th = 0 := by simp [owS, hob]
          rw [e1, e2]
          refine f24_K1 ((A08.wrote WA (by omega)).wrote WB (by omega)) (zs := all) ((R3.wrote WA hip).wrote WB hip) WB.at' hip hpn (Cells.wrote (Cells.wrote all8 WA hb6') WB hb6')
            (fun q e => by have := hb6 q e; omega) (fun q e => by have := hb6 q e; omega) s6 (fun v => ?_)
          simp [inS, hown, hall]
        · have hst1 : ¬ st = 1 := by simpa using hc1
          have hb1 : (st == 1) = false := hc1
          have hb0 : (st == 0) = false := h0
          refine ok_bif (fun hw => ?_) (fun hw => ?_)
          · subst hw
            refine ok_bSl (ldSl_at R1 (by simp) rfl) (ok_bSl (ldSl_at R2 (by simp) rfl) ?_)
            refine ok_cSl (f56_spec hl (by omega) (by omega) ls8 ex8) fun a9 l9 c9 H9 hp => ?_
            obtain ⟨⟨zs, o9, s9, m9, _⟩, A9⟩ := hp
            have hb9 := o9.block
            refine ok_wr (R8.agree A9) rfl (by simp [splice]) fun HA WA => ok_wr WA.at' rfl (by simp [splice]) fun HB WB => ?_
            have hnp : ∀ q, a9 = some q → q.block ≠ p := fun q e => by have := hb9 q e; have := R8.1; omega
            have e1 : stS st own th true = 3 := by simp [stS, hb0, hb1]
            have e2 : owS st own th = 0 := by simp [owS, hb0, hb1]
            rw [e1, e2]
            refine f24_K1 (((A08.trans A9).wrote WA (by omega)).wrote WB (by omega)) (zs := zs) (((R3.agree A9).wrote WA hip).wrote WB hip) WB.at' hip hpn (Cells.wrote (Cells.wrote o9.ints WA hnp) WB hnp)
              (fun q e => by have := hb9 q e; have := A08.next; omega) (fun q e => by have := hb9 q e; have := R3.1; omega) s9 (fun v => ?_)
            simp [inS, hst0, hst1, m9]
          · subst hw
            refine ok_bSl (ldSl_at R1 (by simp) rfl) ?_
            refine ok_cSl (f56_spec hl (by omega) (by omega) ls8 all8) fun a9 l9 c9 H9 hp => ?_
            obtain ⟨⟨zs, o9, s9, m9, _⟩, A9⟩ := hp
            have hb9 := o9.block
            refine ok_wr (R8.agree A9) rfl (by simp [splice]) fun HA WA => ?_
            have hnp : ∀ q, a9 = some q → q.block ≠ p := fun q e => by have := hb9 q e; have := R8.1; omega
            have e1 : stS st own th false = st := by simp [stS, hb0, hb1]
            have e2 : owS st own th = 0 := by simp [owS, hb0, hb1]
            rw [e1, e2]
            refine f24_K1 ((A08.trans A9).wrote WA (by omega)) (zs := zs) ((R3.agree A9).wrote WA hip) WA.at' hip hpn (Cells.wrote o9.ints WA hnp)
              (fun q e => by have := hb9 q e; have := A08.next; omega) (fun q e => by have := hb9 q e; have := R3.1; omega) s9 (fun v => ?_)
            simp [inS, hst0, hst1, m9, hall]
    refine ok_biff rfl (ok_bind (ldI_at R1 (by simp) rfl) (ok_bif (fun hc => fin _ _ ?_) (fun hc => fin _ _ ?_)))
    · rw [beq_iff_eq] at hc
      simp [hc]
    · have : ¬ st = 1 := by simpa using hc
      simp [this]
  refine ok_bind (ldI_at R1 (by simp) rfl) (ok_bif (fun h1' => ?_) (fun h1' => ?_))
  · rw [beq_iff_eq] at h1'
    subst h1'
    refine ok_bind (ldI_at R1 (by simp) rfl) ?_
    by_cases ho : own = th
    · subst ho
      rw [beq_self_eq_true, f24.K2_eq]
      refine ok_bift rfl (ok_bind (ldI_at R1 (by simp) rfl) (ok_wr R8 rfl (by simp [splice]) fun H9 W9 => ?_))
      have e1 : stS 1 own own w = 1 := by simp [stS]
      have e2 : owS 1 own own = own := by simp [owS]
      rw [e1, e2]
      refine f24_K1 (A08.wrote W9 (by omega)) (zs := []) (R3.wrote W9 hip) W9.at' hip hpn (Ints.nil _) (fun q e => by cases e) (fun q e => by cases e) .nil (fun v => ?_)
      simp [inS]
    · have : (own == th) = false := by simpa using ho
      rw [this]
      exact last _ (fun h => ho h.2)
  · have : ¬ st = 1 := by simpa using h1'
    exact last _ (fun h => this h.1)
end Go.Proofs.MxF
