/- Start of the reference; ObjectStarts. -/
import Derived.Test.YtcegcnopakfloaaXO2
set_option linter.unusedVariables false
namespace Go.Proofs.MxF
open Go Go.Mx Go.Proofs
/-- two slices lie apart -/
def Apart (a b : Option Addr) : Prop := ∀ q q', a = some q → b = some q' → q'.block ≠ q.block
theorem Apart.symm {a b : Option Addr} (h : Apart a b) : Apart b a := fun q q' e e' => Ne.symm (h q' q e' e)
theorem apart_grow {a b b' : Option Addr} {H : AHeap} {n : Nat} {cs : List Value} (h : Apart a b) (hc : Cells H a n cs) (or : ∀ q, b' = some q → (∃ q', b = some q' ∧ q'.block = q.block) ∨ H.next ≤ q.block) : Apart a b' := by
  intro q q' e e'
  rcases or q' e' with ⟨q0, e0, eb⟩ | hge
  · rw [← eb]; exact h q q0 e e0
  · have := Cells.below hc q e; omega
section
variable {k : Nat} {H0 : AHeap} {p1 p2 p3 M nl nf nt : Nat} {w0 w1 w2 w3 w4 w5 : Option Addr} {n0 k0 n2 k2 k1 k3 k4 n5 k5 : Nat}
/-- what is true around the three loops of the reference's Start -/
structure Sta (p1 p2 p3 M : Nat) (H0 H : AHeap) : Prop where
  A : Agree H0 H
  hM : M ≤ H.next
  b2 : ∃ y0 y1 y2 y3 e v, At H p2 ⟨[y0, y1, y2, y3], e, .rw, v⟩
  z1 : H0.next ≤ p1 ∧ H0.next ≤ p2 ∧ H0.next ≤ p3 ∧ p1 < M ∧ p2 < M ∧ p3 < M ∧ p1 ≠ p2 ∧ p1 ≠ p3 ∧ p2 ≠ p3
theorem Sta.next {H H' : AHeap} (h : Sta p1 p2 p3 M H0 H) {a : Option Addr} (ha : ∀ q, a = some q → M ≤ q.block) (K : Keep a H H') {H3 : AHeap} {b : Blk} (W : Wrote H' H3 p3 b) : Sta p1 p2 p3 M H0 H3 := by
  obtain ⟨A, hM, ⟨y0, y1, y2, y3, e, v, b2⟩, z⟩ := h
  have hA := A.next
  refine ⟨(K.agree A fun q e => by have := ha q e; omega).wrote W z.2.2.1, by rw [W.next]; have := K.next; omega, ⟨y0, y1, y2, y3, e, v, (b2.keep K fun q e => by have := ha q e; omega).wrote W z.2.2.2.2.2.2.2.2⟩, z⟩
theorem f34_l3 (hk : 1000 ≤ k) (hnt : nt ≤ 100) : ∀ (m i n : Nat) (H : AHeap) (D : List Value) (aL : Option Addr) (lL cL : Nat) (aD : Option Addr) (lD cD : Nat) (a : Option Addr) (l c e1 v1 e3 v3 : Nat), i + m = nt → m < n → Sta p1 p2 p3 M H0 H →
    At H p1 ⟨[.slice w0 n0 k0, .slice w1 nl k1, .slice w2 n2 k2, .slice w3 nf k3, .slice w4 nt k4, .slice w5 n5 k5], e1, .rw, v1⟩ →
    At H p3 ⟨[.slice aL lL cL, .int .i64 (-1), .slice aD lD cD, .slice a l c], e3, .rw, v3⟩ →
    Own M 2 H aL lL cL ((List.replicate nl lkv0).flatMap rowL) → Own M 1 H aD lD cD ((List.replicate nf false).flatMap rowB) → Own M 3 H a l c ((startT i).flatMap rowT) → Apart aL a → Apart aD a →
    Ok (f34.L3 k n p1 p2 p3 (i : Int) D H) fun r => ∃ cs, r.1 = .agg (cs : List Value).toArray ∧ SyncR (H0.next ≤ ·) r.2 cs (startS nl nf nt) ∧ Agree H0 r.2 := by
  intro m
  induction m with
  | zero =>
    intro i n H D aL lL cL aD lD cD a l c e1 v1 e3 v3 hm hn hS h1 h3 oL oD oT ap1 ap2
    obtain ⟨n, rfl⟩ : ∃ j, n = j + 1 := ⟨n - 1, by omega⟩
    rw [f34.L3_s]
    have : i = nt := by omega
    subst this
    obtain ⟨A, hM, ⟨y0, y1, y2, y3, e, v, b2⟩, z⟩ := hS
    have hA := A.next
    refine ok_bSl (ldSl_at h1 (by simp) rfl) (ok_biff (by simp only [decide_eq_false_iff_not]; omega) (ok_bind (row_at h3 (by simp) (by simp)) (ok_if ⟨rfl, rfl⟩ (ok_wr b2 rfl (by simp) fun H2 W2 => ok_bind (row_at W2.at' (by simp) (by simp [splice])) (Ok.ret ?_)))))
    refine ⟨_, rfl, ⟨aL, lL, cL, aD, lD, cD, a, l, c, List.replicate nl lkv0, rfl, ?_⟩, A.wrote W2 z.2.1⟩
    have nf : ¬ (M ≤ p2) := by omega
    refine ⟨(oL.cellsF.wrote W2 nf).mono fun _ h => by omega, (oD.cellsF.wrote W2 nf).mono fun _ h => by omega, (oT.cellsF.wrote W2 nf).mono fun _ h => by omega, startL_pure nl, fun x hx => ?_⟩
    rw [List.mem_replicate] at hx
    rw [hx.2]
    exact ⟨Ints.nil _, fun q e => by cases e⟩
  | succ m ih =>
    intro i n H D aL lL cL aD lD cD a l c e1 v1 e3 v3 hm hn hS h1 h3 oL oD oT ap1 ap2
    obtain ⟨n, rfl⟩ : ∃ j, n = j + 1 := ⟨n - 1, by omega⟩
    rw [f34.L3_s]
    have ob := oT.block
    have z := hS.z1
    have hMN := hS.hM
    have hl : l = i := by have := oT.1; rw [flat_len rowT_len] at this; unfold startT at this; rw [List.length_set, List.length_replicate] at this; omega
    have hne : ∀ {x : Nat}, x < M → ∀ q, a = some q → q.block ≠ x := fun hx q e => by have := ob q e; omega
    refine ok_bSl (ldSl_at h1 (by simp) rfl) (ok_bift (by simp only [decide_eq_true_eq]; omega) (ok_al fun j H1 hj n1 A1 B1 => ok_wr B1 rfl (by simp) fun H2 W2 => ?_))
    have A2 : Agree H H2 := A1.wrote W2 (by omega)
    have st : ∀ x : ThS, x = (if i = 0 then ⟨1, 0, false⟩ else ⟨0, 0, false⟩) → startT (i + 1) = startT i ++ [x] := by
      intro x hx
      subst hx
      unfold startT
      cases i with
      | zero => rfl
      | succ i => rw [if_neg (by omega), List.replicate_succ', List.set_append_left _ _ (by simp)]
    have fin : ∀ (x : ThS) (H4 H5 H6 H7 : AHeap) (D : List Value) (i1 : Nat) (a2 : Option Addr) (l2 c2 : Nat) (b' : Blk), x = (if i = 0 then ⟨1, 0, false⟩ else ⟨0, 0, false⟩) → Agree H H4 → Agree H4 H5 →
        (l2 = l + 1 ∧ Own M 3 H6 a2 l2 c2 ((startT i).flatMap rowT ++ rowT x) ∧ Keep a H5 H6 ∧ ∀ q, a2 = some q → (∃ q', a = some q' ∧ q'.block = q.block) ∨ H5.next ≤ q.block) →
        Wrote H6 H7 p3 b' → (∃ e v, b' = ⟨[.slice aL lL cL, .int .i64 (-1), .slice aD lD cD, .slice a2 l2 c2], e, .rw, v⟩) →
        Ok (f34.L3 k n p1 p2 p3 (IntKind.i64.wrap ((i : Int) + 1)) D H7) fun r => ∃ cs, r.1 = .agg (cs : List Value).toArray ∧ SyncR (H0.next ≤ ·) r.2 cs (startS nl nf nt) ∧ Agree H0 r.2 := by
      intro x H4 H5 H6 H7 D i1 a2 l2 c2 b' hx A4 A5 hp W7 hb
      obtain ⟨rfl, o2, k2, or2⟩ := hp
      obtain ⟨e, v, rfl⟩ := hb
      have A05 := A4.trans A5
      have K := Keep.of_agree A05 k2
      rw [← flat_snoc, ← st x hx] at o2
      rw [wrapS (l := nt) (by omega) (by unfold maxLen; omega)]
      have e1 : ∀ q q', aL = some q → a = some q' → q'.block ≠ q.block := ap1
      exact ih (i + 1) n H7 D aL lL cL aD lD cD a2 _ c2 _ _ _ _ (by omega) (by omega) (hS.next ob K W7) ((h1.keep K (hne z.2.2.2.1)).wrote W7 z.2.2.2.2.2.2.2.1) W7.at'
        ((oL.keep K ap1).wrote W7 z.2.2.2.2.2.1) ((oD.keep K ap2).wrote W7 z.2.2.2.2.2.1) (o2.wrote W7 z.2.2.2.2.2.1) (apart_grow ap1 (oL.cells.agree A05) or2) (apart_grow ap2 (oD.cells.agree A05) or2)
    refine ok_bif (fun hc => ?_) (fun hc => ?_)
    · have hi0 : i = 0 := by rw [beq_iff_eq] at hc; omega
      refine ok_wr W2.at' rfl (by simp [splice]) fun H3 W3 => ?_
      have A3 : Agree H H3 := A2.wrote W3 (by omega)
      refine ok_bSl (ldSl_at (h3.agree A3) (by simp) rfl) (ok_bind (row_at W3.at' (by simp) (by simp [splice])) (ok_bsk62 (ok_al fun i1 H5 hi1 n5 A5 B5 => ?_)))
      refine ok_cSl (app_own (by decide) (app62 _ _ _ _ _ _ _) ((oT.agree A3).agree A5) (cs' := rowT ⟨1, 0, false⟩) ⟨rfl, .inr ⟨i1, 0, none, _, rfl, B5, by simp, by simp, rfl⟩⟩ (by have := (A3.trans A5).next; omega) (by omega) (by omega)) fun a2 l2 c2 H6 hp => ?_
      have g3 := (h3.agree (A3.trans A5)).keep hp.2.2.1 (hne z.2.2.2.2.2.1)
      exact ok_wr g3 rfl (by simp) fun H7 W7 => fin ⟨1, 0, false⟩ H3 H5 H6 H7 _ i1 a2 l2 c2 _ (by rw [if_pos hi0]) A3 A5 hp W7 ⟨_, _, rfl⟩
    · have hi0 : ¬ i = 0 := by simp at hc; omega
      refine ok_bSl (ldSl_at (h3.agree A2) (by simp) rfl) (ok_bind (row_at W2.at' (by simp) (by simp [splice])) (ok_bsk62 (ok_al fun i1 H5 hi1 n5 A5 B5 => ?_)))
      refine ok_cSl (app_own (by decide) (app62 _ _ _ _ _ _ _) ((oT.agree A2).agree A5) (cs' := rowT ⟨0, 0, false⟩) ⟨rfl, .inr ⟨i1, 0, none, _, rfl, B5, by simp, by simp, rfl⟩⟩ (by have := (A2.trans A5).next; omega) (by omega) (by omega)) fun a2 l2 c2 H6 hp => ?_
      have g3 := (h3.agree (A2.trans A5)).keep hp.2.2.1 (hne z.2.2.2.2.2.1)
      exact ok_wr g3 rfl (by simp) fun H7 W7 => fin ⟨0, 0, false⟩ H2 H5 H6 H7 _ i1 a2 l2 c2 _ (by rw [if_neg hi0]) A2 A5 hp W7 ⟨_, _, rfl⟩
theorem f34_l2 (hk : 1000 ≤ k) (hnt : nt ≤ 100) (hnf : nf ≤ 100) : ∀ (m i n : Nat) (H : AHeap) (D : List Value) (aL : Option Addr) (lL cL : Nat) (a : Option Addr) (l c e1 v1 e3 v3 : Nat), i + m = nf → m < n → Sta p1 p2 p3 M H0 H →
    At H p1 ⟨[.slice w0 n0 k0, .slice w1 nl k1, .slice w2 n2 k2, .slice w3 nf k3, .slice w4 nt k4, .slice w5 n5 k5], e1, .rw, v1⟩ →
    At H p3 ⟨[.slice aL lL cL, .int .i64 (-1), .slice a l c, .slice none 0 0], e3, .rw, v3⟩ →
    Own M 2 H aL lL cL ((List.replicate nl lkv0).flatMap rowL) → Own M 1 H a l c ((List.replicate i false).flatMap rowB) → Apart aL a →
    Ok (f34.L2 k n p1 p2 p3 (i : Int) D H) fun r => ∃ cs, r.1 = .agg (cs : List Value).toArray ∧ SyncR (H0.next ≤ ·) r.2 cs (startS nl nf nt) ∧ Agree H0 r.2 := by
  intro m
  induction m with
  | zero =>
    intro i n H D aL lL cL a l c e1 v1 e3 v3 hm hn hS h1 h3 oL oD ap1
    obtain ⟨n, rfl⟩ : ∃ j, n = j + 1 := ⟨n - 1, by omega⟩
    rw [f34.L2_s]
    have : i = nf := by omega
    subst this
    exact ok_bSl (ldSl_at h1 (by simp) rfl) (ok_biff (by simp only [decide_eq_false_iff_not]; omega) (f34_l3 hk hnt nt 0 k H _ aL lL cL a l c none 0 0 _ _ _ _ (by omega) (by omega) hS h1 h3 oL oD (Own.nil _ _ _) (fun _ _ _ e => by cases e) (fun _ _ _ e => by cases e)))
  | succ m ih =>
    intro i n H D aL lL cL a l c e1 v1 e3 v3 hm hn hS h1 h3 oL oD ap1
    obtain ⟨n, rfl⟩ : ∃ j, n = j + 1 := ⟨n - 1, by omega⟩
    rw [f34.L2_s]
    have ob := oD.block
    have z := hS.z1
    have hMN := hS.hM
    have hl : l = i := by have := oD.1; rw [flat_len rowB_len, List.length_replicate] at this; omega
    have hne : ∀ {x : Nat}, x < M → ∀ q, a = some q → q.block ≠ x := fun hx q e => by have := ob q e; omega
    refine ok_bSl (ldSl_at h1 (by simp) rfl) (ok_bift (by simp only [decide_eq_true_eq]; omega) (ok_bSl (ldSl_at h3 (by simp) rfl) (ok_al fun j H1 hj n1 A1 B1 => ?_)))
    refine ok_cSl (app_own (by decide) (app37 _ _ _ _ _ _ _) (oD.agree A1) (cs' := rowB false) ⟨rfl, .inr ⟨j, 0, none, _, rfl, B1, by simp, by simp, rfl⟩⟩ (by omega) (by omega) (by omega)) fun a2 l2 c2 H2 hp => ?_
    obtain ⟨rfl, o2, k2, or2⟩ := hp
    rw [← flat_snoc, ← List.replicate_succ'] at o2
    have K := Keep.of_agree A1 k2
    refine ok_wr (h3.keep K (hne z.2.2.2.2.2.1)) rfl (by simp) fun H3 W3 => ?_
    rw [wrapS (l := nf) (by omega) (by unfold maxLen; omega)]
    exact ih (i + 1) n H3 _ aL lL cL a2 _ c2 _ _ _ _ (by omega) (by omega) (hS.next ob K W3) ((h1.keep K (hne z.2.2.2.1)).wrote W3 z.2.2.2.2.2.2.2.1) W3.at' ((oL.keep K ap1).wrote W3 z.2.2.2.2.2.1) (o2.wrote W3 z.2.2.2.2.2.1) (apart_grow ap1 (oL.cells.agree A1) or2)
theorem f34_l1 (hk : 1000 ≤ k) (hnt : nt ≤ 100) (hnf : nf ≤ 100) (hnl : nl ≤ 100) : ∀ (m i n : Nat) (H : AHeap) (D : List Value) (a : Option Addr) (l c e1 v1 e3 v3 : Nat), i + m = nl → m < n → Sta p1 p2 p3 M H0 H →
    At H p1 ⟨[.slice w0 n0 k0, .slice w1 nl k1, .slice w2 n2 k2, .slice w3 nf k3, .slice w4 nt k4, .slice w5 n5 k5], e1, .rw, v1⟩ →
    At H p3 ⟨[.slice a l c, .int .i64 (-1), .slice none 0 0, .slice none 0 0], e3, .rw, v3⟩ → Own M 2 H a l c ((List.replicate i lkv0).flatMap rowL) →
    Ok (f34.L1 k n p1 p2 p3 (i : Int) D H) fun r => ∃ cs, r.1 = .agg (cs : List Value).toArray ∧ SyncR (H0.next ≤ ·) r.2 cs (startS nl nf nt) ∧ Agree H0 r.2 := by
  intro m
  induction m with
  | zero =>
    intro i n H D a l c e1 v1 e3 v3 hm hn hS h1 h3 oL
    obtain ⟨n, rfl⟩ : ∃ j, n = j + 1 := ⟨n - 1, by omega⟩
    rw [f34.L1_s]
    have : i = nl := by omega
    subst this
    exact ok_bSl (ldSl_at h1 (by simp) rfl) (ok_biff (by simp only [decide_eq_false_iff_not]; omega) (f34_l2 hk hnt hnf nf 0 k H _ a l c none 0 0 _ _ _ _ (by omega) (by omega) hS h1 h3 oL (Own.nil _ _ _) (fun _ _ _ e => by cases e)))
  | succ m ih =>
    intro i n H D a l c e1 v1 e3 v3 hm hn hS h1 h3 oL
    obtain ⟨n, rfl⟩ : ∃ j, n = j + 1 := ⟨n - 1, by omega⟩
    rw [f34.L1_s]
    have ob := oL.block
    have z := hS.z1
    have hMN := hS.hM
    have hl : l = i := by have := oL.1; rw [flat_len rowL_len, List.length_replicate] at this; omega
    have hne : ∀ {x : Nat}, x < M → ∀ q, a = some q → q.block ≠ x := fun hx q e => by have := ob q e; omega
    refine ok_bSl (ldSl_at h1 (by simp) rfl) (ok_bift (by simp only [decide_eq_true_eq]; omega) (ok_bSl (ldSl_at h3 (by simp) rfl) (ok_al fun j H1 hj n1 A1 B1 => ?_)))
    refine ok_cSl (app_own (by decide) (app61 _ _ _ _ _ _ _) (oL.agree A1) (cs' := rowL lkv0) ⟨rfl, .inr ⟨j, 0, none, _, rfl, B1, by simp, by simp, rfl⟩⟩ (by omega) (by omega) (by omega)) fun a2 l2 c2 H2 hp => ?_
    obtain ⟨rfl, o2, k2, or2⟩ := hp
    rw [← flat_snoc, ← List.replicate_succ'] at o2
    have K := Keep.of_agree A1 k2
    refine ok_wr (h3.keep K (hne z.2.2.2.2.2.1)) rfl (by simp) fun H3 W3 => ?_
    rw [wrapS (l := nl) (by omega) (by unfold maxLen; omega)]
    exact ih (i + 1) n H3 _ a2 _ c2 _ _ _ _ (by omega) (by omega) (hS.next ob K W3) ((h1.keep K (hne z.2.2.2.1)).wrote W3 z.2.2.2.2.2.2.2.1) W3.at' (o2.wrote W3 z.2.2.2.2.2.1)
end
/-- interleaveref08.Start -/
theorem f34_spec {k : Nat} (hk : 1200 ≤ k) {H : AHeap} {a0 : Option Addr} {l0 c0 : Nat} {a1 : Option Addr} {l1 c1 : Nat} {a2 : Option Addr} {l2 c2 : Nat} {a3 : Option Addr} {l3 c3 : Nat} {a4 : Option Addr} {l4 c4 : Nat} {a5 : Option Addr} {l5 c5 : Nat}
    (h1 : l1 ≤ 100) (h3 : l3 ≤ 100) (h4 : l4 ≤ 100) :
    Ok (C k 34 [.agg #[.slice a0 l0 c0, .slice a1 l1 c1, .slice a2 l2 c2, .slice a3 l3 c3, .slice a4 l4 c4, .slice a5 l5 c5]] H) fun r => ∃ cs, r.1 = .agg (cs : List Value).toArray ∧ SyncR (H.next ≤ ·) r.2 cs (startS l1 l3 l4) ∧ Agree H r.2 := by
  obtain ⟨k, rfl⟩ : ∃ j, k = j + 1 := ⟨k - 1, by omega⟩
  rw [f34_eq]
  refine ok_al fun i H1 hi n1 A1 B1 => ok_al fun i' H2 hi' n2 A2 B2 => ok_al fun i'' H3 hi'' n3 A3 B3 => ok_wr B3 rfl (by simp) fun H4 W4 => ?_
  have A13 : Agree H1 H4 := (A2.trans A3).wrote W4 (by omega)
  have A24 : Agree H2 H4 := A3.wrote W4 (by omega)
  have A04 := A1.trans A13
  have n4 := W4.next
  exact f34_l1 (H0 := H) (p2 := i') (M := H3.next) (by omega) h4 h3 h1 l1 0 k H4 _ none 0 0 _ _ _ _ (by omega) (by omega) ⟨A04, by omega, ⟨_, _, _, _, _, _, B2.agree A24⟩, by omega⟩ (B1.agree A13) W4.at' (Own.nil _ _ _)
end Go.Proofs.MxF
