/- Start, of the program and of the reference. -/
import Derived.Test.YtcegcnopakfloaaXO1
set_option linter.unusedVariables false
namespace Go.Proofs.MxF
open Go Go.Mx Go.Proofs
def lkv0 : LkV := ⟨-1, none, 0, 0, []⟩
def startT (n : Nat) : List ThS := (List.replicate n ⟨0, 0, false⟩).set 0 ⟨1, 0, false⟩
/-- the state at the beginning -/
def startS (nl nf nt : Nat) : SyncS := ⟨List.replicate nl ⟨-1, []⟩, -1, List.replicate nf false, startT nt⟩
theorem rep_flat {α : Type} {f : α → List Value} (x : α) (n : Nat) : rep (f x) n = (List.replicate n x).flatMap f := by
  induction n with
  | zero => rfl
  | succ n ih => rw [rep, ih, List.replicate_succ, List.flatMap_cons]
theorem app61 (H : AHeap) (a a' : Option Addr) (l c l' c' : Nat) : apndV Try.prog [61, 61] H (.slice a l c) (.slice a' l' c') = (firstC H 2 l' (.slice a' l' c')).bind fun news => apndS 2 32 H a l c news l' := by kernel_rfl
theorem app62 (H : AHeap) (a a' : Option Addr) (l c l' c' : Nat) : apndV Try.prog [62, 62] H (.slice a l c) (.slice a' l' c') = (firstC H 3 l' (.slice a' l' c')).bind fun news => apndS 3 24 H a l c news l' := by kernel_rfl
theorem app37 (H : AHeap) (a a' : Option Addr) (l c l' c' : Nat) : apndV Try.prog [37, 37] H (.slice a l c) (.slice a' l' c') = (firstC H 1 l' (.slice a' l' c')).bind fun news => apndS 1 1 H a l c news l' := by kernel_rfl
theorem ok_bsk62 {R : Type} {Q : R → Prop} {x y : Int} {b : Bool} {K : List Value → Nat → Option R} (k : Ok (K [.int .i64 x, .int .i64 y, .bool b] 3) Q) :
    Ok (buildSK Try.prog 62 1 [(0, .agg #[.int .i64 x, .int .i64 y, .bool b])] K) Q := by
  have : buildSK Try.prog 62 1 [(0, .agg #[.int .i64 x, .int .i64 y, .bool b])] K = K [.int .i64 x, .int .i64 y, .bool b] 3 := by kernel_rfl
  rw [this]; exact k
theorem startL_pure (n : Nat) : (List.replicate n lkv0).map LkV.pure = List.replicate n ⟨-1, []⟩ := by rw [List.map_replicate]; rfl
theorem own_block {N sz : Nat} {H : AHeap} {i : Nat} {cs : List Value} {n : Nat} (h : At H i ⟨cs, sz, .rw, 0⟩) (hN : N ≤ i) (hl : cs.length = n * sz) : Own N sz H (some ⟨i, 0, none⟩) n n cs :=
  ⟨hl, Nat.le_refl _, .inr ⟨i, _, rfl, hN, h, rfl, rfl, hl, List.take_of_length_le (Nat.le_of_eq hl)⟩⟩

section
variable {k : Nat} {H0 : AHeap} {p2 p3 M nl nf nt d t : Nat}
theorem f33_loop (hk : 1000 ≤ k) (hnl : nl ≤ 100) (hnt : nt ≤ 1000) (hp2 : H0.next ≤ p2) (hp3 : H0.next ≤ p3) (hd : H0.next ≤ d) (ht : H0.next ≤ t) (h2M : p2 < M) (h3M : p3 < M) (hdM : d < M) (htM : t < M) (ne1 : p2 ≠ p3) (ne2 : d ≠ p2) (ne3 : d ≠ p3) (ne4 : t ≠ p2) (ne5 : t ≠ p3) (ne6 : d ≠ t) :
    ∀ (m i n : Nat) (H : AHeap) (D : List Value) (a : Option Addr) (l c e2 v2 e3 v3 : Nat) (y0 y1 y2 y3 : Value), i + m = nl → m < n → Agree H0 H → M ≤ H.next →
    At H p2 ⟨[y0, y1, y2, y3], e2, .rw, v2⟩ → At H p3 ⟨[.slice a l c, .int .i64 (-1), .slice (some ⟨d, 0, none⟩) nf nf, .slice (some ⟨t, 0, none⟩) nt nt], e3, .rw, v3⟩ →
    At H d ⟨(List.replicate nf false).flatMap rowB, 1, .rw, 0⟩ → At H t ⟨(List.replicate nt ⟨0, 0, false⟩).flatMap rowT, 3, .rw, 0⟩ → Own M 2 H a l c ((List.replicate i lkv0).flatMap rowL) →
    Ok (f33.L1 k n p2 p3 (nl : Int) (i : Int) D H) fun r => ∃ cs, r.1 = .agg (cs : List Value).toArray ∧ SyncR (H0.next ≤ ·) r.2 cs (startS nl nf nt) ∧ Agree H0 r.2 := by
  intro m
  induction m with
  | zero =>
    intro i n H D a l c e2 v2 e3 v3 y0 y1 y2 y3 hm hn A hM h2 h3 hD hT ho
    obtain ⟨n, rfl⟩ : ∃ j, n = j + 1 := ⟨n - 1, by omega⟩
    rw [f33.L1_s]
    have hnl : i = nl := by omega
    subst hnl
    have hMN := A.next
    have lD : ((List.replicate nf false).flatMap rowB).length = nf * 1 := by rw [flat_len rowB_len, List.length_replicate]
    have lT : ((List.replicate nt (⟨0, 0, false⟩ : ThS)).flatMap rowT).length = nt * 3 := by rw [flat_len rowT_len, List.length_replicate]
    have ob := ho.block
    have oL : Own M 2 H a l c ((List.replicate i lkv0).flatMap rowL) := ho
    have oD := own_block hD hd lD
    have oT := own_block hT ht lT
    -- the end: the state is handed back
    have fin : ∀ (H1 : AHeap) (ts : List ThS), Agree H0 H1 → At H1 p2 ⟨[y0, y1, y2, y3], e2, .rw, v2⟩ → At H1 p3 ⟨[.slice a l c, .int .i64 (-1), .slice (some ⟨d, 0, none⟩) nf nf, .slice (some ⟨t, 0, none⟩) nt nt], e3, .rw, v3⟩ →
        Own M 2 H1 a l c ((List.replicate i lkv0).flatMap rowL) → Own H0.next 1 H1 (some ⟨d, 0, none⟩) nf nf ((List.replicate nf false).flatMap rowB) → Own H0.next 3 H1 (some ⟨t, 0, none⟩) nt nt (ts.flatMap rowT) → ts = startT nt →
        Ok ((AHeap.row H1 p3 0 4).bind fun g => if notTup (Value.agg (g : List Value).toArray) = true ∧ g.length = 4 then (AHeap.wr H1 p2 0 g).bind fun H5 => (AHeap.row H5 p2 0 4).bind fun g1 => some (Value.agg (g1 : List Value).toArray, H5) else none)
          fun r => ∃ cs, r.1 = .agg (cs : List Value).toArray ∧ SyncR (H0.next ≤ ·) r.2 cs (startS i nf nt) ∧ Agree H0 r.2 := by
      intro H1 ts A1 g2 g3 gL gD gT e
      subst e
      refine ok_bind (row_at g3 (by simp) (by simp)) (ok_if ⟨rfl, rfl⟩ (ok_wr g2 rfl (by simp) fun H2 W2 => ok_bind (row_at W2.at' (by simp) (by simp [splice])) (Ok.ret ?_)))
      refine ⟨_, rfl, ⟨a, l, c, some ⟨d, 0, none⟩, nf, nf, some ⟨t, 0, none⟩, nt, nt, List.replicate i lkv0, rfl, ?_⟩, A1.wrote W2 hp2⟩
      have w1 : CellsF (fun j => H0.next ≤ j ∧ j ≠ p2) H1 a (l * 2) ((List.replicate i lkv0).flatMap rowL) := ⟨gL.cells, fun q e => by have := gL.block q e; omega⟩
      have w2 : CellsF (fun j => H0.next ≤ j ∧ j ≠ p2) H1 (some ⟨d, 0, none⟩) (nf * 1) ((List.replicate nf false).flatMap rowB) := ⟨gD.cells, fun q e => by cases e; exact ⟨hd, ne2⟩⟩
      have w3 : CellsF (fun j => H0.next ≤ j ∧ j ≠ p2) H1 (some ⟨t, 0, none⟩) (nt * 3) ((startT nt).flatMap rowT) := ⟨gT.cells, fun q e => by cases e; exact ⟨ht, ne4⟩⟩
      refine ⟨(w1.wrote W2 (by simp)).mono fun _ h => h.1, (w2.wrote W2 (by simp)).mono fun _ h => h.1, (w3.wrote W2 (by simp)).mono fun _ h => h.1, startL_pure i, fun x hx => ?_⟩
      rw [List.mem_replicate] at hx
      rw [hx.2]
      exact ⟨Ints.nil _, fun q e => by cases e⟩
    refine ok_biff (by simp only [decide_eq_false_iff_not]; omega) (ok_bSl (ldSl_at h3 (by simp) rfl) (ok_bif (fun hc => ?_) (fun hc => ?_)))
    · rw [decide_eq_true_eq] at hc
      refine ok_bSl (ldSl_at h3 (by simp) rfl) (ok_bind rfl (ok_if (by omega) ?_))
      obtain ⟨nt, rfl⟩ : ∃ j, nt = j + 1 := ⟨nt - 1, by omega⟩
      obtain ⟨q, H1, eq, hq0, hw, o1, k1, n1⟩ := own_wr oT (o := 0 * 3 + 0) (vs := [.int .i64 1]) (by simp) (by simp; omega)
      cases eq
      refine ok_bind hw ?_
      have hx : (List.replicate (nt + 1) (⟨0, 0, false⟩ : ThS))[0]? = some ⟨0, 0, false⟩ := by simp
      rw [flat_splice rowT_len (y := ⟨1, 0, false⟩) hx (by simp) rfl] at o1
      have kA : Agree H0 H1 := k1.agree A (fun q e => by cases e; exact ht)
      exact fin H1 _ kA (h2.keep k1 (fun q e => by cases e; exact ne4)) (h3.keep k1 (fun q e => by cases e; exact ne5)) (oL.keep k1 (fun q q' e1 e2 => by cases e2; have := ob q e1; show t ≠ q.block; omega)) (oD.keep k1 (fun q q' e1 e2 => by cases e1; cases e2; exact Ne.symm ne6)) o1 rfl
    · rw [decide_eq_false_iff_not] at hc
      have : nt = 0 := by omega
      subst this
      exact fin H _ A h2 h3 oL oD oT rfl
  | succ m ih =>
    intro i n H D a l c e2 v2 e3 v3 y0 y1 y2 y3 hm hn A hM h2 h3 hD hT ho
    obtain ⟨n, rfl⟩ : ∃ j, n = j + 1 := ⟨n - 1, by omega⟩
    rw [f33.L1_s]
    have ob := ho.block
    have hl : l = i := by have := ho.1; rw [flat_len rowL_len, List.length_replicate] at this; omega
    refine ok_bift (by simp only [decide_eq_true_eq]; omega) (ok_bSl (ldSl_at h3 (by simp) rfl) (ok_al fun j H1 hj n1 A1 B1 => ?_))
    refine ok_cSl (app_own (by decide) (app61 _ _ _ _ _ _ _) (ho.agree A1) (cs' := rowL lkv0) ⟨rfl, .inr ⟨j, 0, none, _, rfl, B1, by simp, by simp, rfl⟩⟩ (by omega) (by omega) (by omega)) fun a2 l2 c2 H2 hp => ?_
    obtain ⟨rfl, o2, k2, or2⟩ := hp
    rw [← flat_snoc, ← List.replicate_succ'] at o2
    have K2 : Keep a H H2 := Keep.of_agree A1 k2
    have hk2 := K2.next
    have hne : ∀ {x : Nat}, x < M → ∀ q, a = some q → q.block ≠ x := fun hx q e => by have := ob q e; omega
    refine ok_wr (h3.keep K2 (hne h3M)) rfl (by simp) fun H3 W3 => ?_
    rw [wrapS (l := nl) (by omega) (by unfold maxLen; omega)]
    have hMN := A.next
    refine ih (i + 1) n H3 _ a2 _ c2 _ _ _ _ y0 y1 y2 y3 (by omega) (by omega) ((K2.agree A (fun q e => by have := ob q e; omega)).wrote W3 hp3) (by rw [W3.next]; omega)
      ((h2.keep K2 (hne h2M)).wrote W3 ne1) W3.at' ((hD.keep K2 (hne hdM)).wrote W3 ne3) ((hT.keep K2 (hne htM)).wrote W3 ne5) (o2.wrote W3 h3M)
end
/-- object.Start -/
theorem f33_spec {k : Nat} (hk : 1200 ≤ k) {H : AHeap} (hF : ∀ i, H.next ≤ i → H.get i = none) {a0 : Option Addr} {l0 c0 : Nat} {a1 : Option Addr} {l1 c1 : Nat} {a2 : Option Addr} {l2 c2 : Nat} {a3 : Option Addr} {l3 c3 : Nat} {a4 : Option Addr} {l4 c4 : Nat} {a5 : Option Addr} {l5 c5 : Nat}
    (h1 : l1 ≤ 100) (h3 : l3 ≤ 100) (h4 : l4 ≤ 100) :
    Ok (C k 33 [.agg #[.slice a0 l0 c0, .slice a1 l1 c1, .slice a2 l2 c2, .slice a3 l3 c3, .slice a4 l4 c4, .slice a5 l5 c5]] H) fun r => ∃ cs, r.1 = .agg (cs : List Value).toArray ∧ SyncR (H.next ≤ ·) r.2 cs (startS l1 l3 l4) ∧ Agree H r.2 := by
  obtain ⟨k, rfl⟩ : ∃ j, k = j + 1 := ⟨k - 1, by omega⟩
  rw [f33_eq]
  refine ok_al fun i H1 hi n1 A1 B1 => ok_al fun i' H2 hi' n2 A2 B2 => ?_
  have Ab := agree_bump H2 11
  have B12 := B1.agree A2
  have F2 := (A1.trans A2).fresh hF
  have f3 : Free (H2.bump 11) (H2.next + 3) := free_bump F2 (by omega)
  have f7 : Free (H2.bump 11) (H2.next + 7) := free_bump F2 (by omega)
  have f9 : Free (H2.bump 11) (H2.next + 9) := free_bump F2 (by omega)
  refine ok_bift (sameB_agree B12 Ab) (ok_bSl (ldSl_at (B12.agree Ab) (by simp) rfl) (ok_if rfl (ok_if (by omega) ?_)))
  refine ok_als Ab f3 (by omega) fun H3 n3 A3 B3 S3 G3 => ?_
  refine ok_bift (sameB_agree B12 A3) (ok_bSl (ldSl_at (B12.agree A3) (by simp) rfl) (ok_if rfl (ok_if (by omega) ?_)))
  refine ok_als A3 (G3 _ f7 (by omega)) (by omega) fun H4 n4 A4 B4 S4 G4 => ?_
  refine ok_als A4 (G4 _ (G3 _ f9 (by omega)) (by omega)) (by omega) fun H5 n5 A5 B5 S5 G5 => ok_wr B5 rfl (by simp) fun H6 W6 => ?_
  have A26 : Agree H2 H6 := A5.wrote W6 (by omega)
  refine ok_bSl (ldSl_at (B12.agree A26) (by simp) rfl) ?_
  have nb : (H2.bump 11).next = H2.next + 11 := rfl
  have n6 := W6.next
  have e3 : ((l3 : Int)).toNat = l3 := by omega
  have e4 : ((l4 : Int)).toNat = l4 := by omega
  rw [e3] at B3
  rw [e4] at B4
  rw [e3, e4] at W6 ⊢
  have b3 := (S5 _ _ (S4 _ _ B3)).wrote W6 (show H2.next + 3 ≠ H2.next + 9 by omega)
  have b4 := (S5 _ _ B4).wrote W6 (show H2.next + 7 ≠ H2.next + 9 by omega)
  rw [show ([.bool false] : List Value) = rowB false from rfl, rep_flat] at b3
  rw [show ([.int .i64 0, .int .i64 0, .bool false] : List Value) = rowT ⟨0, 0, false⟩ from rfl, rep_flat] at b4
  exact f33_loop (H0 := H) (p2 := i') (M := H2.next + 11) (d := H2.next + 3) (t := H2.next + 7) (by omega) h1 (by omega) (by omega) (by omega) (by omega) (by omega) (by omega) (by omega) (by omega) (by omega) (by omega) (by omega) (by omega) (by omega) (by omega) (by omega)
    l1 0 k H6 _ none 0 0 _ _ _ _ _ _ _ _ (by omega) (by omega) ((A1.trans A2).trans A26) (by omega) (B2.agree A26) W6.at' b3 b4 (Own.nil _ _ _)
end Go.Proofs.MxF
