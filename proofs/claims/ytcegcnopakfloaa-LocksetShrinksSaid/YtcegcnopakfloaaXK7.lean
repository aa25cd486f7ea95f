/- The reference's Eraser. -/
import Derived.Test.YtcegcnopakfloaaXK6
set_option linter.unusedVariables false
namespace Go.Proofs.MxF
open Go Go.Mx Go.Proofs
theorem f25_K3 {k : Nat} {H0 H : AHeap} (A : Agree H0 H) {p8 p11 : Nat} {e8 v8 e11 v11 : Nat} {y0 y1 y2 : Value} {st' own' : Int} {a : Option Addr} {l c : Nat} {D : List Value} {zs : List Int} {mem : Int → Prop}
    (h8 : At H p8 ⟨[y0, y1, y2], e8, .rw, v8⟩) (h11 : At H p11 ⟨[.int .i64 st', .int .i64 own', .slice a l c], e11, .rw, v11⟩) (hne : p8 ≠ p11) (hp : H0.next ≤ p8)
    (hz : Ints H a l zs) (hza : ∀ q, a = some q → H0.next ≤ q.block) (hz8 : ∀ q, a = some q → q.block ≠ p8) (hs : Strict zs) (hm : ∀ v, v ∈ zs ↔ mem v) :
    Ok (f25.K3 k p8 p11 D H) (stPost H0 st' own' mem) := by
  rw [f25.K3_eq]
  have Ab := agree_bump H 12
  have g11 := h11.agree Ab
  refine ok_bift (sameB_agree h11 Ab) (ok_bind (row_at g11 (by simp) (by simp)) (ok_bift (sameB_agree h11 Ab) (ok_bind (ldI_at g11 (by simp) rfl) (ok_if ⟨rfl, rfl⟩ (ok_wr (h8.agree Ab) rfl (by simp) fun H1 W1 => ?_)))))
  have k11 := g11.wrote W1 (Ne.symm hne)
  have A1 : Agree H0 H1 := (A.trans Ab).wrote W1 hp
  have hz1 : Ints H1 a l zs := Cells.wrote (hz.agree Ab) W1 hz8
  refine ok_bif (fun hc => ?_) (fun hc => ?_)
  · refine ok_bift (sameB_at h11 k11 rfl) (ok_bSl (ldSl_at k11 (by simp) rfl) (ok_bind (row_at W1.at' (by simp) (by simp [splice])) (Ok.ret ?_)))
    exact ⟨a, l, c, by rw [hc]; rfl, ⟨zs, hz1, hs, hm⟩, A1, hza⟩
  · refine ok_bind (row_at W1.at' (by simp) (by simp [splice])) (Ok.ret ?_)
    exact ⟨a, l, c, by rw [hc]; rfl, ⟨zs, hz1, hs, hm⟩, A1, hza⟩

section
variable {k : Nat} {H0 : AHeap} {p4 p8 p11 : Nat} {a : Option Addr} {l c : Nat} {ah : Option Addr} {lh ch : Nat} {ls hv : List Int}
theorem f25_l1 (hk : 1200 ≤ k) {N : Nat} (hN : H0.next ≤ N) (hl : l ≤ 1000) (hlh : lh ≤ 1000) (hne : p8 ≠ p11) (hp8 : H0.next ≤ p8) (hp11 : H0.next ≤ p11) (h8N : p8 < N) (h11N : p11 < N) (hls : Strict ls) {X : Int} {y0 y1 y2 : Value} {mem : Int → Prop}
    (hnl : ∀ q, a = some q → q.block ≠ p11) (hnh : ∀ q, ah = some q → q.block ≠ p11) (hlN : ∀ q, a = some q → q.block < N) (hhN : ∀ q, ah = some q → q.block < N) (hmem : ∀ v, v ∈ ls.filter (hasI hv) ↔ mem v) :
    ∀ (m j n : Nat) (ao : Option Addr) (lo co : Nat) (H : AHeap) (D : List Value) (e8 v8 e11 v11 : Nat), j + m = l → m < n → Agree H0 H → Ints H a l ls → Ints H ah lh hv → N ≤ H.next →
    At H p8 ⟨[y0, y1, y2], e8, .rw, v8⟩ → At H p11 ⟨[.int .i64 X, .int .i64 0, .slice ao lo co], e11, .rw, v11⟩ → Own N 1 H ao lo co (ints ((ls.take j).filter (hasI hv))) →
    Ok (f25.L1 k n p8 ah lh ch p11 a l c (l : Int) (j : Int) D H) (stPost H0 X 0 mem) := by
  intro m
  induction m with
  | zero =>
    intro j n ao lo co H D e8 v8 e11 v11 hm hn A h hh hNn h8 h11 ho
    obtain ⟨n, rfl⟩ : ∃ j, n = j + 1 := ⟨n - 1, by omega⟩
    rw [f25.L1_s]
    refine ok_biff (by simp only [decide_eq_false_iff_not]; omega) ?_
    rw [List.take_of_length_le (by have := h.len; omega)] at ho
    have hb := ho.block
    exact f25_K3 A h8 h11 hne hp8 ho.ints (fun q e => by have := hb q e; omega) (fun q e => by have := hb q e; omega) (hls.filter _) hmem
  | succ m ih =>
    intro j n ao lo co H D e8 v8 e11 v11 hm hn A h hh hNn h8 h11 ho
    obtain ⟨n, rfl⟩ : ∃ j, n = j + 1 := ⟨n - 1, by omega⟩
    rw [f25.L1_s]
    have hlen := h.len
    obtain ⟨q, x, hx, e, hq⟩ := Ints.at h (i := j) (by omega)
    have hft := filter_take (kp := hasI hv) hx
    refine ok_bift (by simp only [decide_eq_true_eq]; omega) (ok_bind e (ok_if (by omega) (ok_bind hq ?_)))
    refine ok_cB0 (f29_spec hh (by unfold maxLen; omega) (by omega) x) ?_
    rw [wrapS (i := j) (l := l) (by omega) (by unfold maxLen; omega)]
    refine ok_bif (fun hc => ?_) (fun hc => ?_)
    · rw [if_pos hc] at hft
      refine ok_bSl (ldSl_at h11 (by simp) rfl) (ok_al fun i H1 hi n1 A1 B1 => ?_)
      have hlo : lo ≤ 1000 := by
        have := ho.len
        have h2 := List.length_filter_le (hasI hv) (ls.take j)
        rw [List.length_take] at h2
        omega
      refine ok_cSl (app_own (by decide) (app26' _ _ _ _ _ _ _) (ho.agree A1) (cs' := ints [x]) ⟨rfl, .inr ⟨i, 0, none, _, rfl, B1, by simp, by simp, by simp [ints]⟩⟩ (by omega) (by omega) (by omega)) fun a2 l2 c2 H2 hp => ?_
      obtain ⟨rfl, o2, k2, or2⟩ := hp
      rw [ints_app, ← hft] at o2
      have hbo := ho.block
      have K2 : Keep ao H H2 := Keep.of_agree A1 k2
      have g8 := h8.keep K2 (fun q e => by have := hbo q e; omega)
      have g11 := h11.keep K2 (fun q e => by have := hbo q e; omega)
      have gh : Ints H2 ah lh hv := Cells.keep hh K2 fun q q' e1 e2 => by have := hbo q' e2; have := hhN q e1; omega
      have gl : Ints H2 a l ls := Cells.keep h K2 fun q q' e1 e2 => by have := hbo q' e2; have := hlN q e1; omega
      have A2 : Agree H0 H2 := K2.agree A (fun q e => by have := hbo q e; omega)
      refine ok_wr g11 rfl (by simp) fun H3 W3 => ?_
      have hb2 := o2.block
      exact ih (j + 1) n a2 _ c2 H3 _ e8 v8 _ _ (by omega) (by omega) (A2.wrote W3 hp11) (Cells.wrote gl W3 hnl) (Cells.wrote gh W3 hnh) (by rw [W3.next]; have := K2.next; omega) (g8.wrote W3 hne) W3.at' (o2.wrote W3 (by omega))
    · rw [if_neg (by rw [hc]; decide)] at hft
      exact ih (j + 1) n ao lo co H _ e8 v8 e11 v11 (by omega) (by omega) A h hh hNn h8 h11 (by rw [hft]; exact ho)

theorem f25_K2 (hk : 1200 ≤ k) {H : AHeap} (A : Agree H0 H) (hl : l ≤ 1000) (hlh : lh ≤ 1000) (hne : p8 ≠ p11) (hp8 : H0.next ≤ p8) (hp11 : H0.next ≤ p11) (hls : Strict ls) (hhv : Strict hv) {st own th : Int} {w : Bool} {y0 y1 y2 : Value} {ex sh : List Int}
    {e4 v4 e8 v8 e11 v11 : Nat} {D : List Value}
    (h4 : At H p4 ⟨[.int .i64 st, .int .i64 own, .slice a l c], e4, .rw, v4⟩) (h8 : At H p8 ⟨[y0, y1, y2], e8, .rw, v8⟩) (h11 : At H p11 ⟨[.int .i64 (bif w then 3 else bif st == 3 then 3 else 2), .int .i64 0, .slice none 0 0], e11, .rw, v11⟩)
    (h : Ints H a l ls) (hh : Ints H ah lh hv) (hnl : ∀ q, a = some q → q.block < H0.next) (hnh : ∀ q, ah = some q → H0.next ≤ q.block) (hnh8 : ∀ q, ah = some q → q.block ≠ p8) (hnh11 : ∀ q, ah = some q → q.block ≠ p11)
    (hmem : ∀ v, v ∈ hv ↔ if w = true then v ∈ ex else v ∈ ex ∨ v ∈ sh) (hst : 0 ≤ st ∧ st ≤ 3) :
    Ok (f25.K2 k th p4 p8 ah lh ch p11 D H) (stPost H0 (stS st own th w) (owS st own th) (inS st own th w ls ex sh)) := by
  rw [f25.K2_eq]
  refine ok_bind (ldI_at h4 (by simp) rfl) (ok_bif (fun h0 => ?_) (fun h0 => ?_))
  · rw [beq_iff_eq] at h0
    subst h0
    refine ok_wr h8 rfl (by simp) fun H1 W1 => ok_bind (row_at W1.at' (by simp) (by simp [splice])) (Ok.ret ?_)
    exact ⟨none, 0, 0, rfl, ⟨[], Ints.nil _, .nil, fun v => by simp [inS]⟩, A.wrote W1 hp8, fun q e => by cases e⟩
  have hst0 : ¬ st = 0 := by simpa using h0
  refine ok_bif (fun h1 => ?_) (fun h1 => ?_)
  · have h1' := h1
    rw [beq_iff_eq] at h1'
    subst h1'
    refine ok_bind (ldI_at h4 (by simp) rfl) (ok_bif (fun ho => ?_) (fun ho => ?_))
    · rw [beq_iff_eq] at ho
      subst ho
      refine ok_wr h8 rfl (by simp) fun H1 W1 => ok_bind (row_at W1.at' (by simp) (by simp [splice])) (Ok.ret ?_)
      exact ⟨none, 0, 0, by simp [stS, owS]; rfl, ⟨[], Ints.nil _, .nil, fun v => by simp [inS]⟩, A.wrote W1 hp8, fun q e => by cases e⟩
    · have hown : ¬ own = th := by simpa using ho
      refine ok_wr h11 rfl (by simp) fun H1 W1 => ?_
      have e1 : stS 1 own th w = (bif w then 3 else bif (1 : Int) == 3 then 3 else 2) := by simp [stS, ho]
      have e2 : owS 1 own th = 0 := by simp [owS, ho]
      rw [e1, e2]
      refine f25_K3 (A.wrote W1 hp11) (h8.wrote W1 hne) W1.at' hne hp8 (Cells.wrote hh W1 hnh11) hnh hnh8 hhv (fun v => ?_)
      rw [hmem]
      simp [inS, hown]
  · have hst1 : ¬ st = 1 := by simpa using h1
    refine ok_bSl (ldSl_at h4 (by simp) rfl) ?_
    have e1 : stS st own th w = (bif w then 3 else bif st == 3 then 3 else 2) := by
      unfold stS
      rw [h0, h1]
      cases w
      · show st = (bif st == 3 then 3 else 2)
        by_cases h3 : st = 3
        · subst h3; rfl
        · have : (st == 3) = false := by simpa using h3
          rw [this]
          show st = 2
          omega
      · rfl
    have e2 : owS st own th = 0 := by unfold owS; rw [h0, h1]; rfl
    rw [e1, e2]
    have hbl := Cells.below h
    have hbh := Cells.below hh
    have hn := A.next
    refine f25_l1 (N := H.next) hk hn hl hlh hne hp8 hp11 h8.1 h11.1 hls (fun q e => by have := hnl q e; omega) hnh11 hbl hbh (fun v => ?_) l 0 k none 0 0 H _ _ _ _ _ (by omega) (by omega) A h hh (Nat.le_refl _) h8 h11 (Own.nil _ _ _)
    rw [List.mem_filter, hasI_iff, hmem]
    simp [inS, hst0, hst1]
end
theorem f25_spec {k : Nat} (hk : 1300 ≤ k) {H : AHeap} {a : Option Addr} {l c : Nat} {a1 : Option Addr} {l1 c1 : Nat} {a2 : Option Addr} {l2 c2 : Nat} {ls ex sh : List Int} (st own th : Int) (w : Bool)
    (h : Ints H a l ls) (h1 : Ints H a1 l1 ex) (h2 : Ints H a2 l2 sh) (hl : l ≤ 100) (hl1 : l1 ≤ 100) (hl2 : l2 ≤ 100) (hls : Strict ls) (hst : 0 ≤ st ∧ st ≤ 3) :
    Ok (C k 25 [.agg #[.int .i64 st, .int .i64 own, .slice a l c], .int .i64 th, .bool w, .agg #[.slice a1 l1 c1, .slice a2 l2 c2]] H) (stPost H (stS st own th w) (owS st own th) (inS st own th w ls ex sh)) := by
  obtain ⟨k, rfl⟩ : ∃ j, k = j + 1 := ⟨k - 1, by omega⟩
  rw [f25_eq]
  refine ok_al fun i H1 hi n1 A1 B1 => ok_al fun i' H2 hi' n2 A2 B2 => ok_al fun i'' H3 hi'' n3 A3 B3 => ?_
  have A03 := (A1.trans A2).trans A3
  have P1 := (B1.agree A2).agree A3
  have P2 := B2.agree A3
  refine ok_bind (row_at P2 (by simp) (by simp)) ?_
  -- what is left to do, when the locks that count are known
  have last : ∀ (ah : Option Addr) (lh ch : Nat) (hv : List Int) (H4 : AHeap) (D : List Value), Agree H3 H4 → Own H3.next 1 H4 ah lh ch (ints hv) → Strict hv → lh ≤ 200 → (∀ v, v ∈ hv ↔ if w = true then v ∈ ex else v ∈ ex ∨ v ∈ sh) →
      Ok (f25.K1 k th w i i'' ah lh ch D H4) (stPost H (stS st own th w) (owS st own th) (inS st own th w ls ex sh)) := by
    intro ah lh ch hv H4 D A4 o4 s4 l4 m4
    rw [f25.K1_eq]
    have hb := o4.block
    have A04 := A03.trans A4
    refine ok_al fun p H5 hp5 n5 A5 B5 => ok_wr B5 rfl (by simp) fun H6 W6 => ?_
    have A46 : Agree H4 H6 := A5.wrote W6 (by omega)
    have Q1 := (P1.agree A4).agree A46
    have Q3 := (B3.agree A4).agree A46
    have Q6 := W6.at'
    have hn4 := A4.next
    have hn6 := A46.next
    have hbel := Cells.below h
    have hh4 := Cells.below o4.cells
    have fin : ∀ (X : Int) (H7 : AHeap) (D : List Value) (e11 v11 : Nat), X = (bif w then 3 else bif st == 3 then 3 else 2) → Agree H4 H7 → At H7 p ⟨[.int .i64 X, .int .i64 0, .slice none 0 0], e11, .rw, v11⟩ →
        Ok (f25.K2 k th i i'' ah lh ch p D H7) (stPost H (stS st own th w) (owS st own th) (inS st own th w ls ex sh)) := by
      intro X H7 D e11 v11 hX A7 B7
      rw [hX] at B7
      have A07 := A04.trans A7
      exact f25_K2 (by omega) A07 (by omega) (by omega) (by omega) (by omega) (by omega) hls s4 ((P1.agree A4).agree A7) ((B3.agree A4).agree A7) B7 (h.agree A07) (o4.ints.agree A7) hbel
        (fun q e => by have := hb q e; omega) (fun q e => by have := hb q e; omega) (fun q e => by have := hh4 q e; omega) m4 hst
    refine ok_bif (fun hw => ?_) (fun hw => ?_)
    · subst hw
      exact ok_wr Q6 rfl (by simp [splice]) fun H7 W7 => fin 3 H7 _ _ _ rfl (A46.wrote W7 (by omega)) W7.at'
    · subst hw
      refine ok_bind (ldI_at Q1 (by simp) rfl) (ok_bif (fun h3 => ?_) (fun h3 => ?_))
      · exact ok_wr Q6 rfl (by simp [splice]) fun H7 W7 => fin 3 H7 _ _ _ (by rw [h3]; rfl) (A46.wrote W7 (by omega)) W7.at'
      · exact fin 2 H6 _ _ _ (by rw [h3]; rfl) A46 Q6
  refine ok_cSl (f57_spec (by omega) (by omega) (by omega) (h1.agree A03) (h2.agree A03)) fun ah lh ch H4 hp => ?_
  obtain ⟨⟨hv, o4, s4, m4, g4⟩, A4⟩ := hp
  refine ok_bif (fun hw => ?_) (fun hw => ?_)
  · subst hw
    refine ok_bSl (ldSl_at (P2.agree A4) (by simp) rfl) ?_
    refine ok_cSl (f58_spec (by omega) (by omega) ((h1.agree A03).agree A4)) fun ax lx cx H5 hp => ?_
    obtain ⟨⟨hx, o5, s5, m5, g5⟩, A5⟩ := hp
    refine last ax lx cx hx H5 _ (A4.trans A5) (o5.lower A4.next) s5 (by have := o5.len; omega) (fun v => by rw [m5]; simp)
  · subst hw
    exact last ah lh ch hv H4 _ A4 o4 s4 (by have := o4.len; omega) (fun v => by rw [m4]; simp)
end Go.Proofs.MxF
