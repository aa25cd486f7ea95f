/- Equal states; the locks of a number. -/
import Derived.Test.YtcegcnopakfloaaXK7
import Derived.Test.YtcegcnopakfloaaXLp5
set_option linter.unusedVariables false
namespace Go.Mx
open Go Go.Proofs
theorem Cells.same {H : AHeap} {a : Option Addr} {n : Nat} {cs : List Value} (h : Cells H a n cs) {q : Addr} (e : a = some q) : ∀ H', Agree H H' → sameB H H' q.block = true := by
  intro H' A
  rcases h.2 with ⟨e1, _⟩ | ⟨i, o, s, b, e1, h1, _⟩
  · rw [e1] at e; cases e
  · rw [e1] at e; cases e; exact sameB_agree h1 A
theorem ok_cG1 {R : Type} {Q : R → Prop} {X : Option (Value × AHeap)} {K : Array Value → AHeap → Option R} {P : Value × AHeap → Prop} (h : Ok X P) (k : ∀ v H', P (v, H') → ∃ g : List Value, v = .agg g.toArray ∧ Ok (K g.toArray H') Q) : Ok (cG X K) Q := by
  obtain ⟨⟨v, H'⟩, e, hp⟩ := h
  obtain ⟨g, rfl, hk⟩ := k v H' hp
  unfold cG
  rw [e]
  exact hk
theorem ok_cT9 {R : Type} {Q : R → Prop} {X : Option (Value × AHeap)} {K : Array Value → AHeap → Option R} {P : Value × AHeap → Prop} (h : Ok X P) (k : ∀ v H', P (v, H') → ∃ g : List Value, v = .tuple g.toArray ∧ Ok (K g.toArray H') Q) : Ok (cT X K) Q := by
  obtain ⟨⟨v, H'⟩, e, hp⟩ := h
  obtain ⟨g, rfl, hk⟩ := k v H' hp
  unfold cT
  rw [e]
  exact hk
end Go.Mx
namespace Go.Proofs.MxF
open Go Go.Mx Go.Proofs
theorem f59_loop {k l c : Nat} {a : Option Addr} {l' c' : Nat} {a' : Option Addr} {xs : List Int} (hl : l < maxLen) (hll : l' = l) : ∀ (m i n : Nat) (H : AHeap) (D : List Value), Ints H a l xs → Ints H a' l' xs → i + m = l → m < n →
    Ok (f59.L1 k n a l c a' l' c' (l : Int) (i : Int) D H) fun r => r.1 = .bool true ∧ Agree H r.2 := by
  intro m
  induction m with
  | zero =>
    intro i n H D h h' hm hn
    obtain ⟨n, rfl⟩ : ∃ j, n = j + 1 := ⟨n - 1, by omega⟩
    rw [f59.L1_s]
    exact ok_biff (by simp only [decide_eq_false_iff_not]; omega) (Ok.ret ⟨rfl, Agree.refl H⟩)
  | succ m ih =>
    intro i n H D h h' hm hn
    obtain ⟨n, rfl⟩ : ∃ j, n = j + 1 := ⟨n - 1, by omega⟩
    rw [f59.L1_s]
    have Ab := agree_bump H 9
    obtain ⟨q, x, hx, e, hq⟩ := Ints.at (h.agree Ab) (i := i) (by omega)
    obtain ⟨q', x', hx', e', hq'⟩ := Ints.at (h'.agree Ab) (i := i) (by omega)
    rw [hx] at hx'
    cases hx'
    refine ok_bift (by simp only [decide_eq_true_eq]; omega) (ok_bind e (ok_if (by omega) (ok_bift (Cells.same h e _ Ab) (ok_bind hq (ok_bind e' (ok_if (by omega) (ok_bift (Cells.same h' e' _ Ab) (ok_bind hq' (ok_biff (by simp) ?_)))))))))
    rw [wrapS (l := l) (by omega) (Nat.le_of_lt hl)]
    obtain ⟨r, er, h1, h2⟩ := ih (i + 1) n _ _ (h.agree Ab) (h'.agree Ab) (by omega) (by omega)
    exact ⟨r, er, h1, Ab.trans h2⟩
theorem f59_spec {k l c : Nat} {a : Option Addr} {l' c' : Nat} {a' : Option Addr} {xs : List Int} {H : AHeap} (hl : l < maxLen) (hk : l + 3 ≤ k) (h : Ints H a l xs) (h' : Ints H a' l' xs) :
    ∃ H', C k 59 [.slice a l c, .slice a' l' c'] H = some (.bool true, H') ∧ Agree H H' := by
  obtain ⟨k, rfl⟩ : ∃ j, k = j + 1 := ⟨k - 1, by omega⟩
  rw [f59_eq]
  have hll : l' = l := h'.len.trans h.len.symm
  refine call_of_ok (ok_biff (by simp [hll]) ?_)
  exact f59_loop (k := k) (c := c) (c' := c') hl hll l 0 k H _ h h' (by omega) (by omega)
theorem f26_spec {k l c : Nat} {a : Option Addr} {l' c' : Nat} {a' : Option Addr} {xs : List Int} {H : AHeap} (st own : Int) (hl : l < maxLen) (hk : l + 4 ≤ k) (h : Ints H a l xs) (h' : Ints H a' l' xs) :
    ∃ H', C k 26 [.agg #[.int .i64 st, .int .i64 own, .slice a l c], .agg #[.int .i64 st, .int .i64 own, .slice a' l' c']] H = some (.bool true, H') ∧ Agree H H' := by
  obtain ⟨k, rfl⟩ : ∃ j, k = j + 1 := ⟨k - 1, by omega⟩
  rw [f26_eq]
  refine call_of_ok (ok_al fun i H1 hi n1 A1 B1 => ok_al fun i' H2 hi' n2 A2 B2 => ?_)
  have B12 := B1.agree A2
  have A02 := A1.trans A2
  refine ok_bind (ldI_at B12 (by simp) rfl) (ok_bind (ldI_at B2 (by simp) rfl) (ok_bift (by simp) ?_))
  refine ok_bind (ldI_at B12 (by simp) rfl) (ok_bind (ldI_at B2 (by simp) rfl) (ok_bift (by simp) ?_))
  refine ok_bSl (ldSl_at B12 (by simp) rfl) (ok_bSl (ldSl_at B2 (by simp) rfl) ?_)
  exact ok_cB (f59_spec hl (by omega) (h.agree A02) (h'.agree A02)) fun H3 A3 => Ok.ret ⟨rfl, A02.trans A3⟩

def heldL (d : Int) : Nat → Int → Int → List Int
  | 0, _, _ => []
  | m + 1, n, k => (if (n.tmod 3 == d) = true then [k] else []) ++ heldL d m (IntKind.u8.wrap (n.tdiv 3)) (k + 1)
theorem heldL_len (d : Int) : ∀ m n k, (heldL d m n k).length ≤ m := by
  intro m
  induction m with
  | zero => intro n k; simp [heldL]
  | succ m ih =>
    intro n k
    have := ih (IntKind.u8.wrap (n.tdiv 3)) (k + 1)
    unfold heldL
    rw [List.length_append]
    split <;> simp <;> omega
def heldPost (H0 : AHeap) (n : Int) (r : Value × AHeap) : Prop :=
  ∃ a1 l1 c1 a2 l2 c2, r.1 = .agg #[.slice a1 l1 c1, .slice a2 l2 c2] ∧ Ints r.2 a1 l1 (heldL 1 4 n 0) ∧ Ints r.2 a2 l2 (heldL 2 4 n 0) ∧ Agree H0 r.2
theorem f23_loop {k : Nat} {H0 : AHeap} {N p2 p3 : Nat} {n0 : Int} (hN : H0.next ≤ N) (h2N : p2 < N) (h3N : p3 < N) (hp2 : H0.next ≤ p2) (hp3 : H0.next ≤ p3) (hne : p2 ≠ p3) :
    ∀ (m i f : Nat) (n : Int) (H : AHeap) (D : List Value) (a1 : Option Addr) (l1 c1 : Nat) (a2 : Option Addr) (l2 c2 e2 v2 e3 v3 : Nat) (x1 x2 : List Int) (y0 y1 : Value), i + m = 4 → m < f → Agree H0 H → N ≤ H.next →
    At H p2 ⟨[y0, y1], e2, .rw, v2⟩ → At H p3 ⟨[.slice a1 l1 c1, .slice a2 l2 c2], e3, .rw, v3⟩ → Own N 1 H a1 l1 c1 (ints x1) → Own N 1 H a2 l2 c2 (ints x2) → (∀ q q', a1 = some q → a2 = some q' → q.block ≠ q'.block) →
    x1 ++ heldL 1 m n (i : Int) = heldL 1 4 n0 0 → x2 ++ heldL 2 m n (i : Int) = heldL 2 4 n0 0 →
    Ok (f23.L1 k f n p2 p3 (i : Int) D H) (heldPost H0 n0) := by
  intro m
  induction m with
  | zero =>
    intro i f n H D a1 l1 c1 a2 l2 c2 e2 v2 e3 v3 x1 x2 y0 y1 hm hf A hNn h2 h3 o1 o2 hd hx1 hx2
    obtain ⟨f, rfl⟩ : ∃ j, f = j + 1 := ⟨f - 1, by omega⟩
    rw [f23.L1_s]
    rw [show heldL 1 0 n (i : Int) = [] from rfl, List.append_nil] at hx1
    rw [show heldL 2 0 n (i : Int) = [] from rfl, List.append_nil] at hx2
    subst hx1
    subst hx2
    refine ok_biff (by simp only [decide_eq_false_iff_not]; omega) (ok_bind (row_at h3 (by simp) (by simp)) (ok_if ⟨rfl, rfl⟩ (ok_wr h2 rfl (by simp) fun H1 W1 => ok_bind (row_at W1.at' (by simp) (by simp [splice])) (Ok.ret ?_))))
    have b1 := o1.block
    have b2 := o2.block
    exact ⟨a1, l1, c1, a2, l2, c2, rfl, Cells.wrote o1.ints W1 (fun q e => by have := b1 q e; omega), Cells.wrote o2.ints W1 (fun q e => by have := b2 q e; omega), A.wrote W1 hp2⟩
  | succ m ih =>
    intro i f n H D a1 l1 c1 a2 l2 c2 e2 v2 e3 v3 x1 x2 y0 y1 hm hf A hNn h2 h3 o1 o2 hd hx1 hx2
    obtain ⟨f, rfl⟩ : ∃ j, f = j + 1 := ⟨f - 1, by omega⟩
    rw [f23.L1_s]
    have b1 := o1.block
    have b2 := o2.block
    have g1 := Cells.below o1.cells
    have g2 := Cells.below o2.cells
    have ll1 := o1.len
    have ll2 := o2.len
    have t1 := congrArg List.length hx1
    have t2 := congrArg List.length hx2
    rw [List.length_append] at t1 t2
    have u1 := heldL_len 1 4 n0 0
    have u2 := heldL_len 2 4 n0 0
    rw [heldL] at hx1 hx2
    have ei : ((i : Int) + 1) = ((i + 1 : Nat) : Int) := rfl
    have ew : IntKind.i64.wrap ((i : Int) + 1) = ((i + 1 : Nat) : Int) := wrapS (l := 10) (by omega) (by unfold maxLen; omega)
    rw [ei] at hx1 hx2
    rw [ew]
    refine ok_bift (by simp only [decide_eq_true_eq]; omega) (ok_bif (fun hc => ?_) (fun hc => ?_))
    · rw [if_pos hc] at hx1
      have hc2 : ¬ (n.tmod 3 == 2) = true := by rw [beq_iff_eq] at hc ⊢; omega
      rw [if_neg hc2, List.nil_append] at hx2
      refine ok_bSl (ldSl_at h3 (by simp) rfl) (ok_al fun j H1 hj n1 A1 B1 => ?_)
      refine ok_cSl (app_own (by decide) (app26' _ _ _ _ _ _ _) (o1.agree A1) (cs' := ints [(i : Int)]) ⟨rfl, .inr ⟨j, 0, none, _, rfl, B1, by simp, by simp, by simp [ints]⟩⟩ (by omega) (by omega) (by omega)) fun a3 l3 c3 H2 hp => ?_
      obtain ⟨rfl, o3, k3, or3⟩ := hp
      rw [ints_app] at o3
      have K2 : Keep a1 H H2 := Keep.of_agree A1 k3
      have q3 := h3.keep K2 (fun q e => by have := b1 q e; omega)
      have q2 := h2.keep K2 (fun q e => by have := b1 q e; omega)
      refine ok_wr q3 rfl (by simp) fun H3 W3 => ?_
      have hk2 := K2.next
      refine ih (i + 1) f _ H3 _ a3 _ c3 a2 l2 c2 _ _ _ _ (x1 ++ [(i : Int)]) x2 y0 y1 (by omega) (by omega) ((K2.agree A (fun q e => by have := b1 q e; omega)).wrote W3 hp3) (by rw [W3.next]; omega) (q2.wrote W3 hne) W3.at' (o3.wrote W3 (by omega)) ?_ ?_ (by rw [List.append_assoc]; exact hx1) hx2
      · have : Own N 1 H2 a2 l2 c2 (ints x2) := by
          refine ⟨o2.1, o2.2.1, ?_⟩
          rcases o2.2.2 with h | ⟨ii, b, e, z0, z1, z2⟩
          · exact .inl h
          · exact .inr ⟨ii, b, e, z0, z1.keep K2 (fun q e' => hd q _ e' e), z2⟩
        exact this.wrote W3 (by omega)
      · intro q q' e1 e2
        rcases or3 q e1 with ⟨q0, e0, eb⟩ | hge
        · rw [← eb]; exact hd q0 q' e0 e2
        · have := g2 q' e2; omega
    · rw [if_neg (by rw [hc]; decide), List.nil_append] at hx1
      refine ok_bif (fun hc' => ?_) (fun hc' => ?_)
      · rw [if_pos hc'] at hx2
        refine ok_bSl (ldSl_at h3 (by simp) rfl) (ok_al fun j H1 hj n1 A1 B1 => ?_)
        refine ok_cSl (app_own (by decide) (app26' _ _ _ _ _ _ _) (o2.agree A1) (cs' := ints [(i : Int)]) ⟨rfl, .inr ⟨j, 0, none, _, rfl, B1, by simp, by simp, by simp [ints]⟩⟩ (by omega) (by omega) (by omega)) fun a3 l3 c3 H2 hp => ?_
        obtain ⟨rfl, o3, k3, or3⟩ := hp
        rw [ints_app] at o3
        have K2 : Keep a2 H H2 := Keep.of_agree A1 k3
        have q3 := h3.keep K2 (fun q e => by have := b2 q e; omega)
        have q2 := h2.keep K2 (fun q e => by have := b2 q e; omega)
        refine ok_wr q3 rfl (by simp) fun H3 W3 => ?_
        have hk2 := K2.next
        refine ih (i + 1) f _ H3 _ a1 l1 c1 a3 _ c3 _ _ _ _ x1 (x2 ++ [(i : Int)]) y0 y1 (by omega) (by omega) ((K2.agree A (fun q e => by have := b2 q e; omega)).wrote W3 hp3) (by rw [W3.next]; omega) (q2.wrote W3 hne) W3.at' ?_ (o3.wrote W3 (by omega)) ?_ hx1 (by rw [List.append_assoc]; exact hx2)
        · have : Own N 1 H2 a1 l1 c1 (ints x1) := by
            refine ⟨o1.1, o1.2.1, ?_⟩
            rcases o1.2.2 with h | ⟨ii, b, e, z0, z1, z2⟩
            · exact .inl h
            · exact .inr ⟨ii, b, e, z0, z1.keep K2 (fun q e' => Ne.symm (hd _ q e e')), z2⟩
          exact this.wrote W3 (by omega)
        · intro q q' e1 e2
          rcases or3 q' e2 with ⟨q0, e0, eb⟩ | hge
          · rw [← eb]; exact hd q q0 e1 e0
          · have := g1 q e1; omega
      · rw [if_neg (by rw [hc']; decide), List.nil_append] at hx2
        exact ih (i + 1) f _ H _ a1 l1 c1 a2 l2 c2 _ _ _ _ x1 x2 y0 y1 (by omega) (by omega) A hNn h2 h3 o1 o2 hd hx1 hx2
theorem f23_spec {k : Nat} (hk : 10 ≤ k) (H : AHeap) (n : Int) : Ok (C k 23 [.int .u8 n] H) (heldPost H n) := by
  obtain ⟨k, rfl⟩ : ∃ j, k = j + 1 := ⟨k - 1, by omega⟩
  rw [f23_eq]
  refine ok_al fun i H1 hi n1 A1 B1 => ok_al fun i' H2 hi' n2 A2 B2 => ?_
  exact f23_loop (N := H2.next) (by omega) (by omega) (by omega) (by omega) (by omega) (by omega) 4 0 k n H2 _ none 0 0 none 0 0 _ _ _ _ [] [] _ _ rfl (by omega) (A1.trans A2) (Nat.le_refl _) (B1.agree A2) B2 (Own.nil _ _ _) (Own.nil _ _ _) (fun q q' e => by cases e) rfl rfl
end Go.Proofs.MxF
