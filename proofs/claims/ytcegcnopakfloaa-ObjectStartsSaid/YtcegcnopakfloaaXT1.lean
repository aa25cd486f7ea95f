/- Lists whose elements are rows of cells. -/
import Derived.Test.YtcegcnopakfloaaXS2
import Derived.Test.YtcegcnopakfloaaXA1
set_option linter.unusedVariables false
namespace Go.Mx
open Go
section
variable {α : Type} {f : α → List Value} {sz : Nat}
theorem flat_len (hf : ∀ x, (f x).length = sz) (xs : List α) : (xs.flatMap f).length = xs.length * sz := by
  induction xs with
  | nil => simp
  | cons x xs ih => rw [List.flatMap_cons, List.length_append, ih, hf, List.length_cons, Nat.succ_mul, Nat.add_comm]
theorem flat_split (hf : ∀ x, (f x).length = sz) {xs : List α} {i : Nat} {x : α} (h : xs[i]? = some x) :
    xs.flatMap f = (xs.take i).flatMap f ++ (f x ++ (xs.drop (i + 1)).flatMap f) ∧ ((xs.take i).flatMap f).length = i * sz := by
  obtain ⟨hi, e⟩ := List.getElem?_eq_some_iff.1 h
  constructor
  · conv => lhs; rw [← List.take_append_drop i xs, List.flatMap_append, List.drop_eq_getElem_cons hi, e, List.flatMap_cons]
  · rw [flat_len hf, List.length_take]
    congr 1
    omega
theorem flat_get (hf : ∀ x, (f x).length = sz) {xs : List α} {i j : Nat} {x : α} (h : xs[i]? = some x) (hj : j < sz) : (xs.flatMap f)[i * sz + j]? = (f x)[j]? := by
  obtain ⟨e, hl⟩ := flat_split hf h
  rw [e, List.getElem?_append_right (by omega), hl, Nat.add_sub_cancel_left, List.getElem?_append_left (by rw [hf]; exact hj)]
theorem flat_row (hf : ∀ x, (f x).length = sz) {xs : List α} {i : Nat} {x : α} (h : xs[i]? = some x) : ((xs.flatMap f).drop (i * sz)).take sz = f x := by
  obtain ⟨e, hl⟩ := flat_split hf h
  rw [e, List.drop_left' hl, List.take_left' (hf x)]
theorem flat_splice (hf : ∀ x, (f x).length = sz) {xs : List α} {i j : Nat} {x y : α} {vs : List Value} (h : xs[i]? = some x) (hj : j + vs.length ≤ sz) (hy : f y = splice (f x) j vs) :
    splice (xs.flatMap f) (i * sz + j) vs = (xs.set i y).flatMap f := by
  obtain ⟨e, hl⟩ := flat_split hf h
  obtain ⟨hi, _⟩ := List.getElem?_eq_some_iff.1 h
  have e2 : (xs.set i y).flatMap f = (xs.take i).flatMap f ++ (f y ++ (xs.drop (i + 1)).flatMap f) := by
    rw [List.set_eq_take_append_cons_drop, if_pos hi, List.flatMap_append, List.flatMap_cons]
  rw [e2, hy, e]
  generalize (xs.take i).flatMap f = A at hl
  generalize (xs.drop (i + 1)).flatMap f = B
  have hx := hf x
  revert hx
  generalize f x = X
  intro hx
  unfold splice
  rw [List.take_append, List.take_append, List.take_of_length_le (by omega), hl, Nat.add_sub_cancel_left]
  rw [show j - X.length = 0 from by omega, List.take_zero, List.append_nil]
  rw [show i * sz + j + vs.length = A.length + (j + vs.length) from by omega, ← List.drop_drop, List.drop_left' rfl, List.drop_append_of_le_length (by omega)]
  simp
theorem flat_snoc (xs : List α) (x : α) : (xs ++ [x]).flatMap f = xs.flatMap f ++ f x := by
  rw [List.flatMap_append, List.flatMap_singleton]
end

/-- cells that are read, all in blocks of a kind -/
def CellsF (F : Nat → Prop) (H : AHeap) (a : Option Addr) (n : Nat) (cs : List Value) : Prop := Cells H a n cs ∧ ∀ q, a = some q → F q.block
section
variable {F G : Nat → Prop} {H H' : AHeap} {a : Option Addr} {n : Nat} {cs : List Value}
theorem CellsF.agree (h : CellsF F H a n cs) (A : Agree H H') : CellsF F H' a n cs := ⟨h.1.agree A, h.2⟩
theorem CellsF.wrote (h : CellsF F H a n cs) {i : Nat} {b' : Blk} (w : Wrote H H' i b') (hi : ¬ F i) : CellsF F H' a n cs :=
  ⟨Cells.wrote h.1 w fun q e hh => hi (hh ▸ h.2 q e), h.2⟩
theorem CellsF.mono (h : CellsF F H a n cs) (k : ∀ i, F i → G i) : CellsF G H a n cs := ⟨h.1, fun q e => k _ (h.2 q e)⟩
theorem CellsF.keep (h : CellsF F H a n cs) {b : Option Addr} (k : Keep b H H') (hb : ∀ q, b = some q → ¬ F q.block) : CellsF F H' a n cs :=
  ⟨Cells.keep h.1 k fun q q' e e' hh => hb q' e' (hh ▸ h.2 q e), h.2⟩
theorem CellsF.sub (h : CellsF F H a n cs) (k : Sub' H H') : CellsF F H' a n cs := ⟨h.1.sub k, h.2⟩
end

/-- a part of a slice of ours is written -/
theorem own_wr {N sz : Nat} {H : AHeap} {a : Option Addr} {l c : Nat} {cs : List Value} (h : Own N sz H a l c cs) {o : Nat} {vs : List Value} (hv : 0 < vs.length) (ho : o + vs.length ≤ l * sz) :
    ∃ q H', a = some q ∧ q.off = 0 ∧ H.wr q.block (q.off + o) vs = some H' ∧ Own N sz H' a l c (splice cs o vs) ∧ Keep a H H' ∧ H'.next = H.next := by
  rcases h.2.2 with ⟨e, e2⟩ | ⟨i, b, e, h0, h1, h2, h3, h4, h5⟩
  · have := h.2.1
    subst e2
    have : l = 0 := by omega
    subst this
    rw [Nat.zero_mul] at ho
    omega
  · have hlen := h.1
    have hle : l * sz ≤ c * sz := Nat.mul_le_mul_right _ h.2.1
    obtain ⟨H', hw, w1, w2, w3⟩ := wr_at (o := 0 + o) (vs := vs) h1 h2 (by omega)
    refine ⟨_, H', e, rfl, hw, ⟨?_, h.2.1, .inr ⟨i, _, e, h0, w2, h2, h3, ?_, ?_⟩⟩, ⟨by rw [w1]; exact Nat.le_refl _, fun j hj hne => w3 j fun e1 => hne _ e e1.symm, fun f j hj => ?_⟩, w1⟩
    · unfold splice
      simp only [List.length_append, List.length_take, List.length_drop]
      omega
    · show (splice b.cells (0 + o) vs).length = c * sz
      unfold splice
      simp only [List.length_append, List.length_take, List.length_drop]
      omega
    · show (splice b.cells (0 + o) vs).take (l * sz) = splice cs o vs
      rw [← h5]
      unfold splice
      rw [Nat.zero_add, List.take_append, List.take_of_length_le (by simp only [List.length_append, List.length_take]; omega), List.take_take, Nat.min_eq_left (by omega)]
      congr 1
      rw [List.drop_take, List.length_append, List.length_take]
      congr 1
      omega
    · rw [w1] at hj
      rw [w3 j (by have := h1.1; omega)]
      exact f j hj
theorem own_same {N sz : Nat} {H : AHeap} {a : Option Addr} {l c : Nat} {cs : List Value} (h : Own N sz H a l c cs) {q : Addr} (e : a = some q) : ∀ H', Agree H H' → sameB H H' q.block = true := by
  intro H' A
  rcases h.2.2 with ⟨e1, _⟩ | ⟨i, b, e1, h0, h1, _⟩
  · rw [e1] at e; cases e
  · rw [e1] at e; cases e; exact sameB_agree h1 A
theorem Own.keep {N sz : Nat} {H H' : AHeap} {a b : Option Addr} {l c : Nat} {cs : List Value} (h : Own N sz H a l c cs) (k : Keep b H H') (hne : ∀ q q', a = some q → b = some q' → q'.block ≠ q.block) : Own N sz H' a l c cs := by
  refine ⟨h.1, h.2.1, ?_⟩
  rcases h.2.2 with h | ⟨i, bl, e, h0, h1, h2⟩
  · exact .inl h
  · exact .inr ⟨i, bl, e, h0, h1.keep k (fun q e' => hne _ q e e'), h2⟩
theorem Own.cellsF {N sz : Nat} {H : AHeap} {a : Option Addr} {l c : Nat} {cs : List Value} (h : Own N sz H a l c cs) : CellsF (N ≤ ·) H a (l * sz) cs := ⟨h.cells, h.block⟩
theorem Cells.stay {H : AHeap} {a : Option Addr} {n : Nat} {cs : List Value} (h : Cells H a n cs) {q : Addr} (e : a = some q) : ∀ H', Agree H H' → sameB H H' q.block = true := by
  intro H' A
  rcases h.2 with ⟨e1, _⟩ | ⟨i, o, s, b, e1, h1, _⟩
  · rw [e1] at e; cases e
  · rw [e1] at e; cases e; exact sameB_agree h1 A
/-- the load of a cell of a slice -/
theorem Cells.ldI {H : AHeap} {a : Option Addr} {n : Nat} {cs : List Value} (h : Cells H a n cs) {j : Nat} {k : IntKind} {x : Int} (hj : cs[j]? = some (.int k x)) : ∃ q, a = some q ∧ Mx.ldI k H q.block (q.off + j) = some x := by
  obtain ⟨q, e, hc⟩ := Cells.cell h hj
  exact ⟨q, e, by unfold Mx.ldI; rw [hc]; simp [asI]⟩
theorem Cells.ldSl {H : AHeap} {a : Option Addr} {n : Nat} {cs : List Value} (h : Cells H a n cs) {j : Nat} {b : Option Addr} {l c : Nat} (hj : cs[j]? = some (.slice b l c)) : ∃ q, a = some q ∧ Mx.ldSl H q.block (q.off + j) = some (b, l, c) := by
  obtain ⟨q, e, hc⟩ := Cells.cell h hj
  exact ⟨q, e, by unfold Mx.ldSl; rw [hc]; simp [asSl]⟩
end Go.Mx
