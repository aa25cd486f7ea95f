/- Words and laws for functions of the machine: what lies in the heap, what a step keeps. -/
import Derived.Test.YtcegcnopakfloaaXM19
namespace Go.Mx
open Go

/-- it comes to an answer of which Q is true -/
def Ok {R : Type} (X : Option R) (Q : R → Prop) : Prop := ∃ r, X = some r ∧ Q r
theorem Ok.ret {R : Type} {r : R} {Q : R → Prop} (h : Q r) : Ok (some r) Q := ⟨r, rfl, h⟩

structure Agree (H H' : AHeap) : Prop where
  next : H.next ≤ H'.next
  old : ∀ i, i < H.next → H'.get i = H.get i
  fresh : (∀ i, H.next ≤ i → H.get i = none) → ∀ i, H'.next ≤ i → H'.get i = none
theorem Agree.refl (H : AHeap) : Agree H H := ⟨Nat.le_refl _, fun _ _ => rfl, fun h => h⟩
theorem Agree.trans {A B D : AHeap} (h : Agree A B) (k : Agree B D) : Agree A D :=
  ⟨Nat.le_trans h.next k.next, fun i hi => (k.old i (Nat.lt_of_lt_of_le hi h.next)).trans (h.old i hi), fun f => k.fresh (h.fresh f)⟩

def At (H : AHeap) (i : Nat) (b : Blk) : Prop := i < H.next ∧ H.get i = some b
def Free (H : AHeap) (i : Nat) : Prop := i < H.next ∧ H.get i = none
theorem At.agree {H H' : AHeap} {i : Nat} {b : Blk} (h : At H i b) (a : Agree H H') : At H' i b := ⟨Nat.lt_of_lt_of_le h.1 a.next, (a.old i h.1).trans h.2⟩
theorem Free.agree {H H' : AHeap} {i : Nat} (h : Free H i) (a : Agree H H') : Free H' i := ⟨Nat.lt_of_lt_of_le h.1 a.next, (a.old i h.1).trans h.2⟩

theorem agree_alloc (H : AHeap) (b : Blk) : Agree H (H.alloc none b) := by
  refine ⟨Nat.le_succ _, fun i hi => ?_, fun f i hi => ?_⟩
  · show (if i = H.next then some b else H.get i) = H.get i
    rw [if_neg (by omega)]
  · have hi' : H.next + 1 ≤ i := hi
    show (if i = H.next then some b else H.get i) = none
    rw [if_neg (by omega)]
    exact f i (by omega)
theorem at_alloc (H : AHeap) (b : Blk) : At (H.alloc none b) H.next b := ⟨Nat.lt_succ_self _, by show (if H.next = H.next then some b else _) = _; rw [if_pos rfl]⟩
theorem agree_bump (H : AHeap) (n : Nat) : Agree H (H.bump n) := ⟨Nat.le_add_right _ _, fun _ _ => rfl, fun f i hi => f i (Nat.le_trans (Nat.le_add_right _ _) hi)⟩
theorem free_bump {H : AHeap} (f : ∀ i, H.next ≤ i → H.get i = none) {n j : Nat} (h : j < n) : Free (H.bump n) (H.next + j) := ⟨Nat.add_lt_add_left h _, f _ (Nat.le_add_right _ _)⟩
theorem sameB_agree {H H' : AHeap} {i : Nat} {b : Blk} (h : At H i b) (a : Agree H H') : sameB H H' i = true := by
  unfold sameB
  rw [(h.agree a).2, h.2]
  simp
theorem sameB_at {H H' : AHeap} {i : Nat} {b b' : Blk} (h : At H i b) (h' : At H' i b') (e : b.ver = b'.ver) : sameB H H' i = true := by
  unfold sameB
  rw [h.2, h'.2]
  simp [e]

/-- a block is laid at a place that was kept free -/
theorem at_slot {H : AHeap} {s : Nat} {b : Blk} (h : s < H.next) : At (H.alloc (some s) b) s b := ⟨h, by show (if s = s then some b else _) = _; rw [if_pos rfl]⟩
theorem At.slot {H : AHeap} {s i : Nat} {b b' : Blk} (f : Free H s) (h : At H i b') : At (H.alloc (some s) b) i b' := by
  refine ⟨h.1, ?_⟩
  show (if i = s then some b else H.get i) = _
  rw [if_neg (by intro e; subst e; have := h.2; rw [f.2] at this; cases this)]
  exact h.2
theorem Free.slot {H : AHeap} {s i : Nat} {b : Blk} (h : Free H i) (hne : i ≠ s) : Free (H.alloc (some s) b) i := by
  refine ⟨h.1, ?_⟩
  show (if i = s then some b else H.get i) = _
  rw [if_neg hne]; exact h.2
theorem Agree.slot {H H' : AHeap} {s : Nat} {b : Blk} (a : Agree H H') (h : H.next ≤ s) (h' : s < H'.next) : Agree H (H'.alloc (some s) b) := by
  refine ⟨a.next, fun i hi => ?_, fun f i hi => ?_⟩
  · show (if i = s then some b else H'.get i) = _
    rw [if_neg (by omega)]; exact a.old i hi
  · have hi' : H'.next ≤ i := hi
    show (if i = s then some b else H'.get i) = _
    rw [if_neg (by omega)]; exact a.fresh f i hi

/-! writing -/
theorem wr_at {H : AHeap} {i o : Nat} {b : Blk} {vs : List Value} (h : At H i b) (hm : b.mode = .rw) (hl : o + vs.length ≤ b.cells.length) :
    ∃ H', H.wr i o vs = some H' ∧ H'.next = H.next ∧ At H' i { b with cells := splice b.cells o vs, ver := b.ver + 1 } ∧ (∀ j, j ≠ i → H'.get j = H.get j) := by
  refine ⟨H.put i { b with cells := splice b.cells o vs, ver := b.ver + 1 }, ?_, rfl, ⟨h.1, ?_⟩, fun j hj => ?_⟩
  · unfold AHeap.wr
    rw [h.2]
    (try dsimp only)
    rw [if_pos ⟨hm, hl⟩]
  · show (if i = i then some _ else _) = _
    rw [if_pos rfl]
  · show (if j = i then some _ else H.get j) = _
    rw [if_neg hj]
/-- what a write leaves -/
structure Wrote (H H' : AHeap) (i : Nat) (b' : Blk) : Prop where
  next : H'.next = H.next
  at' : At H' i b'
  old : ∀ j, j ≠ i → H'.get j = H.get j
theorem At.wrote {H H' : AHeap} {i j : Nat} {b b' : Blk} (w : Wrote H H' i b') (h : At H j b) (hne : j ≠ i) : At H' j b := ⟨by rw [w.next]; exact h.1, (w.old j hne).trans h.2⟩
theorem Free.wrote {H H' : AHeap} {i j : Nat} {b b' : Blk} (w : Wrote H H' i b') (hi : At H i b) (h : Free H j) : Free H' j :=
  ⟨by rw [w.next]; exact h.1, (w.old j (by intro e; subst e; have := hi.2; rw [h.2] at this; cases this)).trans h.2⟩
theorem Agree.wrote {H0 H H' : AHeap} {i : Nat} {b' : Blk} (a : Agree H0 H) (w : Wrote H H' i b') (h : H0.next ≤ i) : Agree H0 H' := by
  refine ⟨by rw [w.next]; exact a.next, fun j hj => (w.old j (by omega)).trans (a.old j hj), fun f j hj => ?_⟩
  rw [w.next] at hj
  have hne : j ≠ i := by
    intro e; subst e
    have h1 := w.at'.1
    rw [w.next] at h1
    omega
  exact (w.old j hne).trans (a.fresh f j hj)

/-! loads -/
theorem cell_at {H : AHeap} {i o : Nat} {b : Blk} {v : Value} (h : At H i b) (hm : b.mode ≠ .dead) (hv : b.cells[o]? = some v) : H.cell i o = some v := by
  unfold AHeap.cell
  rw [h.2]
  (try dsimp only)
  rw [if_neg hm]
  exact hv
theorem ldI_at {H : AHeap} {i o : Nat} {b : Blk} {k : IntKind} {n : Int} (h : At H i b) (hm : b.mode ≠ .dead) (hv : b.cells[o]? = some (.int k n)) : ldI k H i o = some n := by
  unfold ldI
  rw [cell_at h hm hv]
  simp [asI]
theorem ldB_at {H : AHeap} {i o : Nat} {b : Blk} {n : Bool} (h : At H i b) (hm : b.mode ≠ .dead) (hv : b.cells[o]? = some (.bool n)) : ldB H i o = some n := by
  unfold ldB
  rw [cell_at h hm hv]
  rfl
theorem ldSl_at {H : AHeap} {i o : Nat} {b : Blk} {a : Option Addr} {l c : Nat} (h : At H i b) (hm : b.mode ≠ .dead) (hv : b.cells[o]? = some (.slice a l c)) : ldSl H i o = some (a, l, c) := by
  unfold ldSl
  rw [cell_at h hm hv]
  rfl
theorem row_at {H : AHeap} {i o n : Nat} {b : Blk} (h : At H i b) (hm : b.mode ≠ .dead) (hl : o + n ≤ b.cells.length) : H.row i o n = some ((b.cells.drop o).take n) := by
  unfold AHeap.row
  rw [h.2]
  (try dsimp only)
  rw [if_pos ⟨hm, hl⟩]

/-! steps of a printed text -/
section
variable {R : Type} {Q : R → Prop}
theorem ok_bind {α : Type} {X : Option α} {K : α → Option R} {x : α} (h : X = some x) (k : Ok (K x) Q) : Ok (X.bind K) Q := by
  subst h; exact k
theorem ok_if {c : Prop} [Decidable c] {X Y : Option R} (h : c) (k : Ok X Q) : Ok (if c then X else Y) Q := by rw [if_pos h]; exact k
theorem ok_ifn {c : Prop} [Decidable c] {X Y : Option R} (h : ¬ c) (k : Ok Y Q) : Ok (if c then X else Y) Q := by rw [if_neg h]; exact k
theorem ok_bif {c : Bool} {X Y : Option R} (t : c = true → Ok X Q) (f : c = false → Ok Y Q) : Ok (bif c then X else Y) Q := by
  cases c
  · exact f rfl
  · exact t rfl
theorem ok_bift {c : Bool} {X Y : Option R} (h : c = true) (t : Ok X Q) : Ok (bif c then X else Y) Q := by subst h; exact t
theorem ok_biff {c : Bool} {X Y : Option R} (h : c = false) (t : Ok Y Q) : Ok (bif c then X else Y) Q := by subst h; exact t
theorem ok_al {H : AHeap} {b : Blk} {K : Nat → AHeap → Option R} (k : ∀ i H', i = H.next → H'.next = H.next + 1 → Agree H H' → At H' i b → Ok (K i H') Q) : Ok (alK none H b K) Q :=
  k _ _ rfl rfl (agree_alloc H b) (at_alloc H b)
theorem ok_wr {H : AHeap} {i o : Nat} {vs : List Value} {K : AHeap → Option R} {b : Blk} (h : At H i b) (hm : b.mode = .rw) (hl : o + vs.length ≤ b.cells.length)
    (k : ∀ H', Wrote H H' i { b with cells := splice b.cells o vs, ver := b.ver + 1 } → Ok (K H') Q) : Ok ((H.wr i o vs).bind K) Q := by
  obtain ⟨H', e, h1, h2, h3⟩ := wr_at h hm hl
  rw [e]
  exact k H' ⟨h1, h2, h3⟩
theorem ok_cB {P : AHeap → Prop} {X : Option (Value × AHeap)} {K : Bool → AHeap → Option R} {b : Bool} (h : ∃ H', X = some (.bool b, H') ∧ P H') (k : ∀ H', P H' → Ok (K b H') Q) : Ok (cB X K) Q := by
  obtain ⟨H', e, p⟩ := h
  rw [e]
  exact k H' p
theorem ok_cI {P : AHeap → Prop} {X : Option (Value × AHeap)} {κ : IntKind} {K : Int → AHeap → Option R} {n : Int} (h : ∃ H', X = some (.int κ n, H') ∧ P H') (k : ∀ H', P H' → Ok (K n H') Q) : Ok (cI κ X K) Q := by
  obtain ⟨H', e, p⟩ := h
  rw [e]
  show Ok ((asI κ (.int κ n)).bind _) Q
  simp only [asI, if_pos, Option.bind_some]
  exact k H' p
theorem ok_cI0 {X : Option (Value × AHeap)} {κ : IntKind} {H : AHeap} {K : Int → AHeap → Option R} {n : Int} (h : X = some (.int κ n, H)) (k : Ok (K n H) Q) : Ok (cI κ X K) Q :=
  ok_cI (P := fun H' => H' = H) ⟨H, h, rfl⟩ fun _ e => by subst e; exact k
theorem ok_cB0 {X : Option (Value × AHeap)} {H : AHeap} {K : Bool → AHeap → Option R} {n : Bool} (h : X = some (.bool n, H)) (k : Ok (K n H) Q) : Ok (cB X K) Q :=
  ok_cB (P := fun H' => H' = H) ⟨H, h, rfl⟩ fun _ e => by subst e; exact k
theorem ok_cSl {P : Option Addr → Nat → Nat → AHeap → Prop} {X : Option (Value × AHeap)} {K : Option Addr → Nat → Nat → AHeap → Option R} (h : ∃ a l c H', X = some (.slice a l c, H') ∧ P a l c H')
    (k : ∀ a l c H', P a l c H' → Ok (K a l c H') Q) : Ok (cSl X K) Q := by
  obtain ⟨a, l, c, H', e, p⟩ := h
  rw [e]
  exact k a l c H' p
theorem ok_cG {P : List Value → AHeap → Prop} {X : Option (Value × AHeap)} {K : Array Value → AHeap → Option R} (h : ∃ g H', X = some (.agg (g : List Value).toArray, H') ∧ P g H') (k : ∀ g H', P g H' → Ok (K g.toArray H') Q) : Ok (cG X K) Q := by
  obtain ⟨a, H', e, p⟩ := h
  rw [e]
  exact k a H' p
theorem ok_cT {P : List Value → AHeap → Prop} {X : Option (Value × AHeap)} {K : Array Value → AHeap → Option R} (h : ∃ g H', X = some (.tuple (g : List Value).toArray, H') ∧ P g H') (k : ∀ g H', P g H' → Ok (K g.toArray H') Q) : Ok (cT X K) Q := by
  obtain ⟨a, H', e, p⟩ := h
  rw [e]
  exact k a H' p
theorem ok_cT1 {P : AHeap → Prop} {X : Option (Value × AHeap)} {K : Array Value → AHeap → Option R} {g : List Value} (h : ∃ H', X = some (.tuple g.toArray, H') ∧ P H') (k : ∀ H', P H' → Ok (K g.toArray H') Q) : Ok (cT X K) Q := by
  obtain ⟨H', e, p⟩ := h
  rw [e]
  exact k H' p
theorem ok_cT3 {P : Option Addr → Nat → Nat → AHeap → Prop} {X : Option (Value × AHeap)} {K : Array Value → AHeap → Option R} {g : Option Addr → Nat → Nat → List Value} (h : ∃ a l c H', X = some (.tuple (g a l c).toArray, H') ∧ P a l c H') (k : ∀ a l c H', P a l c H' → Ok (K (g a l c).toArray H') Q) : Ok (cT X K) Q := by
  obtain ⟨a, l, c, H', e, p⟩ := h
  rw [e]
  exact k a l c H' p
theorem ok_exG {X : Option Value} {K : Array Value → Option R} {g : Array Value} (h : X = some (.agg g)) (k : Ok (K g) Q) : Ok (exG X K) Q := by
  rw [h]; exact k
theorem ok_exB {X : Option Value} {K : Bool → Option R} {g : Bool} (h : X = some (.bool g)) (k : Ok (K g) Q) : Ok (exB X K) Q := by
  rw [h]; exact k
theorem ok_bSl {X : Option (Option Addr × Nat × Nat)} {K : Option Addr → Nat → Nat → Option R} {a : Option Addr} {l c : Nat} (h : X = some (a, l, c)) (k : Ok (K a l c) Q) : Ok (bSl X K) Q := by
  rw [h]; exact k
end

theorem call_of_ok {X : Option (Value × AHeap)} {v : Value} {P : AHeap → Prop} (h : Ok X fun r => r.1 = v ∧ P r.2) : ∃ H', X = some (v, H') ∧ P H' := by
  obtain ⟨r, e, h1, h2⟩ := h
  exact ⟨r.2, by rw [e, ← h1], h2⟩
theorem callv_of_ok {X : Option (Value × AHeap)} {P : Value → AHeap → Prop} (h : Ok X fun r => P r.1 r.2) : ∃ v H', X = some (v, H') ∧ P v H' := by
  obtain ⟨r, e, h1⟩ := h
  exact ⟨r.1, r.2, e, h1⟩
theorem callsl_of_ok {X : Option (Value × AHeap)} {P : Option Addr → Nat → Nat → AHeap → Prop} (h : Ok X fun r => ∃ a l c, r.1 = .slice a l c ∧ P a l c r.2) : ∃ a l c H', X = some (.slice a l c, H') ∧ P a l c H' := by
  obtain ⟨r, e, a, l, c, h1, h2⟩ := h
  exact ⟨a, l, c, r.2, by rw [e, ← h1], h2⟩

theorem eq_of_ok {R : Type} {X : Option R} {v : R} (h : Ok X fun r => r = v) : X = some v := by
  obtain ⟨r, e, h1⟩ := h
  rw [e, h1]
theorem Ok.of_eq {R : Type} {X : Option R} {v : R} (h : X = some v) : Ok X fun r => r = v := ⟨v, h, rfl⟩

/-! slices of numbers -/
def Cells (H : AHeap) (a : Option Addr) (n : Nat) (cs : List Value) : Prop :=
  cs.length = n ∧ ((a = none ∧ cs = []) ∨ ∃ i o s b, a = some ⟨i, o, s⟩ ∧ At H i b ∧ b.mode ≠ .dead ∧ o + n ≤ b.cells.length ∧ (b.cells.drop o).take n = cs)
def ints (xs : List Int) : List Value := xs.map (.int .i64)
def Ints (H : AHeap) (a : Option Addr) (l : Nat) (xs : List Int) : Prop := Cells H a l (ints xs)
theorem Cells.agree {H H' : AHeap} {a : Option Addr} {n : Nat} {cs : List Value} (h : Cells H a n cs) (k : Agree H H') : Cells H' a n cs := by
  refine ⟨h.1, ?_⟩
  rcases h.2 with h | ⟨i, o, s, b, e, h1, h2, h3, h4⟩
  · exact .inl h
  · exact .inr ⟨i, o, s, b, e, h1.agree k, h2, h3, h4⟩
theorem Ints.agree {H H' : AHeap} {a : Option Addr} {n : Nat} {xs : List Int} (h : Ints H a n xs) (k : Agree H H') : Ints H' a n xs := Cells.agree h k
theorem Ints.len {H : AHeap} {a : Option Addr} {n : Nat} {xs : List Int} (h : Ints H a n xs) : n = xs.length := by
  have := h.1
  simpa [ints] using this.symm
theorem Cells.nil (H : AHeap) : Cells H none 0 [] := ⟨rfl, .inl ⟨rfl, rfl⟩⟩
theorem Ints.nil (H : AHeap) : Ints H none 0 [] := Cells.nil H
theorem Cells.cell {H : AHeap} {a : Option Addr} {n : Nat} {cs : List Value} (h : Cells H a n cs) {j : Nat} {v : Value} (hj : cs[j]? = some v) :
    ∃ q, a = some q ∧ H.cell q.block (q.off + j) = some v := by
  rcases h.2 with ⟨_, e⟩ | ⟨i, o, s, b, e, h1, h2, h3, h4⟩
  · subst e; simp at hj
  · refine ⟨_, e, cell_at h1 h2 ?_⟩
    rw [← h4] at hj
    rw [List.getElem?_take] at hj
    split at hj
    · rw [List.getElem?_drop] at hj; exact hj
    · cases hj
theorem Cells.ldB {H : AHeap} {a : Option Addr} {n : Nat} {cs : List Value} (h : Cells H a n cs) {j : Nat} {b : Bool} (hj : cs[j]? = some (.bool b)) :
    ∃ q, a = some q ∧ Mx.ldB H q.block (q.off + j) = some b := by
  obtain ⟨q, e, hc⟩ := Cells.cell h hj
  exact ⟨q, e, by unfold Mx.ldB; rw [hc]; rfl⟩
theorem Ints.ld {H : AHeap} {a : Option Addr} {n : Nat} {xs : List Int} (h : Ints H a n xs) {j : Nat} {x : Int} (hj : xs[j]? = some x) :
    ∃ q, a = some q ∧ ldI .i64 H q.block (q.off + j) = some x := by
  obtain ⟨q, e, hc⟩ := Cells.cell h (j := j) (v := .int .i64 x) (by simp [ints, hj])
  exact ⟨q, e, by unfold ldI; rw [hc]; simp [asI]⟩
end Go.Mx
