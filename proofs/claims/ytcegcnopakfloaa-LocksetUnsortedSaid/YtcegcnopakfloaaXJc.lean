/- Texts of this claim, laid together: Base S1 S2 M20 Base2 A1 T1. -/
import Derived.Test.YtcegcnopakfloaaXGb
import Derived.Test.YtcegcnopakfloaaProg
import Derived.KernelRfl
section
set_option linter.unusedSimpArgs false
/- The program's functions whose answer the kernel runs out, and the call. -/
namespace Go.Proofs.MxF
open Go Go.Mx Go.Proofs
/-- the sanity checks: functions without parameters -/
def awk (f : FuncId) : Option Bool := bif Nat.beq f 22 || Nat.beq f 28 || Nat.beq f 35 then some true else none
noncomputable abbrev C : Nat → CallF := acallO awk Try.prog
theorem aw22 : ((acall Try.prog 30 22 [] emptyH).map (·.1)) = some (.bool true) := by kernel_rfl
theorem aw28 : ((acall Try.prog 30 28 [] emptyH).map (·.1)) = some (.bool true) := by kernel_rfl
theorem aw35 : ((acall Try.prog 30 35 [] emptyH).map (·.1)) = some (.bool true) := by kernel_rfl
theorem known : Known Try.prog awk := by
  have key : ∀ {x : Option (Value × AHeap)} {v : Value}, x.map (·.1) = some v → ∃ H', x = some (v, H') := by
    intro x v h
    obtain ⟨p, hp, e⟩ := Option.map_eq_some_iff.1 h
    exact ⟨p.2, by rw [hp, ← e]⟩
  intro f b h
  unfold awk at h
  cases hf : (Nat.beq f 22 || Nat.beq f 28 || Nat.beq f 35)
  · rw [hf] at h; cases h
  · rw [hf] at h
    cases h
    rw [Bool.or_eq_true, Bool.or_eq_true] at hf
    rcases hf with (hf | hf) | hf
    · obtain rfl := Nat.eq_of_beq_eq_true hf
      exact ⟨30, key aw22⟩
    · obtain rfl := Nat.eq_of_beq_eq_true hf
      exact ⟨30, key aw28⟩
    · obtain rfl := Nat.eq_of_beq_eq_true hf
      exact ⟨30, key aw35⟩
end Go.Proofs.MxF
end

section
set_option linter.unusedSimpArgs false
/- Words and laws for functions of the machine: what lies in the heap, what a step keeps. -/
namespace Go.Mx
open Go

/-- it comes to an answer of which Q is true -/
def Ok {R : Type} (X : Option R) (Q : R → Prop) : Prop := ∃ r, X = some r ∧ Q r
theorem Ok.ret {R : Type} {r : R} {Q : R → Prop} (h : Q r) : Ok (some r) Q := ⟨r, rfl, h⟩

structure Agree (H H' : AHeap) : Prop where
  next : H.next ≤ H'.next
  old : ∀ i, i < H.next → H'.get i = H.get i
  fresh : (∀ i, H.next ≤ i → H.get i = none) → ∀ i, H'.next ≤ i → H'.get i = none
theorem Agree.refl (H : AHeap) : Agree H H := ⟨Nat.le_refl _, fun _ _ => rfl, fun h => h⟩
theorem Agree.trans {A B D : AHeap} (h : Agree A B) (k : Agree B D) : Agree A D :=
  ⟨Nat.le_trans h.next k.next, fun i hi => (k.old i (Nat.lt_of_lt_of_le hi h.next)).trans (h.old i hi), fun f => k.fresh (h.fresh f)⟩

def At (H : AHeap) (i : Nat) (b : Blk) : Prop := i < H.next ∧ H.get i = some b
def Free (H : AHeap) (i : Nat) : Prop := i < H.next ∧ H.get i = none
theorem At.agree {H H' : AHeap} {i : Nat} {b : Blk} (h : At H i b) (a : Agree H H') : At H' i b := ⟨Nat.lt_of_lt_of_le h.1 a.next, (a.old i h.1).trans h.2⟩
theorem Free.agree {H H' : AHeap} {i : Nat} (h : Free H i) (a : Agree H H') : Free H' i := ⟨Nat.lt_of_lt_of_le h.1 a.next, (a.old i h.1).trans h.2⟩

theorem agree_alloc (H : AHeap) (b : Blk) : Agree H (H.alloc none b) := by
  refine ⟨Nat.le_succ _, fun i hi => ?_, fun f i hi => ?_⟩
  · show (if i = H.next then some b else H.get i) = H.get i
    rw [if_neg (by omega)]
  · have hi' : H.next + 1 ≤ i := hi
    show (if i = H.next then some b else H.get i) = none
    rw [if_neg (by omega)]
    exact f i (by omega)
theorem at_alloc (H : AHeap) (b : Blk) : At (H.alloc none b) H.next b := ⟨Nat.lt_succ_self _, by show (if H.next = H.next then some b else _) = _; rw [if_pos rfl]⟩
theorem agree_bump (H : AHeap) (n : Nat) : Agree H (H.bump n) := ⟨Nat.le_add_right _ _, fun _ _ => rfl, fun f i hi => f i (Nat.le_trans (Nat.le_add_right _ _) hi)⟩
theorem free_bump {H : AHeap} (f : ∀ i, H.next ≤ i → H.get i = none) {n j : Nat} (h : j < n) : Free (H.bump n) (H.next + j) := ⟨Nat.add_lt_add_left h _, f _ (Nat.le_add_right _ _)⟩
theorem sameB_agree {H H' : AHeap} {i : Nat} {b : Blk} (h : At H i b) (a : Agree H H') : sameB H H' i = true := by
  unfold sameB
  rw [(h.agree a).2, h.2]
  simp
theorem sameB_at {H H' : AHeap} {i : Nat} {b b' : Blk} (h : At H i b) (h' : At H' i b') (e : b.ver = b'.ver) : sameB H H' i = true := by
  unfold sameB
  rw [h.2, h'.2]
  simp [e]

/-- a block is laid at a place that was kept free -/
theorem at_slot {H : AHeap} {s : Nat} {b : Blk} (h : s < H.next) : At (H.alloc (some s) b) s b := ⟨h, by show (if s = s then some b else _) = _; rw [if_pos rfl]⟩
theorem At.slot {H : AHeap} {s i : Nat} {b b' : Blk} (f : Free H s) (h : At H i b') : At (H.alloc (some s) b) i b' := by
  refine ⟨h.1, ?_⟩
  show (if i = s then some b else H.get i) = _
  rw [if_neg (by intro e; subst e; have := h.2; rw [f.2] at this; cases this)]
  exact h.2
theorem Free.slot {H : AHeap} {s i : Nat} {b : Blk} (h : Free H i) (hne : i ≠ s) : Free (H.alloc (some s) b) i := by
  refine ⟨h.1, ?_⟩
  show (if i = s then some b else H.get i) = _
  rw [if_neg hne]; exact h.2
theorem Agree.slot {H H' : AHeap} {s : Nat} {b : Blk} (a : Agree H H') (h : H.next ≤ s) (h' : s < H'.next) : Agree H (H'.alloc (some s) b) := by
  refine ⟨a.next, fun i hi => ?_, fun f i hi => ?_⟩
  · show (if i = s then some b else H'.get i) = _
    rw [if_neg (by omega)]; exact a.old i hi
  · have hi' : H'.next ≤ i := hi
    show (if i = s then some b else H'.get i) = _
    rw [if_neg (by omega)]; exact a.fresh f i hi

/-! writing -/
theorem wr_at {H : AHeap} {i o : Nat} {b : Blk} {vs : List Value} (h : At H i b) (hm : b.mode = .rw) (hl : o + vs.length ≤ b.cells.length) :
    ∃ H', H.wr i o vs = some H' ∧ H'.next = H.next ∧ At H' i { b with cells := splice b.cells o vs, ver := b.ver + 1 } ∧ (∀ j, j ≠ i → H'.get j = H.get j) := by
  refine ⟨H.put i { b with cells := splice b.cells o vs, ver := b.ver + 1 }, ?_, rfl, ⟨h.1, ?_⟩, fun j hj => ?_⟩
  · unfold AHeap.wr
    rw [h.2]
    (try dsimp only)
    rw [if_pos ⟨hm, hl⟩]
  · show (if i = i then some _ else _) = _
    rw [if_pos rfl]
  · show (if j = i then some _ else H.get j) = _
    rw [if_neg hj]
/-- what a write leaves -/
structure Wrote (H H' : AHeap) (i : Nat) (b' : Blk) : Prop where
  next : H'.next = H.next
  at' : At H' i b'
  old : ∀ j, j ≠ i → H'.get j = H.get j
theorem At.wrote {H H' : AHeap} {i j : Nat} {b b' : Blk} (w : Wrote H H' i b') (h : At H j b) (hne : j ≠ i) : At H' j b := ⟨by rw [w.next]; exact h.1, (w.old j hne).trans h.2⟩
theorem Free.wrote {H H' : AHeap} {i j : Nat} {b b' : Blk} (w : Wrote H H' i b') (hi : At H i b) (h : Free H j) : Free H' j :=
  ⟨by rw [w.next]; exact h.1, (w.old j (by intro e; subst e; have := hi.2; rw [h.2] at this; cases this)).trans h.2⟩
theorem Agree.wrote {H0 H H' : AHeap} {i : Nat} {b' : Blk} (a : Agree H0 H) (w : Wrote H H' i b') (h : H0.next ≤ i) : Agree H0 H' := by
  refine ⟨by rw [w.next]; exact a.next, fun j hj => (w.old j (by omega)).trans (a.old j hj), fun f j hj => ?_⟩
  rw [w.next] at hj
  have hne : j ≠ i := by
    intro e; subst e
    have h1 := w.at'.1
    rw [w.next] at h1
    omega
  exact (w.old j hne).trans (a.fresh f j hj)

/-! loads -/
theorem cell_at {H : AHeap} {i o : Nat} {b : Blk} {v : Value} (h : At H i b) (hm : b.mode ≠ .dead) (hv : b.cells[o]? = some v) : H.cell i o = some v := by
  unfold AHeap.cell
  rw [h.2]
  (try dsimp only)
  rw [if_neg hm]
  exact hv
theorem ldI_at {H : AHeap} {i o : Nat} {b : Blk} {k : IntKind} {n : Int} (h : At H i b) (hm : b.mode ≠ .dead) (hv : b.cells[o]? = some (.int k n)) : ldI k H i o = some n := by
  unfold ldI
  rw [cell_at h hm hv]
  simp [asI]
theorem ldB_at {H : AHeap} {i o : Nat} {b : Blk} {n : Bool} (h : At H i b) (hm : b.mode ≠ .dead) (hv : b.cells[o]? = some (.bool n)) : ldB H i o = some n := by
  unfold ldB
  rw [cell_at h hm hv]
  rfl
theorem ldSl_at {H : AHeap} {i o : Nat} {b : Blk} {a : Option Addr} {l c : Nat} (h : At H i b) (hm : b.mode ≠ .dead) (hv : b.cells[o]? = some (.slice a l c)) : ldSl H i o = some (a, l, c) := by
  unfold ldSl
  rw [cell_at h hm hv]
  rfl
theorem row_at {H : AHeap} {i o n : Nat} {b : Blk} (h : At H i b) (hm : b.mode ≠ .dead) (hl : o + n ≤ b.cells.length) : H.row i o n = some ((b.cells.drop o).take n) := by
  unfold AHeap.row
  rw [h.2]
  (try dsimp only)
  rw [if_pos ⟨hm, hl⟩]

/-! steps of a printed text -/
section
variable {R : Type} {Q : R → Prop}
theorem ok_bind {α : Type} {X : Option α} {K : α → Option R} {x : α} (h : X = some x) (k : Ok (K x) Q) : Ok (X.bind K) Q := by
  subst h; exact k
theorem ok_if {c : Prop} [Decidable c] {X Y : Option R} (h : c) (k : Ok X Q) : Ok (if c then X else Y) Q := by rw [if_pos h]; exact k
theorem ok_ifn {c : Prop} [Decidable c] {X Y : Option R} (h : ¬ c) (k : Ok Y Q) : Ok (if c then X else Y) Q := by rw [if_neg h]; exact k
theorem ok_bif {c : Bool} {X Y : Option R} (t : c = true → Ok X Q) (f : c = false → Ok Y Q) : Ok (bif c then X else Y) Q := by
  cases c
  · exact f rfl
  · exact t rfl
theorem ok_bift {c : Bool} {X Y : Option R} (h : c = true) (t : Ok X Q) : Ok (bif c then X else Y) Q := by subst h; exact t
theorem ok_biff {c : Bool} {X Y : Option R} (h : c = false) (t : Ok Y Q) : Ok (bif c then X else Y) Q := by subst h; exact t
theorem ok_al {H : AHeap} {b : Blk} {K : Nat → AHeap → Option R} (k : ∀ i H', i = H.next → H'.next = H.next + 1 → Agree H H' → At H' i b → Ok (K i H') Q) : Ok (alK none H b K) Q :=
  k _ _ rfl rfl (agree_alloc H b) (at_alloc H b)
theorem ok_wr {H : AHeap} {i o : Nat} {vs : List Value} {K : AHeap → Option R} {b : Blk} (h : At H i b) (hm : b.mode = .rw) (hl : o + vs.length ≤ b.cells.length)
    (k : ∀ H', Wrote H H' i { b with cells := splice b.cells o vs, ver := b.ver + 1 } → Ok (K H') Q) : Ok ((H.wr i o vs).bind K) Q := by
  obtain ⟨H', e, h1, h2, h3⟩ := wr_at h hm hl
  rw [e]
  exact k H' ⟨h1, h2, h3⟩
theorem ok_cB {P : AHeap → Prop} {X : Option (Value × AHeap)} {K : Bool → AHeap → Option R} {b : Bool} (h : ∃ H', X = some (.bool b, H') ∧ P H') (k : ∀ H', P H' → Ok (K b H') Q) : Ok (cB X K) Q := by
  obtain ⟨H', e, p⟩ := h
  rw [e]
  exact k H' p
theorem ok_cI {P : AHeap → Prop} {X : Option (Value × AHeap)} {κ : IntKind} {K : Int → AHeap → Option R} {n : Int} (h : ∃ H', X = some (.int κ n, H') ∧ P H') (k : ∀ H', P H' → Ok (K n H') Q) : Ok (cI κ X K) Q := by
  obtain ⟨H', e, p⟩ := h
  rw [e]
  show Ok ((asI κ (.int κ n)).bind _) Q
  simp only [asI, if_pos, Option.bind_some]
  exact k H' p
theorem ok_cI0 {X : Option (Value × AHeap)} {κ : IntKind} {H : AHeap} {K : Int → AHeap → Option R} {n : Int} (h : X = some (.int κ n, H)) (k : Ok (K n H) Q) : Ok (cI κ X K) Q :=
  ok_cI (P := fun H' => H' = H) ⟨H, h, rfl⟩ fun _ e => by subst e; exact k
theorem ok_cB0 {X : Option (Value × AHeap)} {H : AHeap} {K : Bool → AHeap → Option R} {n : Bool} (h : X = some (.bool n, H)) (k : Ok (K n H) Q) : Ok (cB X K) Q :=
  ok_cB (P := fun H' => H' = H) ⟨H, h, rfl⟩ fun _ e => by subst e; exact k
theorem ok_cSl {P : Option Addr → Nat → Nat → AHeap → Prop} {X : Option (Value × AHeap)} {K : Option Addr → Nat → Nat → AHeap → Option R} (h : ∃ a l c H', X = some (.slice a l c, H') ∧ P a l c H')
    (k : ∀ a l c H', P a l c H' → Ok (K a l c H') Q) : Ok (cSl X K) Q := by
  obtain ⟨a, l, c, H', e, p⟩ := h
  rw [e]
  exact k a l c H' p
theorem ok_cG {P : List Value → AHeap → Prop} {X : Option (Value × AHeap)} {K : Array Value → AHeap → Option R} (h : ∃ g H', X = some (.agg (g : List Value).toArray, H') ∧ P g H') (k : ∀ g H', P g H' → Ok (K g.toArray H') Q) : Ok (cG X K) Q := by
  obtain ⟨a, H', e, p⟩ := h
  rw [e]
  exact k a H' p
theorem ok_cT {P : List Value → AHeap → Prop} {X : Option (Value × AHeap)} {K : Array Value → AHeap → Option R} (h : ∃ g H', X = some (.tuple (g : List Value).toArray, H') ∧ P g H') (k : ∀ g H', P g H' → Ok (K g.toArray H') Q) : Ok (cT X K) Q := by
  obtain ⟨a, H', e, p⟩ := h
  rw [e]
  exact k a H' p
theorem ok_cT1 {P : AHeap → Prop} {X : Option (Value × AHeap)} {K : Array Value → AHeap → Option R} {g : List Value} (h : ∃ H', X = some (.tuple g.toArray, H') ∧ P H') (k : ∀ H', P H' → Ok (K g.toArray H') Q) : Ok (cT X K) Q := by
  obtain ⟨H', e, p⟩ := h
  rw [e]
  exact k H' p
theorem ok_cT3 {P : Option Addr → Nat → Nat → AHeap → Prop} {X : Option (Value × AHeap)} {K : Array Value → AHeap → Option R} {g : Option Addr → Nat → Nat → List Value} (h : ∃ a l c H', X = some (.tuple (g a l c).toArray, H') ∧ P a l c H') (k : ∀ a l c H', P a l c H' → Ok (K (g a l c).toArray H') Q) : Ok (cT X K) Q := by
  obtain ⟨a, l, c, H', e, p⟩ := h
  rw [e]
  exact k a l c H' p
theorem ok_exG {X : Option Value} {K : Array Value → Option R} {g : Array Value} (h : X = some (.agg g)) (k : Ok (K g) Q) : Ok (exG X K) Q := by
  rw [h]; exact k
theorem ok_exB {X : Option Value} {K : Bool → Option R} {g : Bool} (h : X = some (.bool g)) (k : Ok (K g) Q) : Ok (exB X K) Q := by
  rw [h]; exact k
theorem ok_bSl {X : Option (Option Addr × Nat × Nat)} {K : Option Addr → Nat → Nat → Option R} {a : Option Addr} {l c : Nat} (h : X = some (a, l, c)) (k : Ok (K a l c) Q) : Ok (bSl X K) Q := by
  rw [h]; exact k
end

theorem call_of_ok {X : Option (Value × AHeap)} {v : Value} {P : AHeap → Prop} (h : Ok X fun r => r.1 = v ∧ P r.2) : ∃ H', X = some (v, H') ∧ P H' := by
  obtain ⟨r, e, h1, h2⟩ := h
  exact ⟨r.2, by rw [e, ← h1], h2⟩
theorem callv_of_ok {X : Option (Value × AHeap)} {P : Value → AHeap → Prop} (h : Ok X fun r => P r.1 r.2) : ∃ v H', X = some (v, H') ∧ P v H' := by
  obtain ⟨r, e, h1⟩ := h
  exact ⟨r.1, r.2, e, h1⟩
theorem callsl_of_ok {X : Option (Value × AHeap)} {P : Option Addr → Nat → Nat → AHeap → Prop} (h : Ok X fun r => ∃ a l c, r.1 = .slice a l c ∧ P a l c r.2) : ∃ a l c H', X = some (.slice a l c, H') ∧ P a l c H' := by
  obtain ⟨r, e, a, l, c, h1, h2⟩ := h
  exact ⟨a, l, c, r.2, by rw [e, ← h1], h2⟩

theorem eq_of_ok {R : Type} {X : Option R} {v : R} (h : Ok X fun r => r = v) : X = some v := by
  obtain ⟨r, e, h1⟩ := h
  rw [e, h1]
theorem Ok.of_eq {R : Type} {X : Option R} {v : R} (h : X = some v) : Ok X fun r => r = v := ⟨v, h, rfl⟩

/-! slices of numbers -/
def Cells (H : AHeap) (a : Option Addr) (n : Nat) (cs : List Value) : Prop :=
  cs.length = n ∧ ((a = none ∧ cs = []) ∨ ∃ i o s b, a = some ⟨i, o, s⟩ ∧ At H i b ∧ b.mode ≠ .dead ∧ o + n ≤ b.cells.length ∧ (b.cells.drop o).take n = cs)
def ints (xs : List Int) : List Value := xs.map (.int .i64)
def Ints (H : AHeap) (a : Option Addr) (l : Nat) (xs : List Int) : Prop := Cells H a l (ints xs)
theorem Cells.agree {H H' : AHeap} {a : Option Addr} {n : Nat} {cs : List Value} (h : Cells H a n cs) (k : Agree H H') : Cells H' a n cs := by
  refine ⟨h.1, ?_⟩
  rcases h.2 with h | ⟨i, o, s, b, e, h1, h2, h3, h4⟩
  · exact .inl h
  · exact .inr ⟨i, o, s, b, e, h1.agree k, h2, h3, h4⟩
theorem Ints.agree {H H' : AHeap} {a : Option Addr} {n : Nat} {xs : List Int} (h : Ints H a n xs) (k : Agree H H') : Ints H' a n xs := Cells.agree h k
theorem Ints.len {H : AHeap} {a : Option Addr} {n : Nat} {xs : List Int} (h : Ints H a n xs) : n = xs.length := by
  have := h.1
  simpa [ints] using this.symm
theorem Cells.nil (H : AHeap) : Cells H none 0 [] := ⟨rfl, .inl ⟨rfl, rfl⟩⟩
theorem Ints.nil (H : AHeap) : Ints H none 0 [] := Cells.nil H
theorem Cells.cell {H : AHeap} {a : Option Addr} {n : Nat} {cs : List Value} (h : Cells H a n cs) {j : Nat} {v : Value} (hj : cs[j]? = some v) :
    ∃ q, a = some q ∧ H.cell q.block (q.off + j) = some v := by
  rcases h.2 with ⟨_, e⟩ | ⟨i, o, s, b, e, h1, h2, h3, h4⟩
  · subst e; simp at hj
  · refine ⟨_, e, cell_at h1 h2 ?_⟩
    rw [← h4] at hj
    rw [List.getElem?_take] at hj
    split at hj
    · rw [List.getElem?_drop] at hj; exact hj
    · cases hj
theorem Cells.ldB {H : AHeap} {a : Option Addr} {n : Nat} {cs : List Value} (h : Cells H a n cs) {j : Nat} {b : Bool} (hj : cs[j]? = some (.bool b)) :
    ∃ q, a = some q ∧ Mx.ldB H q.block (q.off + j) = some b := by
  obtain ⟨q, e, hc⟩ := Cells.cell h hj
  exact ⟨q, e, by unfold Mx.ldB; rw [hc]; rfl⟩
theorem Ints.ld {H : AHeap} {a : Option Addr} {n : Nat} {xs : List Int} (h : Ints H a n xs) {j : Nat} {x : Int} (hj : xs[j]? = some x) :
    ∃ q, a = some q ∧ ldI .i64 H q.block (q.off + j) = some x := by
  obtain ⟨q, e, hc⟩ := Cells.cell h (j := j) (v := .int .i64 x) (by simp [ints, hj])
  exact ⟨q, e, by unfold ldI; rw [hc]; simp [asI]⟩
end Go.Mx
end

section
set_option linter.unusedSimpArgs false
/- Slices that are ours: append. -/
namespace Go.Mx
open Go

/-- all blocks but one slice's own are as they were -/
structure Keep (a : Option Addr) (H H' : AHeap) : Prop where
  next : H.next ≤ H'.next
  old : ∀ j, j < H.next → (∀ q, a = some q → q.block ≠ j) → H'.get j = H.get j
  fresh : (∀ i, H.next ≤ i → H.get i = none) → ∀ i, H'.next ≤ i → H'.get i = none
theorem Agree.keep {a : Option Addr} {H H' : AHeap} (h : Agree H H') : Keep a H H' := ⟨h.next, fun j hj _ => h.old j hj, h.fresh⟩
theorem Keep.agree {H0 H H' : AHeap} {a : Option Addr} (h : Keep a H H') (A : Agree H0 H) (ho : ∀ q, a = some q → H0.next ≤ q.block) : Agree H0 H' :=
  ⟨Nat.le_trans A.next h.next, fun j hj => (h.old j (Nat.lt_of_lt_of_le hj A.next) fun q e => by have := ho q e; omega).trans (A.old j hj), fun f => h.fresh (A.fresh f)⟩
theorem At.keep {a : Option Addr} {H H' : AHeap} {j : Nat} {b : Blk} (h : At H j b) (k : Keep a H H') (hne : ∀ q, a = some q → q.block ≠ j) : At H' j b :=
  ⟨Nat.lt_of_lt_of_le h.1 k.next, (k.old j h.1 hne).trans h.2⟩

/-- append, for elements of one size -/
def apndS (sz bts : Nat) (H : AHeap) (base : Option Addr) (sLen sCap : Nat) (news : List Value) (n : Nat) : Option (Value × AHeap) :=
    if sz = 0 ∨ news.length ≠ n * sz ∨ ¬ (sLen ≤ sCap) then none else
    if sLen + n ≤ sCap then
      if n = 0 then some (.slice base sLen sCap, H) else
      match base with
      | none => none
      | some a => (H.wr a.block (a.off + sLen * sz) news).bind fun H' => some (.slice base (sLen + n) sCap, H')
    else if false = true ∨ ¬ ((sLen + n) * bts ≤ 70368744177664) ∨ ¬ (sLen + n ≤ 70368744177664) then none else
      match base with
      | none => some (.slice (some ⟨H.next, 0, none⟩) (sLen + n) (sLen + n), H.alloc none ⟨news, sz, .rw, 0⟩)
      | some a =>
        match H.get a.block with
        | none => none
        | some b =>
          if b.mode = .dead ∨ ¬ (a.off + sCap * sz ≤ b.cells.length) then none else
          let olds := (b.cells.drop a.off).take (sLen * sz)
          if a.spot.isSome then
            some (.slice (some ⟨H.next, 0, none⟩) (sLen + n) (sLen + n), H.alloc none ⟨olds ++ news, sz, .rw, 0⟩)
          else if b.mode = .rw ∧ b.esz = sz ∧ a.off + sCap * sz = b.cells.length then
            some (.slice (some ⟨H.next, 0, none⟩) (sLen + n) (sLen + n), (H.put a.block { b with mode := .dead, ver := b.ver + 1 }).alloc none ⟨olds ++ news, sz, .rw, 0⟩)
          else none

/-- a slice that nobody else has: blocks from N on -/
def Own (N sz : Nat) (H : AHeap) (a : Option Addr) (l c : Nat) (cs : List Value) : Prop :=
  cs.length = l * sz ∧ l ≤ c ∧ ((a = none ∧ c = 0) ∨ ∃ i b, a = some ⟨i, 0, none⟩ ∧ N ≤ i ∧ At H i b ∧ b.mode = .rw ∧ b.esz = sz ∧ b.cells.length = c * sz ∧ b.cells.take (l * sz) = cs)
theorem Own.nil (N sz : Nat) (H : AHeap) : Own N sz H none 0 0 [] := ⟨by simp, Nat.le_refl _, .inl ⟨rfl, rfl⟩⟩
theorem Own.agree {N sz : Nat} {H H' : AHeap} {a : Option Addr} {l c : Nat} {cs : List Value} (h : Own N sz H a l c cs) (k : Agree H H') : Own N sz H' a l c cs := by
  refine ⟨h.1, h.2.1, ?_⟩
  rcases h.2.2 with h | ⟨i, b, e, h0, h1, h2⟩
  · exact .inl h
  · exact .inr ⟨i, b, e, h0, h1.agree k, h2⟩
theorem Own.lower {N M sz : Nat} {H : AHeap} {a : Option Addr} {l c : Nat} {cs : List Value} (h : Own N sz H a l c cs) (k : M ≤ N) : Own M sz H a l c cs := by
  refine ⟨h.1, h.2.1, ?_⟩
  rcases h.2.2 with h | ⟨i, b, e, h0, h1, h2⟩
  · exact .inl h
  · exact .inr ⟨i, b, e, Nat.le_trans k h0, h1, h2⟩
theorem Own.cells {N sz : Nat} {H : AHeap} {a : Option Addr} {l c : Nat} {cs : List Value} (h : Own N sz H a l c cs) : Cells H a (l * sz) cs := by
  refine ⟨h.1, ?_⟩
  rcases h.2.2 with ⟨e, e2⟩ | ⟨i, b, e, h0, h1, h2, h3, h4, h5⟩
  · refine .inl ⟨e, ?_⟩
    have : l = 0 := by have := h.2.1; omega
    apply List.eq_nil_of_length_eq_zero
    rw [h.1, this, Nat.zero_mul]
  · refine .inr ⟨i, 0, none, b, e, h1, by rw [h2]; simp, ?_, by simpa using h5⟩
    rw [h4, Nat.zero_add]
    exact Nat.mul_le_mul_right _ h.2.1
theorem Own.block {N sz : Nat} {H : AHeap} {a : Option Addr} {l c : Nat} {cs : List Value} (h : Own N sz H a l c cs) : ∀ q, a = some q → N ≤ q.block := by
  intro q e
  rcases h.2.2 with ⟨e1, _⟩ | ⟨i, b, e1, h0, _⟩
  · rw [e1] at e; cases e
  · rw [e1] at e; cases e; exact h0

theorem apnd_own {N sz bts : Nat} (hsz : sz ≠ 0) {H : AHeap} {a : Option Addr} {l c n : Nat} {cs news : List Value} (h : Own N sz H a l c cs) (hn : N ≤ H.next) (hl : news.length = n * sz)
    (hb : (l + n) * bts ≤ 70368744177664) (hb' : l + n ≤ 70368744177664) :
    ∃ a' c' H', apndS sz bts H a l c news n = some (.slice a' (l + n) c', H') ∧ Own N sz H' a' (l + n) c' (cs ++ news) ∧ Keep a H H' ∧ (∀ q, a' = some q → (∃ q', a = some q' ∧ q'.block = q.block) ∨ H.next ≤ q.block) := by
  unfold apndS
  rw [if_neg (by rintro (h1 | h1 | h1); exact hsz h1; exact h1 hl; exact h1 h.2.1)]
  by_cases hc : l + n ≤ c
  · rw [if_pos hc]
    by_cases h0 : n = 0
    · subst h0
      rw [if_pos rfl]
      have : news = [] := List.eq_nil_of_length_eq_zero (by omega)
      subst this
      refine ⟨a, c, H, rfl, by rw [List.append_nil]; exact h, (Agree.refl H).keep, fun q e => .inl ⟨q, e, rfl⟩⟩
    · rw [if_neg h0]
      rcases h.2.2 with ⟨e, e2⟩ | ⟨i, b, e, h1, h2, h3, h4, h5, h6⟩
      · omega
      · subst e
        dsimp only
        have hlen : 0 + l * sz + news.length ≤ b.cells.length := by rw [h5, hl, Nat.zero_add, ← Nat.add_mul]; exact Nat.mul_le_mul_right _ hc
        obtain ⟨H', hw, w1, w2, w3⟩ := wr_at h2 h3 hlen
        rw [hw]
        refine ⟨_, c, H', rfl, ⟨?_, hc, .inr ⟨i, _, rfl, h1, w2, h3, h4, ?_, ?_⟩⟩, ⟨by rw [w1]; exact Nat.le_refl _, fun j hj hne => w3 j fun e => hne _ rfl e.symm, ?_⟩, fun q e => .inl ⟨_, rfl, by cases e; rfl⟩⟩
        · rw [List.length_append, h.1, hl, ← Nat.add_mul]
        · show (splice b.cells (0 + l * sz) news).length = c * sz
          unfold splice
          simp only [List.length_append, List.length_take, List.length_drop]
          omega
        · show (splice b.cells (0 + l * sz) news).take ((l + n) * sz) = cs ++ news
          unfold splice
          rw [Nat.zero_add, h6, Nat.add_mul, ← hl, List.take_append_of_le_length (by rw [List.length_append, h.1]; exact Nat.le_refl _)]
          rw [List.take_of_length_le (by rw [List.length_append, h.1]; exact Nat.le_refl _)]
        · intro f j hj
          rw [w1] at hj
          rw [w3 j (by have := h2.1; omega)]
          exact f j hj
  · rw [if_neg hc, if_neg (by rintro (h1 | h1 | h1); cases h1; exact h1 hb; exact h1 hb')]
    rcases h.2.2 with ⟨e, e2⟩ | ⟨i, b, e, h1, h2, h3, h4, h5, h6⟩
    · subst e
      have hl0 : l = 0 := by have := h.2.1; omega
      have : cs = [] := List.eq_nil_of_length_eq_zero (by rw [h.1, hl0, Nat.zero_mul])
      subst this hl0
      refine ⟨_, _, _, rfl, ⟨by simpa using hl, Nat.le_refl _, .inr ⟨H.next, _, rfl, hn, at_alloc H _, rfl, rfl, by simpa using hl, ?_⟩⟩, (agree_alloc H _).keep, fun q e => .inr (by cases e; exact Nat.le_refl _)⟩
      simp [← hl]
    · subst e
      simp only [h2.2]
      rw [if_neg (by rintro (h7 | h7); rw [h3] at h7; cases h7; exact h7 (by rw [h5, Nat.zero_add]; exact Nat.le_refl _)), if_neg (by simp), if_pos ⟨h3, h4, by rw [h5, Nat.zero_add]⟩]
      refine ⟨_, _, _, rfl, ⟨by rw [List.length_append, h.1, hl, ← Nat.add_mul], Nat.le_refl _, .inr ⟨H.next, _, rfl, hn, at_alloc _ _, rfl, rfl, ?_, ?_⟩⟩, ?_, fun q e => .inr (by cases e; exact Nat.le_refl _)⟩
      · simp only [List.drop_zero, h6, List.length_append, h.1, hl, ← Nat.add_mul]
      · simp only [List.drop_zero, h6]
        rw [List.take_of_length_le (by rw [List.length_append, h.1, hl, ← Nat.add_mul]; exact Nat.le_refl _)]
      · refine ⟨Nat.le_succ _, fun j hj hne => ?_, fun f j hj => ?_⟩
        · show (if j = H.next then _ else if j = i then _ else H.get j) = _
          rw [if_neg (by omega), if_neg (fun e => hne _ rfl e.symm)]
        · have hj' : H.next + 1 ≤ j := hj
          show (if j = H.next then _ else if j = i then _ else H.get j) = _
          have := h2.1
          rw [if_neg (by omega), if_neg (by omega)]
          exact f j (by omega)

/-- the cells that are appended -/
theorem firstC_cells {H : AHeap} {a : Option Addr} {sz l c : Nat} {cs : List Value} (hsz : sz ≠ 0) (h : Cells H a (l * sz) cs) : firstC H sz l (.slice a l c) = some cs := by
  rcases h.2 with ⟨e, e2⟩ | ⟨i, o, s, b, e, h1, h2, h3, h4⟩
  · subst e e2
    have h1 : 0 = l * sz := h.1
    have : l = 0 := by
      rcases Nat.mul_eq_zero.1 h1.symm with h | h
      · exact h
      · exact absurd h hsz
    unfold firstC
    dsimp only
    rw [if_pos this]
  · subst e
    unfold firstC
    dsimp only
    rw [if_pos (Nat.le_refl _), row_at h1 h2 h3, h4]

/-- an append whose elements lie in a slice -/
theorem app_own {N sz bts : Nat} (hsz : sz ≠ 0) {X : Option (Value × AHeap)} {H : AHeap} {a a' : Option Addr} {l c l' c' : Nat} {cs cs' : List Value}
    (hX : X = (firstC H sz l' (.slice a' l' c')).bind fun news => apndS sz bts H a l c news l')
    (h : Own N sz H a l c cs) (h' : Cells H a' (l' * sz) cs') (hn : N ≤ H.next) (hb : (l + l') * bts ≤ 70368744177664) (hb' : l + l' ≤ 70368744177664) :
    ∃ a2 l2 c2 H', X = some (.slice a2 l2 c2, H') ∧ (l2 = l + l' ∧ Own N sz H' a2 l2 c2 (cs ++ cs') ∧ Keep a H H' ∧ (∀ q, a2 = some q → (∃ q', a = some q' ∧ q'.block = q.block) ∨ H.next ≤ q.block)) := by
  obtain ⟨a2, c2, H', e, h1, h2, h3⟩ := apnd_own hsz h hn h'.1 hb hb'
  refine ⟨a2, _, c2, H', ?_, rfl, h1, h2, h3⟩
  rw [hX, firstC_cells hsz h', Option.bind_some, e]

/-- where a slice's block comes from: the old one, or new -/
def Orig (a : Option Addr) (N : Nat) (a1 : Option Addr) : Prop := ∀ q, a1 = some q → (∃ q', a = some q' ∧ q'.block = q.block) ∨ N ≤ q.block
theorem Orig.refl (a : Option Addr) (N : Nat) : Orig a N a := fun q e => .inl ⟨q, e, rfl⟩
theorem Orig.trans {a b d : Option Addr} {N M : Nat} (h : Orig a N b) (k : Orig b M d) (hn : N ≤ M) : Orig a N d := by
  intro q e
  rcases k q e with ⟨q', e', h1⟩ | h1
  · rcases h q' e' with ⟨q2, e2, h2⟩ | h2
    · exact .inl ⟨q2, e2, h2.trans h1⟩
    · exact .inr (by omega)
  · exact .inr (Nat.le_trans hn h1)
theorem Keep.trans {a a1 : Option Addr} {H H1 H2 : AHeap} (h : Keep a H H1) (o : Orig a H.next a1) (k : Keep a1 H1 H2) : Keep a H H2 := by
  refine ⟨Nat.le_trans h.next k.next, fun j hj hne => (k.old j (Nat.lt_of_lt_of_le hj h.next) fun q e e2 => ?_).trans (h.old j hj hne), fun f => k.fresh (h.fresh f)⟩
  rcases o q e with ⟨q', e', h1⟩ | h1
  · exact hne q' e' (h1.trans e2)
  · omega
theorem Keep.of_agree {a : Option Addr} {H H1 H2 : AHeap} (h : Agree H H1) (k : Keep a H1 H2) : Keep a H H2 :=
  ⟨Nat.le_trans h.next k.next, fun j hj hne => (k.old j (Nat.lt_of_lt_of_le hj h.next) hne).trans (h.old j hj), fun f => k.fresh (h.fresh f)⟩
theorem Keep.none {H H' : AHeap} (h : Keep none H H') : Agree H H' := ⟨h.next, fun j hj => h.old j hj (fun _ e => nomatch e), h.fresh⟩

theorem Own.ints {N : Nat} {H : AHeap} {a : Option Addr} {l c : Nat} {xs : List Int} (h : Own N 1 H a l c (Mx.ints xs)) : Ints H a l xs := by
  have := h.cells
  rwa [Nat.mul_one] at this
theorem Own.len {N : Nat} {H : AHeap} {a : Option Addr} {l c : Nat} {xs : List Int} (h : Own N 1 H a l c (Mx.ints xs)) : l = xs.length := h.ints.len

/-- write one element of a slice of ours -/
theorem own_set {N : Nat} {H : AHeap} {a : Option Addr} {l c : Nat} {cs : List Value} (h : Own N 1 H a l c cs) {t : Nat} (ht : t < l) (v : Value) :
    ∃ q H', a = some q ∧ H.wr q.block (q.off + t * 1) [v] = some H' ∧ Own N 1 H' a l c (cs.set t v) ∧ Keep a H H' ∧ H'.next = H.next := by
  rcases h.2.2 with ⟨e, e2⟩ | ⟨i, b, e, h0, h1, h2, h3, h4, h5⟩
  · have := h.2.1; omega
  · have hlen := h.1
    have hle := h.2.1
    obtain ⟨H', hw, w1, w2, w3⟩ := wr_at (o := 0 + t * 1) (vs := [v]) h1 h2 (by simp only [List.length_singleton]; omega)
    refine ⟨_, H', e, hw, ⟨by simpa using hlen, hle, .inr ⟨i, _, e, h0, w2, h2, h3, ?_, ?_⟩⟩, ⟨by rw [w1]; exact Nat.le_refl _, fun j hj hne => w3 j fun e1 => hne _ e e1.symm, fun f j hj => ?_⟩, w1⟩
    · show (splice b.cells (0 + t * 1) [v]).length = c * 1
      unfold splice
      simp only [List.length_append, List.length_take, List.length_drop, List.length_singleton]
      omega
    · show (splice b.cells (0 + t * 1) [v]).take (l * 1) = cs.set t v
      rw [← h5]
      unfold splice
      apply List.ext_getElem?
      intro j
      simp only [Nat.zero_add, Nat.mul_one, List.length_singleton]
      rw [List.getElem?_take, List.getElem?_set]
      by_cases hj : j < l
      · rw [if_pos hj]
        by_cases e1 : t = j
        · subst e1
          rw [if_pos rfl, if_pos (by rw [List.length_take]; omega)]
          rw [List.append_assoc, List.getElem?_append_right (by rw [List.length_take]; omega)]
          have : t - (List.take t b.cells).length = 0 := by rw [List.length_take]; omega
          rw [this]; rfl
        · rw [if_neg e1, List.getElem?_take, if_pos hj]
          by_cases h6 : j < t
          · rw [List.append_assoc, List.getElem?_append_left (by rw [List.length_take]; omega), List.getElem?_take, if_pos h6]
          · rw [List.getElem?_append_right (by rw [List.length_append, List.length_take, List.length_singleton]; omega), List.getElem?_drop, List.length_append, List.length_take, List.length_singleton]
            congr 1
            omega
      · rw [if_neg hj]
        by_cases e1 : t = j
        · omega
        · rw [if_neg e1, List.getElem?_take, if_neg hj]
    · rw [w1] at hj
      rw [w3 j (by have := h1.1; omega)]
      exact f j hj
/-- all blocks are still there -/
def Sub' (H H' : AHeap) : Prop := ∀ i b, At H i b → At H' i b
theorem Agree.sub {H H' : AHeap} (a : Agree H H') : Sub' H H' := fun _ _ h => h.agree a
theorem Sub'.trans {A B D : AHeap} (h : Sub' A B) (k : Sub' B D) : Sub' A D := fun i b x => k i b (h i b x)
theorem Cells.sub {H H' : AHeap} {a : Option Addr} {n : Nat} {cs : List Value} (h : Cells H a n cs) (k : Sub' H H') : Cells H' a n cs := by
  refine ⟨h.1, ?_⟩
  rcases h.2 with h | ⟨i, o, s, b, e, h1, h2, h3, h4⟩
  · exact .inl h
  · exact .inr ⟨i, o, s, b, e, k _ _ h1, h2, h3, h4⟩
theorem Ints.sub {H H' : AHeap} {a : Option Addr} {n : Nat} {xs : List Int} (h : Ints H a n xs) (k : Sub' H H') : Ints H' a n xs := Cells.sub h k
theorem Own.sub {N sz : Nat} {H H' : AHeap} {a : Option Addr} {l c : Nat} {cs : List Value} (h : Own N sz H a l c cs) (k : Sub' H H') : Own N sz H' a l c cs := by
  refine ⟨h.1, h.2.1, ?_⟩
  rcases h.2.2 with h | ⟨i, b, e, h0, h1, h2⟩
  · exact .inl h
  · exact .inr ⟨i, b, e, h0, k _ _ h1, h2⟩
theorem Own.wrote {N sz : Nat} {H H' : AHeap} {a : Option Addr} {l c i : Nat} {cs : List Value} {b' : Blk} (h : Own N sz H a l c cs) (w : Wrote H H' i b') (hi : i < N) : Own N sz H' a l c cs := by
  refine ⟨h.1, h.2.1, ?_⟩
  rcases h.2.2 with h | ⟨j, b, e, h0, h1, h2⟩
  · exact .inl h
  · exact .inr ⟨j, b, e, h0, h1.wrote w (by omega), h2⟩
theorem Cells.wrote {H H' : AHeap} {a : Option Addr} {n i : Nat} {cs : List Value} {b' : Blk} (h : Cells H a n cs) (w : Wrote H H' i b') (hi : ∀ q, a = some q → q.block ≠ i) : Cells H' a n cs := by
  refine ⟨h.1, ?_⟩
  rcases h.2 with h | ⟨j, o, s, b, e, h1, h2, h3, h4⟩
  · exact .inl h
  · exact .inr ⟨j, o, s, b, e, h1.wrote w (hi _ e), h2, h3, h4⟩
theorem Cells.below {H0 : AHeap} {a : Option Addr} {n : Nat} {cs : List Value} (h : Cells H0 a n cs) : ∀ q, a = some q → q.block < H0.next := by
  rcases h.2 with ⟨e, _⟩ | ⟨j, o, s, b, e, h1, _⟩
  · intro q hq; rw [e] at hq; cases hq
  · intro q hq; rw [e] at hq; cases hq; exact h1.1
theorem Keep.sub {a : Option Addr} {H H' : AHeap} (k : Keep a H H') {j : Nat} {b : Blk} (h : At H j b) (hne : ∀ q, a = some q → q.block ≠ j) : At H' j b := h.keep k hne
theorem Cells.keep {a a' : Option Addr} {H H' : AHeap} {n : Nat} {cs : List Value} (h : Cells H a n cs) (k : Keep a' H H') (hne : ∀ q q', a = some q → a' = some q' → q'.block ≠ q.block) : Cells H' a n cs := by
  refine ⟨h.1, ?_⟩
  rcases h.2 with h | ⟨j, o, s, b, e, h1, h2, h3, h4⟩
  · exact .inl h
  · exact .inr ⟨j, o, s, b, e, h1.keep k (fun q hq => hne _ q e hq), h2, h3, h4⟩

/-- a block laid at a place that a region kept -/
theorem ok_als {R : Type} {Q : R → Prop} {H0 H : AHeap} {s : Nat} {b : Blk} {K : Nat → AHeap → Option R} (A : Agree H0 H) (f : Free H s) (h : H0.next ≤ s)
    (k : ∀ H', H'.next = H.next → Agree H0 H' → At H' s b → Sub' H H' → (∀ i, Free H i → i ≠ s → Free H' i) → Ok (K s H') Q) : Ok (alK (some s) H b K) Q :=
  k _ rfl (A.slot h f.1) (at_slot f.1) (fun _ _ x => x.slot f) (fun _ x hne => x.slot hne)
theorem Free.ne {H : AHeap} {i s : Nat} {b : Blk} (f : Free H s) (h : At H i b) : i ≠ s := by
  intro e; subst e; have := h.2; rw [f.2] at this; cases this
theorem Wrote.fresh {H H' : AHeap} {i : Nat} {b' : Blk} (w : Wrote H H' i b') (f : ∀ j, H.next ≤ j → H.get j = none) : ∀ j, H'.next ≤ j → H'.get j = none := by
  intro j hj
  have := w.at'.1
  rw [w.old j (by omega)]
  exact f j (by rw [← w.next]; exact hj)
/-! the law's arguments -/
theorem argV_flat {P : Program} {H : AHeap} {n : Nat} {t : TypeId} {v : Value} (h : aggT P t = false) (k : ArgV P H n t v) : TyV P H n t [v] := by
  have k := k.out
  rw [h] at k
  exact k
theorem argV_agg {P : Program} {H : AHeap} {n : Nat} {t : TypeId} {v : Value} (h : aggT P t = true) (k : ArgV P H n t v) : ∃ cs : List Value, v = .agg cs.toArray ∧ TyV P H n t cs := by
  have k := k.out
  rw [h] at k
  exact k
theorem tyV_bool {P : Program} {H : AHeap} {n : Nat} {t : TypeId} {cs : List Value} (hu : P.underlying t = some .bool) (h : TyV P H (n + 1) t cs) : ∃ b, cs = [.bool b] := by
  unfold TyV at h
  simp only [hu] at h
  exact h
theorem tyV_int {P : Program} {H : AHeap} {n : Nat} {t : TypeId} {k : IntKind} {cs : List Value} (hu : P.underlying t = some (.int k)) (h : TyV P H (n + 1) t cs) : ∃ m, cs = [.int k m] ∧ (Lit.int k m).wf = true := by
  unfold TyV at h
  simp only [hu] at h
  exact h
theorem tyV_slice {P : Program} {H : AHeap} {n : Nat} {t e : TypeId} {sz : Nat} {cs : List Value} (hu : P.underlying t = some (.slice e)) (hs : P.cellsOf e = sz) (hF : ∀ i, H.next ≤ i → H.get i = none) (h : TyV P H (n + 1) t cs) :
    ∃ a len c es, cs = [.slice a len c] ∧ Cells H a (len * sz) es ∧ TyRep (TyV P H n e) len es := by
  unfold TyV at h
  simp only [hu, hs] at h
  rcases h with h | ⟨i, len, b, h1, h2, h3, h4, h5, h6⟩
  · exact ⟨none, 0, 0, [], h, by rw [Nat.zero_mul]; exact Cells.nil H, rfl⟩
  · refine ⟨_, len, len, b.cells, h1, ⟨h5, .inr ⟨i, 0, none, b, rfl, ⟨?_, h3⟩, by rw [h4]; simp, by omega, ?_⟩⟩, h6⟩
    · rcases Nat.lt_or_ge i H.next with h | h
      · exact h
      · rw [hF i h] at h3; cases h3
    · rw [List.drop_zero, List.take_of_length_le (by omega)]
theorem tyV_struct {P : Program} {H : AHeap} {n : Nat} {t : TypeId} {fs : Array Field} {cs : List Value} (hu : P.underlying t = some (.struct fs)) (h : TyV P H (n + 1) t cs) : TyFields (fun t cs => TyV P H n t cs) fs.toList cs := by
  unfold TyV at h
  simp only [hu] at h
  exact h
theorem tyV_array {P : Program} {H : AHeap} {n m : Nat} {t e : TypeId} {cs : List Value} (hu : P.underlying t = some (.array m e)) (h : TyV P H (n + 1) t cs) : TyRep (TyV P H n e) m cs := by
  unfold TyV at h
  simp only [hu] at h
  exact h
theorem argsV_cons {P : Program} {H : AHeap} {n : Nat} {t : TypeId} {ts : List TypeId} {vs : List Value} (h : ArgsV P H n (t :: ts) vs) : ∃ v vs', vs = v :: vs' ∧ ArgV P H n t v ∧ ArgsV P H n ts vs' := by
  cases h with
  | cons h1 h2 => exact ⟨_, _, rfl, h1, h2⟩
theorem argsV_nil {P : Program} {H : AHeap} {n : Nat} {vs : List Value} (h : ArgsV P H n [] vs) : vs = [] := by
  cases h; rfl
theorem tyRep_each {p : List Value → Prop} {q : Value → Prop} (h : ∀ cs, p cs → ∃ v, cs = [v] ∧ q v) : ∀ {m : Nat} {cs : List Value}, TyRep p m cs → ∀ j, j < m → ∃ v, cs[j]? = some v ∧ q v := by
  intro m
  induction m with
  | zero => intro cs _ j hj; omega
  | succ m ih =>
    intro cs hr j hj
    obtain ⟨a, b, rfl, ha, hb⟩ := hr
    obtain ⟨v, rfl, hq⟩ := h _ ha
    cases j with
    | zero => exact ⟨v, rfl, hq⟩
    | succ j => simpa using ih hb j (by omega)
theorem arg_slice {P : Program} {H : AHeap} {n : Nat} {t e : TypeId} {sz : Nat} {v : Value} (ha : aggT P t = false) (hu : P.underlying t = some (.slice e)) (hs : P.cellsOf e = sz) (hF : ∀ i, H.next ≤ i → H.get i = none) (h : ArgV P H (n + 1) t v) :
    ∃ a len c es, v = .slice a len c ∧ Cells H a (len * sz) es ∧ TyRep (TyV P H n e) len es := by
  obtain ⟨a, len, c, es, e0, h1, h2⟩ := tyV_slice hu hs hF (argV_flat ha h)
  cases e0
  exact ⟨a, len, c, es, rfl, h1, h2⟩
theorem arg_int {P : Program} {H : AHeap} {n : Nat} {t : TypeId} {k : IntKind} {v : Value} (ha : aggT P t = false) (hu : P.underlying t = some (.int k)) (h : ArgV P H (n + 1) t v) : ∃ m, v = .int k m ∧ (Lit.int k m).wf = true := by
  obtain ⟨m, e0, h1⟩ := tyV_int hu (argV_flat ha h)
  cases e0
  exact ⟨m, rfl, h1⟩
theorem arg_bool {P : Program} {H : AHeap} {n : Nat} {t : TypeId} {v : Value} (ha : aggT P t = false) (hu : P.underlying t = some .bool) (h : ArgV P H (n + 1) t v) : ∃ m, v = .bool m := by
  obtain ⟨m, e0⟩ := tyV_bool hu (argV_flat ha h)
  cases e0
  exact ⟨m, rfl⟩
theorem rep_bool {P : Program} {H : AHeap} {n m : Nat} {t : TypeId} {cs : List Value} (hu : P.underlying t = some .bool) (h : TyRep (TyV P H (n + 1) t) m cs) : ∀ j, j < m → ∃ b, cs[j]? = some (.bool b) := by
  intro j hj
  obtain ⟨v, hv, b, rfl⟩ := tyRep_each (q := fun v => ∃ b, v = .bool b) (fun cs h => by
    obtain ⟨b, rfl⟩ := tyV_bool hu h
    exact ⟨_, rfl, b, rfl⟩) h j hj
  exact ⟨b, hv⟩
end Go.Mx
end

section
set_option linter.unusedSimpArgs false
/- A slice out of parts. -/
set_option linter.unusedVariables false
namespace Go.Mx
open Go
variable {R : Type}
/-- a slice out of parts -/
def buildSK (P : Program) (ty : TypeId) (len : Nat) (vs : List (Nat × Value)) (K : List Value → Nat → Option R) : Option R :=
  match P.underlying ty with
  | some (.slice e) =>
    match zeroCellsOf P e with
    | some z =>
      if z.length = 0 ∨ 65536 < len * z.length then none else
      match afill (fun i => some (i * z.length, z.length)) (rep z len) vs with
      | some cells => K cells z.length
      | none => none
    | none => none
  | _ => none
end Go.Mx
end

section
set_option linter.unusedSimpArgs false
/- The base of the second half. -/
end

section
set_option linter.unusedSimpArgs false
/- Arguments: lists of numbers, structs. -/
set_option linter.unusedVariables false
namespace Go.Mx
open Go
theorem tyV_ints {P : Program} {H : AHeap} {n : Nat} {t e : TypeId} {cs : List Value} (hu : P.underlying t = some (.slice e)) (he : P.underlying e = some (.int .i64)) (hs : P.cellsOf e = 1) (hF : ∀ i, H.next ≤ i → H.get i = none)
    (h : TyV P H (n + 1 + 1) t cs) : ∃ a l c xs, cs = [.slice a l c] ∧ Ints H a l xs ∧ l ≤ reachBytes ∧ ∀ x ∈ xs, (Lit.int .i64 x).wf = true := by
  have h0 := h
  unfold TyV at h
  simp only [hu] at h
  rcases h with rfl | ⟨i, len, b, rfl, hl, hb, hm, hn, hr⟩
  · exact ⟨none, 0, 0, [], rfl, Ints.nil _, Nat.zero_le _, fun x hx => by cases hx⟩
  · have hI : ∀ {m : Nat} {cs : List Value}, TyRep (TyV P H (n + 1) e) m cs → ∃ xs : List Int, cs = ints xs ∧ xs.length = m ∧ ∀ x ∈ xs, (Lit.int .i64 x).wf = true := by
      intro m
      induction m with
      | zero => intro cs h; exact ⟨[], h, rfl, fun x hx => by cases hx⟩
      | succ m ih =>
        intro cs h
        obtain ⟨a, d, rfl, ha, hd⟩ := h
        obtain ⟨x, rfl, wx⟩ := tyV_int he ha
        obtain ⟨xs, rfl, hxs, wxs⟩ := ih hd
        refine ⟨x :: xs, rfl, by simp [hxs], fun y hy => ?_⟩
        rcases List.mem_cons.1 hy with rfl | hy
        · exact wx
        · exact wxs y hy
    obtain ⟨xs, hxs, hlen, hwf⟩ := hI hr
    have hlt : i < H.next := by
      by_cases hh : i < H.next
      · exact hh
      · rw [hF i (by omega)] at hb; cases hb
    refine ⟨_, len, len, xs, rfl, ⟨by rw [← hxs, hn, hs, Nat.mul_one], .inr ⟨i, 0, none, b, rfl, ⟨hlt, hb⟩, by rw [hm]; decide, by rw [hn, hs]; omega, ?_⟩⟩, hl, hwf⟩
    rw [List.drop_zero, ← hxs, List.take_of_length_le (by rw [hn, hs]; omega)]

theorem arg_held {P : Program} {H : AHeap} {n : Nat} {t s e : TypeId} {fs : Array Field} {v : Value} (ha : aggT P t = true) (ht : P.underlying t = some (.struct fs)) (hfs : fs.toList.map (·.type) = [s, s])
    (hu : P.underlying s = some (.slice e)) (he : P.underlying e = some (.int .i64)) (hs : P.cellsOf e = 1) (hF : ∀ i, H.next ≤ i → H.get i = none) (h : ArgV P H (n + 1 + 1 + 1) t v) :
    ∃ a l c a' l' c' xs ys, v = .agg #[.slice a l c, .slice a' l' c'] ∧ Ints H a l xs ∧ Ints H a' l' ys ∧ l ≤ reachBytes ∧ l' ≤ reachBytes := by
  obtain ⟨cs, rfl, hc⟩ := argV_agg ha h
  have hc := tyV_struct ht hc
  revert hc hfs
  cases fs.toList with
  | nil => intro h; cases h
  | cons f0 fs =>
    cases fs with
    | nil => intro h; cases h
    | cons f1 fs =>
      cases fs with
      | cons _ _ => intro h; have := congrArg List.length h; simp at this
      | nil =>
        intro h hc
        have h0 : f0.type = s := (List.cons.inj h).1
        have h1 : f1.type = s := (List.cons.inj (List.cons.inj h).2).1
        obtain ⟨c0, _, rfl, k0, c1, _, rfl, k1, rfl⟩ := hc
        rw [h0] at k0
        rw [h1] at k1
        obtain ⟨a, l, c, xs, rfl, i1, b1, _⟩ := tyV_ints hu he hs hF k0
        obtain ⟨a', l', c', ys, rfl, i2, b2, _⟩ := tyV_ints hu he hs hF k1
        exact ⟨a, l, c, a', l', c', xs, ys, rfl, i1, i2, b1, b2⟩
end Go.Mx
end

section
set_option linter.unusedSimpArgs false
/- Lists whose elements are rows of cells. -/
set_option linter.unusedVariables false
namespace Go.Mx
open Go
section
variable {α : Type} {f : α → List Value} {sz : Nat}
theorem flat_len (hf : ∀ x, (f x).length = sz) (xs : List α) : (xs.flatMap f).length = xs.length * sz := by
  induction xs with
  | nil => simp
  | cons x xs ih => rw [List.flatMap_cons, List.length_append, ih, hf, List.length_cons, Nat.succ_mul, Nat.add_comm]
theorem flat_split (hf : ∀ x, (f x).length = sz) {xs : List α} {i : Nat} {x : α} (h : xs[i]? = some x) :
    xs.flatMap f = (xs.take i).flatMap f ++ (f x ++ (xs.drop (i + 1)).flatMap f) ∧ ((xs.take i).flatMap f).length = i * sz := by
  obtain ⟨hi, e⟩ := List.getElem?_eq_some_iff.1 h
  constructor
  · conv => lhs; rw [← List.take_append_drop i xs, List.flatMap_append, List.drop_eq_getElem_cons hi, e, List.flatMap_cons]
  · rw [flat_len hf, List.length_take]
    congr 1
    omega
theorem flat_get (hf : ∀ x, (f x).length = sz) {xs : List α} {i j : Nat} {x : α} (h : xs[i]? = some x) (hj : j < sz) : (xs.flatMap f)[i * sz + j]? = (f x)[j]? := by
  obtain ⟨e, hl⟩ := flat_split hf h
  rw [e, List.getElem?_append_right (by omega), hl, Nat.add_sub_cancel_left, List.getElem?_append_left (by rw [hf]; exact hj)]
theorem flat_row (hf : ∀ x, (f x).length = sz) {xs : List α} {i : Nat} {x : α} (h : xs[i]? = some x) : ((xs.flatMap f).drop (i * sz)).take sz = f x := by
  obtain ⟨e, hl⟩ := flat_split hf h
  rw [e, List.drop_left' hl, List.take_left' (hf x)]
theorem flat_splice (hf : ∀ x, (f x).length = sz) {xs : List α} {i j : Nat} {x y : α} {vs : List Value} (h : xs[i]? = some x) (hj : j + vs.length ≤ sz) (hy : f y = splice (f x) j vs) :
    splice (xs.flatMap f) (i * sz + j) vs = (xs.set i y).flatMap f := by
  obtain ⟨e, hl⟩ := flat_split hf h
  obtain ⟨hi, _⟩ := List.getElem?_eq_some_iff.1 h
  have e2 : (xs.set i y).flatMap f = (xs.take i).flatMap f ++ (f y ++ (xs.drop (i + 1)).flatMap f) := by
    rw [List.set_eq_take_append_cons_drop, if_pos hi, List.flatMap_append, List.flatMap_cons]
  rw [e2, hy, e]
  generalize (xs.take i).flatMap f = A at hl
  generalize (xs.drop (i + 1)).flatMap f = B
  have hx := hf x
  revert hx
  generalize f x = X
  intro hx
  unfold splice
  rw [List.take_append, List.take_append, List.take_of_length_le (by omega), hl, Nat.add_sub_cancel_left]
  rw [show j - X.length = 0 from by omega, List.take_zero, List.append_nil]
  rw [show i * sz + j + vs.length = A.length + (j + vs.length) from by omega, ← List.drop_drop, List.drop_left' rfl, List.drop_append_of_le_length (by omega)]
  simp
theorem flat_snoc (xs : List α) (x : α) : (xs ++ [x]).flatMap f = xs.flatMap f ++ f x := by
  rw [List.flatMap_append, List.flatMap_singleton]
end

/-- cells that are read, all in blocks of a kind -/
def CellsF (F : Nat → Prop) (H : AHeap) (a : Option Addr) (n : Nat) (cs : List Value) : Prop := Cells H a n cs ∧ ∀ q, a = some q → F q.block
section
variable {F G : Nat → Prop} {H H' : AHeap} {a : Option Addr} {n : Nat} {cs : List Value}
theorem CellsF.agree (h : CellsF F H a n cs) (A : Agree H H') : CellsF F H' a n cs := ⟨h.1.agree A, h.2⟩
theorem CellsF.wrote (h : CellsF F H a n cs) {i : Nat} {b' : Blk} (w : Wrote H H' i b') (hi : ¬ F i) : CellsF F H' a n cs :=
  ⟨Cells.wrote h.1 w fun q e hh => hi (hh ▸ h.2 q e), h.2⟩
theorem CellsF.mono (h : CellsF F H a n cs) (k : ∀ i, F i → G i) : CellsF G H a n cs := ⟨h.1, fun q e => k _ (h.2 q e)⟩
theorem CellsF.keep (h : CellsF F H a n cs) {b : Option Addr} (k : Keep b H H') (hb : ∀ q, b = some q → ¬ F q.block) : CellsF F H' a n cs :=
  ⟨Cells.keep h.1 k fun q q' e e' hh => hb q' e' (hh ▸ h.2 q e), h.2⟩
theorem CellsF.sub (h : CellsF F H a n cs) (k : Sub' H H') : CellsF F H' a n cs := ⟨h.1.sub k, h.2⟩
end

/-- a part of a slice of ours is written -/
theorem own_wr {N sz : Nat} {H : AHeap} {a : Option Addr} {l c : Nat} {cs : List Value} (h : Own N sz H a l c cs) {o : Nat} {vs : List Value} (hv : 0 < vs.length) (ho : o + vs.length ≤ l * sz) :
    ∃ q H', a = some q ∧ q.off = 0 ∧ H.wr q.block (q.off + o) vs = some H' ∧ Own N sz H' a l c (splice cs o vs) ∧ Keep a H H' ∧ H'.next = H.next := by
  rcases h.2.2 with ⟨e, e2⟩ | ⟨i, b, e, h0, h1, h2, h3, h4, h5⟩
  · have := h.2.1
    subst e2
    have : l = 0 := by omega
    subst this
    rw [Nat.zero_mul] at ho
    omega
  · have hlen := h.1
    have hle : l * sz ≤ c * sz := Nat.mul_le_mul_right _ h.2.1
    obtain ⟨H', hw, w1, w2, w3⟩ := wr_at (o := 0 + o) (vs := vs) h1 h2 (by omega)
    refine ⟨_, H', e, rfl, hw, ⟨?_, h.2.1, .inr ⟨i, _, e, h0, w2, h2, h3, ?_, ?_⟩⟩, ⟨by rw [w1]; exact Nat.le_refl _, fun j hj hne => w3 j fun e1 => hne _ e e1.symm, fun f j hj => ?_⟩, w1⟩
    · unfold splice
      simp only [List.length_append, List.length_take, List.length_drop]
      omega
    · show (splice b.cells (0 + o) vs).length = c * sz
      unfold splice
      simp only [List.length_append, List.length_take, List.length_drop]
      omega
    · show (splice b.cells (0 + o) vs).take (l * sz) = splice cs o vs
      rw [← h5]
      unfold splice
      rw [Nat.zero_add, List.take_append, List.take_of_length_le (by simp only [List.length_append, List.length_take]; omega), List.take_take, Nat.min_eq_left (by omega)]
      congr 1
      rw [List.drop_take, List.length_append, List.length_take]
      congr 1
      omega
    · rw [w1] at hj
      rw [w3 j (by have := h1.1; omega)]
      exact f j hj
theorem own_same {N sz : Nat} {H : AHeap} {a : Option Addr} {l c : Nat} {cs : List Value} (h : Own N sz H a l c cs) {q : Addr} (e : a = some q) : ∀ H', Agree H H' → sameB H H' q.block = true := by
  intro H' A
  rcases h.2.2 with ⟨e1, _⟩ | ⟨i, b, e1, h0, h1, _⟩
  · rw [e1] at e; cases e
  · rw [e1] at e; cases e; exact sameB_agree h1 A
theorem Own.keep {N sz : Nat} {H H' : AHeap} {a b : Option Addr} {l c : Nat} {cs : List Value} (h : Own N sz H a l c cs) (k : Keep b H H') (hne : ∀ q q', a = some q → b = some q' → q'.block ≠ q.block) : Own N sz H' a l c cs := by
  refine ⟨h.1, h.2.1, ?_⟩
  rcases h.2.2 with h | ⟨i, bl, e, h0, h1, h2⟩
  · exact .inl h
  · exact .inr ⟨i, bl, e, h0, h1.keep k (fun q e' => hne _ q e e'), h2⟩
theorem Own.cellsF {N sz : Nat} {H : AHeap} {a : Option Addr} {l c : Nat} {cs : List Value} (h : Own N sz H a l c cs) : CellsF (N ≤ ·) H a (l * sz) cs := ⟨h.cells, h.block⟩
theorem Cells.stay {H : AHeap} {a : Option Addr} {n : Nat} {cs : List Value} (h : Cells H a n cs) {q : Addr} (e : a = some q) : ∀ H', Agree H H' → sameB H H' q.block = true := by
  intro H' A
  rcases h.2 with ⟨e1, _⟩ | ⟨i, o, s, b, e1, h1, _⟩
  · rw [e1] at e; cases e
  · rw [e1] at e; cases e; exact sameB_agree h1 A
/-- the load of a cell of a slice -/
theorem Cells.ldI {H : AHeap} {a : Option Addr} {n : Nat} {cs : List Value} (h : Cells H a n cs) {j : Nat} {k : IntKind} {x : Int} (hj : cs[j]? = some (.int k x)) : ∃ q, a = some q ∧ Mx.ldI k H q.block (q.off + j) = some x := by
  obtain ⟨q, e, hc⟩ := Cells.cell h hj
  exact ⟨q, e, by unfold Mx.ldI; rw [hc]; simp [asI]⟩
theorem Cells.ldSl {H : AHeap} {a : Option Addr} {n : Nat} {cs : List Value} (h : Cells H a n cs) {j : Nat} {b : Option Addr} {l c : Nat} (hj : cs[j]? = some (.slice b l c)) : ∃ q, a = some q ∧ Mx.ldSl H q.block (q.off + j) = some (b, l, c) := by
  obtain ⟨q, e, hc⟩ := Cells.cell h hj
  exact ⟨q, e, by unfold Mx.ldSl; rw [hc]; simp [asSl]⟩
end Go.Mx
end
