/- Slices that are ours: append. -/
import Derived.Test.YtcegcnopakfloaaXS1
namespace Go.Mx
open Go

/-- all blocks but one slice's own are as they were -/
structure Keep (a : Option Addr) (H H' : AHeap) : Prop where
  next : H.next ≤ H'.next
  old : ∀ j, j < H.next → (∀ q, a = some q → q.block ≠ j) → H'.get j = H.get j
  fresh : (∀ i, H.next ≤ i → H.get i = none) → ∀ i, H'.next ≤ i → H'.get i = none
theorem Agree.keep {a : Option Addr} {H H' : AHeap} (h : Agree H H') : Keep a H H' := ⟨h.next, fun j hj _ => h.old j hj, h.fresh⟩
theorem Keep.agree {H0 H H' : AHeap} {a : Option Addr} (h : Keep a H H') (A : Agree H0 H) (ho : ∀ q, a = some q → H0.next ≤ q.block) : Agree H0 H' :=
  ⟨Nat.le_trans A.next h.next, fun j hj => (h.old j (Nat.lt_of_lt_of_le hj A.next) fun q e => by have := ho q e; omega).trans (A.old j hj), fun f => h.fresh (A.fresh f)⟩
theorem At.keep {a : Option Addr} {H H' : AHeap} {j : Nat} {b : Blk} (h : At H j b) (k : Keep a H H') (hne : ∀ q, a = some q → q.block ≠ j) : At H' j b :=
  ⟨Nat.lt_of_lt_of_le h.1 k.next, (k.old j h.1 hne).trans h.2⟩

/-- append, for elements of one size -/
def apndS (sz bts : Nat) (H : AHeap) (base : Option Addr) (sLen sCap : Nat) (news : List Value) (n : Nat) : Option (Value × AHeap) :=
    if sz = 0 ∨ news.length ≠ n * sz ∨ ¬ (sLen ≤ sCap) then none else
    if sLen + n ≤ sCap then
      if n = 0 then some (.slice base sLen sCap, H) else
      match base with
      | none => none
      | some a => (H.wr a.block (a.off + sLen * sz) news).bind fun H' => some (.slice base (sLen + n) sCap, H')
    else if false = true ∨ ¬ ((sLen + n) * bts ≤ 70368744177664) ∨ ¬ (sLen + n ≤ 70368744177664) then none else
      match base with
      | none => some (.slice (some ⟨H.next, 0, none⟩) (sLen + n) (sLen + n), H.alloc none ⟨news, sz, .rw, 0⟩)
      | some a =>
        match H.get a.block with
        | none => none
        | some b =>
          if b.mode = .dead ∨ ¬ (a.off + sCap * sz ≤ b.cells.length) then none else
          let olds := (b.cells.drop a.off).take (sLen * sz)
          if a.spot.isSome then
            some (.slice (some ⟨H.next, 0, none⟩) (sLen + n) (sLen + n), H.alloc none ⟨olds ++ news, sz, .rw, 0⟩)
          else if b.mode = .rw ∧ b.esz = sz ∧ a.off + sCap * sz = b.cells.length then
            some (.slice (some ⟨H.next, 0, none⟩) (sLen + n) (sLen + n), (H.put a.block { b with mode := .dead, ver := b.ver + 1 }).alloc none ⟨olds ++ news, sz, .rw, 0⟩)
          else none

/-- a slice that nobody else has: blocks from N on -/
def Own (N sz : Nat) (H : AHeap) (a : Option Addr) (l c : Nat) (cs : List Value) : Prop :=
  cs.length = l * sz ∧ l ≤ c ∧ ((a = none ∧ c = 0) ∨ ∃ i b, a = some ⟨i, 0, none⟩ ∧ N ≤ i ∧ At H i b ∧ b.mode = .rw ∧ b.esz = sz ∧ b.cells.length = c * sz ∧ b.cells.take (l * sz) = cs)
theorem Own.nil (N sz : Nat) (H : AHeap) : Own N sz H none 0 0 [] := ⟨by simp, Nat.le_refl _, .inl ⟨rfl, rfl⟩⟩
theorem Own.agree {N sz : Nat} {H H' : AHeap} {a : Option Addr} {l c : Nat} {cs : List Value} (h : Own N sz H a l c cs) (k : Agree H H') : Own N sz H' a l c cs := by
  refine ⟨h.1, h.2.1, ?_⟩
  rcases h.2.2 with h | ⟨i, b, e, h0, h1, h2⟩
  · exact .inl h
  · exact .inr ⟨i, b, e, h0, h1.agree k, h2⟩
theorem Own.lower {N M sz : Nat} {H : AHeap} {a : Option Addr} {l c : Nat} {cs : List Value} (h : Own N sz H a l c cs) (k : M ≤ N) : Own M sz H a l c cs := by
  refine ⟨h.1, h.2.1, ?_⟩
  rcases h.2.2 with h | ⟨i, b, e, h0, h1, h2⟩
  · exact .inl h
  · exact .inr ⟨i, b, e, Nat.le_trans k h0, h1, h2⟩
theorem Own.cells {N sz : Nat} {H : AHeap} {a : Option Addr} {l c : Nat} {cs : List Value} (h : Own N sz H a l c cs) : Cells H a (l * sz) cs := by
  refine ⟨h.1, ?_⟩
  rcases h.2.2 with ⟨e, e2⟩ | ⟨i, b, e, h0, h1, h2, h3, h4, h5⟩
  · refine .inl ⟨e, ?_⟩
    have : l = 0 := by have := h.2.1; omega
    apply List.eq_nil_of_length_eq_zero
    rw [h.1, this, Nat.zero_mul]
  · refine .inr ⟨i, 0, none, b, e, h1, by rw [h2]; simp, ?_, by simpa using h5⟩
    rw [h4, Nat.zero_add]
    exact Nat.mul_le_mul_right _ h.2.1
theorem Own.block {N sz : Nat} {H : AHeap} {a : Option Addr} {l c : Nat} {cs : List Value} (h : Own N sz H a l c cs) : ∀ q, a = some q → N ≤ q.block := by
  intro q e
  rcases h.2.2 with ⟨e1, _⟩ | ⟨i, b, e1, h0, _⟩
  · rw [e1] at e; cases e
  · rw [e1] at e; cases e; exact h0

theorem apnd_own {N sz bts : Nat} (hsz : sz ≠ 0) {H : AHeap} {a : Option Addr} {l c n : Nat} {cs news : List Value} (h : Own N sz H a l c cs) (hn : N ≤ H.next) (hl : news.length = n * sz)
    (hb : (l + n) * bts ≤ 70368744177664) (hb' : l + n ≤ 70368744177664) :
    ∃ a' c' H', apndS sz bts H a l c news n = some (.slice a' (l + n) c', H') ∧ Own N sz H' a' (l + n) c' (cs ++ news) ∧ Keep a H H' ∧ (∀ q, a' = some q → (∃ q', a = some q' ∧ q'.block = q.block) ∨ H.next ≤ q.block) := by
  unfold apndS
  rw [if_neg (by rintro (h1 | h1 | h1); exact hsz h1; exact h1 hl; exact h1 h.2.1)]
  by_cases hc : l + n ≤ c
  · rw [if_pos hc]
    by_cases h0 : n = 0
    · subst h0
      rw [if_pos rfl]
      have : news = [] := List.eq_nil_of_length_eq_zero (by omega)
      subst this
      refine ⟨a, c, H, rfl, by rw [List.append_nil]; exact h, (Agree.refl H).keep, fun q e => .inl ⟨q, e, rfl⟩⟩
    · rw [if_neg h0]
      rcases h.2.2 with ⟨e, e2⟩ | ⟨i, b, e, h1, h2, h3, h4, h5, h6⟩
      · omega
      · subst e
        dsimp only
        have hlen : 0 + l * sz + news.length ≤ b.cells.length := by rw [h5, hl, Nat.zero_add, ← Nat.add_mul]; exact Nat.mul_le_mul_right _ hc
        obtain ⟨H', hw, w1, w2, w3⟩ := wr_at h2 h3 hlen
        rw [hw]
        refine ⟨_, c, H', rfl, ⟨?_, hc, .inr ⟨i, _, rfl, h1, w2, h3, h4, ?_, ?_⟩⟩, ⟨by rw [w1]; exact Nat.le_refl _, fun j hj hne => w3 j fun e => hne _ rfl e.symm, ?_⟩, fun q e => .inl ⟨_, rfl, by cases e; rfl⟩⟩
        · rw [List.length_append, h.1, hl, ← Nat.add_mul]
        · show (splice b.cells (0 + l * sz) news).length = c * sz
          unfold splice
          simp only [List.length_append, List.length_take, List.length_drop]
          omega
        · show (splice b.cells (0 + l * sz) news).take ((l + n) * sz) = cs ++ news
          unfold splice
          rw [Nat.zero_add, h6, Nat.add_mul, ← hl, List.take_append_of_le_length (by rw [List.length_append, h.1]; exact Nat.le_refl _)]
          rw [List.take_of_length_le (by rw [List.length_append, h.1]; exact Nat.le_refl _)]
        · intro f j hj
          rw [w1] at hj
          rw [w3 j (by have := h2.1; omega)]
          exact f j hj
  · rw [if_neg hc, if_neg (by rintro (h1 | h1 | h1); cases h1; exact h1 hb; exact h1 hb')]
    rcases h.2.2 with ⟨e, e2⟩ | ⟨i, b, e, h1, h2, h3, h4, h5, h6⟩
    · subst e
      have hl0 : l = 0 := by have := h.2.1; omega
      have : cs = [] := List.eq_nil_of_length_eq_zero (by rw [h.1, hl0, Nat.zero_mul])
      subst this hl0
      refine ⟨_, _, _, rfl, ⟨by simpa using hl, Nat.le_refl _, .inr ⟨H.next, _, rfl, hn, at_alloc H _, rfl, rfl, by simpa using hl, ?_⟩⟩, (agree_alloc H _).keep, fun q e => .inr (by cases e; exact Nat.le_refl _)⟩
      simp [← hl]
    · subst e
      simp only [h2.2]
      rw [if_neg (by rintro (h7 | h7); rw [h3] at h7; cases h7; exact h7 (by rw [h5, Nat.zero_add]; exact Nat.le_refl _)), if_neg (by simp), if_pos ⟨h3, h4, by rw [h5, Nat.zero_add]⟩]
      refine ⟨_, _, _, rfl, ⟨by rw [List.length_append, h.1, hl, ← Nat.add_mul], Nat.le_refl _, .inr ⟨H.next, _, rfl, hn, at_alloc _ _, rfl, rfl, ?_, ?_⟩⟩, ?_, fun q e => .inr (by cases e; exact Nat.le_refl _)⟩
      · simp only [List.drop_zero, h6, List.length_append, h.1, hl, ← Nat.add_mul]
      · simp only [List.drop_zero, h6]
        rw [List.take_of_length_le (by rw [List.length_append, h.1, hl, ← Nat.add_mul]; exact Nat.le_refl _)]
      · refine ⟨Nat.le_succ _, fun j hj hne => ?_, fun f j hj => ?_⟩
        · show (if j = H.next then _ else if j = i then _ else H.get j) = _
          rw [if_neg (by omega), if_neg (fun e => hne _ rfl e.symm)]
        · have hj' : H.next + 1 ≤ j := hj
          show (if j = H.next then _ else if j = i then _ else H.get j) = _
          have := h2.1
          rw [if_neg (by omega), if_neg (by omega)]
          exact f j (by omega)

/-- the cells that are appended -/
theorem firstC_cells {H : AHeap} {a : Option Addr} {sz l c : Nat} {cs : List Value} (hsz : sz ≠ 0) (h : Cells H a (l * sz) cs) : firstC H sz l (.slice a l c) = some cs := by
  rcases h.2 with ⟨e, e2⟩ | ⟨i, o, s, b, e, h1, h2, h3, h4⟩
  · subst e e2
    have h1 : 0 = l * sz := h.1
    have : l = 0 := by
      rcases Nat.mul_eq_zero.1 h1.symm with h | h
      · exact h
      · exact absurd h hsz
    unfold firstC
    dsimp only
    rw [if_pos this]
  · subst e
    unfold firstC
    dsimp only
    rw [if_pos (Nat.le_refl _), row_at h1 h2 h3, h4]

/-- an append whose elements lie in a slice -/
theorem app_own {N sz bts : Nat} (hsz : sz ≠ 0) {X : Option (Value × AHeap)} {H : AHeap} {a a' : Option Addr} {l c l' c' : Nat} {cs cs' : List Value}
    (hX : X = (firstC H sz l' (.slice a' l' c')).bind fun news => apndS sz bts H a l c news l')
    (h : Own N sz H a l c cs) (h' : Cells H a' (l' * sz) cs') (hn : N ≤ H.next) (hb : (l + l') * bts ≤ 70368744177664) (hb' : l + l' ≤ 70368744177664) :
    ∃ a2 l2 c2 H', X = some (.slice a2 l2 c2, H') ∧ (l2 = l + l' ∧ Own N sz H' a2 l2 c2 (cs ++ cs') ∧ Keep a H H' ∧ (∀ q, a2 = some q → (∃ q', a = some q' ∧ q'.block = q.block) ∨ H.next ≤ q.block)) := by
  obtain ⟨a2, c2, H', e, h1, h2, h3⟩ := apnd_own hsz h hn h'.1 hb hb'
  refine ⟨a2, _, c2, H', ?_, rfl, h1, h2, h3⟩
  rw [hX, firstC_cells hsz h', Option.bind_some, e]

/-- where a slice's block comes from: the old one, or new -/
def Orig (a : Option Addr) (N : Nat) (a1 : Option Addr) : Prop := ∀ q, a1 = some q → (∃ q', a = some q' ∧ q'.block = q.block) ∨ N ≤ q.block
theorem Orig.refl (a : Option Addr) (N : Nat) : Orig a N a := fun q e => .inl ⟨q, e, rfl⟩
theorem Orig.trans {a b d : Option Addr} {N M : Nat} (h : Orig a N b) (k : Orig b M d) (hn : N ≤ M) : Orig a N d := by
  intro q e
  rcases k q e with ⟨q', e', h1⟩ | h1
  · rcases h q' e' with ⟨q2, e2, h2⟩ | h2
    · exact .inl ⟨q2, e2, h2.trans h1⟩
    · exact .inr (by omega)
  · exact .inr (Nat.le_trans hn h1)
theorem Keep.trans {a a1 : Option Addr} {H H1 H2 : AHeap} (h : Keep a H H1) (o : Orig a H.next a1) (k : Keep a1 H1 H2) : Keep a H H2 := by
  refine ⟨Nat.le_trans h.next k.next, fun j hj hne => (k.old j (Nat.lt_of_lt_of_le hj h.next) fun q e e2 => ?_).trans (h.old j hj hne), fun f => k.fresh (h.fresh f)⟩
  rcases o q e with ⟨q', e', h1⟩ | h1
  · exact hne q' e' (h1.trans e2)
  · omega
theorem Keep.of_agree {a : Option Addr} {H H1 H2 : AHeap} (h : Agree H H1) (k : Keep a H1 H2) : Keep a H H2 :=
  ⟨Nat.le_trans h.next k.next, fun j hj hne => (k.old j (Nat.lt_of_lt_of_le hj h.next) hne).trans (h.old j hj), fun f => k.fresh (h.fresh f)⟩
theorem Keep.none {H H' : AHeap} (h : Keep none H H') : Agree H H' := ⟨h.next, fun j hj => h.old j hj (fun _ e => nomatch e), h.fresh⟩

theorem Own.ints {N : Nat} {H : AHeap} {a : Option Addr} {l c : Nat} {xs : List Int} (h : Own N 1 H a l c (Mx.ints xs)) : Ints H a l xs := by
  have := h.cells
  rwa [Nat.mul_one] at this
theorem Own.len {N : Nat} {H : AHeap} {a : Option Addr} {l c : Nat} {xs : List Int} (h : Own N 1 H a l c (Mx.ints xs)) : l = xs.length := h.ints.len

/-- write one element of a slice of ours -/
theorem own_set {N : Nat} {H : AHeap} {a : Option Addr} {l c : Nat} {cs : List Value} (h : Own N 1 H a l c cs) {t : Nat} (ht : t < l) (v : Value) :
    ∃ q H', a = some q ∧ H.wr q.block (q.off + t * 1) [v] = some H' ∧ Own N 1 H' a l c (cs.set t v) ∧ Keep a H H' ∧ H'.next = H.next := by
  rcases h.2.2 with ⟨e, e2⟩ | ⟨i, b, e, h0, h1, h2, h3, h4, h5⟩
  · have := h.2.1; omega
  · have hlen := h.1
    have hle := h.2.1
    obtain ⟨H', hw, w1, w2, w3⟩ := wr_at (o := 0 + t * 1) (vs := [v]) h1 h2 (by simp only [List.length_singleton]; omega)
    refine ⟨_, H', e, hw, ⟨by simpa using hlen, hle, .inr ⟨i, _, e, h0, w2, h2, h3, ?_, ?_⟩⟩, ⟨by rw [w1]; exact Nat.le_refl _, fun j hj hne => w3 j fun e1 => hne _ e e1.symm, fun f j hj => ?_⟩, w1⟩
    · show (splice b.cells (0 + t * 1) [v]).length = c * 1
      unfold splice
      simp only [List.length_append, List.length_take, List.length_drop, List.length_singleton]
      omega
    · show (splice b.cells (0 + t * 1) [v]).take (l * 1) = cs.set t v
      rw [← h5]
      unfold splice
      apply List.ext_getElem?
      intro j
      simp only [Nat.zero_add, Nat.mul_one, List.length_singleton]
      rw [List.getElem?_take, List.getElem?_set]
      by_cases hj : j < l
      · rw [if_pos hj]
        by_cases e1 : t = j
        · subst e1
          rw [if_pos rfl, if_pos (by rw [List.length_take]; omega)]
          rw [List.append_assoc, List.getElem?_append_right (by rw [List.length_take]; omega)]
          have : t - (List.take t b.cells).length = 0 := by rw [List.length_take]; omega
          rw [this]; rfl
        · rw [if_neg e1, List.getElem?_take, if_pos hj]
          by_cases h6 : j < t
          · rw [List.append_assoc, List.getElem?_append_left (by rw [List.length_take]; omega), List.getElem?_take, if_pos h6]
          · rw [List.getElem?_append_right (by rw [List.length_append, List.length_take, List.length_singleton]; omega), List.getElem?_drop, List.length_append, List.length_take, List.length_singleton]
            congr 1
            omega
      · rw [if_neg hj]
        by_cases e1 : t = j
        · omega
        · rw [if_neg e1, List.getElem?_take, if_neg hj]
    · rw [w1] at hj
      rw [w3 j (by have := h1.1; omega)]
      exact f j hj
/-- all blocks are still there -/
def Sub' (H H' : AHeap) : Prop := ∀ i b, At H i b → At H' i b
theorem Agree.sub {H H' : AHeap} (a : Agree H H') : Sub' H H' := fun _ _ h => h.agree a
theorem Sub'.trans {A B D : AHeap} (h : Sub' A B) (k : Sub' B D) : Sub' A D := fun i b x => k i b (h i b x)
theorem Cells.sub {H H' : AHeap} {a : Option Addr} {n : Nat} {cs : List Value} (h : Cells H a n cs) (k : Sub' H H') : Cells H' a n cs := by
  refine ⟨h.1, ?_⟩
  rcases h.2 with h | ⟨i, o, s, b, e, h1, h2, h3, h4⟩
  · exact .inl h
  · exact .inr ⟨i, o, s, b, e, k _ _ h1, h2, h3, h4⟩
theorem Ints.sub {H H' : AHeap} {a : Option Addr} {n : Nat} {xs : List Int} (h : Ints H a n xs) (k : Sub' H H') : Ints H' a n xs := Cells.sub h k
theorem Own.sub {N sz : Nat} {H H' : AHeap} {a : Option Addr} {l c : Nat} {cs : List Value} (h : Own N sz H a l c cs) (k : Sub' H H') : Own N sz H' a l c cs := by
  refine ⟨h.1, h.2.1, ?_⟩
  rcases h.2.2 with h | ⟨i, b, e, h0, h1, h2⟩
  · exact .inl h
  · exact .inr ⟨i, b, e, h0, k _ _ h1, h2⟩
theorem Own.wrote {N sz : Nat} {H H' : AHeap} {a : Option Addr} {l c i : Nat} {cs : List Value} {b' : Blk} (h : Own N sz H a l c cs) (w : Wrote H H' i b') (hi : i < N) : Own N sz H' a l c cs := by
  refine ⟨h.1, h.2.1, ?_⟩
  rcases h.2.2 with h | ⟨j, b, e, h0, h1, h2⟩
  · exact .inl h
  · exact .inr ⟨j, b, e, h0, h1.wrote w (by omega), h2⟩
theorem Cells.wrote {H H' : AHeap} {a : Option Addr} {n i : Nat} {cs : List Value} {b' : Blk} (h : Cells H a n cs) (w : Wrote H H' i b') (hi : ∀ q, a = some q → q.block ≠ i) : Cells H' a n cs := by
  refine ⟨h.1, ?_⟩
  rcases h.2 with h | ⟨j, o, s, b, e, h1, h2, h3, h4⟩
  · exact .inl h
  · exact .inr ⟨j, o, s, b, e, h1.wrote w (hi _ e), h2, h3, h4⟩
theorem Cells.below {H0 : AHeap} {a : Option Addr} {n : Nat} {cs : List Value} (h : Cells H0 a n cs) : ∀ q, a = some q → q.block < H0.next := by
  rcases h.2 with ⟨e, _⟩ | ⟨j, o, s, b, e, h1, _⟩
  · intro q hq; rw [e] at hq; cases hq
  · intro q hq; rw [e] at hq; cases hq; exact h1.1
theorem Keep.sub {a : Option Addr} {H H' : AHeap} (k : Keep a H H') {j : Nat} {b : Blk} (h : At H j b) (hne : ∀ q, a = some q → q.block ≠ j) : At H' j b := h.keep k hne
theorem Cells.keep {a a' : Option Addr} {H H' : AHeap} {n : Nat} {cs : List Value} (h : Cells H a n cs) (k : Keep a' H H') (hne : ∀ q q', a = some q → a' = some q' → q'.block ≠ q.block) : Cells H' a n cs := by
  refine ⟨h.1, ?_⟩
  rcases h.2 with h | ⟨j, o, s, b, e, h1, h2, h3, h4⟩
  · exact .inl h
  · exact .inr ⟨j, o, s, b, e, h1.keep k (fun q hq => hne _ q e hq), h2, h3, h4⟩

/-- a block laid at a place that a region kept -/
theorem ok_als {R : Type} {Q : R → Prop} {H0 H : AHeap} {s : Nat} {b : Blk} {K : Nat → AHeap → Option R} (A : Agree H0 H) (f : Free H s) (h : H0.next ≤ s)
    (k : ∀ H', H'.next = H.next → Agree H0 H' → At H' s b → Sub' H H' → (∀ i, Free H i → i ≠ s → Free H' i) → Ok (K s H') Q) : Ok (alK (some s) H b K) Q :=
  k _ rfl (A.slot h f.1) (at_slot f.1) (fun _ _ x => x.slot f) (fun _ x hne => x.slot hne)
theorem Free.ne {H : AHeap} {i s : Nat} {b : Blk} (f : Free H s) (h : At H i b) : i ≠ s := by
  intro e; subst e; have := h.2; rw [f.2] at this; cases this
theorem Wrote.fresh {H H' : AHeap} {i : Nat} {b' : Blk} (w : Wrote H H' i b') (f : ∀ j, H.next ≤ j → H.get j = none) : ∀ j, H'.next ≤ j → H'.get j = none := by
  intro j hj
  have := w.at'.1
  rw [w.old j (by omega)]
  exact f j (by rw [← w.next]; exact hj)
/-! the law's arguments -/
theorem argV_flat {P : Program} {H : AHeap} {n : Nat} {t : TypeId} {v : Value} (h : aggT P t = false) (k : ArgV P H n t v) : TyV P H n t [v] := by
  have k := k.out
  rw [h] at k
  exact k
theorem argV_agg {P : Program} {H : AHeap} {n : Nat} {t : TypeId} {v : Value} (h : aggT P t = true) (k : ArgV P H n t v) : ∃ cs : List Value, v = .agg cs.toArray ∧ TyV P H n t cs := by
  have k := k.out
  rw [h] at k
  exact k
theorem tyV_bool {P : Program} {H : AHeap} {n : Nat} {t : TypeId} {cs : List Value} (hu : P.underlying t = some .bool) (h : TyV P H (n + 1) t cs) : ∃ b, cs = [.bool b] := by
  unfold TyV at h
  simp only [hu] at h
  exact h
theorem tyV_int {P : Program} {H : AHeap} {n : Nat} {t : TypeId} {k : IntKind} {cs : List Value} (hu : P.underlying t = some (.int k)) (h : TyV P H (n + 1) t cs) : ∃ m, cs = [.int k m] ∧ (Lit.int k m).wf = true := by
  unfold TyV at h
  simp only [hu] at h
  exact h
theorem tyV_slice {P : Program} {H : AHeap} {n : Nat} {t e : TypeId} {sz : Nat} {cs : List Value} (hu : P.underlying t = some (.slice e)) (hs : P.cellsOf e = sz) (hF : ∀ i, H.next ≤ i → H.get i = none) (h : TyV P H (n + 1) t cs) :
    ∃ a len c es, cs = [.slice a len c] ∧ Cells H a (len * sz) es ∧ TyRep (TyV P H n e) len es := by
  unfold TyV at h
  simp only [hu, hs] at h
  rcases h with h | ⟨i, len, b, h1, h2, h3, h4, h5, h6⟩
  · exact ⟨none, 0, 0, [], h, by rw [Nat.zero_mul]; exact Cells.nil H, rfl⟩
  · refine ⟨_, len, len, b.cells, h1, ⟨h5, .inr ⟨i, 0, none, b, rfl, ⟨?_, h3⟩, by rw [h4]; simp, by omega, ?_⟩⟩, h6⟩
    · rcases Nat.lt_or_ge i H.next with h | h
      · exact h
      · rw [hF i h] at h3; cases h3
    · rw [List.drop_zero, List.take_of_length_le (by omega)]
theorem tyV_struct {P : Program} {H : AHeap} {n : Nat} {t : TypeId} {fs : Array Field} {cs : List Value} (hu : P.underlying t = some (.struct fs)) (h : TyV P H (n + 1) t cs) : TyFields (fun t cs => TyV P H n t cs) fs.toList cs := by
  unfold TyV at h
  simp only [hu] at h
  exact h
theorem tyV_array {P : Program} {H : AHeap} {n m : Nat} {t e : TypeId} {cs : List Value} (hu : P.underlying t = some (.array m e)) (h : TyV P H (n + 1) t cs) : TyRep (TyV P H n e) m cs := by
  unfold TyV at h
  simp only [hu] at h
  exact h
theorem argsV_cons {P : Program} {H : AHeap} {n : Nat} {t : TypeId} {ts : List TypeId} {vs : List Value} (h : ArgsV P H n (t :: ts) vs) : ∃ v vs', vs = v :: vs' ∧ ArgV P H n t v ∧ ArgsV P H n ts vs' := by
  cases h with
  | cons h1 h2 => exact ⟨_, _, rfl, h1, h2⟩
theorem argsV_nil {P : Program} {H : AHeap} {n : Nat} {vs : List Value} (h : ArgsV P H n [] vs) : vs = [] := by
  cases h; rfl
theorem tyRep_each {p : List Value → Prop} {q : Value → Prop} (h : ∀ cs, p cs → ∃ v, cs = [v] ∧ q v) : ∀ {m : Nat} {cs : List Value}, TyRep p m cs → ∀ j, j < m → ∃ v, cs[j]? = some v ∧ q v := by
  intro m
  induction m with
  | zero => intro cs _ j hj; omega
  | succ m ih =>
    intro cs hr j hj
    obtain ⟨a, b, rfl, ha, hb⟩ := hr
    obtain ⟨v, rfl, hq⟩ := h _ ha
    cases j with
    | zero => exact ⟨v, rfl, hq⟩
    | succ j => simpa using ih hb j (by omega)
theorem arg_slice {P : Program} {H : AHeap} {n : Nat} {t e : TypeId} {sz : Nat} {v : Value} (ha : aggT P t = false) (hu : P.underlying t = some (.slice e)) (hs : P.cellsOf e = sz) (hF : ∀ i, H.next ≤ i → H.get i = none) (h : ArgV P H (n + 1) t v) :
    ∃ a len c es, v = .slice a len c ∧ Cells H a (len * sz) es ∧ TyRep (TyV P H n e) len es := by
  obtain ⟨a, len, c, es, e0, h1, h2⟩ := tyV_slice hu hs hF (argV_flat ha h)
  cases e0
  exact ⟨a, len, c, es, rfl, h1, h2⟩
theorem arg_int {P : Program} {H : AHeap} {n : Nat} {t : TypeId} {k : IntKind} {v : Value} (ha : aggT P t = false) (hu : P.underlying t = some (.int k)) (h : ArgV P H (n + 1) t v) : ∃ m, v = .int k m ∧ (Lit.int k m).wf = true := by
  obtain ⟨m, e0, h1⟩ := tyV_int hu (argV_flat ha h)
  cases e0
  exact ⟨m, rfl, h1⟩
theorem arg_bool {P : Program} {H : AHeap} {n : Nat} {t : TypeId} {v : Value} (ha : aggT P t = false) (hu : P.underlying t = some .bool) (h : ArgV P H (n + 1) t v) : ∃ m, v = .bool m := by
  obtain ⟨m, e0⟩ := tyV_bool hu (argV_flat ha h)
  cases e0
  exact ⟨m, rfl⟩
theorem rep_bool {P : Program} {H : AHeap} {n m : Nat} {t : TypeId} {cs : List Value} (hu : P.underlying t = some .bool) (h : TyRep (TyV P H (n + 1) t) m cs) : ∀ j, j < m → ∃ b, cs[j]? = some (.bool b) := by
  intro j hj
  obtain ⟨v, hv, b, rfl⟩ := tyRep_each (q := fun v => ∃ b, v = .bool b) (fun cs h => by
    obtain ⟨b, rfl⟩ := tyV_bool hu h
    exact ⟨_, rfl, b, rfl⟩) h j hj
  exact ⟨b, hv⟩
end Go.Mx
