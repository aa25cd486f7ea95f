/- The relation between the abstract heap and the model's world. -/
import Derived.Test.YtcegcnopakfloaaXM1
namespace Go.Mx
open Go Go.RowKit

inductive All2 {α β : Type} (R : α → β → Prop) : List α → List β → Prop where
  | nil : All2 R [] []
  | cons {x y l l'} : R x y → All2 R l l' → All2 R (x :: l) (y :: l')

section
variable {α β : Type} {R S : α → β → Prop}
theorem All2.length {l : List α} {l' : List β} (h : All2 R l l') : l.length = l'.length := by
  induction h with
  | nil => rfl
  | cons _ _ ih => simp [ih]
theorem All2.mono {l : List α} {l' : List β} (h : All2 R l l') (k : ∀ x y, R x y → S x y) : All2 S l l' := by
  induction h with
  | nil => exact .nil
  | cons h1 _ ih => exact .cons (k _ _ h1) ih
theorem All2.append {a c : List α} {b d : List β} (h : All2 R a b) (k : All2 R c d) : All2 R (a ++ c) (b ++ d) := by
  induction h with
  | nil => exact k
  | cons h1 _ ih => exact .cons h1 ih
theorem All2.get {l : List α} {l' : List β} (h : All2 R l l') : ∀ (i : Nat) (x : α), l[i]? = some x → ∃ y, l'[i]? = some y ∧ R x y := by
  induction h with
  | nil => intro i x h; simp at h
  | cons h1 _ ih =>
    intro i x hx
    cases i with
    | zero => simp at hx; subst hx; exact ⟨_, by simp, h1⟩
    | succ i => simp at hx; simpa using ih i x hx
theorem All2.of_get {l : List α} : ∀ {l' : List β}, l.length = l'.length → (∀ (i : Nat) (x : α) (y : β), l[i]? = some x → l'[i]? = some y → R x y) → All2 R l l' := by
  induction l with
  | nil => intro l' hl _; cases l' with
    | nil => exact .nil
    | cons _ _ => simp at hl
  | cons a l ih =>
    intro l' hl h
    cases l' with
    | nil => simp at hl
    | cons b l' =>
      exact .cons (h 0 a b (by simp) (by simp)) (ih (by simpa using hl) fun i x y hx hy => h (i + 1) x y (by simpa using hx) (by simpa using hy))
theorem All2.take {l : List α} {l' : List β} (h : All2 R l l') : ∀ n, All2 R (l.take n) (l'.take n) := by
  induction h with
  | nil => intro n; simp; exact .nil
  | cons h1 _ ih => intro n; cases n with
    | zero => exact .nil
    | succ n => exact .cons h1 (ih n)
theorem All2.drop {l : List α} {l' : List β} (h : All2 R l l') : ∀ n, All2 R (l.drop n) (l'.drop n) := by
  induction h with
  | nil => intro n; simp; exact .nil
  | cons h1 h2 ih => intro n; cases n with
    | zero => exact .cons h1 h2
    | succ n => exact ih n
theorem All2.set {l : List α} {l' : List β} (h : All2 R l l') {x : α} {y : β} (hr : R x y) : ∀ n, All2 R (l.set n x) (l'.set n y) := by
  induction h with
  | nil => intro n; simp; exact .nil
  | cons h1 h2 ih => intro n; cases n with
    | zero => exact .cons hr h2
    | succ n => exact .cons h1 (ih n)
theorem All2.getD {l : List α} {l' : List β} (h : All2 R l l') {x : α} {y : β} (hr : R x y) (n : Nat) : R (l.getD n x) (l'.getD n y) := by
  cases hn : l[n]? with
  | some v =>
    obtain ⟨v', hv', hR⟩ := h.get n v hn
    simpa [List.getD, hn, hv'] using hR
  | none =>
    have : l'[n]? = none := by
      rw [List.getElem?_eq_none_iff] at hn ⊢
      rw [← h.length]; exact hn
    simpa [List.getD, hn, this] using hr
theorem All2.replicate {x : α} {y : β} (hr : R x y) : ∀ n, All2 R (List.replicate n x) (List.replicate n y)
  | 0 => .nil
  | n + 1 => by simp only [List.replicate_succ]; exact .cons hr (All2.replicate hr n)
end

abbrev Ren := Nat → Option (Addr × Nat)

def BRel (ρ : Ren) : Value → Value → Prop
  | .bool b, v' => v' = .bool b
  | .int k n, v' => v' = .int k n
  | .string s, v' => v' = .string s
  | .nilFunc, v' => v' = .nilFunc
  | .nilIface, v' => v' = .nilIface
  | .map none, v' => v' = .map none
  | .pointer none, v' => v' = .pointer none
  | .pointer (some a), v' => a.spot = none ∧ ∃ ad sl, ρ a.block = some (ad, sl) ∧ v' = .pointer (some (ad.add a.off))
  | .slice none l c, v' => l = 0 ∧ c = 0 ∧ v' = .slice none 0 0
  | .slice (some a) l c, v' => l ≤ c ∧ ((c = 0 ∧ ∃ a', v' = .slice (some a') 0 0) ∨
      ∃ ad sl, ρ a.block = some (ad, sl) ∧ v' = .slice (some (ad.add a.off)) l (c + if a.spot.isSome then 0 else sl))
  | _, _ => False

def SRel (ρ : Ren) (v v' : Value) : Prop :=
  BRel ρ v v' ∨ ∃ f cs cs', v = .func (.func f) #[] cs ∧ v' = .func (.func f) #[] cs' ∧ All2 (BRel ρ) cs.toList cs'.toList

def VR1 (ρ : Ren) (v v' : Value) : Prop :=
  SRel ρ v v' ∨ ∃ cs cs' : Array Value, v = .agg cs ∧ v' = .agg cs' ∧ All2 (SRel ρ) cs.toList cs'.toList

def VRel (ρ : Ren) (v v' : Value) : Prop :=
  VR1 ρ v v' ∨ ∃ cs cs' : Array Value, v = .tuple cs ∧ v' = .tuple cs' ∧ All2 (VR1 ρ) cs.toList cs'.toList

def Ren.le (ρ ρ' : Ren) : Prop := ∀ i x, ρ i = some x → ρ' i = some x
theorem Ren.le_refl (ρ : Ren) : ρ.le ρ := fun _ _ h => h
theorem Ren.le_trans {a b c : Ren} (h : a.le b) (k : b.le c) : a.le c := fun i x hx => k i x (h i x hx)

theorem BRel.mono {ρ ρ' : Ren} (hle : ρ.le ρ') : ∀ {v v' : Value}, BRel ρ v v' → BRel ρ' v v' := by
  intro v v' h
  cases v with
  | pointer a => cases a with
    | none => exact h
    | some a => obtain ⟨hs, ad, sl, hr, hv⟩ := h; exact ⟨hs, ad, sl, hle _ _ hr, hv⟩
  | slice a l c => cases a with
    | none => exact h
    | some a =>
      obtain ⟨hlc, h⟩ := h
      refine ⟨hlc, ?_⟩
      rcases h with h | ⟨ad, sl, hr, hv⟩
      · exact .inl h
      · exact .inr ⟨ad, sl, hle _ _ hr, hv⟩
  | map r => cases r with
    | none => exact h
    | some _ => exact h.elim
  | _ => exact h

theorem SRel.mono {ρ ρ' : Ren} (hle : ρ.le ρ') {v v' : Value} (h : SRel ρ v v') : SRel ρ' v v' := by
  rcases h with h | ⟨f, cs, cs', h1, h2, h3⟩
  · exact .inl (h.mono hle)
  · exact .inr ⟨f, cs, cs', h1, h2, h3.mono fun _ _ => BRel.mono hle⟩

theorem VR1.mono {ρ ρ' : Ren} (hle : ρ.le ρ') {v v' : Value} (h : VR1 ρ v v') : VR1 ρ' v v' := by
  rcases h with h | ⟨cs, cs', h1, h2, h3⟩
  · exact .inl (h.mono hle)
  · exact .inr ⟨cs, cs', h1, h2, h3.mono fun _ _ => SRel.mono hle⟩

theorem VRel.mono {ρ ρ' : Ren} (hle : ρ.le ρ') {v v' : Value} (h : VRel ρ v v') : VRel ρ' v v' := by
  rcases h with h | ⟨cs, cs', h1, h2, h3⟩
  · exact .inl (h.mono hle)
  · exact .inr ⟨cs, cs', h1, h2, h3.mono fun _ _ => VR1.mono hle⟩

theorem BRel.v {ρ : Ren} {v v' : Value} (h : BRel ρ v v') : VRel ρ v v' := .inl (.inl (.inl h))
theorem SRel.v {ρ : Ren} {v v' : Value} (h : SRel ρ v v') : VRel ρ v v' := .inl (.inl h)
theorem VR1.v {ρ : Ren} {v v' : Value} (h : VR1 ρ v v') : VRel ρ v v' := .inl h
theorem VRel.undef (ρ : Ren) : VRel ρ undef undef := .inr ⟨#[], #[], rfl, rfl, .nil⟩

theorem closedV_rel (ρ : Ren) : ∀ {v : Value}, closedV v = true → BRel ρ v v := by
  intro v h
  cases v with
  | pointer a => cases a with
    | none => rfl
    | some _ => simp [closedV] at h
  | slice a l c => cases a with
    | none => simp [closedV] at h; obtain ⟨rfl, rfl⟩ := h; exact ⟨rfl, rfl, rfl⟩
    | some _ => simp [closedV] at h
  | map r => cases r with
    | none => rfl
    | some _ => simp [closedV] at h
  | bool _ => rfl
  | int _ _ => rfl
  | string _ => rfl
  | nilFunc => rfl
  | nilIface => rfl
  | _ => simp [closedV] at h

/-! what the related value looks like -/
section inv
variable {ρ : Ren} {v' : Value}
theorem VRel.int {k : IntKind} {n : Int} (h : VRel ρ (.int k n) v') : v' = .int k n := by
  rcases h with ((h | ⟨_, _, _, h, _⟩) | ⟨_, _, h, _⟩) | ⟨_, _, h, _⟩
  · exact h
  all_goals cases h
theorem VRel.bool {b : Bool} (h : VRel ρ (.bool b) v') : v' = .bool b := by
  rcases h with ((h | ⟨_, _, _, h, _⟩) | ⟨_, _, h, _⟩) | ⟨_, _, h, _⟩
  · exact h
  all_goals cases h
theorem VRel.string {s : ByteArray} (h : VRel ρ (.string s) v') : v' = .string s := by
  rcases h with ((h | ⟨_, _, _, h, _⟩) | ⟨_, _, h, _⟩) | ⟨_, _, h, _⟩
  · exact h
  all_goals cases h
theorem VRel.nilFunc (h : VRel ρ .nilFunc v') : v' = .nilFunc := by
  rcases h with ((h | ⟨_, _, _, h, _⟩) | ⟨_, _, h, _⟩) | ⟨_, _, h, _⟩
  · exact h
  all_goals cases h
theorem VRel.ptr {p : Option Addr} (h : VRel ρ (.pointer p) v') : BRel ρ (.pointer p) v' := by
  rcases h with ((h | ⟨_, _, _, h, _⟩) | ⟨_, _, h, _⟩) | ⟨_, _, h, _⟩
  · exact h
  all_goals cases h
theorem VRel.slice {a : Option Addr} {l c : Nat} (h : VRel ρ (.slice a l c) v') : BRel ρ (.slice a l c) v' := by
  rcases h with ((h | ⟨_, _, _, h, _⟩) | ⟨_, _, h, _⟩) | ⟨_, _, h, _⟩
  · exact h
  all_goals cases h
theorem VRel.agg {cs : Array Value} (h : VRel ρ (.agg cs) v') : ∃ cs', v' = .agg cs' ∧ All2 (SRel ρ) cs.toList cs'.toList := by
  rcases h with ((h | ⟨_, _, _, h, _⟩) | ⟨_, _, h, h2, h3⟩) | ⟨_, _, h, _⟩
  · exact h.elim
  · cases h
  · cases h; exact ⟨_, h2, h3⟩
  · cases h
theorem VRel.tuple {cs : Array Value} (h : VRel ρ (.tuple cs) v') : ∃ cs', v' = .tuple cs' ∧ All2 (VR1 ρ) cs.toList cs'.toList := by
  rcases h with ((h | ⟨_, _, _, h, _⟩) | ⟨_, _, h, h2, h3⟩) | ⟨_, _, h, h2, h3⟩
  · exact h.elim
  · cases h
  · cases h
  · cases h; exact ⟨_, h2, h3⟩
theorem VRel.fn {f : FuncId} {first cs : Array Value} (h : VRel ρ (.func (.func f) first cs) v') :
    first = #[] ∧ ∃ cs', v' = .func (.func f) #[] cs' ∧ All2 (BRel ρ) cs.toList cs'.toList := by
  rcases h with ((h | ⟨_, _, _, h, h2, h3⟩) | ⟨_, _, h, _⟩) | ⟨_, _, h, _⟩
  · exact h.elim
  · cases h; exact ⟨rfl, _, h2, h3⟩
  · cases h
  · cases h
/-- the cells of related values -/
theorem VRel.cells {v : Value} (h : VRel ρ v v') (hnt : ∀ a, v ≠ .tuple a) : All2 (SRel ρ) v.cells.toList v'.cells.toList := by
  rcases h with (h | ⟨cs, cs', rfl, rfl, h⟩) | ⟨_, _, rfl, _⟩
  · have e1 : v.cells = #[v] := by
      rcases h with h | ⟨_, _, _, rfl, _⟩
      · cases v <;> first | rfl | exact h.elim
      · rfl
    have e2 : v'.cells = #[v'] := by
      rcases h with h | ⟨_, _, _, _, rfl, _⟩
      · cases v with
        | pointer a => cases a with
          | none => rw [show v' = _ from h]; rfl
          | some a => obtain ⟨_, _, _, _, rfl⟩ := h; rfl
        | slice a l c => cases a with
          | none => obtain ⟨_, _, rfl⟩ := h; rfl
          | some a => obtain ⟨_, ⟨_, _, rfl⟩ | ⟨_, _, _, rfl⟩⟩ := h <;> rfl
        | map r => cases r with
          | none => rw [show v' = _ from h]; rfl
          | some _ => exact h.elim
        | bool _ => rw [show v' = _ from h]; rfl
        | int _ _ => rw [show v' = _ from h]; rfl
        | string _ => rw [show v' = _ from h]; rfl
        | nilFunc => rw [show v' = _ from h]; rfl
        | nilIface => rw [show v' = _ from h]; rfl
        | _ => exact h.elim
      · rfl
    rw [e1, e2]
    exact .cons h .nil
  · exact h
  · exact absurd rfl (hnt _)
/-- a cell's value is no struct -/
theorem SRel.one {v : Value} (h : SRel ρ v v') : v'.oneCell' = true := by
  rcases h with h | ⟨_, _, _, _, rfl, _⟩
  · cases v with
    | pointer a => cases a with
      | none => rw [show v' = _ from h]; rfl
      | some a => obtain ⟨_, _, _, _, rfl⟩ := h; rfl
    | slice a l c => cases a with
      | none => obtain ⟨_, _, rfl⟩ := h; rfl
      | some a => obtain ⟨_, ⟨_, _, rfl⟩ | ⟨_, _, _, rfl⟩⟩ := h <;> rfl
    | map r => cases r with
      | none => rw [show v' = _ from h]; rfl
      | some _ => exact h.elim
    | bool _ => rw [show v' = _ from h]; rfl
    | int _ _ => rw [show v' = _ from h]; rfl
    | string _ => rw [show v' = _ from h]; rfl
    | nilFunc => rw [show v' = _ from h]; rfl
    | nilIface => rw [show v' = _ from h]; rfl
    | _ => exact h.elim
  · rfl
end inv

/-! the heap -/
def BlkRel (ρ : Ren) (w : World) (B : Nat) (b : Blk) (ad : Addr) (sl : Nat) : Prop :=
  match b.mode with
  | .dead => True
  | .ro => (b.cells ≠ [] → ad.block < B) ∧ ∀ m v, b.cells[m]? = some v → ∃ v', w.cell? (ad.add m) = some v' ∧ SRel ρ v v'
  | .rw => ad.spot = none ∧ B ≤ ad.block ∧ ∃ cs' e, w.heap[ad.block]? = some (.cells cs' e (0, 0)) ∧
      cs'.size = ad.off + b.cells.length + sl * b.esz ∧ All2 (SRel ρ) b.cells ((cs'.toList.drop ad.off).take b.cells.length)

structure Rel (w0 : World) (ρ : Ren) (H : AHeap) (w : World) : Prop where
  below : Below w0.heap.size w0 w
  dom : ∀ i, H.get i = none ↔ ρ i = none
  blk : ∀ i b, H.get i = some b → ∃ ad sl, ρ i = some (ad, sl) ∧ BlkRel ρ w w0.heap.size b ad sl
  inj : ∀ i j b b' ad sl ad' sl', H.get i = some b → b.mode = .rw → H.get j = some b' → b'.mode = .rw → i ≠ j →
    ρ i = some (ad, sl) → ρ j = some (ad', sl') → ad.block ≠ ad'.block
  fresh : ∀ i, H.next ≤ i → H.get i = none

abbrev TRel (ρ : Ren) (t : List Value) (a : Act) : Prop := All2 (VRel ρ) t a.tmps.toList ∧ a.defers = []

theorem BlkRel.mono {ρ ρ' : Ren} (hle : ρ.le ρ') {w : World} {B : Nat} {b : Blk} {ad : Addr} {sl : Nat} (h : BlkRel ρ w B b ad sl) : BlkRel ρ' w B b ad sl := by
  unfold BlkRel at *
  split
  · trivial
  · rename_i hm; rw [hm] at h
    exact ⟨h.1, fun m v hv => let ⟨v', h1, h2⟩ := h.2 m v hv; ⟨v', h1, h2.mono hle⟩⟩
  · rename_i hm; rw [hm] at h
    obtain ⟨h1, h2, cs', e, h3, h4, h5⟩ := h
    exact ⟨h1, h2, cs', e, h3, h4, h5.mono fun _ _ => SRel.mono hle⟩

theorem Rel.drew {w0 : World} {ρ : Ren} {H : AHeap} {w : World} (h : Rel w0 ρ H w) : Rel w0 ρ H { w with drawn := w.drawn + 1 } :=
  ⟨⟨h.below.os, h.below.tape, h.below.output, h.below.size, h.below.block⟩, h.dom, h.blk, h.inj, h.fresh⟩
theorem Rel.bump {w0 : World} {ρ : Ren} {H : AHeap} {w : World} (h : Rel w0 ρ H w) (n : Nat) : Rel w0 ρ (H.bump n) w :=
  ⟨h.below, h.dom, h.blk, h.inj, fun i hi => h.fresh i (by simp only [AHeap.bump] at hi; omega)⟩

theorem Addr.add_add (a : Addr) (m n : Nat) : (a.add m).add n = a.add (m + n) := by
  unfold Addr.add
  split
  · rename_i h; subst h; simp
  · split
    · rename_i h2; subst h2; simp [*]
    · rw [if_neg (by omega)]; simp [Nat.add_assoc]
theorem Addr.add_block (a : Addr) (m : Nat) : (a.add m).block = a.block := by unfold Addr.add; split <;> rfl

/-- a cell of the abstract heap is a cell of the world -/
theorem Rel.cell {w0 : World} {ρ : Ren} {H : AHeap} {w : World} (h : Rel w0 ρ H w) {i o : Nat} {v : Value} (hc : H.cell i o = some v)
    {ad : Addr} {sl : Nat} (hr : ρ i = some (ad, sl)) : ∃ v', w.cell? (ad.add o) = some v' ∧ SRel ρ v v' := by
  unfold AHeap.cell at hc
  cases hg : H.get i with
  | none => simp [hg] at hc
  | some b =>
    simp only [hg] at hc
    obtain ⟨ad', sl', hr', hb⟩ := h.blk i b hg
    rw [hr] at hr'
    obtain ⟨rfl, rfl⟩ : ad = ad' ∧ sl = sl' := by simpa using hr'
    by_cases hd : b.mode = .dead
    · simp [hd] at hc
    · rw [if_neg hd] at hc
      unfold BlkRel at hb
      split at hb
      · rename_i hm; exact absurd hm hd
      · exact hb.2 o v hc
      · obtain ⟨hs, _, cs', e, hh, hz, ha⟩ := hb
        obtain ⟨v', hv', hR⟩ := ha.get o v hc
        refine ⟨v', ?_, hR⟩
        have hlt : o < b.cells.length := by
          rcases Nat.lt_or_ge o b.cells.length with h | h
          · exact h
          · rw [List.getElem?_eq_none h] at hc; cases hc
        rw [List.getElem?_take, if_pos hlt, List.getElem?_drop] at hv'
        obtain ⟨blk, off, spot⟩ := ad
        simp only at hs; subst hs
        rw [Addr.add_lit]
        simp only [World.cell?, hh]
        simpa using hv'

theorem Rel.row {w0 : World} {ρ : Ren} {H : AHeap} {w : World} (h : Rel w0 ρ H w) {i o n : Nat} {l : List Value} (hc : H.row i o n = some l)
    {ad : Addr} {sl : Nat} (hr : ρ i = some (ad, sl)) :
    ∃ l', All2 (SRel ρ) l l' ∧ l.length = n ∧ ∀ j v, l'[j]? = some v → w.cell? ((ad.add o).add j) = some v := by
  unfold AHeap.row at hc
  cases hg : H.get i with
  | none => simp [hg] at hc
  | some b =>
    simp only [hg] at hc
    split at hc
    · rename_i hcond
      obtain ⟨hd, hle⟩ := hcond
      have hl : l = (b.cells.drop o).take n := by simpa using hc.symm
      have hlen : l.length = n := by rw [hl]; simp; omega
      have key : ∀ m, m < n → ∃ v', w.cell? (ad.add (o + m)) = some v' ∧ ∃ v, l[m]? = some v ∧ SRel ρ v v' := by
        intro m hm
        have hlt : o + m < b.cells.length := by omega
        have hcell : H.cell i (o + m) = some b.cells[o + m] := by
          simp [AHeap.cell, hg, hd, List.getElem?_eq_getElem hlt]
        obtain ⟨v', h1, h2⟩ := h.cell hcell hr
        refine ⟨v', h1, b.cells[o + m], ?_, h2⟩
        rw [hl, List.getElem?_take, if_pos hm, List.getElem?_drop, List.getElem?_eq_getElem hlt]
      refine ⟨(List.range n).map fun m => (w.cell? (ad.add (o + m))).getD undef, ?_, hlen, ?_⟩
      · apply All2.of_get
        · simp [hlen]
        · intro m x y hx hy
          have hm : m < n := by
            rcases Nat.lt_or_ge m n with h | h
            · exact h
            · rw [List.getElem?_eq_none (by omega)] at hx; cases hx
          obtain ⟨v', h1, v, h2, h3⟩ := key m hm
          rw [hx] at h2; cases h2
          simp [hm, h1] at hy
          subst hy
          exact h3
      · intro m v hv
        have hm : m < n := by
          rcases Nat.lt_or_ge m n with h | h
          · exact h
          · rw [List.getElem?_eq_none (by simp; omega)] at hv; cases hv
        obtain ⟨v', h1, _⟩ := key m hm
        simp [hm, h1] at hv
        subst hv
        rw [Addr.add_add]
        exact h1
    · cases hc

/-- a new block -/
def Ren.ext (ρ : Ren) (i : Nat) (x : Addr × Nat) : Ren := fun j => if j = i then some x else ρ j
theorem Ren.ext_le {ρ : Ren} {i : Nat} (h : ρ i = none) (x : Addr × Nat) : ρ.le (ρ.ext i x) := by
  intro j y hy
  unfold Ren.ext
  split
  · rename_i e; subst e; rw [h] at hy; cases hy
  · exact hy
theorem Ren.ext_self (ρ : Ren) (i : Nat) (x : Addr × Nat) : ρ.ext i x i = some x := by simp [Ren.ext]

theorem AHeap.get_alloc (H : AHeap) (slot : Option Nat) (b : Blk) (j : Nat) : (H.alloc slot b).get j = if j = H.newId slot then some b else H.get j := by
  cases slot <;> rfl
theorem AHeap.next_alloc (H : AHeap) (slot : Option Nat) (b : Blk) : (H.alloc slot b).next = if slot.isNone then H.next + 1 else H.next := by
  cases slot <;> rfl

theorem BlkRel.below {ρ : Ren} {w w' : World} {B : Nat} {b : Blk} {ad : Addr} {sl : Nat} (h : BlkRel ρ w B b ad sl)
    (hb : ∀ k, k < B → w'.heap[k]? = w.heap[k]?) (hk : b.mode = .rw → w'.heap[ad.block]? = w.heap[ad.block]?) : BlkRel ρ w' B b ad sl := by
  unfold BlkRel at *
  split
  · trivial
  · rename_i hm; rw [hm] at h
    refine ⟨h.1, fun m v hv => ?_⟩
    obtain ⟨v', h1, h2⟩ := h.2 m v hv
    refine ⟨v', ?_, h2⟩
    have hlt : ad.block < B := h.1 (by intro e; rw [e] at hv; simp at hv)
    rw [World.cell?_of_block (w := w) (by rw [Addr.add_block]; exact hb _ hlt)]
    exact h1
  · rename_i hm; rw [hm] at h
    obtain ⟨h1, h2, cs', e, h3, h4, h5⟩ := h
    exact ⟨h1, h2, cs', e, by rw [hk hm]; exact h3, h4, h5⟩

theorem Rel.rho_some {w0 : World} {ρ : Ren} {H : AHeap} {w : World} (h : Rel w0 ρ H w) {i : Nat} {b : Blk} (hb : H.get i = some b) : ∃ x, ρ i = some x := by
  obtain ⟨ad, sl, hr, _⟩ := h.blk i b hb
  exact ⟨_, hr⟩

theorem Rel.alloc {w0 : World} {ρ : Ren} {H : AHeap} {w : World} (h : Rel w0 ρ H w) (slot : Option Nat) (hf : H.get (H.newId slot) = none)
    (hs : ∀ i, slot = some i → i < H.next) (b : Blk) (hbm : b.mode = .rw) (cs' : Array Value) (e : TypeId) (sl : Nat)
    (hz : cs'.size = b.cells.length + sl * b.esz) (ha : All2 (SRel ρ) b.cells (cs'.toList.take b.cells.length)) :
    Rel w0 (ρ.ext (H.newId slot) (⟨w.heap.size, 0, none⟩, sl)) (H.alloc slot b) (w.alloc (.cells cs' e)) ∧ ρ.le (ρ.ext (H.newId slot) (⟨w.heap.size, 0, none⟩, sl)) := by
  have hρ : ρ (H.newId slot) = none := (h.dom _).1 hf
  have hle := Ren.ext_le hρ (⟨w.heap.size, 0, none⟩, sl)
  refine ⟨⟨h.below.alloc h.below.size _, ?_, ?_, ?_, ?_⟩, hle⟩
  · intro i
    rw [AHeap.get_alloc]
    unfold Ren.ext
    split
    · simp
    · exact h.dom i
  · intro i b' hb'
    rw [AHeap.get_alloc] at hb'
    split at hb'
    · rename_i e1; subst e1
      obtain rfl : b = b' := by simpa using hb'
      refine ⟨_, _, Ren.ext_self _ _ _, ?_⟩
      unfold BlkRel
      rw [hbm]
      refine ⟨rfl, h.below.size, cs', e, heap_alloc_new w _, by simpa using hz, ?_⟩
      simpa using ha.mono fun _ _ => SRel.mono hle
    · rename_i e1
      obtain ⟨ad, sl', hr, hb⟩ := h.blk i b' hb'
      refine ⟨ad, sl', hle _ _ hr, (hb.mono hle).below (fun k hk => heap_alloc_old w _ k (Nat.lt_of_lt_of_le hk h.below.size)) ?_⟩
      intro hm
      unfold BlkRel at hb
      rw [hm] at hb
      obtain ⟨_, _, cs2, e2, h3, _⟩ := hb
      exact heap_alloc_old w _ _ (Array.getElem?_eq_some_iff.1 h3).1
  · intro i j b1 b2 ad1 sl1 ad2 sl2 h1 m1 h2 m2 hne r1 r2
    have old : ∀ (i : Nat) (b1 : Blk) (ad1 : Addr) (sl1 : Nat), H.get i = some b1 → b1.mode = .rw → ρ i = some (ad1, sl1) → ad1.block < w.heap.size := by
      intro i b1 ad1 sl1 h1 m1 r1
      obtain ⟨ad, sl', hr, hb⟩ := h.blk i b1 h1
      rw [r1] at hr; cases hr
      unfold BlkRel at hb
      rw [m1] at hb
      obtain ⟨_, _, cs2, e2, h3, _⟩ := hb
      exact (Array.getElem?_eq_some_iff.1 h3).1
    rw [AHeap.get_alloc] at h1 h2
    unfold Ren.ext at r1 r2
    split at h1
    · rename_i e1; subst e1
      rw [if_neg (fun e => hne e.symm)] at h2 r2
      simp at r1
      obtain ⟨rfl, rfl⟩ := r1
      have := old j b2 ad2 sl2 h2 m2 r2
      simp only; omega
    · rename_i e1
      rw [if_neg e1] at r1
      split at h2
      · rename_i e2; subst e2
        simp at r2
        obtain ⟨rfl, rfl⟩ := r2
        have := old i b1 ad1 sl1 h1 m1 r1
        simp only; omega
      · rename_i e2
        rw [if_neg e2] at r2
        exact h.inj i j b1 b2 ad1 sl1 ad2 sl2 h1 m1 h2 m2 hne r1 r2
  · intro i hi
    rw [AHeap.get_alloc]
    cases slot with
    | none =>
      have hi' : H.next + 1 ≤ i := hi
      exact (if_neg (show ¬ i = H.newId none from fun e => by have e' : i = H.next := e; omega)).trans (h.fresh i (by omega))
    | some j =>
      have hj := hs j rfl
      have hi' : H.next ≤ i := hi
      exact (if_neg (show ¬ i = H.newId (some j) from fun e => by have e' : i = j := e; omega)).trans (h.fresh i hi')

theorem splice_length {l : List Value} {o : Nat} {vs : List Value} (h : o + vs.length ≤ l.length) : (splice l o vs).length = l.length := by
  simp [splice]; omega

theorem All2.splice {R : Value → Value → Prop} {l l' vs vs' : List Value} (h : All2 R l l') (k : All2 R vs vs') (o : Nat) : All2 R (splice l o vs) (splice l' o vs') := by
  unfold Mx.splice
  rw [← k.length]
  exact ((h.take o).append k).append (h.drop _)

/-- cells written -/
theorem Rel.wr {w0 : World} {ρ : Ren} {H H' : AHeap} {w : World} (h : Rel w0 ρ H w) {i o : Nat} {vs vs' : List Value} (hw : H.wr i o vs = some H')
    (hv : All2 (SRel ρ) vs vs') {ad : Addr} {sl : Nat} (hr : ρ i = some (ad, sl)) (P : Program) :
    ∃ w', (storeCells (ad.add o) vs').run P w = .ok () w' ∧ Rel w0 ρ H' w' := by
  unfold AHeap.wr at hw
  cases hg : H.get i with
  | none => simp [hg] at hw
  | some b =>
    simp only [hg] at hw
    split at hw
    · rename_i hcond
      obtain ⟨hm, hle⟩ := hcond
      obtain rfl := Option.some.inj hw
      obtain ⟨ad', sl', hr', hb⟩ := h.blk i b hg
      rw [hr] at hr'
      obtain ⟨rfl, rfl⟩ : ad = ad' ∧ sl = sl' := by simpa using hr'
      have hb0 := hb
      unfold BlkRel at hb
      rw [hm] at hb
      obtain ⟨hs, hB, cs', e, hh, hz, ha⟩ := hb
      obtain ⟨g, off, spot⟩ := ad
      simp only at hs hB hh hz ha; subst hs
      have hlen := hv.length
      have hst := run_storeCells_at P g (off + o) e vs' 0 cs' w hh (by omega) (fun v hvm => by
        obtain ⟨k, hk, rfl⟩ := List.getElem_of_mem hvm
        have hk2 : k < vs.length := by omega
        obtain ⟨y, hy, hR⟩ := hv.get k vs[k] (List.getElem?_eq_getElem hk2)
        rw [List.getElem?_eq_getElem hk] at hy
        obtain rfl := Option.some.inj hy
        exact hR.one)
      rw [Addr.add_lit]
      refine ⟨_, hst, ?_⟩
      simp only [Nat.add_zero]
      have hnew : (cs'.toList.take (off + o) ++ vs' ++ cs'.toList.drop (off + o + vs'.length)) = splice cs'.toList (off + o) vs' := rfl
      have hcl : cs'.toList.length = cs'.size := Array.length_toList
      have key : (splice cs'.toList (off + o) vs').drop off = splice (cs'.toList.drop off) o vs' := by
        unfold splice
        apply List.ext_getElem?
        intro m
        rw [List.getElem?_drop]
        simp only [List.getElem?_append, List.length_append, List.length_take, List.length_drop, List.getElem?_take, List.getElem?_drop]
        repeat' split
        all_goals first | omega | (congr 1; done) | (congr 1; omega)
      have key2 : (splice (cs'.toList.drop off) o vs').take b.cells.length = splice ((cs'.toList.drop off).take b.cells.length) o vs' := by
        unfold splice
        apply List.ext_getElem?
        intro m
        simp only [List.getElem?_append, List.length_append, List.length_take, List.length_drop, List.getElem?_take, List.getElem?_drop]
        repeat' split
        all_goals first | omega | rfl | skip
        all_goals (first | (congr 1; omega) | (rw [List.getElem?_eq_none]; omega) | (symm; rw [List.getElem?_eq_none]; omega))
      refine ⟨?_, ?_, ?_, ?_, ?_⟩
      · refine h.below.trans ⟨rfl, rfl, rfl, by simp [World.setRow], fun k hk => setRow_other w g k _ (by omega)⟩
      · intro j
        simp only [AHeap.put]
        split
        · rename_i e1; subst e1; simp [hr]
        · exact h.dom j
      · intro j b' hb'
        simp only [AHeap.put] at hb'
        split at hb'
        · rename_i e1; subst e1
          obtain rfl := Option.some.inj hb'
          refine ⟨_, _, hr, ?_⟩
          unfold BlkRel
          simp only [hm]
          refine ⟨trivial, hB, _, e, setRow_heap w g cs' _ e (0, 0) hh, ?_, ?_⟩
          · rw [splice_length hle]
            simp only [List.size_toArray, hnew]
            rw [splice_length (by omega)]
            omega
          · rw [splice_length hle, hnew]
            show All2 _ _ (List.take _ (List.drop _ (splice _ _ _)))
            rw [key, key2]
            exact ha.splice hv o
        · rename_i e1
          obtain ⟨ad2, sl2, hr2, hb2⟩ := h.blk j b' hb'
          refine ⟨ad2, sl2, hr2, hb2.below (fun k hk => setRow_other w g k _ (by omega)) ?_⟩
          intro hm2
          refine setRow_other w g _ _ ?_
          exact h.inj j i b' b ad2 sl2 _ _ hb' hm2 hg hm e1 hr2 hr
      · intro j1 j2 b1 b2 ad1 sl1 ad2 sl2 h1 m1 h2 m2 hne r1 r2
        simp only [AHeap.put] at h1 h2
        have : ∀ j bb, (if j = i then some ({ b with cells := splice b.cells o vs, ver := b.ver + 1 } : Blk) else H.get j) = some bb → bb.mode = .rw → ∃ bb', H.get j = some bb' ∧ bb'.mode = .rw := by
          intro j bb hj hmj
          split at hj
          · rename_i e1; subst e1; exact ⟨b, hg, hm⟩
          · exact ⟨bb, hj, hmj⟩
        obtain ⟨c1, k1, l1⟩ := this _ _ h1 m1
        obtain ⟨c2, k2, l2⟩ := this _ _ h2 m2
        exact h.inj j1 j2 c1 c2 ad1 sl1 ad2 sl2 k1 l1 k2 l2 hne r1 r2
      · intro j hj
        simp only [AHeap.put] at hj ⊢
        split
        · rename_i e1; subst e1; rw [h.fresh _ hj] at hg; cases hg
        · exact h.fresh j hj
    · cases hw
end Go.Mx
