/- Equal neighbours taken out, where the list lies. -/
import Derived.Test.YtcegcnopakfloaaXK1
set_option linter.unusedVariables false
namespace Go.Mx
open Go Go.Proofs
def cmpS (acc : List Int) (v : Int) : List Int := if acc.getLast? = some v then acc else acc ++ [v]
/-- equal neighbours taken out -/
def cmp (xs : List Int) : List Int := xs.foldl cmpS []
theorem cmp_snoc (xs : List Int) (v : Int) : cmp (xs ++ [v]) = cmpS (cmp xs) v := by unfold cmp; rw [List.foldl_append]; rfl
theorem snoc_ind {p : List Int → Prop} (h0 : p []) (h1 : ∀ xs v, p xs → p (xs ++ [v])) : ∀ xs, p xs := by
  intro xs
  have : ∀ n (xs : List Int), xs.length = n → p xs := by
    intro n
    induction n with
    | zero => intro xs h; rw [List.eq_nil_of_length_eq_zero h]; exact h0
    | succ n ih =>
      intro xs h
      have hne : xs ≠ [] := by intro e; subst e; cases h
      rw [← List.dropLast_concat_getLast hne]
      exact h1 _ _ (ih _ (by rw [List.length_dropLast]; omega))
  exact this _ xs rfl
theorem cmp_last (xs : List Int) : (cmp xs).getLast? = xs.getLast? := by
  refine snoc_ind (p := fun xs => (cmp xs).getLast? = xs.getLast?) rfl (fun xs v ih => ?_) xs
  rw [cmp_snoc]
  unfold cmpS
  split
  · next h => rw [h]; simp
  · simp
theorem mem_cmp {xs : List Int} : ∀ {v : Int}, v ∈ cmp xs ↔ v ∈ xs := by
  refine snoc_ind (p := fun xs => ∀ {v : Int}, v ∈ cmp xs ↔ v ∈ xs) (fun {v} => Iff.rfl) (fun xs w ih v => ?_) xs
  rw [cmp_snoc, List.mem_append, List.mem_singleton]
  unfold cmpS
  split
  · next h =>
    rw [ih]
    constructor
    · exact .inl
    · rintro (h1 | rfl)
      · exact h1
      · exact ih.1 (List.mem_of_getLast? h)
  · rw [List.mem_append, List.mem_singleton, ih]
theorem cmp_strict {xs : List Int} : xs.Pairwise (· ≤ ·) → (cmp xs).Pairwise (· < ·) := by
  refine snoc_ind (p := fun xs => xs.Pairwise (· ≤ ·) → (cmp xs).Pairwise (· < ·)) (fun _ => .nil) (fun xs v ih h => ?_) xs
  rw [List.pairwise_append] at h
  rw [cmp_snoc]
  unfold cmpS
  split
  · exact ih h.1
  · next hne =>
    rw [List.pairwise_append]
    refine ⟨ih h.1, List.pairwise_singleton _ _, fun x hx y hy => ?_⟩
    rw [List.mem_singleton] at hy
    subst hy
    have hle := h.2.2 x (mem_cmp.1 hx) y (by simp)
    rcases Int.lt_or_eq_of_le hle with h1 | rfl
    · exact h1
    · exfalso
      -- x is the greatest element, and is in cmp xs: then it is the last one
      have hs := ih h.1
      obtain ⟨z, hz⟩ : ∃ z, (cmp xs).getLast? = some z := by
        cases e : (cmp xs).getLast? with
        | none => rw [List.getLast?_eq_none_iff] at e; rw [e] at hx; cases hx
        | some z => exact ⟨z, rfl⟩
      have hzle : z ≤ x := h.2.2 z (mem_cmp.1 (List.mem_of_getLast? hz)) x (by simp)
      have hne' : cmp xs ≠ [] := by intro e; rw [e] at hx; cases hx
      have hd := List.dropLast_concat_getLast hne'
      have hz' : (cmp xs).getLast hne' = z := by
        rw [List.getLast?_eq_some_getLast hne'] at hz; exact Option.some.inj hz
      rw [hz'] at hd
      rw [← hd, List.mem_append, List.mem_singleton] at hx
      rcases hx with hx | rfl
      · rw [← hd, List.pairwise_append] at hs
        have := hs.2.2 x hx z (by simp)
        omega
      · exact hne hz
theorem cmp_take {xs : List Int} {i : Nat} {v w : Int} (h : xs[i + 1]? = some v) (h' : xs[i]? = some w) : cmp (xs.take (i + 1 + 1)) = if w = v then cmp (xs.take (i + 1)) else cmp (xs.take (i + 1)) ++ [v] := by
  have e : xs.take (i + 1 + 1) = xs.take (i + 1) ++ [v] := by rw [List.take_add_one, h]; rfl
  have e' : xs.take (i + 1) = xs.take i ++ [w] := by rw [List.take_add_one, h']; rfl
  rw [e, cmp_snoc]
  unfold cmpS
  rw [cmp_last, e']
  simp only [List.getLast?_append, List.getLast?_singleton, Option.some_or, Option.some.injEq]
theorem strict_ext : ∀ {xs ys : List Int}, xs.Pairwise (· < ·) → ys.Pairwise (· < ·) → (∀ v, v ∈ xs ↔ v ∈ ys) → xs = ys := by
  intro xs
  induction xs with
  | nil =>
    intro ys _ _ h
    cases ys with
    | nil => rfl
    | cons y ys => have := (h y).2 (by simp); cases this
  | cons x xs ih =>
    intro ys hx hy h
    cases ys with
    | nil => have := (h x).1 (by simp); cases this
    | cons y ys =>
      rw [List.pairwise_cons] at hx hy
      have hxy : x = y := by
        have h1 := (h x).1 (by simp)
        have h2 := (h y).2 (by simp)
        rcases List.mem_cons.1 h1 with e | h1
        · exact e
        · rcases List.mem_cons.1 h2 with e | h2
          · exact e.symm
          · have := hy.1 x h1; have := hx.1 y h2; omega
      subst hxy
      congr 1
      refine ih hx.2 hy.2 fun v => ?_
      constructor
      · intro hv
        rcases List.mem_cons.1 ((h v).1 (List.mem_cons_of_mem _ hv)) with rfl | h3
        · have := hx.1 v hv; omega
        · exact h3
      · intro hv
        rcases List.mem_cons.1 ((h v).2 (List.mem_cons_of_mem _ hv)) with rfl | h3
        · have := hy.1 v hv; omega
        · exact h3
theorem cutLo {a : Option Addr} {l c lo : Nat} (h : lo ≤ l) (hc : l ≤ c) : cutSl 1 a l c (some (lo : Int)) none none = some (a.map fun a => ⟨a.block, a.off + lo * 1, a.spot⟩, l - lo, c - lo) := by
  unfold cutSl cutBounds
  dsimp only
  simp only [Option.getD_some, Option.isSome_none]
  rw [if_pos (by omega)]
  simp
theorem cutHi {a : Option Addr} {l c hi : Nat} (h : hi ≤ l) (hc : l ≤ c) : cutSl 1 a l c none (some (hi : Int)) none = some (a, hi, c) := by
  unfold cutSl cutBounds
  dsimp only
  simp only [Option.getD_none, Option.isSome_none]
  rw [if_pos (by omega)]
  simp
end Go.Mx
