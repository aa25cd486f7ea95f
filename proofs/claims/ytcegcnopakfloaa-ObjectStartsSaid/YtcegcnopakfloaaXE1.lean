/- Clocks: what the small functions of epoch and of its reference come to. -/
import Derived.Test.YtcegcnopakfloaaXEp
import Derived.Test.YtcegcnopakfloaaXS1
import Derived.IntWalk
set_option linter.unusedVariables false
namespace Go.Proofs.MxF
open Go Go.Mx Go.Proofs

def atI (xs : List Int) (t : Int) : Int := if t < 0 then 0 else xs.getD t.toNat 0
theorem atI_nat (xs : List Int) (i : Nat) : atI xs (i : Int) = xs.getD i 0 := by
  unfold atI
  rw [if_neg (by omega)]
  rfl

theorem wrap_id {n : Int} (h : 0 ≤ n) (h' : n ≤ 4611686018427387904) : IntKind.i64.wrap n = n := IntWalk.i64_in n (by omega)

theorem at_text {H : AHeap} {a : Option Addr} {l c : Nat} {xs : List Int} (h : Ints H a l xs) (t : Int) :
    (bif (decide (t < (0 : Int))) then
   some ((.int .i64 0 : Value), H)
   else
   bif (decide (t ≥ (l : Int))) then
   some (.int .i64 0, H)
   else
   a.bind fun q =>
   if 0 ≤ t ∧ t < (l : Int) then
   (ldI .i64 H q.block (q.off + t.toNat * 1)).bind fun x =>
   some (.int .i64 x, H)
   else none) = some (.int .i64 (atI xs t), H) := by
  have hl := h.len
  unfold atI
  by_cases h0 : t < 0
  · simp [h0]
  · by_cases h1 : t ≥ (l : Int)
    · have : xs.getD t.toNat 0 = 0 := by
        rw [List.getD_eq_getElem?_getD, List.getElem?_eq_none (by omega)]; rfl
      simp only [h0, h1, decide_false, decide_true, cond_false, cond_true, if_false, this]
    · have hlt : t.toNat < xs.length := by omega
      obtain ⟨q, e, hq⟩ := h.ld (List.getElem?_eq_getElem hlt)
      subst e
      have h2 : 0 ≤ t ∧ t < (l : Int) := by omega
      have hd : xs.getD t.toNat 0 = xs[t.toNat] := by simp [List.getD_eq_getElem?_getD, List.getElem?_eq_getElem hlt]
      simp only [h0, decide_false, cond_false, h1, Option.bind_some, h2, if_false, Nat.mul_one, and_self, if_true, hq, hd]

theorem f46_spec {k : Nat} (hk : 1 ≤ k) {H : AHeap} {a : Option Addr} {l c : Nat} {xs : List Int} (h : Ints H a l xs) (t : Int) : C k 46 [.slice a l c, .int .i64 t] H = some (.int .i64 (atI xs t), H) := by
  obtain ⟨k, rfl⟩ : ∃ j, k = j + 1 := ⟨k - 1, by omega⟩
  rw [f46_eq]
  exact at_text (c := c) h t
theorem f49_spec {k : Nat} (hk : 1 ≤ k) {H : AHeap} {a : Option Addr} {l c : Nat} {xs : List Int} (h : Ints H a l xs) (t : Int) : C k 49 [.slice a l c, .int .i64 t] H = some (.int .i64 (atI xs t), H) := by
  obtain ⟨k, rfl⟩ : ∃ j, k = j + 1 := ⟨k - 1, by omega⟩
  rw [f49_eq]
  exact at_text (c := c) h t

/-- a clock covers an epoch -/
def covers (xs : List Int) (time thread : Int) : Bool := decide (time ≤ atI xs thread)

theorem covers_text {k f : Nat} (hf : ∀ {H : AHeap} {a : Option Addr} {l c : Nat} {xs : List Int}, Ints H a l xs → ∀ t, C k f [.slice a l c, .int .i64 t] H = some (.int .i64 (atI xs t), H))
    {H : AHeap} {a : Option Addr} {l c : Nat} {xs : List Int} (h : Ints H a l xs) (x t : Int) :
    Ok (alK none H ⟨[.int .i64 x, .int .i64 t], 0, .rw, 0⟩ fun i H_1 =>
   bif sameB H_1 (H_1.bump 8) i then
   (ldI .i64 (H_1.bump 8) i (1)).bind fun x =>
   cI .i64 (C k f [.slice a l c, .int .i64 x] (H_1.bump 8)) fun x_1 H_2 =>
   bif sameB H_1 H_2 i then
   (ldI .i64 H_2 i (0)).bind fun x_2 =>
   some ((.bool (decide (x_2 ≤ x_1)) : Value), H_2)
   else none
   else none) (fun r => r.1 = .bool (covers xs x t) ∧ Agree H r.2) := by
  refine ok_al fun i H1 hi _ A1 B1 => ?_
  refine ok_bift (sameB_agree B1 (agree_bump _ _)) ?_
  refine ok_bind (ldI_at (B1.agree (agree_bump _ _)) (by simp) rfl) ?_
  refine ok_cI0 (hf ((h.agree A1).agree (agree_bump _ _)) _) ?_
  refine ok_bift (sameB_agree B1 (agree_bump _ _)) ?_
  refine ok_bind (ldI_at (B1.agree (agree_bump _ _)) (by simp) rfl) ?_
  exact Ok.ret ⟨rfl, A1.trans (agree_bump _ _)⟩

theorem f47_spec {k : Nat} (hk : 2 ≤ k) {H : AHeap} {a : Option Addr} {l c : Nat} {xs : List Int} (h : Ints H a l xs) (x t : Int) :
    ∃ H', C k 47 [.slice a l c, .agg #[.int .i64 x, .int .i64 t]] H = some (.bool (covers xs x t), H') ∧ Agree H H' := by
  obtain ⟨k, rfl⟩ : ∃ j, k = j + 1 := ⟨k - 1, by omega⟩
  rw [f47_eq]
  exact call_of_ok (covers_text (fun h t => f49_spec (by omega) h t) h x t)
theorem f50_spec {k : Nat} (hk : 2 ≤ k) {H : AHeap} {a : Option Addr} {l c : Nat} {xs : List Int} (h : Ints H a l xs) (x t : Int) :
    ∃ H', C k 50 [.slice a l c, .agg #[.int .i64 x, .int .i64 t]] H = some (.bool (covers xs x t), H') ∧ Agree H H' := by
  obtain ⟨k, rfl⟩ : ∃ j, k = j + 1 := ⟨k - 1, by omega⟩
  rw [f50_eq]
  exact call_of_ok (covers_text (fun h t => f46_spec (by omega) h t) h x t)

/-- no entry is greater, from i on, m of them -/
def leqFrom (xs ys : List Int) : Nat → Nat → Bool
  | _, 0 => true
  | i, m + 1 => bif decide (atI xs (i : Int) > atI ys (i : Int)) then false else leqFrom xs ys (i + 1) m
def leq (xs ys : List Int) : Bool := leqFrom xs ys 0 (max xs.length ys.length)

theorem max_if (a b : Nat) : (if (b : Int) > (a : Int) then (b : Int) else (a : Int)) = ((max a b : Nat) : Int) := by
  split <;> omega

theorem f48_loop {k : Nat} (hk : 1 ≤ k) {H : AHeap} {a a' : Option Addr} {l c l' c' : Nat} {xs ys : List Int} (h : Ints H a l xs) (h' : Ints H a' l' ys) (hN : max l l' ≤ 1000000) :
    ∀ (m i n : Nat) (D : List Value), i + m = max l l' → m < n → f48.L1 k n a l c a' l' c' ((max l l' : Nat) : Int) (i : Int) D H = some (.bool (leqFrom xs ys i m), H) := by
  intro m
  induction m with
  | zero =>
    intro i n D hi hn
    obtain ⟨n, rfl⟩ : ∃ j, n = j + 1 := ⟨n - 1, by omega⟩
    rw [f48.L1_s]
    have : ¬ ((i : Int) < ((max l l' : Nat) : Int)) := by omega
    simp only [this, decide_false, cond_false, leqFrom]
  | succ m ih =>
    intro i n D hi hn
    obtain ⟨n, rfl⟩ : ∃ j, n = j + 1 := ⟨n - 1, by omega⟩
    rw [f48.L1_s]
    have hlt : (i : Int) < ((max l l' : Nat) : Int) := by omega
    refine eq_of_ok (ok_bift (by simp only [hlt, decide_true]) ?_)
    refine ok_cI0 (f49_spec hk h _) (ok_cI0 (f49_spec hk h' _) ?_)
    unfold leqFrom
    refine ok_bif (fun hc => ?_) (fun hc => ?_)
    · rw [hc]
      exact Ok.ret rfl
    · rw [hc, wrap_id (by omega) (by omega), show ((i : Int) + 1) = ((i + 1 : Nat) : Int) from rfl]
      exact Ok.of_eq (ih (i + 1) n _ (by omega) (by omega))
theorem f48_spec {k : Nat} {H : AHeap} {a a' : Option Addr} {l c l' c' : Nat} {xs ys : List Int} (h : Ints H a l xs) (h' : Ints H a' l' ys) (hN : max l l' ≤ 1000000) (hk : max l l' + 2 ≤ k) :
    C k 48 [.slice a l c, .slice a' l' c'] H = some (.bool (leq xs ys), H) := by
  obtain ⟨k, rfl⟩ : ∃ j, k = j + 1 := ⟨k - 1, by omega⟩
  rw [f48_eq]
  rw [max_if]
  refine (f48_loop (by omega) h h' hN (max l l') 0 k _ (by omega) (by omega)).trans ?_
  unfold leq
  rw [← h.len, ← h'.len]

theorem f51_loop {k : Nat} (hk : 1 ≤ k) {H : AHeap} {a a' : Option Addr} {l c l' c' : Nat} {xs ys : List Int} (h : Ints H a l xs) (h' : Ints H a' l' ys) (hN : max l l' ≤ 1000000) :
    ∀ (m i n : Nat) (D : List Value), i + m = max l l' → m < n → f51.L1 k n a l c a' l' c' (i : Int) D H = some (.bool (leqFrom xs ys i m), H) := by
  intro m
  induction m with
  | zero =>
    intro i n D hi hn
    obtain ⟨n, rfl⟩ : ∃ j, n = j + 1 := ⟨n - 1, by omega⟩
    rw [f51.L1_s]
    have : ¬ ((i : Int) < ((max l l' : Nat) : Int)) := by omega
    simp only [max_if, this, decide_false, cond_false, leqFrom]
  | succ m ih =>
    intro i n D hi hn
    obtain ⟨n, rfl⟩ : ∃ j, n = j + 1 := ⟨n - 1, by omega⟩
    rw [f51.L1_s]
    have hlt : (i : Int) < ((max l l' : Nat) : Int) := by omega
    refine eq_of_ok (ok_bift (by rw [max_if]; simp only [hlt, decide_true]) ?_)
    refine ok_cI0 (f46_spec hk h _) (ok_cI0 (f46_spec hk h' _) ?_)
    unfold leqFrom
    refine ok_bif (fun hc => ?_) (fun hc => ?_)
    · rw [hc]
      exact Ok.ret rfl
    · rw [hc, wrap_id (by omega) (by omega), show ((i : Int) + 1) = ((i + 1 : Nat) : Int) from rfl]
      exact Ok.of_eq (ih (i + 1) n _ (by omega) (by omega))
theorem f51_spec {k : Nat} {H : AHeap} {a a' : Option Addr} {l c l' c' : Nat} {xs ys : List Int} (h : Ints H a l xs) (h' : Ints H a' l' ys) (hN : max l l' ≤ 1000000) (hk : max l l' + 2 ≤ k) :
    C k 51 [.slice a l c, .slice a' l' c'] H = some (.bool (leq xs ys), H) := by
  obtain ⟨k, rfl⟩ : ∃ j, k = j + 1 := ⟨k - 1, by omega⟩
  rw [f51_eq]
  refine (f51_loop (by omega) h h' hN (max l l') 0 k _ (by omega) (by omega)).trans ?_
  unfold leq
  rw [← h.len, ← h'.len]


def same (xs ys : List Int) : Bool := leq xs ys && leq ys xs
theorem f54_spec {k : Nat} {H : AHeap} {a a' : Option Addr} {l c l' c' : Nat} {xs ys : List Int} (h : Ints H a l xs) (h' : Ints H a' l' ys) (hN : max l l' ≤ 1000000) (hk : max l l' + 3 ≤ k) :
    C k 54 [.slice a l c, .slice a' l' c'] H = some (.bool (same xs ys), H) := by
  obtain ⟨k, rfl⟩ : ∃ j, k = j + 1 := ⟨k - 1, by omega⟩
  rw [f54_eq]
  refine eq_of_ok (ok_cB0 (f51_spec h h' hN (by omega)) ?_)
  unfold same
  refine ok_bif (fun hc => ?_) (fun hc => ?_)
  · rw [hc]
    exact ok_cB0 (f51_spec h' h (by omega) (by omega)) (Ok.ret rfl)
  · rw [hc]
    exact Ok.ret rfl
end Go.Proofs.MxF
