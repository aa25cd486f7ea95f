/- Arguments: rows of three bytes. -/
import Derived.Test.YtcegcnopakfloaaXE2
set_option linter.unusedVariables false
namespace Go.Mx
open Go Go.Proofs
theorem Cells.row {H : AHeap} {a : Option Addr} {n : Nat} {cs : List Value} (h : Cells H a n cs) {j m : Nat} (hm : 0 < m) (hj : j + m ≤ n) :
    ∃ q, a = some q ∧ H.row q.block (q.off + j) m = some ((cs.drop j).take m) := by
  rcases h.2 with ⟨_, e⟩ | ⟨i, o, s, b, e, h1, h2, h3, h4⟩
  · subst e
    have := h.1
    simp at this
    omega
  · refine ⟨_, e, ?_⟩
    rw [row_at (o := o + j) h1 h2 (by omega), ← h4, List.drop_take, List.drop_drop, List.take_take]
    rw [show min m (n - j) = m from by omega]
theorem tyRep_row {p : List Value → Prop} {sz : Nat} {q : List Value → Prop} (h : ∀ cs, p cs → cs.length = sz ∧ q cs) : ∀ {m : Nat} {cs : List Value}, TyRep p m cs → ∀ j, j < m → q ((cs.drop (j * sz)).take sz) := by
  intro m
  induction m with
  | zero => intro cs _ j hj; omega
  | succ m ih =>
    intro cs hr j hj
    obtain ⟨a, b, rfl, ha, hb⟩ := hr
    obtain ⟨hl, hq⟩ := h _ ha
    cases j with
    | zero => rw [Nat.zero_mul, List.drop_zero, ← hl, List.take_left' rfl]; exact hq
    | succ j =>
      have := ih hb j (by omega)
      rw [Nat.succ_mul, Nat.add_comm, ← hl, ← List.drop_drop, List.drop_left' rfl, hl]
      exact this
theorem tyRep_three {p : List Value → Prop} {cs : List Value} (h : TyRep p 3 cs) : ∃ a b c, cs = a ++ (b ++ (c ++ [])) ∧ p a ∧ p b ∧ p c := by
  obtain ⟨a, _, rfl, h0, b, _, rfl, h1, c, _, rfl, h2, rfl⟩ := h
  exact ⟨a, b, c, rfl, h0, h1, h2⟩
theorem ty_u8s3 {P : Program} {H : AHeap} {n : Nat} {t e : TypeId} (hu : P.underlying t = some (.array 3 e)) (he : P.underlying e = some (.int .u8)) (cs : List Value) (h : TyV P H (n + 1 + 1) t cs) :
    cs.length = 3 ∧ ∃ x0 x1 x2 : Int, cs = [.int .u8 x0, .int .u8 x1, .int .u8 x2] ∧ (0 ≤ x0 ∧ x0 ≤ 255) ∧ (0 ≤ x1 ∧ x1 ≤ 255) := by
  have hr := tyV_array hu h
  have wf : ∀ x : Int, (Lit.int .u8 x).wf = true → 0 ≤ x ∧ x ≤ 255 := by
    intro x hx
    simp only [Lit.wf, Bool.and_eq_true, decide_eq_true_eq] at hx
    exact hx
  obtain ⟨_, _, _, rfl, h0, h1, h2⟩ := tyRep_three hr
  obtain ⟨x0, rfl, w0⟩ := tyV_int he h0
  obtain ⟨x1, rfl, w1⟩ := tyV_int he h1
  obtain ⟨x2, rfl, w2⟩ := tyV_int he h2
  exact ⟨rfl, x0, x1, x2, rfl, wf _ w0, wf _ w1⟩
theorem rep_u8s3 {P : Program} {H : AHeap} {n m : Nat} {t e : TypeId} (hu : P.underlying t = some (.array 3 e)) (he : P.underlying e = some (.int .u8)) {cs : List Value} (h : TyRep (TyV P H (n + 1 + 1) t) m cs) :
    ∀ j, j < m → ∃ x0 x1 x2 : Int, (cs.drop (j * 3)).take 3 = [.int .u8 x0, .int .u8 x1, .int .u8 x2] ∧ (0 ≤ x0 ∧ x0 ≤ 255) ∧ (0 ≤ x1 ∧ x1 ≤ 255) :=
  tyRep_row (q := fun cs => ∃ x0 x1 x2 : Int, cs = [.int .u8 x0, .int .u8 x1, .int .u8 x2] ∧ (0 ≤ x0 ∧ x0 ≤ 255) ∧ (0 ≤ x1 ∧ x1 ≤ 255)) (fun cs h => ty_u8s3 hu he cs h) h
end Go.Mx
namespace Go.Proofs.MxF
open Go Go.Mx Go.Proofs

theorem und22 : Try.prog.underlying 22 = some (.slice 29) := by kernel_rfl
theorem und29 : Try.prog.underlying 29 = some (.array 3 5) := by kernel_rfl
theorem und5 : Try.prog.underlying 5 = some (.int .u8) := by kernel_rfl
theorem cells29 : Try.prog.cellsOf 29 = 3 := by kernel_rfl
theorem ag22 : aggT Try.prog 22 = false := by kernel_rfl

end Go.Proofs.MxF
