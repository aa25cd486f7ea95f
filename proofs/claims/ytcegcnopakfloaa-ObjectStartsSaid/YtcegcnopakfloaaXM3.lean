/- Each operation of the machine is an operation of the model. -/
import Derived.Test.YtcegcnopakfloaaXM2
import Derived.Laws.Rows
namespace Go.Mx
open Go Go.RowKit

section cps
variable {R : Type}
theorem normK_cps (d : Option TypeDesc) (v : Value) (K : Value → Option R) : normK d v K = (normK d v some).bind K := by
  unfold normK
  split <;> simp [Option.bind_assoc]
theorem normK_id {d : Option TypeDesc} {v v' : Value} (h : normK d v some = some v') : v' = v := by
  unfold normK at h
  split at h
  · cases v with
    | int k' n =>
      simp only [asI] at h
      split at h
      · rename_i e; subst e; simpa using h.symm
      · simp at h
    | _ => simp [asI] at h
  · cases v <;> simp [asB] at h
    exact h.symm
  · cases v <;> simp [asS] at h
    exact h.symm
  · cases v <;> simp [asSl] at h
    exact h.symm
  · cases v <;> simp [asPt] at h
    exact h.symm
  · cases v <;> simp [asAg] at h
    exact h.symm
  · cases v <;> simp [asAg] at h
    exact h.symm
  · cases v <;> simp [asTp] at h
    exact h.symm
  · exact (Option.some.inj h).symm
theorem loadK_cps (P : Program) (t : TypeId) (i o : Nat) (H : AHeap) (K : Value → Option R) : loadK P t i o H K = (loadK P t i o H some).bind K := by
  unfold loadK
  split <;> (try split) <;> simp [Option.bind_assoc]
theorem binIntK_cps (op : BinOp) (k : IntKind) (x y : Int) (K : Value → Option R) : binIntK op k x y K = (binIntK op k x y some).bind K := by
  cases op <;> simp only [binIntK] <;> (try split) <;> simp
theorem binStrK_cps (op : BinOp) (x y : ByteArray) (K : Value → Option R) : binStrK op x y K = (binStrK op x y some).bind K := by
  cases op <;> simp only [binStrK] <;> (try split) <;> simp
theorem binK_cps (P : Program) (op : BinOp) (t : TypeId) (v w : Value) (K : Value → Option R) : binK P op t v w K = (binK P op t v w some).bind K := by
  unfold binK
  cases v <;> (try rfl)
  case int k x =>
    cases w <;> (try rfl)
    simp only []
    split
    · split <;> simp
    · split <;> simp
    · split
      · exact binIntK_cps _ _ _ _ _
      · simp
  case string x =>
    simp only [Option.bind_assoc]
    exact congrArg _ (funext fun y => binStrK_cps _ _ _ _)
  case bool x =>
    simp only [Option.bind_assoc]
    refine congrArg _ (funext fun y => ?_)
    split
    · split <;> simp
    · rfl
  case agg xs =>
    simp only [Option.bind_assoc]
    refine congrArg _ (funext fun y => ?_)
    split
    · rfl
    · split <;> simp [Option.bind_assoc]
  case slice a l c =>
    simp only [Option.bind_assoc]
    refine congrArg _ (funext fun y => ?_)
    split <;> simp [Option.bind_assoc]
theorem unK_cps (op : UnOp) (v : Value) (K : Value → Option R) : unK op v K = (unK op v some).bind K := by
  unfold unK
  split <;> simp
end cps

/-- one operation, its result as a pair -/
def opS (P : Program) (call : CallF) (slot : Option Nat) (o : Oper) (t : List Value) (H : AHeap) : Option (Value × AHeap) :=
  aopK P call slot o t H fun v H => some (v, H)

section
variable {R : Type} {P : Program} {call : CallF}
theorem callK_cps (o : Oper) (c : Call) (t : List Value) (H : AHeap) (K : Value → AHeap → Option R) :
    callK P call o c t H K = (callK P call o c t H fun v H => some (v, H)).bind fun p => K p.1 p.2 := by
  unfold callK
  split
  · rfl
  · split
    · split
      · split
        · rw [Option.bind_assoc]
          congr 1; funext p
          rw [normK_cps, normK_cps _ _ fun v => some (v, p.2)]
          simp [Option.bind_assoc]
        · rfl
      · rfl
    · rfl
    · split <;> (try split) <;> first
        | rfl
        | (simp [Option.bind_assoc]; done)
        | (rw [Option.bind_assoc]
           congr 1; funext p
           rw [normK_cps, normK_cps _ _ fun v => some (v, p.2)]
           simp [Option.bind_assoc])

theorem aopK_cps (slot : Option Nat) (o : Oper) (t : List Value) (H : AHeap) (K : Value → AHeap → Option R) :
    aopK P call slot o t H K = (opS P call slot o t H).bind fun p => K p.1 p.2 := by
  unfold opS
  obtain ⟨dst, op, type, pos, after, guard⟩ := o
  cases op
  case call c => exact callK_cps _ _ _ _ _
  case load ty x =>
    simp only [aopK]
    split
    · rw [loadK_cps, loadK_cps _ _ _ _ _ fun v => some (v, H)]; simp [Option.bind_assoc]
    · rfl
  case binOp op ty x y u =>
    simp only [aopK]
    split
    · rw [binK_cps, binK_cps _ _ _ _ _ fun v => some (v, H)]; simp [Option.bind_assoc]
    · rfl
  case unOp op ty x =>
    simp only [aopK]
    split
    · rw [unK_cps, unK_cps _ _ fun v => some (v, H)]; simp [Option.bind_assoc]
    · rfl
  case pick c a b =>
    simp only [aopK]
    split
    · rename_i s _; cases s <;> simp only [cond] <;> split <;> rfl
    · rfl
  case field ty x f =>
    simp only [aopK]
    repeat' split
    all_goals first
      | rfl
      | (rw [Option.bind_assoc]
         congr 1; funext p
         rw [normK_cps, normK_cps _ _ fun v => some (v, H)]
         simp [Option.bind_assoc])
  case index ty x ix =>
    simp only [aopK]
    repeat' split
    all_goals first
      | rfl
      | (simp [Option.bind_assoc]; done)
      | (rw [Option.bind_assoc]
         congr 1; funext p
         rw [normK_cps, normK_cps _ _ fun v => some (v, H)]
         simp [Option.bind_assoc])
  case extract x i =>
    simp only [aopK]
    repeat' split
    all_goals first
      | rfl
      | (rw [Option.bind_assoc]
         congr 1; funext p
         rw [normK_cps, normK_cps _ _ fun v => some (v, H)]
         simp [Option.bind_assoc])
  case indexAddr ty x ix =>
    simp only [aopK]
    repeat' split
    all_goals first
      | rfl
      | (rw [Option.bind_assoc]
         refine congrArg _ (funext fun p => ?_)
         first | rfl | (split <;> rfl))
  case makeFunc fn first captured =>
    cases fn <;> simp only [aopK] <;> (try split) <;> first
      | rfl
      | (rename_i cs _ _; cases cs.all basicV <;> rfl)
  case box e x =>
    simp only [aopK]
    split
    · rename_i u _; cases notTup u <;> rfl
    · rfl
  case go c => rfl
  case defer c => rfl
  all_goals
    simp only [aopK]
    repeat' split
    all_goals first
      | rfl
      | (simp [Option.bind_assoc]; done)
end
end Go.Mx
