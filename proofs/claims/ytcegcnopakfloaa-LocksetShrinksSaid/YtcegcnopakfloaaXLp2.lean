/- Functions of the program as the machine comes to them: printed by a program of this workplace (px.py); the kernel checks each line. -/
import Derived.Test.YtcegcnopakfloaaXBase2
set_option linter.unusedVariables false
namespace Go.Proofs.MxF
open Go Go.Mx Go.Proofs

/- f86x85 "slices.IndexFunc[[]int,int]"  names: 0:s 1:f 2:s 3:f 5:i -/
noncomputable def f86x85.Q0 (k : Nat)  : Kont (Value × AHeap) := retQ Try.prog Try.f86
noncomputable def f86x85.Q1 (k : Nat)  : Kont (Value × AHeap) := seqQ (gateC (Sub (bodyOf Try.f86) [1, 0]) (Sub (bodyOf Try.f86) [1, 1]) k (run Try.prog (C k) k (Sub (bodyOf Try.f86) [1, 1]) (f86x85.Q0 k ))) (f86x85.Q0 k )
noncomputable def f86x85.Q2 (k : Nat)  : Kont (Value × AHeap) := blkQ 0 (f86x85.Q1 k )
noncomputable def f86x85.L1 (k : Nat) (n1 : Nat) (a0 : Option Addr) (l0 : Nat) (c0 : Nat) (p1_0 : Nat) (x7 : Int) (x8 : Int) (D : List Value) (H : AHeap) : Option (Value × AHeap) :=
  iter (run Try.prog (C k) k (Sub (bodyOf Try.f86) [1, 0, 1, 0, 0])) (f86x85.Q2 k ) n1 [.slice a0 l0 c0, .func (.func 85) #[] #[.pointer (some ⟨p1_0, 0, none⟩)], undef, undef, (D.getD 0 undef), (D.getD 1 undef), (D.getD 2 undef), .int .i64 x7, .int .i64 x8, (D.getD 3 undef), (D.getD 4 undef), (D.getD 5 undef), (D.getD 6 undef), (D.getD 7 undef), (D.getD 8 undef), (D.getD 9 undef), (D.getD 10 undef), undef, (D.getD 11 undef)] H
theorem f86x85.L1_z (k : Nat)  (a0 : Option Addr) (l0 : Nat) (c0 : Nat) (p1_0 : Nat) (x7 : Int) (x8 : Int) (D : List Value) (H : AHeap) : f86x85.L1 k 0 a0 l0 c0 p1_0 x7 x8 D H = none := by kernel_rfl
theorem f86x85.L1_s (k : Nat) (n1 : Nat) (a0 : Option Addr) (l0 : Nat) (c0 : Nat) (p1_0 : Nat) (x7 : Int) (x8 : Int) (D : List Value) (H : AHeap) : f86x85.L1 k (n1 + 1) a0 l0 c0 p1_0 x7 x8 D H =
  (bif (decide (x8 < x7)) then
   a0.bind fun q =>
   if 0 ≤ x8 ∧ x8 < (l0 : Int) then
   (ldI .i64 H q.block (q.off + x8.toNat * 1)).bind fun x =>
   cB (C k 85 [.int .i64 x, .pointer (some ⟨p1_0, 0, none⟩)] H) fun b H_1 =>
   bif b then
   some (.int .i64 x8, H_1)
   else
   f86x85.L1 k n1 a0 l0 c0 p1_0 x7 (IntKind.i64.wrap (x8 + (1 : Int))) [(D.getD 0 undef), .int .i64 x8, (D.getD 2 undef), .bool (decide (x8 < x7)), .int .i64 x8, .func (.func 85) #[] #[.pointer (some ⟨p1_0, 0, none⟩)], .slice a0 l0 c0, .int .i64 x8, .pointer (some ⟨q.block, q.off + x8.toNat * 1, none⟩), .int .i64 x, .bool b, .int .i64 (IntKind.i64.wrap (x8 + (1 : Int)))] H_1
   else none
   else
   some (.int .i64 (-1), H)) := by kernel_rfl
theorem f86x85_eq (k : Nat) (a0 : Option Addr) (l0 : Nat) (c0 : Nat) (pc0 : Nat) (H : AHeap) : C (k + 1) 86 [.slice a0 l0 c0, .func (.func 85) #[] #[.pointer (some ⟨pc0, 0, none⟩)]] H =
  (f86x85.L1 k k a0 l0 c0 pc0 (l0 : Int) 0 [.int .i64 0, undef, .slice a0 l0 c0, undef, undef, undef, undef, undef, undef, undef, undef, undef] H) := by kernel_rfl

end Go.Proofs.MxF
