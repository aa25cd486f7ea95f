/- Texts of this claim, laid together: Lp Lp2 Sp L1 L2 K1 K2 K3 K4 K5 T1. -/
import Derived.Test.YtcegcnopakfloaaXGc
import Derived.IntWalk
section
set_option linter.unusedSimpArgs false
/- Functions of the program as the machine comes to them: printed by a program of this workplace (px.py); the kernel checks each line. -/
set_option linter.unusedVariables false
namespace Go.Proofs.MxF
open Go Go.Mx Go.Proofs

/- f55 "interleave/lockset.set[int]"  names: 0:l 1:l 3:out -/
theorem f55_eq (k : Nat) (a0 : Option Addr) (l0 : Nat) (c0 : Nat) (H : AHeap) : C (k + 1) 55 [.slice a0 l0 c0] H =
  (cSl (apndV Try.prog [26, 26] H (.slice none 0 0) (.slice a0 l0 c0)) fun a l c H_1 =>
   cT (C k 83 [.slice a l c] H_1) fun u H_2 =>
   cSl (C k 84 [.slice a l c] H_2) fun a_1 l_1 c_1 H_3 =>
   some (.slice a_1 l_1 c_1, H_3)) := by kernel_rfl

/- f56 "interleave/lockset.both[int]"  names: 0:a 1:b 2:a 3:b -/
theorem f56_eq (k : Nat) (a0 : Option Addr) (l0 : Nat) (c0 : Nat) (a1 : Option Addr) (l1 : Nat) (c1 : Nat) (H : AHeap) : C (k + 1) 56 [.slice a0 l0 c0, .slice a1 l1 c1] H =
  (alK none H ⟨[.slice a1 l1 c1], 0, .rw, 0⟩ fun i H_1 =>
   cSl (C k 55 [.slice a0 l0 c0] H_1) fun a l c H_2 =>
   cSl (C k 81 [.slice a l c, .func (.func 85) #[] #[.pointer (some ⟨i, 0, none⟩)]] H_2) fun a_1 l_1 c_1 H_3 =>
   some (.slice a_1 l_1 c_1, H_3)) := by kernel_rfl

/- f57 "interleave/interleaveref27.Union"  names: 0:h 1:h -/
theorem f57_eq (k : Nat) (a0_0 : Option Addr) (l0_0 : Nat) (c0_0 : Nat) (a0_1 : Option Addr) (l0_1 : Nat) (c0_1 : Nat) (H : AHeap) : C (k + 1) 57 [.agg #[.slice a0_0 l0_0 c0_0, .slice a0_1 l0_1 c0_1]] H =
  (alK none H ⟨[.slice a0_0 l0_0 c0_0, .slice a0_1 l0_1 c0_1], 0, .rw, 0⟩ fun i H_1 =>
   bif sameB H_1 (H_1.bump 8) i then
   bSl (ldSl (H_1.bump 8) i (0)) fun a l c =>
   cSl (C k 45 [.slice a l c] (H_1.bump 8)) fun a_1 l_1 c_1 H_2 =>
   bif sameB H_1 H_2 i then
   bSl (ldSl H_2 i (1)) fun a_2 l_2 c_2 =>
   cSl (apndV Try.prog [26, 26] H_2 (.slice a_1 l_1 c_1) (.slice a_2 l_2 c_2)) fun a_3 l_3 c_3 H_3 =>
   cSl (C k 58 [.slice a_3 l_3 c_3] H_3) fun a_4 l_4 c_4 H_4 =>
   some (.slice a_4 l_4 c_4, H_4)
   else none
   else none) := by kernel_rfl

/- f58 "interleave/interleaveref27.sorted"  names: 0:l 1:l 3:out 4:_ 5:x 6:i 7:rest -/
noncomputable def f58.Q0 (k : Nat)  : Kont (Value × AHeap) := retQ Try.prog Try.f58
noncomputable def f58.Q1 (k : Nat)  : Kont (Value × AHeap) := seqQ (gateC (Sub (bodyOf Try.f58) [1, 1, 0]) (Sub (bodyOf Try.f58) [1, 1, 1]) k (run Try.prog (C k) k (Sub (bodyOf Try.f58) [1, 1, 1]) (f58.Q0 k ))) (f58.Q0 k )
noncomputable def f58.Q2 (k : Nat)  : Kont (Value × AHeap) := blkQ 0 (f58.Q1 k )
noncomputable def f58.Q3 (k : Nat) (n1 : Nat) : Kont (Value × AHeap) := seqQ (iter (run Try.prog (C k) k (Sub (bodyOf Try.f58) [1, 1, 0, 1, 0, 0])) (f58.Q2 k ) n1) (f58.Q2 k )
noncomputable def f58.Q4 (k : Nat) (n1 : Nat) : Kont (Value × AHeap) := seqQ (gateC (Sub (bodyOf Try.f58) [1, 1, 0, 1, 0, 0, 1, 1, 0]) (Sub (bodyOf Try.f58) [1, 1, 0, 1, 0, 0, 1, 1, 1]) k (run Try.prog (C k) k (Sub (bodyOf Try.f58) [1, 1, 0, 1, 0, 0, 1, 1, 1]) (f58.Q3 k n1))) (f58.Q3 k n1)
noncomputable def f58.Q5 (k : Nat) (n1 : Nat) : Kont (Value × AHeap) := blkQ 1 (f58.Q4 k n1)
noncomputable def f58.Q6 (k : Nat) (n1 : Nat) : Kont (Value × AHeap) := seqQ (gateC (Sub (bodyOf Try.f58) [1, 1, 0, 1, 0, 0, 1, 1, 0, 0, 1, 1, 0]) (Sub (bodyOf Try.f58) [1, 1, 0, 1, 0, 0, 1, 1, 0, 0, 1, 1, 1]) k (run Try.prog (C k) k (Sub (bodyOf Try.f58) [1, 1, 0, 1, 0, 0, 1, 1, 0, 0, 1, 1, 1]) (f58.Q5 k n1))) (f58.Q5 k n1)
noncomputable def f58.Q7 (k : Nat) (n1 : Nat) : Kont (Value × AHeap) := blkQ 2 (f58.Q6 k n1)
noncomputable def f58.L1 (k : Nat) (n1 : Nat) (a3 : Option Addr) (l3 : Nat) (c3 : Nat) (a8 : Option Addr) (l8 : Nat) (c8 : Nat) (x9 : Int) (x10 : Int) (D : List Value) (H : AHeap) : Option (Value × AHeap) :=
  iter (run Try.prog (C k) k (Sub (bodyOf Try.f58) [1, 1, 0, 1, 0, 0])) (f58.Q2 k ) n1 [(D.getD 0 undef), undef, (D.getD 1 undef), .slice a3 l3 c3, undef, (D.getD 2 undef), (D.getD 3 undef), (D.getD 4 undef), .slice a8 l8 c8, .int .i64 x9, .int .i64 x10, (D.getD 5 undef), (D.getD 6 undef), (D.getD 7 undef), (D.getD 8 undef), (D.getD 9 undef), (D.getD 10 undef), (D.getD 11 undef), (D.getD 12 undef), (D.getD 13 undef), (D.getD 14 undef), (D.getD 15 undef), (D.getD 16 undef), (D.getD 17 undef), (D.getD 18 undef), (D.getD 19 undef), (D.getD 20 undef), (D.getD 21 undef), (D.getD 22 undef), (D.getD 23 undef), (D.getD 24 undef), (D.getD 25 undef), (D.getD 26 undef), (D.getD 27 undef), (D.getD 28 undef), (D.getD 29 undef), (D.getD 30 undef), (D.getD 31 undef), (D.getD 32 undef), (D.getD 33 undef), (D.getD 34 undef), (D.getD 35 undef), (D.getD 36 undef), (D.getD 37 undef), (D.getD 38 undef), (D.getD 39 undef), (D.getD 40 undef), (D.getD 41 undef), (D.getD 42 undef), (D.getD 43 undef), (D.getD 44 undef), (D.getD 45 undef), (D.getD 46 undef), undef] H
noncomputable def f58.L2 (k : Nat) (n1 : Nat) (n2 : Nat) (a3 : Option Addr) (l3 : Nat) (c3 : Nat) (x5 : Int) (x6 : Int) (a8 : Option Addr) (l8 : Nat) (c8 : Nat) (x9 : Int) (x10 : Int) (D : List Value) (H : AHeap) : Option (Value × AHeap) :=
  iter (run Try.prog (C k) k (Sub (bodyOf Try.f58) [1, 1, 0, 1, 0, 0, 1, 1, 0, 0, 1, 1, 0, 0, 0])) (f58.Q7 k n1) n2 [(D.getD 0 undef), undef, (D.getD 1 undef), .slice a3 l3 c3, undef, .int .i64 x5, .int .i64 x6, (D.getD 2 undef), .slice a8 l8 c8, .int .i64 x9, .int .i64 x10, (D.getD 3 undef), (D.getD 4 undef), (D.getD 5 undef), (D.getD 6 undef), (D.getD 7 undef), (D.getD 8 undef), (D.getD 9 undef), (D.getD 10 undef), (D.getD 11 undef), (D.getD 12 undef), (D.getD 13 undef), (D.getD 14 undef), (D.getD 15 undef), (D.getD 16 undef), (D.getD 17 undef), (D.getD 18 undef), (D.getD 19 undef), (D.getD 20 undef), (D.getD 21 undef), (D.getD 22 undef), (D.getD 23 undef), (D.getD 24 undef), (D.getD 25 undef), (D.getD 26 undef), (D.getD 27 undef), (D.getD 28 undef), (D.getD 29 undef), (D.getD 30 undef), (D.getD 31 undef), (D.getD 32 undef), (D.getD 33 undef), (D.getD 34 undef), (D.getD 35 undef), (D.getD 36 undef), (D.getD 37 undef), (D.getD 38 undef), (D.getD 39 undef), (D.getD 40 undef), (D.getD 41 undef), (D.getD 42 undef), (D.getD 43 undef), (D.getD 44 undef), undef] H
noncomputable def f58.K1 (k : Nat) (n1 : Nat) (a3 : Option Addr) (l3 : Nat) (c3 : Nat) (x5 : Int) (x6 : Int) (a8 : Option Addr) (l8 : Nat) (c8 : Nat) (x9 : Int) (x10 : Int) (D : List Value) (H : AHeap) : Option (Value × AHeap) :=
  gateC (Sub (bodyOf Try.f58) [1, 1, 0, 1, 0, 0, 1, 1, 0, 0, 1, 1, 1, 0]) (Sub (bodyOf Try.f58) [1, 1, 0, 1, 0, 0, 1, 1, 0, 0, 1, 1, 1, 1]) k (run Try.prog (C k) k (Sub (bodyOf Try.f58) [1, 1, 0, 1, 0, 0, 1, 1, 0, 0, 1, 1, 1, 1]) (f58.Q5 k n1)) [(D.getD 0 undef), undef, (D.getD 1 undef), .slice a3 l3 c3, undef, .int .i64 x5, .int .i64 x6, (D.getD 2 undef), .slice a8 l8 c8, .int .i64 x9, .int .i64 x10, (D.getD 3 undef), (D.getD 4 undef), (D.getD 5 undef), (D.getD 6 undef), (D.getD 7 undef), (D.getD 8 undef), (D.getD 9 undef), (D.getD 10 undef), (D.getD 11 undef), (D.getD 12 undef), (D.getD 13 undef), (D.getD 14 undef), (D.getD 15 undef), (D.getD 16 undef), (D.getD 17 undef), (D.getD 18 undef), (D.getD 19 undef), (D.getD 20 undef), (D.getD 21 undef), (D.getD 22 undef), (D.getD 23 undef), (D.getD 24 undef), (D.getD 25 undef), (D.getD 26 undef), (D.getD 27 undef), (D.getD 28 undef), (D.getD 29 undef), (D.getD 30 undef), (D.getD 31 undef), (D.getD 32 undef), (D.getD 33 undef), (D.getD 34 undef), (D.getD 35 undef), (D.getD 36 undef), (D.getD 37 undef), (D.getD 38 undef), (D.getD 39 undef), (D.getD 40 undef), (D.getD 41 undef), (D.getD 42 undef), (D.getD 43 undef), (D.getD 44 undef), undef] H
theorem f58.L1_z (k : Nat)  (a3 : Option Addr) (l3 : Nat) (c3 : Nat) (a8 : Option Addr) (l8 : Nat) (c8 : Nat) (x9 : Int) (x10 : Int) (D : List Value) (H : AHeap) : f58.L1 k 0 a3 l3 c3 a8 l8 c8 x9 x10 D H = none := by kernel_rfl
theorem f58.L1_s (k : Nat) (n1 : Nat) (a3 : Option Addr) (l3 : Nat) (c3 : Nat) (a8 : Option Addr) (l8 : Nat) (c8 : Nat) (x9 : Int) (x10 : Int) (D : List Value) (H : AHeap) : f58.L1 k (n1 + 1) a3 l3 c3 a8 l8 c8 x9 x10 D H =
  (bif (decide (x10 < x9)) then
   a8.bind fun q =>
   if 0 ≤ x10 ∧ x10 < (l8 : Int) then
   (ldI .i64 H q.block (q.off + x10.toNat * 1)).bind fun x =>
   f58.L2 k n1 k a3 l3 c3 x 0 a8 l8 c8 x9 x10 [(D.getD 0 undef), (D.getD 1 undef), (D.getD 4 undef), .bool (decide (x10 < x9)), .pointer (some ⟨q.block, q.off + x10.toNat * 1, none⟩), .int .i64 x, (D.getD 8 undef), (D.getD 9 undef), (D.getD 10 undef), (D.getD 11 undef), (D.getD 12 undef), (D.getD 13 undef), (D.getD 14 undef), (D.getD 15 undef), (D.getD 16 undef), (D.getD 17 undef), (D.getD 18 undef), (D.getD 19 undef), (D.getD 20 undef), (D.getD 21 undef), (D.getD 22 undef), (D.getD 23 undef), (D.getD 24 undef), (D.getD 25 undef), (D.getD 26 undef), (D.getD 27 undef), (D.getD 28 undef), (D.getD 29 undef), (D.getD 30 undef), (D.getD 31 undef), (D.getD 32 undef), (D.getD 33 undef), (D.getD 34 undef), (D.getD 35 undef), (D.getD 36 undef), (D.getD 37 undef), (D.getD 38 undef), (D.getD 39 undef), (D.getD 40 undef), (D.getD 41 undef), (D.getD 42 undef), (D.getD 43 undef), (D.getD 44 undef), (D.getD 45 undef), (D.getD 46 undef)] H
   else none
   else
   some (.slice a3 l3 c3, H)) := by kernel_rfl
theorem f58.L2_z (k : Nat) (n1 : Nat) (a3 : Option Addr) (l3 : Nat) (c3 : Nat) (x5 : Int) (x6 : Int) (a8 : Option Addr) (l8 : Nat) (c8 : Nat) (x9 : Int) (x10 : Int) (D : List Value) (H : AHeap) : f58.L2 k n1 0 a3 l3 c3 x5 x6 a8 l8 c8 x9 x10 D H = none := by kernel_rfl
theorem f58.L2_s (k : Nat) (n1 : Nat) (n2 : Nat) (a3 : Option Addr) (l3 : Nat) (c3 : Nat) (x5 : Int) (x6 : Int) (a8 : Option Addr) (l8 : Nat) (c8 : Nat) (x9 : Int) (x10 : Int) (D : List Value) (H : AHeap) : f58.L2 k n1 (n2 + 1) a3 l3 c3 x5 x6 a8 l8 c8 x9 x10 D H =
  (bif (decide (x6 < (l3 : Int))) then
   a3.bind fun q =>
   if 0 ≤ x6 ∧ x6 < (l3 : Int) then
   (ldI .i64 H q.block (q.off + x6.toNat * 1)).bind fun x =>
   bif (decide (x < x5)) then
   f58.L2 k n1 n2 a3 l3 c3 x5 (IntKind.i64.wrap (x6 + (1 : Int))) a8 l8 c8 x9 x10 [(D.getD 0 undef), (D.getD 1 undef), (D.getD 2 undef), (D.getD 3 undef), (D.getD 4 undef), (D.getD 5 undef), .int .i64 x6, .slice a3 l3 c3, .int .i64 (l3 : Int), .bool (decide (x6 < (l3 : Int))), .bool true, .slice a3 l3 c3, .int .i64 x6, .pointer (some ⟨q.block, q.off + x6.toNat * 1, none⟩), .int .i64 x, .int .i64 x5, .bool (decide (x < x5)), .bool (decide (x < x5)), .int .i64 x6, .int .i64 (IntKind.i64.wrap (x6 + (1 : Int))), (D.getD 20 undef), (D.getD 21 undef), (D.getD 22 undef), (D.getD 23 undef), (D.getD 24 undef), (D.getD 25 undef), (D.getD 26 undef), (D.getD 27 undef), (D.getD 28 undef), (D.getD 29 undef), (D.getD 30 undef), (D.getD 31 undef), (D.getD 32 undef), (D.getD 33 undef), (D.getD 34 undef), (D.getD 35 undef), (D.getD 36 undef), (D.getD 37 undef), (D.getD 38 undef), (D.getD 39 undef), (D.getD 40 undef), (D.getD 41 undef), (D.getD 42 undef), (D.getD 43 undef), (D.getD 44 undef)] H
   else
   bif (decide (x6 < (l3 : Int))) then
   a3.bind fun q_1 =>
   if 0 ≤ x6 ∧ x6 < (l3 : Int) then
   (ldI .i64 H q_1.block (q_1.off + x6.toNat * 1)).bind fun x_1 =>
   bif (x_1 == x5) then
   f58.L1 k n1 a3 l3 c3 a8 l8 c8 x9 (IntKind.i64.wrap (x10 + (1 : Int))) [(D.getD 0 undef), (D.getD 1 undef), .int .i64 x5, .int .i64 x6, (D.getD 2 undef), (D.getD 3 undef), (D.getD 4 undef), (D.getD 5 undef), .int .i64 x6, .slice a3 l3 c3, .int .i64 (l3 : Int), .bool (decide (x6 < (l3 : Int))), .bool true, .slice a3 l3 c3, .int .i64 x6, .pointer (some ⟨q.block, q.off + x6.toNat * 1, none⟩), .int .i64 x, .int .i64 x5, .bool (decide (x < x5)), .bool (decide (x < x5)), (D.getD 18 undef), (D.getD 19 undef), .int .i64 x6, .slice a3 l3 c3, .int .i64 (l3 : Int), .bool (decide (x6 < (l3 : Int))), .bool true, .slice a3 l3 c3, .int .i64 x6, .pointer (some ⟨q_1.block, q_1.off + x6.toNat * 1, none⟩), .int .i64 x_1, .int .i64 x5, .bool (x_1 == x5), .bool (x_1 == x5), (D.getD 32 undef), (D.getD 33 undef), (D.getD 34 undef), (D.getD 35 undef), (D.getD 36 undef), (D.getD 37 undef), (D.getD 38 undef), (D.getD 39 undef), (D.getD 40 undef), (D.getD 41 undef), (D.getD 42 undef), (D.getD 43 undef), .int .i64 (IntKind.i64.wrap (x10 + (1 : Int)))] H
   else
   f58.K1 k n1 a3 l3 c3 x5 x6 a8 l8 c8 x9 x10 [(D.getD 0 undef), (D.getD 1 undef), (D.getD 2 undef), (D.getD 3 undef), (D.getD 4 undef), (D.getD 5 undef), .int .i64 x6, .slice a3 l3 c3, .int .i64 (l3 : Int), .bool (decide (x6 < (l3 : Int))), .bool true, .slice a3 l3 c3, .int .i64 x6, .pointer (some ⟨q.block, q.off + x6.toNat * 1, none⟩), .int .i64 x, .int .i64 x5, .bool (decide (x < x5)), .bool (decide (x < x5)), (D.getD 18 undef), (D.getD 19 undef), .int .i64 x6, .slice a3 l3 c3, .int .i64 (l3 : Int), .bool (decide (x6 < (l3 : Int))), .bool true, .slice a3 l3 c3, .int .i64 x6, .pointer (some ⟨q_1.block, q_1.off + x6.toNat * 1, none⟩), .int .i64 x_1, .int .i64 x5, .bool (x_1 == x5), .bool (x_1 == x5), (D.getD 32 undef), (D.getD 33 undef), (D.getD 34 undef), (D.getD 35 undef), (D.getD 36 undef), (D.getD 37 undef), (D.getD 38 undef), (D.getD 39 undef), (D.getD 40 undef), (D.getD 41 undef), (D.getD 42 undef), (D.getD 43 undef), (D.getD 44 undef)] H
   else none
   else
   f58.K1 k n1 a3 l3 c3 x5 x6 a8 l8 c8 x9 x10 [(D.getD 0 undef), (D.getD 1 undef), (D.getD 2 undef), (D.getD 3 undef), (D.getD 4 undef), (D.getD 5 undef), .int .i64 x6, .slice a3 l3 c3, .int .i64 (l3 : Int), .bool (decide (x6 < (l3 : Int))), .bool true, .slice a3 l3 c3, .int .i64 x6, .pointer (some ⟨q.block, q.off + x6.toNat * 1, none⟩), .int .i64 x, .int .i64 x5, .bool (decide (x < x5)), .bool (decide (x < x5)), (D.getD 18 undef), (D.getD 19 undef), .int .i64 x6, .slice a3 l3 c3, .int .i64 (l3 : Int), .bool (decide (x6 < (l3 : Int))), .bool false, undef, undef, undef, undef, undef, undef, .bool false, (D.getD 32 undef), (D.getD 33 undef), (D.getD 34 undef), (D.getD 35 undef), (D.getD 36 undef), (D.getD 37 undef), (D.getD 38 undef), (D.getD 39 undef), (D.getD 40 undef), (D.getD 41 undef), (D.getD 42 undef), (D.getD 43 undef), (D.getD 44 undef)] H
   else none
   else
   bif (decide (x6 < (l3 : Int))) then
   a3.bind fun q_2 =>
   if 0 ≤ x6 ∧ x6 < (l3 : Int) then
   (ldI .i64 H q_2.block (q_2.off + x6.toNat * 1)).bind fun x_2 =>
   bif (x_2 == x5) then
   f58.L1 k n1 a3 l3 c3 a8 l8 c8 x9 (IntKind.i64.wrap (x10 + (1 : Int))) [(D.getD 0 undef), (D.getD 1 undef), .int .i64 x5, .int .i64 x6, (D.getD 2 undef), (D.getD 3 undef), (D.getD 4 undef), (D.getD 5 undef), .int .i64 x6, .slice a3 l3 c3, .int .i64 (l3 : Int), .bool (decide (x6 < (l3 : Int))), .bool false, undef, undef, undef, undef, undef, undef, .bool false, (D.getD 18 undef), (D.getD 19 undef), .int .i64 x6, .slice a3 l3 c3, .int .i64 (l3 : Int), .bool (decide (x6 < (l3 : Int))), .bool true, .slice a3 l3 c3, .int .i64 x6, .pointer (some ⟨q_2.block, q_2.off + x6.toNat * 1, none⟩), .int .i64 x_2, .int .i64 x5, .bool (x_2 == x5), .bool (x_2 == x5), (D.getD 32 undef), (D.getD 33 undef), (D.getD 34 undef), (D.getD 35 undef), (D.getD 36 undef), (D.getD 37 undef), (D.getD 38 undef), (D.getD 39 undef), (D.getD 40 undef), (D.getD 41 undef), (D.getD 42 undef), (D.getD 43 undef), .int .i64 (IntKind.i64.wrap (x10 + (1 : Int)))] H
   else
   f58.K1 k n1 a3 l3 c3 x5 x6 a8 l8 c8 x9 x10 [(D.getD 0 undef), (D.getD 1 undef), (D.getD 2 undef), (D.getD 3 undef), (D.getD 4 undef), (D.getD 5 undef), .int .i64 x6, .slice a3 l3 c3, .int .i64 (l3 : Int), .bool (decide (x6 < (l3 : Int))), .bool false, undef, undef, undef, undef, undef, undef, .bool false, (D.getD 18 undef), (D.getD 19 undef), .int .i64 x6, .slice a3 l3 c3, .int .i64 (l3 : Int), .bool (decide (x6 < (l3 : Int))), .bool true, .slice a3 l3 c3, .int .i64 x6, .pointer (some ⟨q_2.block, q_2.off + x6.toNat * 1, none⟩), .int .i64 x_2, .int .i64 x5, .bool (x_2 == x5), .bool (x_2 == x5), (D.getD 32 undef), (D.getD 33 undef), (D.getD 34 undef), (D.getD 35 undef), (D.getD 36 undef), (D.getD 37 undef), (D.getD 38 undef), (D.getD 39 undef), (D.getD 40 undef), (D.getD 41 undef), (D.getD 42 undef), (D.getD 43 undef), (D.getD 44 undef)] H
   else none
   else
   f58.K1 k n1 a3 l3 c3 x5 x6 a8 l8 c8 x9 x10 [(D.getD 0 undef), (D.getD 1 undef), (D.getD 2 undef), (D.getD 3 undef), (D.getD 4 undef), (D.getD 5 undef), .int .i64 x6, .slice a3 l3 c3, .int .i64 (l3 : Int), .bool (decide (x6 < (l3 : Int))), .bool false, undef, undef, undef, undef, undef, undef, .bool false, (D.getD 18 undef), (D.getD 19 undef), .int .i64 x6, .slice a3 l3 c3, .int .i64 (l3 : Int), .bool (decide (x6 < (l3 : Int))), .bool false, undef, undef, undef, undef, undef, undef, .bool false, (D.getD 32 undef), (D.getD 33 undef), (D.getD 34 undef), (D.getD 35 undef), (D.getD 36 undef), (D.getD 37 undef), (D.getD 38 undef), (D.getD 39 undef), (D.getD 40 undef), (D.getD 41 undef), (D.getD 42 undef), (D.getD 43 undef), (D.getD 44 undef)] H) := by kernel_rfl
theorem f58.K1_eq (k : Nat) (n1 : Nat) (a3 : Option Addr) (l3 : Nat) (c3 : Nat) (x5 : Int) (x6 : Int) (a8 : Option Addr) (l8 : Nat) (c8 : Nat) (x9 : Int) (x10 : Int) (D : List Value) (H : AHeap) : f58.K1 k n1 a3 l3 c3 x5 x6 a8 l8 c8 x9 x10 D H =
  (alK none H ⟨[.int .i64 x5], 1, .rw, 0⟩ fun i H_1 =>
   bSl (cutSl 1 a3 l3 c3 (some x6) none none) fun a l c =>
   cSl (apndV Try.prog [26, 26] H_1 (.slice (some ⟨i, 0, none⟩) 1 1) (.slice a l c)) fun a_1 l_1 c_1 H_2 =>
   bSl (cutSl 1 a3 l3 c3 none (some x6) (some x6)) fun a_2 l_2 c_2 =>
   cSl (apndV Try.prog [26, 26] H_2 (.slice a_2 l_2 c_2) (.slice a_1 l_1 c_1)) fun a_3 l_3 c_3 H_3 =>
   f58.L1 k n1 a_3 l_3 c_3 a8 l8 c8 x9 (IntKind.i64.wrap (x10 + (1 : Int))) [(D.getD 0 undef), (D.getD 1 undef), .int .i64 x5, .int .i64 x6, .slice a_1 l_1 c_1, (D.getD 3 undef), (D.getD 4 undef), (D.getD 5 undef), (D.getD 6 undef), (D.getD 7 undef), (D.getD 8 undef), (D.getD 9 undef), (D.getD 10 undef), (D.getD 11 undef), (D.getD 12 undef), (D.getD 13 undef), (D.getD 14 undef), (D.getD 15 undef), (D.getD 16 undef), (D.getD 17 undef), (D.getD 18 undef), (D.getD 19 undef), (D.getD 20 undef), (D.getD 21 undef), (D.getD 22 undef), (D.getD 23 undef), (D.getD 24 undef), (D.getD 25 undef), (D.getD 26 undef), (D.getD 27 undef), (D.getD 28 undef), (D.getD 29 undef), (D.getD 30 undef), (D.getD 31 undef), .int .i64 x5, .slice (some ⟨i, 0, none⟩) 1 1, .slice a3 l3 c3, .int .i64 x6, .slice a l c, .slice a_1 l_1 c_1, .slice a3 l3 c3, .int .i64 x6, .int .i64 x6, .slice a_2 l_2 c_2, .slice a_1 l_1 c_1, .slice a_3 l_3 c_3, .int .i64 (IntKind.i64.wrap (x10 + (1 : Int)))] H_3) := by
  unfold f58.K1
  rw [gateC_eq]
  kernel_rfl
theorem f58_eq (k : Nat) (a0 : Option Addr) (l0 : Nat) (c0 : Nat) (H : AHeap) : C (k + 1) 58 [.slice a0 l0 c0] H =
  (f58.L1 k k none 0 0 a0 l0 c0 (l0 : Int) 0 [.slice a0 l0 c0, .slice none 0 0, undef, undef, undef, undef, undef, undef, undef, undef, undef, undef, undef, undef, undef, undef, undef, undef, undef, undef, undef, undef, undef, undef, undef, undef, undef, undef, undef, undef, undef, undef, undef, undef, undef, undef, undef, undef, undef, undef, undef, undef, undef, undef, undef, undef, undef] H) := by kernel_rfl

/- f60 "interleave/lockset.Excludes$1"  names: 0:x 1:y 2:x 3:y -/
theorem f60_eq (k : Nat) (a0_0 : Option Addr) (l0_0 : Nat) (c0_0 : Nat) (a0_1 : Option Addr) (l0_1 : Nat) (c0_1 : Nat) (a1_0 : Option Addr) (l1_0 : Nat) (c1_0 : Nat) (a1_1 : Option Addr) (l1_1 : Nat) (c1_1 : Nat) (H : AHeap) : C (k + 1) 60 [.agg #[.slice a0_0 l0_0 c0_0, .slice a0_1 l0_1 c0_1], .agg #[.slice a1_0 l1_0 c1_0, .slice a1_1 l1_1 c1_1]] H =
  (alK none H ⟨[.slice a0_0 l0_0 c0_0, .slice a0_1 l0_1 c0_1], 0, .rw, 0⟩ fun i H_1 =>
   alK none H_1 ⟨[.slice a1_0 l1_0 c1_0, .slice a1_1 l1_1 c1_1], 0, .rw, 0⟩ fun i_1 H_2 =>
   bSl (ldSl H_2 i (0)) fun a l c =>
   cB (C k 61 [.slice a l c, .func (.func 62) #[] #[.pointer (some ⟨i_1, 0, none⟩)]] H_2) fun b H_3 =>
   some (.bool b, H_3)) := by kernel_rfl

/- f61 "slices.ContainsFunc[[]int,int]"  names: 0:s 1:f 2:s 3:f -/
theorem f61_eq (k : Nat) (a0 : Option Addr) (l0 : Nat) (c0 : Nat) (v1 : Value) (H : AHeap) : C (k + 1) 61 [.slice a0 l0 c0, v1] H =
  (cI .i64 (C k 86 [.slice a0 l0 c0, v1] H) fun x H_1 =>
   some (.bool (decide (x ≥ (0 : Int))), H_1)) := by kernel_rfl

/- f62 "interleave/lockset.Excludes$1$1"  names: 0:l 2:l -/
theorem f62_eq (k : Nat) (x0 : Int) (pc0 : Nat) (H : AHeap) : C (k + 1) 62 [.int .i64 x0, .pointer (some ⟨pc0, 0, none⟩)] H =
  (bSl (ldSl H pc0 (0)) fun a l c =>
   cB (C k 63 [.slice a l c, .int .i64 x0] H) fun b H_1 =>
   bif b then
   some (.bool true, H_1)
   else
   bSl (ldSl H_1 pc0 (1)) fun a_1 l_1 c_1 =>
   cB (C k 63 [.slice a_1 l_1 c_1, .int .i64 x0] H_1) fun b_1 H_2 =>
   some (.bool b_1, H_2)) := by kernel_rfl

/- f63 "slices.Contains[[]int,int]"  names: 0:s 1:v 2:s 3:v -/
theorem f63_eq (k : Nat) (a0 : Option Addr) (l0 : Nat) (c0 : Nat) (x1 : Int) (H : AHeap) : C (k + 1) 63 [.slice a0 l0 c0, .int .i64 x1] H =
  (cI .i64 (C k 87 [.slice a0 l0 c0, .int .i64 x1] H) fun x H_1 =>
   some (.bool (decide (x ≥ (0 : Int))), H_1)) := by kernel_rfl

/- f81x85 "slices.DeleteFunc[[]int,int]"  names: 0:s 1:del 2:s 3:del 5:i 6:j 7:v -/
noncomputable def f81x85.Q0 (k : Nat)  : Kont (Value × AHeap) := retQ Try.prog Try.f81
noncomputable def f81x85.Q1 (k : Nat)  : Kont (Value × AHeap) := seqQ (gateC (Sub (bodyOf Try.f81) [1, 1, 1, 0]) (Sub (bodyOf Try.f81) [1, 1, 1, 1]) k (run Try.prog (C k) k (Sub (bodyOf Try.f81) [1, 1, 1, 1]) (f81x85.Q0 k ))) (f81x85.Q0 k )
noncomputable def f81x85.Q2 (k : Nat)  : Kont (Value × AHeap) := blkQ 0 (f81x85.Q1 k )
noncomputable def f81x85.L1 (k : Nat) (n1 : Nat) (a0 : Option Addr) (l0 : Nat) (c0 : Nat) (p1_0 : Nat) (x5 : Int) (x6 : Int) (D : List Value) (H : AHeap) : Option (Value × AHeap) :=
  iter (run Try.prog (C k) k (Sub (bodyOf Try.f81) [1, 1, 1, 0, 1, 0, 0])) (f81x85.Q2 k ) n1 [.slice a0 l0 c0, .func (.func 85) #[] #[.pointer (some ⟨p1_0, 0, none⟩)], undef, undef, (D.getD 0 undef), .int .i64 x5, .int .i64 x6, (D.getD 1 undef), (D.getD 2 undef), (D.getD 3 undef), (D.getD 4 undef), (D.getD 5 undef), (D.getD 6 undef), undef, (D.getD 7 undef), (D.getD 8 undef), (D.getD 9 undef), (D.getD 10 undef), (D.getD 11 undef), (D.getD 12 undef), (D.getD 13 undef), (D.getD 14 undef), (D.getD 15 undef), (D.getD 16 undef), (D.getD 17 undef), (D.getD 18 undef), (D.getD 19 undef), (D.getD 20 undef), (D.getD 21 undef), (D.getD 22 undef), (D.getD 23 undef), (D.getD 24 undef), (D.getD 25 undef), (D.getD 26 undef), (D.getD 27 undef), (D.getD 28 undef), undef, undef, undef, undef, undef, undef] H
theorem f81x85.L1_z (k : Nat)  (a0 : Option Addr) (l0 : Nat) (c0 : Nat) (p1_0 : Nat) (x5 : Int) (x6 : Int) (D : List Value) (H : AHeap) : f81x85.L1 k 0 a0 l0 c0 p1_0 x5 x6 D H = none := by kernel_rfl
theorem f81x85.L1_s (k : Nat) (n1 : Nat) (a0 : Option Addr) (l0 : Nat) (c0 : Nat) (p1_0 : Nat) (x5 : Int) (x6 : Int) (D : List Value) (H : AHeap) : f81x85.L1 k (n1 + 1) a0 l0 c0 p1_0 x5 x6 D H =
  (bif (decide (x6 < (l0 : Int))) then
   a0.bind fun q =>
   if 0 ≤ x6 ∧ x6 < (l0 : Int) then
   (ldI .i64 H q.block (q.off + x6.toNat * 1)).bind fun x =>
   cB (C k 85 [.int .i64 x, .pointer (some ⟨p1_0, 0, none⟩)] H) fun b H_1 =>
   bif (!b) then
   a0.bind fun q_1 =>
   if 0 ≤ x5 ∧ x5 < (l0 : Int) then
   (AHeap.wr H_1 q_1.block (q_1.off + x5.toNat * 1) [.int .i64 x]).bind fun H_2 =>
   f81x85.L1 k n1 a0 l0 c0 p1_0 (IntKind.i64.wrap (x5 + (1 : Int))) (IntKind.i64.wrap (x6 + (1 : Int))) [(D.getD 0 undef), .int .i64 x, (D.getD 2 undef), (D.getD 3 undef), (D.getD 4 undef), (D.getD 5 undef), (D.getD 6 undef), (D.getD 7 undef), (D.getD 8 undef), .int .i64 x6, .slice a0 l0 c0, .int .i64 (l0 : Int), .bool (decide (x6 < (l0 : Int))), .int .i64 x6, .int .i64 (IntKind.i64.wrap (x6 + (1 : Int))), .slice a0 l0 c0, .int .i64 x6, .pointer (some ⟨q.block, q.off + x6.toNat * 1, none⟩), .int .i64 x, .func (.func 85) #[] #[.pointer (some ⟨p1_0, 0, none⟩)], .int .i64 x, .bool b, .bool (!b), .slice a0 l0 c0, .int .i64 x5, .int .i64 x, .pointer (some ⟨q_1.block, q_1.off + x5.toNat * 1, none⟩), .int .i64 x5, .int .i64 (IntKind.i64.wrap (x5 + (1 : Int)))] H_2
   else none
   else
   f81x85.L1 k n1 a0 l0 c0 p1_0 x5 (IntKind.i64.wrap (x6 + (1 : Int))) [(D.getD 0 undef), .int .i64 x, (D.getD 2 undef), (D.getD 3 undef), (D.getD 4 undef), (D.getD 5 undef), (D.getD 6 undef), (D.getD 7 undef), (D.getD 8 undef), .int .i64 x6, .slice a0 l0 c0, .int .i64 (l0 : Int), .bool (decide (x6 < (l0 : Int))), .int .i64 x6, .int .i64 (IntKind.i64.wrap (x6 + (1 : Int))), .slice a0 l0 c0, .int .i64 x6, .pointer (some ⟨q.block, q.off + x6.toNat * 1, none⟩), .int .i64 x, .func (.func 85) #[] #[.pointer (some ⟨p1_0, 0, none⟩)], .int .i64 x, .bool b, .bool (!b), (D.getD 23 undef), (D.getD 24 undef), (D.getD 25 undef), (D.getD 26 undef), (D.getD 27 undef), (D.getD 28 undef)] H_1
   else none
   else
   bSl (cutSl 1 a0 l0 c0 (some x5) none none) fun a l c =>
   (clearV Try.prog [26] H (.slice a l c)).bind fun H_3 =>
   bSl (cutSl 1 a0 l0 c0 none (some x5) none) fun a_1 l_1 c_1 =>
   some (.slice a_1 l_1 c_1, H_3)) := by kernel_rfl
theorem f81x85_eq (k : Nat) (a0 : Option Addr) (l0 : Nat) (c0 : Nat) (pc0 : Nat) (H : AHeap) : C (k + 1) 81 [.slice a0 l0 c0, .func (.func 85) #[] #[.pointer (some ⟨pc0, 0, none⟩)]] H =
  (cI .i64 (C k 86 [.slice a0 l0 c0, .func (.func 85) #[] #[.pointer (some ⟨pc0, 0, none⟩)]] H) fun x H_1 =>
   bif (x == ((-1) : Int)) then
   some (.slice a0 l0 c0, H_1)
   else
   f81x85.L1 k k a0 l0 c0 pc0 x (IntKind.i64.wrap (x + (1 : Int))) [.slice none 0 0, undef, .slice a0 l0 c0, .func (.func 85) #[] #[.pointer (some ⟨pc0, 0, none⟩)], .int .i64 x, .int .i64 x, .bool (x == ((-1) : Int)), .int .i64 x, .int .i64 (IntKind.i64.wrap (x + (1 : Int))), undef, undef, undef, undef, undef, undef, undef, undef, undef, undef, undef, undef, undef, undef, undef, undef, undef, undef, undef, undef] H_1) := by kernel_rfl

/- f84 "slices.Compact[[]int,int]"  names: 0:s 1:s 3:k 4:s2 5:k2 -/
noncomputable def f84.Q0 (k : Nat)  : Kont (Value × AHeap) := retQ Try.prog Try.f84
noncomputable def f84.Q1 (k : Nat)  : Kont (Value × AHeap) := seqQ (gateC (Sub (bodyOf Try.f84) [1, 1, 0]) (Sub (bodyOf Try.f84) [1, 1, 1]) k (run Try.prog (C k) k (Sub (bodyOf Try.f84) [1, 1, 1]) (f84.Q0 k ))) (f84.Q0 k )
noncomputable def f84.Q2 (k : Nat)  : Kont (Value × AHeap) := blkQ 0 (f84.Q1 k )
noncomputable def f84.Q3 (k : Nat) (n1 : Nat) : Kont (Value × AHeap) := seqQ (iter (run Try.prog (C k) k (Sub (bodyOf Try.f84) [1, 1, 0, 1, 0, 0])) (f84.Q2 k ) n1) (f84.Q2 k )
noncomputable def f84.Q4 (k : Nat) (n1 : Nat) : Kont (Value × AHeap) := seqQ (gateC (Sub (bodyOf Try.f84) [1, 1, 0, 1, 0, 0, 1, 0]) (Sub (bodyOf Try.f84) [1, 1, 0, 1, 0, 0, 1, 1]) k (run Try.prog (C k) k (Sub (bodyOf Try.f84) [1, 1, 0, 1, 0, 0, 1, 1]) (f84.Q3 k n1))) (f84.Q3 k n1)
noncomputable def f84.Q5 (k : Nat) (n1 : Nat) : Kont (Value × AHeap) := blkQ 1 (f84.Q4 k n1)
noncomputable def f84.Q6 (k : Nat) (n1 : Nat) : Kont (Value × AHeap) := seqQ (gateC (Sub (bodyOf Try.f84) [1, 1, 0, 1, 0, 0, 1, 0, 0, 1, 0, 1, 0]) (Sub (bodyOf Try.f84) [1, 1, 0, 1, 0, 0, 1, 0, 0, 1, 0, 1, 1]) k (run Try.prog (C k) k (Sub (bodyOf Try.f84) [1, 1, 0, 1, 0, 0, 1, 0, 0, 1, 0, 1, 1]) (f84.Q5 k n1))) (f84.Q5 k n1)
noncomputable def f84.Q7 (k : Nat) (n1 : Nat) : Kont (Value × AHeap) := blkQ 2 (f84.Q6 k n1)
noncomputable def f84.L1 (k : Nat) (n1 : Nat) (a0 : Option Addr) (l0 : Nat) (c0 : Nat) (x3 : Int) (D : List Value) (H : AHeap) : Option (Value × AHeap) :=
  iter (run Try.prog (C k) k (Sub (bodyOf Try.f84) [1, 1, 0, 1, 0, 0])) (f84.Q2 k ) n1 [.slice a0 l0 c0, undef, (D.getD 0 undef), .int .i64 x3, undef, undef, (D.getD 1 undef), (D.getD 2 undef), (D.getD 3 undef), undef, (D.getD 4 undef), (D.getD 5 undef), (D.getD 6 undef), (D.getD 7 undef), (D.getD 8 undef), (D.getD 9 undef), (D.getD 10 undef), (D.getD 11 undef), (D.getD 12 undef), (D.getD 13 undef), (D.getD 14 undef), (D.getD 15 undef), (D.getD 16 undef), (D.getD 17 undef), (D.getD 18 undef), (D.getD 19 undef), undef, undef, undef, undef, undef, undef, undef, undef, undef, undef, undef, undef, undef, undef, undef, undef, undef, undef, undef, undef, undef, undef, undef, undef, undef, undef, undef, undef, undef, undef, undef, undef, undef, undef, undef] H
noncomputable def f84.L2 (k : Nat) (n1 : Nat) (n2 : Nat) (a0 : Option Addr) (l0 : Nat) (c0 : Nat) (x3 : Int) (a4 : Option Addr) (l4 : Nat) (c4 : Nat) (x5 : Int) (D : List Value) (H : AHeap) : Option (Value × AHeap) :=
  iter (run Try.prog (C k) k (Sub (bodyOf Try.f84) [1, 1, 0, 1, 0, 0, 1, 0, 0, 1, 0, 1, 0, 1, 0, 0])) (f84.Q7 k n1) n2 [.slice a0 l0 c0, undef, (D.getD 0 undef), .int .i64 x3, .slice a4 l4 c4, .int .i64 x5, (D.getD 1 undef), (D.getD 2 undef), (D.getD 3 undef), undef, (D.getD 4 undef), (D.getD 5 undef), (D.getD 6 undef), (D.getD 7 undef), (D.getD 8 undef), (D.getD 9 undef), (D.getD 10 undef), (D.getD 11 undef), (D.getD 12 undef), (D.getD 13 undef), (D.getD 14 undef), (D.getD 15 undef), (D.getD 16 undef), (D.getD 17 undef), (D.getD 18 undef), (D.getD 19 undef), (D.getD 20 undef), (D.getD 21 undef), (D.getD 22 undef), (D.getD 23 undef), (D.getD 24 undef), (D.getD 25 undef), (D.getD 26 undef), (D.getD 27 undef), (D.getD 28 undef), (D.getD 29 undef), (D.getD 30 undef), (D.getD 31 undef), (D.getD 32 undef), (D.getD 33 undef), (D.getD 34 undef), (D.getD 35 undef), (D.getD 36 undef), (D.getD 37 undef), (D.getD 38 undef), (D.getD 39 undef), (D.getD 40 undef), (D.getD 41 undef), (D.getD 42 undef), (D.getD 43 undef), (D.getD 44 undef), (D.getD 45 undef), (D.getD 46 undef), (D.getD 47 undef), undef, undef, undef, undef, undef, undef, undef] H
theorem f84.L1_z (k : Nat)  (a0 : Option Addr) (l0 : Nat) (c0 : Nat) (x3 : Int) (D : List Value) (H : AHeap) : f84.L1 k 0 a0 l0 c0 x3 D H = none := by kernel_rfl
theorem f84.L1_s (k : Nat) (n1 : Nat) (a0 : Option Addr) (l0 : Nat) (c0 : Nat) (x3 : Int) (D : List Value) (H : AHeap) : f84.L1 k (n1 + 1) a0 l0 c0 x3 D H =
  (bif (decide (x3 < (l0 : Int))) then
   a0.bind fun q =>
   if 0 ≤ x3 ∧ x3 < (l0 : Int) then
   bif sameB H (H.bump 10) q.block then
   (ldI .i64 (H.bump 10) q.block (q.off + x3.toNat * 1)).bind fun x =>
   a0.bind fun q_1 =>
   if 0 ≤ (IntKind.i64.wrap (x3 - (1 : Int))) ∧ (IntKind.i64.wrap (x3 - (1 : Int))) < (l0 : Int) then
   bif sameB H (H.bump 10) q_1.block then
   (ldI .i64 (H.bump 10) q_1.block (q_1.off + (IntKind.i64.wrap (x3 - (1 : Int))).toNat * 1)).bind fun x_1 =>
   bif (x == x_1) then
   bSl (cutSl 1 a0 l0 c0 (some x3) none none) fun a l c =>
   f84.L2 k n1 k a0 l0 c0 x3 a l c 1 [(D.getD 0 undef), (D.getD 1 undef), (D.getD 2 undef), (D.getD 3 undef), .int .i64 x3, .slice a0 l0 c0, .int .i64 (l0 : Int), .bool (decide (x3 < (l0 : Int))), (D.getD 8 undef), (D.getD 9 undef), .slice a0 l0 c0, .int .i64 x3, .pointer (some ⟨q.block, q.off + x3.toNat * 1, none⟩), .int .i64 x, .slice a0 l0 c0, .int .i64 x3, .int .i64 (IntKind.i64.wrap (x3 - (1 : Int))), .pointer (some ⟨q_1.block, q_1.off + (IntKind.i64.wrap (x3 - (1 : Int))).toNat * 1, none⟩), .int .i64 x_1, .bool (x == x_1), .slice a0 l0 c0, .int .i64 x3, .slice a l c, undef, undef, undef, undef, undef, undef, undef, undef, undef, undef, undef, undef, undef, undef, undef, undef, undef, undef, undef, undef, undef, undef, undef, undef, undef] (H.bump 10)
   else
   f84.L1 k n1 a0 l0 c0 (IntKind.i64.wrap (x3 + (1 : Int))) [(D.getD 0 undef), (D.getD 1 undef), (D.getD 2 undef), (D.getD 3 undef), .int .i64 x3, .slice a0 l0 c0, .int .i64 (l0 : Int), .bool (decide (x3 < (l0 : Int))), .int .i64 x3, .int .i64 (IntKind.i64.wrap (x3 + (1 : Int))), .slice a0 l0 c0, .int .i64 x3, .pointer (some ⟨q.block, q.off + x3.toNat * 1, none⟩), .int .i64 x, .slice a0 l0 c0, .int .i64 x3, .int .i64 (IntKind.i64.wrap (x3 - (1 : Int))), .pointer (some ⟨q_1.block, q_1.off + (IntKind.i64.wrap (x3 - (1 : Int))).toNat * 1, none⟩), .int .i64 x_1, .bool (x == x_1)] (H.bump 10)
   else none
   else none
   else none
   else none
   else
   some (.slice a0 l0 c0, H)) := by kernel_rfl
theorem f84.L2_z (k : Nat) (n1 : Nat) (a0 : Option Addr) (l0 : Nat) (c0 : Nat) (x3 : Int) (a4 : Option Addr) (l4 : Nat) (c4 : Nat) (x5 : Int) (D : List Value) (H : AHeap) : f84.L2 k n1 0 a0 l0 c0 x3 a4 l4 c4 x5 D H = none := by kernel_rfl
theorem f84.L2_s (k : Nat) (n1 : Nat) (n2 : Nat) (a0 : Option Addr) (l0 : Nat) (c0 : Nat) (x3 : Int) (a4 : Option Addr) (l4 : Nat) (c4 : Nat) (x5 : Int) (D : List Value) (H : AHeap) : f84.L2 k n1 (n2 + 1) a0 l0 c0 x3 a4 l4 c4 x5 D H =
  (bif (decide (x5 < (l4 : Int))) then
   a4.bind fun q =>
   if 0 ≤ x5 ∧ x5 < (l4 : Int) then
   bif sameB H (H.bump 10) q.block then
   (ldI .i64 (H.bump 10) q.block (q.off + x5.toNat * 1)).bind fun x =>
   a4.bind fun q_1 =>
   if 0 ≤ (IntKind.i64.wrap (x5 - (1 : Int))) ∧ (IntKind.i64.wrap (x5 - (1 : Int))) < (l4 : Int) then
   bif sameB H (H.bump 10) q_1.block then
   (ldI .i64 (H.bump 10) q_1.block (q_1.off + (IntKind.i64.wrap (x5 - (1 : Int))).toNat * 1)).bind fun x_1 =>
   bif (x != x_1) then
   a4.bind fun q_2 =>
   if 0 ≤ x5 ∧ x5 < (l4 : Int) then
   (ldI .i64 (H.bump 10) q_2.block (q_2.off + x5.toNat * 1)).bind fun x_2 =>
   a0.bind fun q_3 =>
   if 0 ≤ x3 ∧ x3 < (l0 : Int) then
   (AHeap.wr (H.bump 10) q_3.block (q_3.off + x3.toNat * 1) [.int .i64 x_2]).bind fun H_1 =>
   f84.L2 k n1 n2 a0 l0 c0 (IntKind.i64.wrap (x3 + (1 : Int))) a4 l4 c4 (IntKind.i64.wrap (x5 + (1 : Int))) [(D.getD 0 undef), (D.getD 1 undef), (D.getD 2 undef), (D.getD 3 undef), (D.getD 4 undef), (D.getD 5 undef), (D.getD 6 undef), (D.getD 7 undef), (D.getD 8 undef), (D.getD 9 undef), (D.getD 10 undef), (D.getD 11 undef), (D.getD 12 undef), (D.getD 13 undef), (D.getD 14 undef), (D.getD 15 undef), (D.getD 16 undef), (D.getD 17 undef), (D.getD 18 undef), (D.getD 19 undef), (D.getD 20 undef), (D.getD 21 undef), (D.getD 22 undef), .int .i64 x5, .slice a4 l4 c4, .int .i64 (l4 : Int), .bool (decide (x5 < (l4 : Int))), .int .i64 x5, .int .i64 (IntKind.i64.wrap (x5 + (1 : Int))), .slice a4 l4 c4, .int .i64 x5, .pointer (some ⟨q.block, q.off + x5.toNat * 1, none⟩), .int .i64 x, .slice a4 l4 c4, .int .i64 x5, .int .i64 (IntKind.i64.wrap (x5 - (1 : Int))), .pointer (some ⟨q_1.block, q_1.off + (IntKind.i64.wrap (x5 - (1 : Int))).toNat * 1, none⟩), .int .i64 x_1, .bool (x != x_1), .slice a0 l0 c0, .int .i64 x3, .slice a4 l4 c4, .int .i64 x5, .pointer (some ⟨q_2.block, q_2.off + x5.toNat * 1, none⟩), .int .i64 x_2, .pointer (some ⟨q_3.block, q_3.off + x3.toNat * 1, none⟩), .int .i64 x3, .int .i64 (IntKind.i64.wrap (x3 + (1 : Int)))] H_1
   else none
   else none
   else
   f84.L2 k n1 n2 a0 l0 c0 x3 a4 l4 c4 (IntKind.i64.wrap (x5 + (1 : Int))) [(D.getD 0 undef), (D.getD 1 undef), (D.getD 2 undef), (D.getD 3 undef), (D.getD 4 undef), (D.getD 5 undef), (D.getD 6 undef), (D.getD 7 undef), (D.getD 8 undef), (D.getD 9 undef), (D.getD 10 undef), (D.getD 11 undef), (D.getD 12 undef), (D.getD 13 undef), (D.getD 14 undef), (D.getD 15 undef), (D.getD 16 undef), (D.getD 17 undef), (D.getD 18 undef), (D.getD 19 undef), (D.getD 20 undef), (D.getD 21 undef), (D.getD 22 undef), .int .i64 x5, .slice a4 l4 c4, .int .i64 (l4 : Int), .bool (decide (x5 < (l4 : Int))), .int .i64 x5, .int .i64 (IntKind.i64.wrap (x5 + (1 : Int))), .slice a4 l4 c4, .int .i64 x5, .pointer (some ⟨q.block, q.off + x5.toNat * 1, none⟩), .int .i64 x, .slice a4 l4 c4, .int .i64 x5, .int .i64 (IntKind.i64.wrap (x5 - (1 : Int))), .pointer (some ⟨q_1.block, q_1.off + (IntKind.i64.wrap (x5 - (1 : Int))).toNat * 1, none⟩), .int .i64 x_1, .bool (x != x_1), (D.getD 39 undef), (D.getD 40 undef), (D.getD 41 undef), (D.getD 42 undef), (D.getD 43 undef), (D.getD 44 undef), (D.getD 45 undef), (D.getD 46 undef), (D.getD 47 undef)] (H.bump 10)
   else none
   else none
   else none
   else none
   else
   bSl (cutSl 1 a0 l0 c0 (some x3) none none) fun a l c =>
   (clearV Try.prog [26] H (.slice a l c)).bind fun H_2 =>
   bSl (cutSl 1 a0 l0 c0 none (some x3) none) fun a_1 l_1 c_1 =>
   some (.slice a_1 l_1 c_1, H_2)) := by kernel_rfl
theorem f84_eq (k : Nat) (a0 : Option Addr) (l0 : Nat) (c0 : Nat) (H : AHeap) : C (k + 1) 84 [.slice a0 l0 c0] H =
  (bif (decide ((l0 : Int) < (2 : Int))) then
   some (.slice a0 l0 c0, H)
   else
   f84.L1 k k a0 l0 c0 1 [.slice none 0 0, .slice a0 l0 c0, .int .i64 (l0 : Int), .bool (decide ((l0 : Int) < (2 : Int))), undef, undef, undef, undef, undef, undef, undef, undef, undef, undef, undef, undef, undef, undef, undef, undef] H) := by kernel_rfl

/- f85 "interleave/lockset.both[int]$1"  names: 0:l 2:l -/
theorem f85_eq (k : Nat) (x0 : Int) (pc0 : Nat) (H : AHeap) : C (k + 1) 85 [.int .i64 x0, .pointer (some ⟨pc0, 0, none⟩)] H =
  (bSl (ldSl H pc0 (0)) fun a l c =>
   cB (C k 63 [.slice a l c, .int .i64 x0] H) fun b H_1 =>
   some (.bool (!b), H_1)) := by kernel_rfl

/- f86x62 "slices.IndexFunc[[]int,int]"  names: 0:s 1:f 2:s 3:f 5:i -/
noncomputable def f86x62.Q0 (k : Nat)  : Kont (Value × AHeap) := retQ Try.prog Try.f86
noncomputable def f86x62.Q1 (k : Nat)  : Kont (Value × AHeap) := seqQ (gateC (Sub (bodyOf Try.f86) [1, 0]) (Sub (bodyOf Try.f86) [1, 1]) k (run Try.prog (C k) k (Sub (bodyOf Try.f86) [1, 1]) (f86x62.Q0 k ))) (f86x62.Q0 k )
noncomputable def f86x62.Q2 (k : Nat)  : Kont (Value × AHeap) := blkQ 0 (f86x62.Q1 k )
noncomputable def f86x62.L1 (k : Nat) (n1 : Nat) (a0 : Option Addr) (l0 : Nat) (c0 : Nat) (p1_0 : Nat) (x7 : Int) (x8 : Int) (D : List Value) (H : AHeap) : Option (Value × AHeap) :=
  iter (run Try.prog (C k) k (Sub (bodyOf Try.f86) [1, 0, 1, 0, 0])) (f86x62.Q2 k ) n1 [.slice a0 l0 c0, .func (.func 62) #[] #[.pointer (some ⟨p1_0, 0, none⟩)], undef, undef, (D.getD 0 undef), (D.getD 1 undef), (D.getD 2 undef), .int .i64 x7, .int .i64 x8, (D.getD 3 undef), (D.getD 4 undef), (D.getD 5 undef), (D.getD 6 undef), (D.getD 7 undef), (D.getD 8 undef), (D.getD 9 undef), (D.getD 10 undef), undef, (D.getD 11 undef)] H
theorem f86x62.L1_z (k : Nat)  (a0 : Option Addr) (l0 : Nat) (c0 : Nat) (p1_0 : Nat) (x7 : Int) (x8 : Int) (D : List Value) (H : AHeap) : f86x62.L1 k 0 a0 l0 c0 p1_0 x7 x8 D H = none := by kernel_rfl
theorem f86x62.L1_s (k : Nat) (n1 : Nat) (a0 : Option Addr) (l0 : Nat) (c0 : Nat) (p1_0 : Nat) (x7 : Int) (x8 : Int) (D : List Value) (H : AHeap) : f86x62.L1 k (n1 + 1) a0 l0 c0 p1_0 x7 x8 D H =
  (bif (decide (x8 < x7)) then
   a0.bind fun q =>
   if 0 ≤ x8 ∧ x8 < (l0 : Int) then
   (ldI .i64 H q.block (q.off + x8.toNat * 1)).bind fun x =>
   cB (C k 62 [.int .i64 x, .pointer (some ⟨p1_0, 0, none⟩)] H) fun b H_1 =>
   bif b then
   some (.int .i64 x8, H_1)
   else
   f86x62.L1 k n1 a0 l0 c0 p1_0 x7 (IntKind.i64.wrap (x8 + (1 : Int))) [(D.getD 0 undef), .int .i64 x8, (D.getD 2 undef), .bool (decide (x8 < x7)), .int .i64 x8, .func (.func 62) #[] #[.pointer (some ⟨p1_0, 0, none⟩)], .slice a0 l0 c0, .int .i64 x8, .pointer (some ⟨q.block, q.off + x8.toNat * 1, none⟩), .int .i64 x, .bool b, .int .i64 (IntKind.i64.wrap (x8 + (1 : Int)))] H_1
   else none
   else
   some (.int .i64 (-1), H)) := by kernel_rfl
theorem f86x62_eq (k : Nat) (a0 : Option Addr) (l0 : Nat) (c0 : Nat) (pc0 : Nat) (H : AHeap) : C (k + 1) 86 [.slice a0 l0 c0, .func (.func 62) #[] #[.pointer (some ⟨pc0, 0, none⟩)]] H =
  (f86x62.L1 k k a0 l0 c0 pc0 (l0 : Int) 0 [.int .i64 0, undef, .slice a0 l0 c0, undef, undef, undef, undef, undef, undef, undef, undef, undef] H) := by kernel_rfl

/- f87 "slices.Index[[]int,int]"  names: 0:s 1:v 2:s 3:v 5:i -/
noncomputable def f87.Q0 (k : Nat)  : Kont (Value × AHeap) := retQ Try.prog Try.f87
noncomputable def f87.Q1 (k : Nat)  : Kont (Value × AHeap) := seqQ (gateC (Sub (bodyOf Try.f87) [1, 0]) (Sub (bodyOf Try.f87) [1, 1]) k (run Try.prog (C k) k (Sub (bodyOf Try.f87) [1, 1]) (f87.Q0 k ))) (f87.Q0 k )
noncomputable def f87.Q2 (k : Nat)  : Kont (Value × AHeap) := blkQ 0 (f87.Q1 k )
noncomputable def f87.L1 (k : Nat) (n1 : Nat) (a0 : Option Addr) (l0 : Nat) (c0 : Nat) (x1 : Int) (x7 : Int) (x8 : Int) (D : List Value) (H : AHeap) : Option (Value × AHeap) :=
  iter (run Try.prog (C k) k (Sub (bodyOf Try.f87) [1, 0, 1, 0, 0])) (f87.Q2 k ) n1 [.slice a0 l0 c0, .int .i64 x1, undef, undef, (D.getD 0 undef), (D.getD 1 undef), (D.getD 2 undef), .int .i64 x7, .int .i64 x8, (D.getD 3 undef), (D.getD 4 undef), (D.getD 5 undef), (D.getD 6 undef), (D.getD 7 undef), (D.getD 8 undef), (D.getD 9 undef), (D.getD 10 undef), undef, (D.getD 11 undef)] H
theorem f87.L1_z (k : Nat)  (a0 : Option Addr) (l0 : Nat) (c0 : Nat) (x1 : Int) (x7 : Int) (x8 : Int) (D : List Value) (H : AHeap) : f87.L1 k 0 a0 l0 c0 x1 x7 x8 D H = none := by kernel_rfl
theorem f87.L1_s (k : Nat) (n1 : Nat) (a0 : Option Addr) (l0 : Nat) (c0 : Nat) (x1 : Int) (x7 : Int) (x8 : Int) (D : List Value) (H : AHeap) : f87.L1 k (n1 + 1) a0 l0 c0 x1 x7 x8 D H =
  (bif (decide (x8 < x7)) then
   a0.bind fun q =>
   if 0 ≤ x8 ∧ x8 < (l0 : Int) then
   (ldI .i64 H q.block (q.off + x8.toNat * 1)).bind fun x =>
   bif (x1 == x) then
   some (.int .i64 x8, H)
   else
   f87.L1 k n1 a0 l0 c0 x1 x7 (IntKind.i64.wrap (x8 + (1 : Int))) [(D.getD 0 undef), .int .i64 x8, (D.getD 2 undef), .bool (decide (x8 < x7)), .int .i64 x8, .int .i64 x1, .slice a0 l0 c0, .int .i64 x8, .pointer (some ⟨q.block, q.off + x8.toNat * 1, none⟩), .int .i64 x, .bool (x1 == x), .int .i64 (IntKind.i64.wrap (x8 + (1 : Int)))] H
   else none
   else
   some (.int .i64 (-1), H)) := by kernel_rfl
theorem f87_eq (k : Nat) (a0 : Option Addr) (l0 : Nat) (c0 : Nat) (x1 : Int) (H : AHeap) : C (k + 1) 87 [.slice a0 l0 c0, .int .i64 x1] H =
  (f87.L1 k k a0 l0 c0 x1 (l0 : Int) 0 [.int .i64 0, undef, .slice a0 l0 c0, undef, undef, undef, undef, undef, undef, undef, undef, undef] H) := by kernel_rfl

/- f29 "interleave/interleaveref27.Has"  names: 0:l 1:n 2:l 3:n 5:_ 6:x -/
noncomputable def f29.Q0 (k : Nat)  : Kont (Value × AHeap) := retQ Try.prog Try.f29
noncomputable def f29.Q1 (k : Nat)  : Kont (Value × AHeap) := seqQ (gateC (Sub (bodyOf Try.f29) [1, 0]) (Sub (bodyOf Try.f29) [1, 1]) k (run Try.prog (C k) k (Sub (bodyOf Try.f29) [1, 1]) (f29.Q0 k ))) (f29.Q0 k )
noncomputable def f29.Q2 (k : Nat)  : Kont (Value × AHeap) := blkQ 0 (f29.Q1 k )
noncomputable def f29.L1 (k : Nat) (n1 : Nat) (x1 : Int) (a7 : Option Addr) (l7 : Nat) (c7 : Nat) (x8 : Int) (x9 : Int) (D : List Value) (H : AHeap) : Option (Value × AHeap) :=
  iter (run Try.prog (C k) k (Sub (bodyOf Try.f29) [1, 0, 1, 0, 0])) (f29.Q2 k ) n1 [(D.getD 0 undef), .int .i64 x1, undef, undef, (D.getD 1 undef), undef, (D.getD 2 undef), .slice a7 l7 c7, .int .i64 x8, .int .i64 x9, (D.getD 3 undef), (D.getD 4 undef), (D.getD 5 undef), (D.getD 6 undef), (D.getD 7 undef), (D.getD 8 undef), (D.getD 9 undef)] H
theorem f29.L1_z (k : Nat)  (x1 : Int) (a7 : Option Addr) (l7 : Nat) (c7 : Nat) (x8 : Int) (x9 : Int) (D : List Value) (H : AHeap) : f29.L1 k 0 x1 a7 l7 c7 x8 x9 D H = none := by kernel_rfl
theorem f29.L1_s (k : Nat) (n1 : Nat) (x1 : Int) (a7 : Option Addr) (l7 : Nat) (c7 : Nat) (x8 : Int) (x9 : Int) (D : List Value) (H : AHeap) : f29.L1 k (n1 + 1) x1 a7 l7 c7 x8 x9 D H =
  (bif (decide (x9 < x8)) then
   a7.bind fun q =>
   if 0 ≤ x9 ∧ x9 < (l7 : Int) then
   (ldI .i64 H q.block (q.off + x9.toNat * 1)).bind fun x =>
   bif (x == x1) then
   some (.bool true, H)
   else
   f29.L1 k n1 x1 a7 l7 c7 x8 (IntKind.i64.wrap (x9 + (1 : Int))) [(D.getD 0 undef), (D.getD 1 undef), .int .i64 x, .bool (decide (x9 < x8)), .pointer (some ⟨q.block, q.off + x9.toNat * 1, none⟩), .int .i64 x, .int .i64 x, .int .i64 x1, .bool (x == x1), .int .i64 (IntKind.i64.wrap (x9 + (1 : Int)))] H
   else none
   else
   some (.bool false, H)) := by kernel_rfl
theorem f29_eq (k : Nat) (a0 : Option Addr) (l0 : Nat) (c0 : Nat) (x1 : Int) (H : AHeap) : C (k + 1) 29 [.slice a0 l0 c0, .int .i64 x1] H =
  (f29.L1 k k x1 a0 l0 c0 (l0 : Int) 0 [.slice a0 l0 c0, .bool false, undef, undef, undef, undef, undef, undef, undef, undef] H) := by kernel_rfl

/- f30 "interleave/interleaveref27.Excludes"  names: 0:a 1:b 2:a 3:b 5:_ 6:x 7:_ 8:x -/
noncomputable def f30.Q0 (k : Nat)  : Kont (Value × AHeap) := retQ Try.prog Try.f30
noncomputable def f30.Q1 (k : Nat)  : Kont (Value × AHeap) := seqQ (gateC (Sub (bodyOf Try.f30) [1, 0]) (Sub (bodyOf Try.f30) [1, 1]) k (run Try.prog (C k) k (Sub (bodyOf Try.f30) [1, 1]) (f30.Q0 k ))) (f30.Q0 k )
noncomputable def f30.Q2 (k : Nat)  : Kont (Value × AHeap) := blkQ 0 (f30.Q1 k )
noncomputable def f30.Q3 (k : Nat)  : Kont (Value × AHeap) := seqQ (gateC (Sub (bodyOf Try.f30) [1, 1, 0]) (Sub (bodyOf Try.f30) [1, 1, 1]) k (run Try.prog (C k) k (Sub (bodyOf Try.f30) [1, 1, 1]) (f30.Q0 k ))) (f30.Q0 k )
noncomputable def f30.Q4 (k : Nat)  : Kont (Value × AHeap) := blkQ 2 (f30.Q3 k )
noncomputable def f30.L1 (k : Nat) (n1 : Nat) (p2 : Nat) (p3 : Nat) (a10 : Option Addr) (l10 : Nat) (c10 : Nat) (x11 : Int) (x12 : Int) (D : List Value) (H : AHeap) : Option (Value × AHeap) :=
  iter (run Try.prog (C k) k (Sub (bodyOf Try.f30) [1, 0, 1, 0, 0])) (f30.Q2 k ) n1 [(D.getD 0 undef), (D.getD 1 undef), .pointer (some ⟨p2, 0, none⟩), .pointer (some ⟨p3, 0, none⟩), (D.getD 2 undef), undef, (D.getD 3 undef), undef, undef, (D.getD 4 undef), .slice a10 l10 c10, .int .i64 x11, .int .i64 x12, (D.getD 5 undef), (D.getD 6 undef), (D.getD 7 undef), (D.getD 8 undef), (D.getD 9 undef), (D.getD 10 undef), (D.getD 11 undef), (D.getD 12 undef), (D.getD 13 undef), (D.getD 14 undef), (D.getD 15 undef), (D.getD 16 undef), (D.getD 17 undef), (D.getD 18 undef), undef, undef, undef, undef, undef, undef, undef, undef, undef, undef, undef, undef] H
noncomputable def f30.L2 (k : Nat) (n1 : Nat) (p2 : Nat) (a28 : Option Addr) (l28 : Nat) (c28 : Nat) (x29 : Int) (x30 : Int) (D : List Value) (H : AHeap) : Option (Value × AHeap) :=
  iter (run Try.prog (C k) k (Sub (bodyOf Try.f30) [1, 1, 0, 1, 0, 0])) (f30.Q4 k ) n1 [(D.getD 0 undef), (D.getD 1 undef), .pointer (some ⟨p2, 0, none⟩), (D.getD 2 undef), (D.getD 3 undef), undef, (D.getD 4 undef), undef, (D.getD 5 undef), (D.getD 6 undef), (D.getD 7 undef), (D.getD 8 undef), (D.getD 9 undef), (D.getD 10 undef), (D.getD 11 undef), (D.getD 12 undef), (D.getD 13 undef), (D.getD 14 undef), (D.getD 15 undef), (D.getD 16 undef), (D.getD 17 undef), (D.getD 18 undef), (D.getD 19 undef), (D.getD 20 undef), (D.getD 21 undef), (D.getD 22 undef), (D.getD 23 undef), (D.getD 24 undef), .slice a28 l28 c28, .int .i64 x29, .int .i64 x30, (D.getD 25 undef), (D.getD 26 undef), (D.getD 27 undef), (D.getD 28 undef), (D.getD 29 undef), (D.getD 30 undef), (D.getD 31 undef), (D.getD 32 undef)] H
theorem f30.L1_z (k : Nat)  (p2 : Nat) (p3 : Nat) (a10 : Option Addr) (l10 : Nat) (c10 : Nat) (x11 : Int) (x12 : Int) (D : List Value) (H : AHeap) : f30.L1 k 0 p2 p3 a10 l10 c10 x11 x12 D H = none := by kernel_rfl
theorem f30.L1_s (k : Nat) (n1 : Nat) (p2 : Nat) (p3 : Nat) (a10 : Option Addr) (l10 : Nat) (c10 : Nat) (x11 : Int) (x12 : Int) (D : List Value) (H : AHeap) : f30.L1 k (n1 + 1) p2 p3 a10 l10 c10 x11 x12 D H =
  (bif (decide (x12 < x11)) then
   a10.bind fun q =>
   if 0 ≤ x12 ∧ x12 < (l10 : Int) then
   (ldI .i64 H q.block (q.off + x12.toNat * 1)).bind fun x =>
   bSl (ldSl H p3 (0)) fun a l c =>
   cB (C k 29 [.slice a l c, .int .i64 x] H) fun b H_1 =>
   bif b then
   some (.bool true, H_1)
   else
   bSl (ldSl H_1 p3 (1)) fun a_1 l_1 c_1 =>
   cB (C k 29 [.slice a_1 l_1 c_1, .int .i64 x] H_1) fun b_1 H_2 =>
   bif b_1 then
   some (.bool true, H_2)
   else
   f30.L1 k n1 p2 p3 a10 l10 c10 x11 (IntKind.i64.wrap (x12 + (1 : Int))) [(D.getD 0 undef), (D.getD 1 undef), (D.getD 2 undef), .int .i64 x, (D.getD 4 undef), .bool (decide (x12 < x11)), .pointer (some ⟨q.block, q.off + x12.toNat * 1, none⟩), .int .i64 x, .pointer (some ⟨p3, 0, none⟩), .slice a l c, .int .i64 x, .bool b, .bool false, .pointer (some ⟨p3, 1, none⟩), .slice a_1 l_1 c_1, .int .i64 x, .bool b_1, .bool b_1, .int .i64 (IntKind.i64.wrap (x12 + (1 : Int)))] H_2
   else none
   else
   bSl (ldSl H p3 (0)) fun a_2 l_2 c_2 =>
   f30.L2 k k p2 a_2 l_2 c_2 (l_2 : Int) 0 [(D.getD 0 undef), (D.getD 1 undef), .pointer (some ⟨p3, 0, none⟩), (D.getD 2 undef), (D.getD 3 undef), undef, (D.getD 4 undef), .slice a10 l10 c10, .int .i64 x11, .int .i64 x12, .bool (decide (x12 < x11)), (D.getD 6 undef), (D.getD 7 undef), (D.getD 8 undef), (D.getD 9 undef), (D.getD 10 undef), (D.getD 11 undef), (D.getD 12 undef), (D.getD 13 undef), (D.getD 14 undef), (D.getD 15 undef), (D.getD 16 undef), (D.getD 17 undef), (D.getD 18 undef), .pointer (some ⟨p3, 0, none⟩), undef, undef, undef, undef, undef, undef, undef, undef] H) := by kernel_rfl
theorem f30.L2_z (k : Nat)  (p2 : Nat) (a28 : Option Addr) (l28 : Nat) (c28 : Nat) (x29 : Int) (x30 : Int) (D : List Value) (H : AHeap) : f30.L2 k 0 p2 a28 l28 c28 x29 x30 D H = none := by kernel_rfl
theorem f30.L2_s (k : Nat) (n1 : Nat) (p2 : Nat) (a28 : Option Addr) (l28 : Nat) (c28 : Nat) (x29 : Int) (x30 : Int) (D : List Value) (H : AHeap) : f30.L2 k (n1 + 1) p2 a28 l28 c28 x29 x30 D H =
  (bif (decide (x30 < x29)) then
   a28.bind fun q =>
   if 0 ≤ x30 ∧ x30 < (l28 : Int) then
   (ldI .i64 H q.block (q.off + x30.toNat * 1)).bind fun x =>
   bSl (ldSl H p2 (1)) fun a l c =>
   cB (C k 29 [.slice a l c, .int .i64 x] H) fun b H_1 =>
   bif b then
   some (.bool true, H_1)
   else
   f30.L2 k n1 p2 a28 l28 c28 x29 (IntKind.i64.wrap (x30 + (1 : Int))) [(D.getD 0 undef), (D.getD 1 undef), (D.getD 2 undef), (D.getD 3 undef), (D.getD 4 undef), .int .i64 x, (D.getD 6 undef), (D.getD 7 undef), (D.getD 8 undef), (D.getD 9 undef), (D.getD 10 undef), (D.getD 11 undef), (D.getD 12 undef), (D.getD 13 undef), (D.getD 14 undef), (D.getD 15 undef), (D.getD 16 undef), (D.getD 17 undef), (D.getD 18 undef), (D.getD 19 undef), (D.getD 20 undef), (D.getD 21 undef), (D.getD 22 undef), (D.getD 23 undef), (D.getD 24 undef), .bool (decide (x30 < x29)), .pointer (some ⟨q.block, q.off + x30.toNat * 1, none⟩), .int .i64 x, .pointer (some ⟨p2, 1, none⟩), .slice a l c, .int .i64 x, .bool b, .int .i64 (IntKind.i64.wrap (x30 + (1 : Int)))] H_1
   else none
   else
   some (.bool false, H)) := by kernel_rfl
theorem f30_eq (k : Nat) (a0_0 : Option Addr) (l0_0 : Nat) (c0_0 : Nat) (a0_1 : Option Addr) (l0_1 : Nat) (c0_1 : Nat) (a1_0 : Option Addr) (l1_0 : Nat) (c1_0 : Nat) (a1_1 : Option Addr) (l1_1 : Nat) (c1_1 : Nat) (H : AHeap) : C (k + 1) 30 [.agg #[.slice a0_0 l0_0 c0_0, .slice a0_1 l0_1 c0_1], .agg #[.slice a1_0 l1_0 c1_0, .slice a1_1 l1_1 c1_1]] H =
  (alK none H ⟨[.slice a0_0 l0_0 c0_0, .slice a0_1 l0_1 c0_1], 0, .rw, 0⟩ fun i H_1 =>
   alK none H_1 ⟨[.slice a1_0 l1_0 c1_0, .slice a1_1 l1_1 c1_1], 0, .rw, 0⟩ fun i_1 H_2 =>
   bSl (ldSl H_2 i (0)) fun a l c =>
   f30.L1 k k i i_1 a l c (l : Int) 0 [.agg #[.slice a0_0 l0_0 c0_0, .slice a0_1 l0_1 c0_1], .agg #[.slice a1_0 l1_0 c1_0, .slice a1_1 l1_1 c1_1], .bool false, undef, .pointer (some ⟨i, 0, none⟩), undef, undef, undef, undef, undef, undef, undef, undef, undef, undef, undef, undef, undef, undef] H_2) := by kernel_rfl

/- f31 "interleave/lockset.Excludes"  names: 0:a 1:b 2:a 3:b 5:shares -/
theorem f31_eq (k : Nat) (a0_0 : Option Addr) (l0_0 : Nat) (c0_0 : Nat) (a0_1 : Option Addr) (l0_1 : Nat) (c0_1 : Nat) (a1_0 : Option Addr) (l1_0 : Nat) (c1_0 : Nat) (a1_1 : Option Addr) (l1_1 : Nat) (c1_1 : Nat) (H : AHeap) : C (k + 1) 31 [.agg #[.slice a0_0 l0_0 c0_0, .slice a0_1 l0_1 c0_1], .agg #[.slice a1_0 l1_0 c1_0, .slice a1_1 l1_1 c1_1]] H =
  (alK none H ⟨[.slice a0_0 l0_0 c0_0, .slice a0_1 l0_1 c0_1], 0, .rw, 0⟩ fun i H_1 =>
   alK none H_1 ⟨[.slice a1_0 l1_0 c1_0, .slice a1_1 l1_1 c1_1], 0, .rw, 0⟩ fun i_1 H_2 =>
   (AHeap.row H_2 i (0) 2).bind fun g =>
   (AHeap.row H_2 i_1 (0) 2).bind fun g_1 =>
   cB (C k 60 [.agg (g : List Value).toArray, .agg (g_1 : List Value).toArray] H_2) fun b H_3 =>
   bif b then
   some (.bool true, H_3)
   else
   (AHeap.row H_3 i_1 (0) 2).bind fun g_2 =>
   (AHeap.row H_3 i (0) 2).bind fun g_3 =>
   cB (C k 60 [.agg (g_2 : List Value).toArray, .agg (g_3 : List Value).toArray] H_3) fun b_1 H_4 =>
   some (.bool b_1, H_4)) := by kernel_rfl

/- f8 "interleave/interleavelaw28.LocksetExcludes"  names: 0:a 1:b 2:a 3:b 5:want -/
theorem f8_eq (k : Nat) (a0_0 : Option Addr) (l0_0 : Nat) (c0_0 : Nat) (a0_1 : Option Addr) (l0_1 : Nat) (c0_1 : Nat) (a1_0 : Option Addr) (l1_0 : Nat) (c1_0 : Nat) (a1_1 : Option Addr) (l1_1 : Nat) (c1_1 : Nat) (H : AHeap) : C (k + 1) 8 [.agg #[.slice a0_0 l0_0 c0_0, .slice a0_1 l0_1 c0_1], .agg #[.slice a1_0 l1_0 c1_0, .slice a1_1 l1_1 c1_1]] H =
  (alK none H ⟨[.slice a0_0 l0_0 c0_0, .slice a0_1 l0_1 c0_1], 0, .rw, 0⟩ fun i H_1 =>
   alK none H_1 ⟨[.slice a1_0 l1_0 c1_0, .slice a1_1 l1_1 c1_1], 0, .rw, 0⟩ fun i_1 H_2 =>
   bSl (ldSl H_2 i (0)) fun a l c =>
   bSl (ldSl H_2 i (1)) fun a_1 l_1 c_1 =>
   bSl (ldSl H_2 i_1 (0)) fun a_2 l_2 c_2 =>
   bSl (ldSl H_2 i_1 (1)) fun a_3 l_3 c_3 =>
   bif (decide ((IntKind.i64.wrap ((IntKind.i64.wrap ((IntKind.i64.wrap ((l : Int) + (l_1 : Int))) + (l_2 : Int))) + (l_3 : Int))) > (100 : Int))) then
   cB (C k 28 [] H_2) fun b H_3 =>
   some (.bool b, H_3)
   else
   (AHeap.row H_2 i (0) 2).bind fun g =>
   (AHeap.row H_2 i_1 (0) 2).bind fun g_1 =>
   cB (C k 30 [.agg (g : List Value).toArray, .agg (g_1 : List Value).toArray] H_2) fun b_1 H_4 =>
   (AHeap.row H_4 i (0) 2).bind fun g_2 =>
   (AHeap.row H_4 i_1 (0) 2).bind fun g_3 =>
   cB (C k 31 [.agg (g_2 : List Value).toArray, .agg (g_3 : List Value).toArray] H_4) fun b_2 H_5 =>
   bif (b_2 == b_1) then
   (AHeap.row H_5 i_1 (0) 2).bind fun g_4 =>
   (AHeap.row H_5 i (0) 2).bind fun g_5 =>
   cB (C k 31 [.agg (g_4 : List Value).toArray, .agg (g_5 : List Value).toArray] H_5) fun b_3 H_6 =>
   bif (b_3 == b_1) then
   cB (C k 28 [] H_6) fun b_4 H_7 =>
   some (.bool b_4, H_7)
   else
   some (.bool false, H_6)
   else
   some (.bool false, H_5)) := by kernel_rfl

end Go.Proofs.MxF
end

section
set_option linter.unusedSimpArgs false
/- Functions of the program as the machine comes to them: printed by a program of this workplace (px.py); the kernel checks each line. -/
set_option linter.unusedVariables false
namespace Go.Proofs.MxF
open Go Go.Mx Go.Proofs

/- f86x85 "slices.IndexFunc[[]int,int]"  names: 0:s 1:f 2:s 3:f 5:i -/
noncomputable def f86x85.Q0 (k : Nat)  : Kont (Value × AHeap) := retQ Try.prog Try.f86
noncomputable def f86x85.Q1 (k : Nat)  : Kont (Value × AHeap) := seqQ (gateC (Sub (bodyOf Try.f86) [1, 0]) (Sub (bodyOf Try.f86) [1, 1]) k (run Try.prog (C k) k (Sub (bodyOf Try.f86) [1, 1]) (f86x85.Q0 k ))) (f86x85.Q0 k )
noncomputable def f86x85.Q2 (k : Nat)  : Kont (Value × AHeap) := blkQ 0 (f86x85.Q1 k )
noncomputable def f86x85.L1 (k : Nat) (n1 : Nat) (a0 : Option Addr) (l0 : Nat) (c0 : Nat) (p1_0 : Nat) (x7 : Int) (x8 : Int) (D : List Value) (H : AHeap) : Option (Value × AHeap) :=
  iter (run Try.prog (C k) k (Sub (bodyOf Try.f86) [1, 0, 1, 0, 0])) (f86x85.Q2 k ) n1 [.slice a0 l0 c0, .func (.func 85) #[] #[.pointer (some ⟨p1_0, 0, none⟩)], undef, undef, (D.getD 0 undef), (D.getD 1 undef), (D.getD 2 undef), .int .i64 x7, .int .i64 x8, (D.getD 3 undef), (D.getD 4 undef), (D.getD 5 undef), (D.getD 6 undef), (D.getD 7 undef), (D.getD 8 undef), (D.getD 9 undef), (D.getD 10 undef), undef, (D.getD 11 undef)] H
theorem f86x85.L1_z (k : Nat)  (a0 : Option Addr) (l0 : Nat) (c0 : Nat) (p1_0 : Nat) (x7 : Int) (x8 : Int) (D : List Value) (H : AHeap) : f86x85.L1 k 0 a0 l0 c0 p1_0 x7 x8 D H = none := by kernel_rfl
theorem f86x85.L1_s (k : Nat) (n1 : Nat) (a0 : Option Addr) (l0 : Nat) (c0 : Nat) (p1_0 : Nat) (x7 : Int) (x8 : Int) (D : List Value) (H : AHeap) : f86x85.L1 k (n1 + 1) a0 l0 c0 p1_0 x7 x8 D H =
  (bif (decide (x8 < x7)) then
   a0.bind fun q =>
   if 0 ≤ x8 ∧ x8 < (l0 : Int) then
   (ldI .i64 H q.block (q.off + x8.toNat * 1)).bind fun x =>
   cB (C k 85 [.int .i64 x, .pointer (some ⟨p1_0, 0, none⟩)] H) fun b H_1 =>
   bif b then
   some (.int .i64 x8, H_1)
   else
   f86x85.L1 k n1 a0 l0 c0 p1_0 x7 (IntKind.i64.wrap (x8 + (1 : Int))) [(D.getD 0 undef), .int .i64 x8, (D.getD 2 undef), .bool (decide (x8 < x7)), .int .i64 x8, .func (.func 85) #[] #[.pointer (some ⟨p1_0, 0, none⟩)], .slice a0 l0 c0, .int .i64 x8, .pointer (some ⟨q.block, q.off + x8.toNat * 1, none⟩), .int .i64 x, .bool b, .int .i64 (IntKind.i64.wrap (x8 + (1 : Int)))] H_1
   else none
   else
   some (.int .i64 (-1), H)) := by kernel_rfl
theorem f86x85_eq (k : Nat) (a0 : Option Addr) (l0 : Nat) (c0 : Nat) (pc0 : Nat) (H : AHeap) : C (k + 1) 86 [.slice a0 l0 c0, .func (.func 85) #[] #[.pointer (some ⟨pc0, 0, none⟩)]] H =
  (f86x85.L1 k k a0 l0 c0 pc0 (l0 : Int) 0 [.int .i64 0, undef, .slice a0 l0 c0, undef, undef, undef, undef, undef, undef, undef, undef, undef] H) := by kernel_rfl

end Go.Proofs.MxF
end

section
set_option linter.unusedSimpArgs false
/- Functions of the program as the machine comes to them: printed by a program of this workplace (px.py); the kernel checks each line. -/
set_option linter.unusedVariables false
namespace Go.Proofs.MxF
open Go Go.Mx Go.Proofs

/- f83 "slices.Sort[[]int,int]"  names: 0:x 1:x 2:n -/
theorem f83_eq (k : Nat) (a0 : Option Addr) (l0 : Nat) (c0 : Nat) (H : AHeap) : C (k + 1) 83 [.slice a0 l0 c0] H =
  (cI .i64 (C k 97 [.int .u64 (IntKind.u64.wrap (l0 : Int))] H) fun x H_1 =>
   cT (C k 96 [.slice a0 l0 c0, .int .i64 0, .int .i64 (l0 : Int), .int .i64 x] H_1) fun u H_2 =>
   some (.tuple #[], H_2)) := by kernel_rfl

/- f96 "slices.pdqsortOrdered[int]"  names:  -/
noncomputable def f96.Q0 (k : Nat)  : Kont (Value × AHeap) := retQ Try.prog Try.f96
noncomputable def f96.Q1 (k : Nat)  : Kont (Value × AHeap) := blkQ 0 (f96.Q0 k )
noncomputable def f96.Q2 (k : Nat) (n1 : Nat) : Kont (Value × AHeap) := seqQ (iter (run Try.prog (C k) k (Sub (bodyOf Try.f96) [1, 1, 0, 0])) (f96.Q1 k ) n1) (f96.Q1 k )
noncomputable def f96.Q3 (k : Nat) (n1 : Nat) : Kont (Value × AHeap) := blkQ 1 (f96.Q2 k n1)
noncomputable def f96.Q4 (k : Nat) (n1 : Nat) : Kont (Value × AHeap) := seqQ (gateC (Sub (bodyOf Try.f96) [1, 1, 0, 0, 0, 1, 1, 1, 1, 1, 1, 1, 0]) (Sub (bodyOf Try.f96) [1, 1, 0, 0, 0, 1, 1, 1, 1, 1, 1, 1, 1]) k (run Try.prog (C k) k (Sub (bodyOf Try.f96) [1, 1, 0, 0, 0, 1, 1, 1, 1, 1, 1, 1, 1]) (f96.Q3 k n1))) (f96.Q3 k n1)
noncomputable def f96.L1 (k : Nat) (n1 : Nat) (a0 : Option Addr) (l0 : Nat) (c0 : Nat) (x1 : Int) (x2 : Int) (x3 : Int) (b8 : Bool) (b9 : Bool) (D : List Value) (H : AHeap) : Option (Value × AHeap) :=
  iter (run Try.prog (C k) k (Sub (bodyOf Try.f96) [1, 1, 0, 0])) (f96.Q1 k ) n1 [.slice a0 l0 c0, .int .i64 x1, .int .i64 x2, .int .i64 x3, undef, undef, undef, undef, .bool b8, .bool b9, (D.getD 0 undef), (D.getD 1 undef), (D.getD 2 undef), (D.getD 3 undef), (D.getD 4 undef), (D.getD 5 undef), (D.getD 6 undef), (D.getD 7 undef), (D.getD 8 undef), (D.getD 9 undef), (D.getD 10 undef), (D.getD 11 undef), (D.getD 12 undef), (D.getD 13 undef), undef, undef, undef, undef, (D.getD 14 undef), (D.getD 15 undef), undef, undef, undef, undef, (D.getD 16 undef), (D.getD 17 undef), (D.getD 18 undef), (D.getD 19 undef), (D.getD 20 undef), (D.getD 21 undef), (D.getD 22 undef), (D.getD 23 undef), (D.getD 24 undef), (D.getD 25 undef), (D.getD 26 undef), (D.getD 27 undef), (D.getD 28 undef), (D.getD 29 undef), (D.getD 30 undef), (D.getD 31 undef), (D.getD 32 undef), (D.getD 33 undef), (D.getD 34 undef), (D.getD 35 undef), (D.getD 36 undef), (D.getD 37 undef), (D.getD 38 undef), (D.getD 39 undef), (D.getD 40 undef), (D.getD 41 undef), (D.getD 42 undef), (D.getD 43 undef), (D.getD 44 undef), (D.getD 45 undef), (D.getD 46 undef), (D.getD 47 undef), (D.getD 48 undef), (D.getD 49 undef), (D.getD 50 undef), (D.getD 51 undef), (D.getD 52 undef), (D.getD 53 undef), (D.getD 54 undef), (D.getD 55 undef), (D.getD 56 undef), (D.getD 57 undef), (D.getD 58 undef), (D.getD 59 undef), (D.getD 60 undef), (D.getD 61 undef), (D.getD 62 undef), (D.getD 63 undef), (D.getD 64 undef), (D.getD 65 undef), (D.getD 66 undef), (D.getD 67 undef), (D.getD 68 undef), (D.getD 69 undef), (D.getD 70 undef), (D.getD 71 undef), (D.getD 72 undef), (D.getD 73 undef), (D.getD 74 undef), (D.getD 75 undef), (D.getD 76 undef), (D.getD 77 undef), (D.getD 78 undef), (D.getD 79 undef), (D.getD 80 undef), (D.getD 81 undef), (D.getD 82 undef), (D.getD 83 undef), (D.getD 84 undef), (D.getD 85 undef), (D.getD 86 undef), (D.getD 87 undef), (D.getD 88 undef), (D.getD 89 undef), (D.getD 90 undef), (D.getD 91 undef), (D.getD 92 undef), (D.getD 93 undef), (D.getD 94 undef), (D.getD 95 undef), (D.getD 96 undef), (D.getD 97 undef), (D.getD 98 undef), (D.getD 99 undef), (D.getD 100 undef), (D.getD 101 undef), (D.getD 102 undef), (D.getD 103 undef), (D.getD 104 undef), (D.getD 105 undef), (D.getD 106 undef), (D.getD 107 undef), (D.getD 108 undef), (D.getD 109 undef), (D.getD 110 undef), (D.getD 111 undef), (D.getD 112 undef), (D.getD 113 undef), (D.getD 114 undef), (D.getD 115 undef)] H
noncomputable def f96.K1 (k : Nat) (n1 : Nat) (a0 : Option Addr) (l0 : Nat) (c0 : Nat) (x1 : Int) (x2 : Int) (x3 : Int) (b8 : Bool) (b9 : Bool) (x10 : Int) (D : List Value) (H : AHeap) : Option (Value × AHeap) :=
  gateC (Sub (bodyOf Try.f96) [1, 1, 0, 0, 0, 1, 1, 1, 0]) (Sub (bodyOf Try.f96) [1, 1, 0, 0, 0, 1, 1, 1, 1]) k (run Try.prog (C k) k (Sub (bodyOf Try.f96) [1, 1, 0, 0, 0, 1, 1, 1, 1]) (f96.Q3 k n1)) [.slice a0 l0 c0, .int .i64 x1, .int .i64 x2, .int .i64 x3, undef, undef, undef, undef, .bool b8, .bool b9, .int .i64 x10, (D.getD 0 undef), (D.getD 1 undef), (D.getD 2 undef), (D.getD 3 undef), (D.getD 4 undef), (D.getD 5 undef), (D.getD 6 undef), (D.getD 7 undef), (D.getD 8 undef), (D.getD 9 undef), (D.getD 10 undef), (D.getD 11 undef), (D.getD 12 undef), undef, undef, undef, undef, (D.getD 13 undef), (D.getD 14 undef), undef, undef, undef, undef, (D.getD 15 undef), (D.getD 16 undef), (D.getD 17 undef), (D.getD 18 undef), (D.getD 19 undef), (D.getD 20 undef), (D.getD 21 undef), (D.getD 22 undef), (D.getD 23 undef), (D.getD 24 undef), (D.getD 25 undef), (D.getD 26 undef), (D.getD 27 undef), (D.getD 28 undef), (D.getD 29 undef), (D.getD 30 undef), (D.getD 31 undef), (D.getD 32 undef), (D.getD 33 undef), (D.getD 34 undef), (D.getD 35 undef), (D.getD 36 undef), (D.getD 37 undef), (D.getD 38 undef), (D.getD 39 undef), (D.getD 40 undef), (D.getD 41 undef), (D.getD 42 undef), (D.getD 43 undef), (D.getD 44 undef), (D.getD 45 undef), (D.getD 46 undef), (D.getD 47 undef), (D.getD 48 undef), (D.getD 49 undef), (D.getD 50 undef), (D.getD 51 undef), (D.getD 52 undef), (D.getD 53 undef), (D.getD 54 undef), (D.getD 55 undef), (D.getD 56 undef), (D.getD 57 undef), (D.getD 58 undef), (D.getD 59 undef), (D.getD 60 undef), (D.getD 61 undef), (D.getD 62 undef), (D.getD 63 undef), (D.getD 64 undef), (D.getD 65 undef), (D.getD 66 undef), (D.getD 67 undef), (D.getD 68 undef), (D.getD 69 undef), (D.getD 70 undef), (D.getD 71 undef), (D.getD 72 undef), (D.getD 73 undef), (D.getD 74 undef), (D.getD 75 undef), (D.getD 76 undef), (D.getD 77 undef), (D.getD 78 undef), (D.getD 79 undef), (D.getD 80 undef), (D.getD 81 undef), (D.getD 82 undef), (D.getD 83 undef), (D.getD 84 undef), (D.getD 85 undef), (D.getD 86 undef), (D.getD 87 undef), (D.getD 88 undef), (D.getD 89 undef), (D.getD 90 undef), (D.getD 91 undef), (D.getD 92 undef), (D.getD 93 undef), (D.getD 94 undef), (D.getD 95 undef), (D.getD 96 undef), (D.getD 97 undef), (D.getD 98 undef), (D.getD 99 undef), (D.getD 100 undef), (D.getD 101 undef), (D.getD 102 undef), (D.getD 103 undef), (D.getD 104 undef), (D.getD 105 undef), (D.getD 106 undef), (D.getD 107 undef), (D.getD 108 undef), (D.getD 109 undef), (D.getD 110 undef), (D.getD 111 undef), (D.getD 112 undef), (D.getD 113 undef), (D.getD 114 undef)] H
noncomputable def f96.K2 (k : Nat) (n1 : Nat) (a0 : Option Addr) (l0 : Nat) (c0 : Nat) (x1 : Int) (x2 : Int) (x3 : Int) (b8 : Bool) (b9 : Bool) (x10 : Int) (x11 : Int) (x12 : Int) (D : List Value) (H : AHeap) : Option (Value × AHeap) :=
  gateC (Sub (bodyOf Try.f96) [1, 1, 0, 0, 0, 1, 1, 1, 1, 1, 0]) (Sub (bodyOf Try.f96) [1, 1, 0, 0, 0, 1, 1, 1, 1, 1, 1]) k (run Try.prog (C k) k (Sub (bodyOf Try.f96) [1, 1, 0, 0, 0, 1, 1, 1, 1, 1, 1]) (f96.Q3 k n1)) [.slice a0 l0 c0, .int .i64 x1, .int .i64 x2, .int .i64 x3, undef, undef, undef, undef, .bool b8, .bool b9, .int .i64 x10, .int .i64 x11, .int .i64 x12, (D.getD 0 undef), (D.getD 1 undef), (D.getD 2 undef), (D.getD 3 undef), (D.getD 4 undef), (D.getD 5 undef), (D.getD 6 undef), (D.getD 7 undef), (D.getD 8 undef), (D.getD 9 undef), (D.getD 10 undef), undef, undef, undef, undef, (D.getD 11 undef), (D.getD 12 undef), undef, undef, undef, undef, (D.getD 13 undef), (D.getD 14 undef), (D.getD 15 undef), (D.getD 16 undef), (D.getD 17 undef), (D.getD 18 undef), (D.getD 19 undef), (D.getD 20 undef), (D.getD 21 undef), (D.getD 22 undef), (D.getD 23 undef), (D.getD 24 undef), (D.getD 25 undef), (D.getD 26 undef), (D.getD 27 undef), (D.getD 28 undef), (D.getD 29 undef), (D.getD 30 undef), (D.getD 31 undef), (D.getD 32 undef), (D.getD 33 undef), (D.getD 34 undef), (D.getD 35 undef), (D.getD 36 undef), (D.getD 37 undef), (D.getD 38 undef), (D.getD 39 undef), (D.getD 40 undef), (D.getD 41 undef), (D.getD 42 undef), (D.getD 43 undef), (D.getD 44 undef), (D.getD 45 undef), (D.getD 46 undef), (D.getD 47 undef), (D.getD 48 undef), (D.getD 49 undef), (D.getD 50 undef), (D.getD 51 undef), (D.getD 52 undef), (D.getD 53 undef), (D.getD 54 undef), (D.getD 55 undef), (D.getD 56 undef), (D.getD 57 undef), (D.getD 58 undef), (D.getD 59 undef), (D.getD 60 undef), (D.getD 61 undef), (D.getD 62 undef), (D.getD 63 undef), (D.getD 64 undef), (D.getD 65 undef), (D.getD 66 undef), (D.getD 67 undef), (D.getD 68 undef), (D.getD 69 undef), (D.getD 70 undef), (D.getD 71 undef), (D.getD 72 undef), (D.getD 73 undef), (D.getD 74 undef), (D.getD 75 undef), (D.getD 76 undef), (D.getD 77 undef), (D.getD 78 undef), (D.getD 79 undef), (D.getD 80 undef), (D.getD 81 undef), (D.getD 82 undef), (D.getD 83 undef), (D.getD 84 undef), (D.getD 85 undef), (D.getD 86 undef), (D.getD 87 undef), (D.getD 88 undef), (D.getD 89 undef), (D.getD 90 undef), (D.getD 91 undef), (D.getD 92 undef), (D.getD 93 undef), (D.getD 94 undef), (D.getD 95 undef), (D.getD 96 undef), (D.getD 97 undef), (D.getD 98 undef), (D.getD 99 undef), (D.getD 100 undef), (D.getD 101 undef), (D.getD 102 undef), (D.getD 103 undef), (D.getD 104 undef), (D.getD 105 undef), (D.getD 106 undef), (D.getD 107 undef), (D.getD 108 undef), (D.getD 109 undef), (D.getD 110 undef), (D.getD 111 undef), (D.getD 112 undef)] H
noncomputable def f96.K3 (k : Nat) (n1 : Nat) (a0 : Option Addr) (l0 : Nat) (c0 : Nat) (x1 : Int) (x2 : Int) (x3 : Int) (b8 : Bool) (b9 : Bool) (x10 : Int) (x11 : Int) (D : List Value) (H : AHeap) : Option (Value × AHeap) :=
  gateC (Sub (bodyOf Try.f96) [1, 1, 0, 0, 0, 1, 1, 1, 1, 1, 1, 0]) (Sub (bodyOf Try.f96) [1, 1, 0, 0, 0, 1, 1, 1, 1, 1, 1, 1]) k (run Try.prog (C k) k (Sub (bodyOf Try.f96) [1, 1, 0, 0, 0, 1, 1, 1, 1, 1, 1, 1]) (f96.Q3 k n1)) [.slice a0 l0 c0, .int .i64 x1, .int .i64 x2, .int .i64 x3, undef, undef, undef, undef, .bool b8, .bool b9, .int .i64 x10, .int .i64 x11, (D.getD 0 undef), (D.getD 1 undef), (D.getD 2 undef), (D.getD 3 undef), (D.getD 4 undef), (D.getD 5 undef), (D.getD 6 undef), (D.getD 7 undef), (D.getD 8 undef), (D.getD 9 undef), (D.getD 10 undef), (D.getD 11 undef), undef, undef, undef, undef, (D.getD 12 undef), (D.getD 13 undef), undef, undef, undef, undef, (D.getD 14 undef), (D.getD 15 undef), (D.getD 16 undef), (D.getD 17 undef), (D.getD 18 undef), (D.getD 19 undef), (D.getD 20 undef), (D.getD 21 undef), (D.getD 22 undef), (D.getD 23 undef), (D.getD 24 undef), (D.getD 25 undef), (D.getD 26 undef), (D.getD 27 undef), (D.getD 28 undef), (D.getD 29 undef), (D.getD 30 undef), (D.getD 31 undef), (D.getD 32 undef), (D.getD 33 undef), (D.getD 34 undef), (D.getD 35 undef), (D.getD 36 undef), (D.getD 37 undef), (D.getD 38 undef), (D.getD 39 undef), (D.getD 40 undef), (D.getD 41 undef), (D.getD 42 undef), (D.getD 43 undef), (D.getD 44 undef), (D.getD 45 undef), (D.getD 46 undef), (D.getD 47 undef), (D.getD 48 undef), (D.getD 49 undef), (D.getD 50 undef), (D.getD 51 undef), (D.getD 52 undef), (D.getD 53 undef), (D.getD 54 undef), (D.getD 55 undef), (D.getD 56 undef), (D.getD 57 undef), (D.getD 58 undef), (D.getD 59 undef), (D.getD 60 undef), (D.getD 61 undef), (D.getD 62 undef), (D.getD 63 undef), (D.getD 64 undef), (D.getD 65 undef), (D.getD 66 undef), (D.getD 67 undef), (D.getD 68 undef), (D.getD 69 undef), (D.getD 70 undef), (D.getD 71 undef), (D.getD 72 undef), (D.getD 73 undef), (D.getD 74 undef), (D.getD 75 undef), (D.getD 76 undef), (D.getD 77 undef), (D.getD 78 undef), (D.getD 79 undef), (D.getD 80 undef), (D.getD 81 undef), (D.getD 82 undef), (D.getD 83 undef), (D.getD 84 undef), (D.getD 85 undef), (D.getD 86 undef), (D.getD 87 undef), (D.getD 88 undef), (D.getD 89 undef), (D.getD 90 undef), (D.getD 91 undef), (D.getD 92 undef), (D.getD 93 undef), (D.getD 94 undef), (D.getD 95 undef), (D.getD 96 undef), (D.getD 97 undef), (D.getD 98 undef), (D.getD 99 undef), (D.getD 100 undef), (D.getD 101 undef), (D.getD 102 undef), (D.getD 103 undef), (D.getD 104 undef), (D.getD 105 undef), (D.getD 106 undef), (D.getD 107 undef), (D.getD 108 undef), (D.getD 109 undef), (D.getD 110 undef), (D.getD 111 undef), (D.getD 112 undef), (D.getD 113 undef)] H
noncomputable def f96.K4 (k : Nat) (n1 : Nat) (a0 : Option Addr) (l0 : Nat) (c0 : Nat) (x1 : Int) (x2 : Int) (x3 : Int) (b8 : Bool) (b9 : Bool) (x10 : Int) (x11 : Int) (b87 : Bool) (D : List Value) (H : AHeap) : Option (Value × AHeap) :=
  gateC (Sub (bodyOf Try.f96) [1, 1, 0, 0, 0, 1, 1, 1, 1, 1, 1, 1, 0, 0]) (Sub (bodyOf Try.f96) [1, 1, 0, 0, 0, 1, 1, 1, 1, 1, 1, 1, 0, 1]) k (run Try.prog (C k) k (Sub (bodyOf Try.f96) [1, 1, 0, 0, 0, 1, 1, 1, 1, 1, 1, 1, 0, 1]) (f96.Q4 k n1)) [.slice a0 l0 c0, .int .i64 x1, .int .i64 x2, .int .i64 x3, undef, undef, undef, undef, .bool b8, .bool b9, .int .i64 x10, .int .i64 x11, (D.getD 0 undef), (D.getD 1 undef), (D.getD 2 undef), (D.getD 3 undef), (D.getD 4 undef), (D.getD 5 undef), (D.getD 6 undef), (D.getD 7 undef), (D.getD 8 undef), (D.getD 9 undef), (D.getD 10 undef), (D.getD 11 undef), undef, undef, undef, undef, (D.getD 12 undef), (D.getD 13 undef), undef, undef, undef, undef, (D.getD 14 undef), (D.getD 15 undef), (D.getD 16 undef), (D.getD 17 undef), (D.getD 18 undef), (D.getD 19 undef), (D.getD 20 undef), (D.getD 21 undef), (D.getD 22 undef), (D.getD 23 undef), (D.getD 24 undef), (D.getD 25 undef), (D.getD 26 undef), (D.getD 27 undef), (D.getD 28 undef), (D.getD 29 undef), (D.getD 30 undef), (D.getD 31 undef), (D.getD 32 undef), (D.getD 33 undef), (D.getD 34 undef), (D.getD 35 undef), (D.getD 36 undef), (D.getD 37 undef), (D.getD 38 undef), (D.getD 39 undef), (D.getD 40 undef), (D.getD 41 undef), (D.getD 42 undef), (D.getD 43 undef), (D.getD 44 undef), (D.getD 45 undef), (D.getD 46 undef), (D.getD 47 undef), (D.getD 48 undef), (D.getD 49 undef), (D.getD 50 undef), (D.getD 51 undef), (D.getD 52 undef), (D.getD 53 undef), (D.getD 54 undef), (D.getD 55 undef), (D.getD 56 undef), (D.getD 57 undef), (D.getD 58 undef), (D.getD 59 undef), (D.getD 60 undef), (D.getD 61 undef), (D.getD 62 undef), (D.getD 63 undef), (D.getD 64 undef), (D.getD 65 undef), (D.getD 66 undef), .bool b87, (D.getD 67 undef), (D.getD 68 undef), (D.getD 69 undef), (D.getD 70 undef), (D.getD 71 undef), (D.getD 72 undef), (D.getD 73 undef), (D.getD 74 undef), (D.getD 75 undef), (D.getD 76 undef), (D.getD 77 undef), (D.getD 78 undef), (D.getD 79 undef), (D.getD 80 undef), (D.getD 81 undef), (D.getD 82 undef), (D.getD 83 undef), (D.getD 84 undef), (D.getD 85 undef), (D.getD 86 undef), (D.getD 87 undef), (D.getD 88 undef), (D.getD 89 undef), (D.getD 90 undef), (D.getD 91 undef), (D.getD 92 undef), (D.getD 93 undef), (D.getD 94 undef), (D.getD 95 undef), (D.getD 96 undef), (D.getD 97 undef), (D.getD 98 undef), (D.getD 99 undef), (D.getD 100 undef), (D.getD 101 undef), (D.getD 102 undef), (D.getD 103 undef), (D.getD 104 undef), (D.getD 105 undef), (D.getD 106 undef), (D.getD 107 undef), (D.getD 108 undef), (D.getD 109 undef), (D.getD 110 undef), (D.getD 111 undef), (D.getD 112 undef)] H
noncomputable def f96.K5 (k : Nat) (n1 : Nat) (a0 : Option Addr) (l0 : Nat) (c0 : Nat) (x1 : Int) (x2 : Int) (x3 : Int) (x10 : Int) (x11 : Int) (D : List Value) (H : AHeap) : Option (Value × AHeap) :=
  gateC (Sub (bodyOf Try.f96) [1, 1, 0, 0, 0, 1, 1, 1, 1, 1, 1, 1, 0]) (Sub (bodyOf Try.f96) [1, 1, 0, 0, 0, 1, 1, 1, 1, 1, 1, 1, 1]) k (run Try.prog (C k) k (Sub (bodyOf Try.f96) [1, 1, 0, 0, 0, 1, 1, 1, 1, 1, 1, 1, 1]) (f96.Q3 k n1)) [.slice a0 l0 c0, .int .i64 x1, .int .i64 x2, .int .i64 x3, undef, undef, undef, undef, (D.getD 0 undef), (D.getD 1 undef), .int .i64 x10, .int .i64 x11, (D.getD 2 undef), (D.getD 3 undef), (D.getD 4 undef), (D.getD 5 undef), (D.getD 6 undef), (D.getD 7 undef), (D.getD 8 undef), (D.getD 9 undef), (D.getD 10 undef), (D.getD 11 undef), (D.getD 12 undef), (D.getD 13 undef), undef, undef, undef, undef, (D.getD 14 undef), (D.getD 15 undef), undef, undef, undef, undef, (D.getD 16 undef), (D.getD 17 undef), (D.getD 18 undef), (D.getD 19 undef), (D.getD 20 undef), (D.getD 21 undef), (D.getD 22 undef), (D.getD 23 undef), (D.getD 24 undef), (D.getD 25 undef), (D.getD 26 undef), (D.getD 27 undef), (D.getD 28 undef), (D.getD 29 undef), (D.getD 30 undef), (D.getD 31 undef), (D.getD 32 undef), (D.getD 33 undef), (D.getD 34 undef), (D.getD 35 undef), (D.getD 36 undef), (D.getD 37 undef), (D.getD 38 undef), (D.getD 39 undef), (D.getD 40 undef), (D.getD 41 undef), (D.getD 42 undef), (D.getD 43 undef), (D.getD 44 undef), (D.getD 45 undef), (D.getD 46 undef), (D.getD 47 undef), (D.getD 48 undef), (D.getD 49 undef), (D.getD 50 undef), (D.getD 51 undef), (D.getD 52 undef), (D.getD 53 undef), (D.getD 54 undef), (D.getD 55 undef), (D.getD 56 undef), (D.getD 57 undef), (D.getD 58 undef), (D.getD 59 undef), (D.getD 60 undef), (D.getD 61 undef), (D.getD 62 undef), (D.getD 63 undef), (D.getD 64 undef), (D.getD 65 undef), (D.getD 66 undef), (D.getD 67 undef), (D.getD 68 undef), (D.getD 69 undef), (D.getD 70 undef), (D.getD 71 undef), (D.getD 72 undef), (D.getD 73 undef), (D.getD 74 undef), (D.getD 75 undef), (D.getD 76 undef), (D.getD 77 undef), (D.getD 78 undef), (D.getD 79 undef), (D.getD 80 undef), (D.getD 81 undef), (D.getD 82 undef), (D.getD 83 undef), (D.getD 84 undef), (D.getD 85 undef), (D.getD 86 undef), (D.getD 87 undef), (D.getD 88 undef), (D.getD 89 undef), (D.getD 90 undef), (D.getD 91 undef), (D.getD 92 undef), (D.getD 93 undef), (D.getD 94 undef), (D.getD 95 undef), (D.getD 96 undef), (D.getD 97 undef), (D.getD 98 undef), (D.getD 99 undef), (D.getD 100 undef), (D.getD 101 undef), (D.getD 102 undef), (D.getD 103 undef), (D.getD 104 undef), (D.getD 105 undef), (D.getD 106 undef), (D.getD 107 undef), (D.getD 108 undef), (D.getD 109 undef), (D.getD 110 undef), (D.getD 111 undef), (D.getD 112 undef), (D.getD 113 undef), (D.getD 114 undef), (D.getD 115 undef)] H
theorem f96.L1_z (k : Nat)  (a0 : Option Addr) (l0 : Nat) (c0 : Nat) (x1 : Int) (x2 : Int) (x3 : Int) (b8 : Bool) (b9 : Bool) (D : List Value) (H : AHeap) : f96.L1 k 0 a0 l0 c0 x1 x2 x3 b8 b9 D H = none := by kernel_rfl
theorem f96.L1_s (k : Nat) (n1 : Nat) (a0 : Option Addr) (l0 : Nat) (c0 : Nat) (x1 : Int) (x2 : Int) (x3 : Int) (b8 : Bool) (b9 : Bool) (D : List Value) (H : AHeap) : f96.L1 k (n1 + 1) a0 l0 c0 x1 x2 x3 b8 b9 D H =
  (bif (decide ((IntKind.i64.wrap (x2 - x1)) ≤ (12 : Int))) then
   cT (C k 98 [.slice a0 l0 c0, .int .i64 x1, .int .i64 x2] H) fun u H_1 =>
   some (.tuple #[], H_1)
   else
   bif (x3 == (0 : Int)) then
   cT (C k 99 [.slice a0 l0 c0, .int .i64 x1, .int .i64 x2] H) fun u_1 H_2 =>
   some (.tuple #[], H_2)
   else
   bif (!b8) then
   cT (C k 100 [.slice a0 l0 c0, .int .i64 x1, .int .i64 x2] H) fun u_2 H_3 =>
   f96.K1 k n1 a0 l0 c0 x1 x2 (IntKind.i64.wrap (x3 - (1 : Int))) b8 b9 (IntKind.i64.wrap (x2 - x1)) [(D.getD 1 undef), (D.getD 2 undef), (D.getD 3 undef), (D.getD 4 undef), (D.getD 5 undef), (D.getD 6 undef), (D.getD 7 undef), (D.getD 8 undef), .int .i64 x2, .int .i64 x1, .int .i64 (IntKind.i64.wrap (x2 - x1)), .int .i64 (IntKind.i64.wrap (x2 - x1)), .bool (decide ((IntKind.i64.wrap (x2 - x1)) ≤ (12 : Int))), .int .i64 x3, .bool (x3 == (0 : Int)), .bool b8, .bool (!b8), .slice a0 l0 c0, .int .i64 x1, .int .i64 x2, .tuple u_2, .int .i64 x3, .int .i64 (IntKind.i64.wrap (x3 - (1 : Int))), (D.getD 24 undef), (D.getD 25 undef), (D.getD 26 undef), (D.getD 27 undef), (D.getD 28 undef), (D.getD 29 undef), (D.getD 30 undef), (D.getD 31 undef), (D.getD 32 undef), (D.getD 33 undef), (D.getD 34 undef), (D.getD 35 undef), (D.getD 36 undef), (D.getD 37 undef), (D.getD 38 undef), (D.getD 39 undef), (D.getD 40 undef), (D.getD 41 undef), (D.getD 42 undef), (D.getD 43 undef), (D.getD 44 undef), (D.getD 45 undef), (D.getD 46 undef), (D.getD 47 undef), (D.getD 48 undef), (D.getD 49 undef), (D.getD 50 undef), (D.getD 51 undef), (D.getD 52 undef), (D.getD 53 undef), (D.getD 54 undef), (D.getD 55 undef), (D.getD 56 undef), (D.getD 57 undef), (D.getD 58 undef), (D.getD 59 undef), (D.getD 60 undef), (D.getD 61 undef), (D.getD 62 undef), (D.getD 63 undef), (D.getD 64 undef), (D.getD 65 undef), (D.getD 66 undef), (D.getD 67 undef), (D.getD 68 undef), (D.getD 69 undef), (D.getD 70 undef), (D.getD 71 undef), (D.getD 72 undef), (D.getD 73 undef), (D.getD 74 undef), (D.getD 75 undef), (D.getD 76 undef), (D.getD 77 undef), (D.getD 78 undef), (D.getD 79 undef), (D.getD 80 undef), (D.getD 81 undef), (D.getD 82 undef), (D.getD 83 undef), (D.getD 84 undef), (D.getD 85 undef), (D.getD 86 undef), (D.getD 87 undef), (D.getD 88 undef), (D.getD 89 undef), (D.getD 90 undef), (D.getD 91 undef), (D.getD 92 undef), (D.getD 93 undef), (D.getD 94 undef), (D.getD 95 undef), (D.getD 96 undef), (D.getD 97 undef), (D.getD 98 undef), (D.getD 99 undef), (D.getD 100 undef), (D.getD 101 undef), (D.getD 102 undef), (D.getD 103 undef), (D.getD 104 undef), (D.getD 105 undef), (D.getD 106 undef), (D.getD 107 undef), (D.getD 108 undef), (D.getD 109 undef), (D.getD 110 undef), (D.getD 111 undef), (D.getD 112 undef), (D.getD 113 undef), (D.getD 114 undef), (D.getD 115 undef)] H_3
   else
   f96.K1 k n1 a0 l0 c0 x1 x2 x3 b8 b9 (IntKind.i64.wrap (x2 - x1)) [(D.getD 1 undef), (D.getD 2 undef), (D.getD 3 undef), (D.getD 4 undef), (D.getD 5 undef), (D.getD 6 undef), (D.getD 7 undef), (D.getD 8 undef), .int .i64 x2, .int .i64 x1, .int .i64 (IntKind.i64.wrap (x2 - x1)), .int .i64 (IntKind.i64.wrap (x2 - x1)), .bool (decide ((IntKind.i64.wrap (x2 - x1)) ≤ (12 : Int))), .int .i64 x3, .bool (x3 == (0 : Int)), .bool b8, .bool (!b8), (D.getD 18 undef), (D.getD 19 undef), (D.getD 20 undef), (D.getD 21 undef), (D.getD 22 undef), (D.getD 23 undef), (D.getD 24 undef), (D.getD 25 undef), (D.getD 26 undef), (D.getD 27 undef), (D.getD 28 undef), (D.getD 29 undef), (D.getD 30 undef), (D.getD 31 undef), (D.getD 32 undef), (D.getD 33 undef), (D.getD 34 undef), (D.getD 35 undef), (D.getD 36 undef), (D.getD 37 undef), (D.getD 38 undef), (D.getD 39 undef), (D.getD 40 undef), (D.getD 41 undef), (D.getD 42 undef), (D.getD 43 undef), (D.getD 44 undef), (D.getD 45 undef), (D.getD 46 undef), (D.getD 47 undef), (D.getD 48 undef), (D.getD 49 undef), (D.getD 50 undef), (D.getD 51 undef), (D.getD 52 undef), (D.getD 53 undef), (D.getD 54 undef), (D.getD 55 undef), (D.getD 56 undef), (D.getD 57 undef), (D.getD 58 undef), (D.getD 59 undef), (D.getD 60 undef), (D.getD 61 undef), (D.getD 62 undef), (D.getD 63 undef), (D.getD 64 undef), (D.getD 65 undef), (D.getD 66 undef), (D.getD 67 undef), (D.getD 68 undef), (D.getD 69 undef), (D.getD 70 undef), (D.getD 71 undef), (D.getD 72 undef), (D.getD 73 undef), (D.getD 74 undef), (D.getD 75 undef), (D.getD 76 undef), (D.getD 77 undef), (D.getD 78 undef), (D.getD 79 undef), (D.getD 80 undef), (D.getD 81 undef), (D.getD 82 undef), (D.getD 83 undef), (D.getD 84 undef), (D.getD 85 undef), (D.getD 86 undef), (D.getD 87 undef), (D.getD 88 undef), (D.getD 89 undef), (D.getD 90 undef), (D.getD 91 undef), (D.getD 92 undef), (D.getD 93 undef), (D.getD 94 undef), (D.getD 95 undef), (D.getD 96 undef), (D.getD 97 undef), (D.getD 98 undef), (D.getD 99 undef), (D.getD 100 undef), (D.getD 101 undef), (D.getD 102 undef), (D.getD 103 undef), (D.getD 104 undef), (D.getD 105 undef), (D.getD 106 undef), (D.getD 107 undef), (D.getD 108 undef), (D.getD 109 undef), (D.getD 110 undef), (D.getD 111 undef), (D.getD 112 undef), (D.getD 113 undef), (D.getD 114 undef), (D.getD 115 undef)] H) := by kernel_rfl
theorem f96.K1_eq (k : Nat) (n1 : Nat) (a0 : Option Addr) (l0 : Nat) (c0 : Nat) (x1 : Int) (x2 : Int) (x3 : Int) (b8 : Bool) (b9 : Bool) (x10 : Int) (D : List Value) (H : AHeap) : f96.K1 k n1 a0 l0 c0 x1 x2 x3 b8 b9 x10 D H =
  (cT (C k 101 [.slice a0 l0 c0, .int .i64 x1, .int .i64 x2] H) fun u H_1 =>
   exI .i64 (u.toList[0]?) fun x =>
   exI .i64 (u.toList[1]?) fun x_1 =>
   bif (x_1 == (2 : Int)) then
   cT (C k 102 [.slice a0 l0 c0, .int .i64 x1, .int .i64 x2] H_1) fun u_1 H_2 =>
   f96.K2 k n1 a0 l0 c0 x1 x2 x3 b8 b9 x10 (IntKind.i64.wrap ((IntKind.i64.wrap (x2 - (1 : Int))) - (IntKind.i64.wrap (x - x1)))) 1 [(D.getD 2 undef), (D.getD 3 undef), (D.getD 4 undef), (D.getD 5 undef), (D.getD 6 undef), (D.getD 7 undef), (D.getD 8 undef), (D.getD 9 undef), (D.getD 10 undef), (D.getD 11 undef), (D.getD 12 undef), (D.getD 13 undef), (D.getD 14 undef), (D.getD 15 undef), (D.getD 16 undef), (D.getD 17 undef), (D.getD 18 undef), (D.getD 19 undef), (D.getD 20 undef), (D.getD 21 undef), (D.getD 22 undef), .tuple u, .slice a0 l0 c0, .int .i64 x1, .int .i64 x2, .tuple u, .int .i64 x, .int .i64 x_1, .int .i64 x_1, .bool (x_1 == (2 : Int)), .slice a0 l0 c0, .int .i64 x1, .int .i64 x2, .tuple u_1, .int .i64 x2, .int .i64 (IntKind.i64.wrap (x2 - (1 : Int))), .int .i64 x, .int .i64 x1, .int .i64 (IntKind.i64.wrap (x - x1)), .int .i64 (IntKind.i64.wrap ((IntKind.i64.wrap (x2 - (1 : Int))) - (IntKind.i64.wrap (x - x1)))), (D.getD 42 undef), (D.getD 43 undef), (D.getD 44 undef), (D.getD 45 undef), (D.getD 46 undef), (D.getD 47 undef), (D.getD 48 undef), (D.getD 49 undef), (D.getD 50 undef), (D.getD 51 undef), (D.getD 52 undef), (D.getD 53 undef), (D.getD 54 undef), (D.getD 55 undef), (D.getD 56 undef), (D.getD 57 undef), (D.getD 58 undef), (D.getD 59 undef), (D.getD 60 undef), (D.getD 61 undef), (D.getD 62 undef), (D.getD 63 undef), (D.getD 64 undef), (D.getD 65 undef), (D.getD 66 undef), (D.getD 67 undef), (D.getD 68 undef), (D.getD 69 undef), (D.getD 70 undef), (D.getD 71 undef), (D.getD 72 undef), (D.getD 73 undef), (D.getD 74 undef), (D.getD 75 undef), (D.getD 76 undef), (D.getD 77 undef), (D.getD 78 undef), (D.getD 79 undef), (D.getD 80 undef), (D.getD 81 undef), (D.getD 82 undef), (D.getD 83 undef), (D.getD 84 undef), (D.getD 85 undef), (D.getD 86 undef), (D.getD 87 undef), (D.getD 88 undef), (D.getD 89 undef), (D.getD 90 undef), (D.getD 91 undef), (D.getD 92 undef), (D.getD 93 undef), (D.getD 94 undef), (D.getD 95 undef), (D.getD 96 undef), (D.getD 97 undef), (D.getD 98 undef), (D.getD 99 undef), (D.getD 100 undef), (D.getD 101 undef), (D.getD 102 undef), (D.getD 103 undef), (D.getD 104 undef), (D.getD 105 undef), (D.getD 106 undef), (D.getD 107 undef), (D.getD 108 undef), (D.getD 109 undef), (D.getD 110 undef), (D.getD 111 undef), (D.getD 112 undef), (D.getD 113 undef), (D.getD 114 undef)] H_2
   else
   f96.K2 k n1 a0 l0 c0 x1 x2 x3 b8 b9 x10 x x_1 [(D.getD 2 undef), (D.getD 3 undef), (D.getD 4 undef), (D.getD 5 undef), (D.getD 6 undef), (D.getD 7 undef), (D.getD 8 undef), (D.getD 9 undef), (D.getD 10 undef), (D.getD 11 undef), (D.getD 12 undef), (D.getD 13 undef), (D.getD 14 undef), (D.getD 15 undef), (D.getD 16 undef), (D.getD 17 undef), (D.getD 18 undef), (D.getD 19 undef), (D.getD 20 undef), (D.getD 21 undef), (D.getD 22 undef), .tuple u, .slice a0 l0 c0, .int .i64 x1, .int .i64 x2, .tuple u, .int .i64 x, .int .i64 x_1, .int .i64 x_1, .bool (x_1 == (2 : Int)), (D.getD 32 undef), (D.getD 33 undef), (D.getD 34 undef), (D.getD 35 undef), (D.getD 36 undef), (D.getD 37 undef), (D.getD 38 undef), (D.getD 39 undef), (D.getD 40 undef), (D.getD 41 undef), (D.getD 42 undef), (D.getD 43 undef), (D.getD 44 undef), (D.getD 45 undef), (D.getD 46 undef), (D.getD 47 undef), (D.getD 48 undef), (D.getD 49 undef), (D.getD 50 undef), (D.getD 51 undef), (D.getD 52 undef), (D.getD 53 undef), (D.getD 54 undef), (D.getD 55 undef), (D.getD 56 undef), (D.getD 57 undef), (D.getD 58 undef), (D.getD 59 undef), (D.getD 60 undef), (D.getD 61 undef), (D.getD 62 undef), (D.getD 63 undef), (D.getD 64 undef), (D.getD 65 undef), (D.getD 66 undef), (D.getD 67 undef), (D.getD 68 undef), (D.getD 69 undef), (D.getD 70 undef), (D.getD 71 undef), (D.getD 72 undef), (D.getD 73 undef), (D.getD 74 undef), (D.getD 75 undef), (D.getD 76 undef), (D.getD 77 undef), (D.getD 78 undef), (D.getD 79 undef), (D.getD 80 undef), (D.getD 81 undef), (D.getD 82 undef), (D.getD 83 undef), (D.getD 84 undef), (D.getD 85 undef), (D.getD 86 undef), (D.getD 87 undef), (D.getD 88 undef), (D.getD 89 undef), (D.getD 90 undef), (D.getD 91 undef), (D.getD 92 undef), (D.getD 93 undef), (D.getD 94 undef), (D.getD 95 undef), (D.getD 96 undef), (D.getD 97 undef), (D.getD 98 undef), (D.getD 99 undef), (D.getD 100 undef), (D.getD 101 undef), (D.getD 102 undef), (D.getD 103 undef), (D.getD 104 undef), (D.getD 105 undef), (D.getD 106 undef), (D.getD 107 undef), (D.getD 108 undef), (D.getD 109 undef), (D.getD 110 undef), (D.getD 111 undef), (D.getD 112 undef), (D.getD 113 undef), (D.getD 114 undef)] H_1) := by
  unfold f96.K1
  rw [gateC_eq]
  kernel_rfl
theorem f96.K2_eq (k : Nat) (n1 : Nat) (a0 : Option Addr) (l0 : Nat) (c0 : Nat) (x1 : Int) (x2 : Int) (x3 : Int) (b8 : Bool) (b9 : Bool) (x10 : Int) (x11 : Int) (x12 : Int) (D : List Value) (H : AHeap) : f96.K2 k n1 a0 l0 c0 x1 x2 x3 b8 b9 x10 x11 x12 D H =
  (bif b8 then
   bif b9 then
   bif (x12 == (1 : Int)) then
   cB (C k 103 [.slice a0 l0 c0, .int .i64 x1, .int .i64 x2] H) fun b H_1 =>
   bif b then
   some (.tuple #[], H_1)
   else
   f96.K3 k n1 a0 l0 c0 x1 x2 x3 b8 b9 x10 x11 [.int .i64 x12, (D.getD 0 undef), (D.getD 1 undef), (D.getD 2 undef), (D.getD 3 undef), (D.getD 4 undef), (D.getD 5 undef), (D.getD 6 undef), (D.getD 7 undef), (D.getD 8 undef), (D.getD 9 undef), (D.getD 10 undef), (D.getD 11 undef), (D.getD 12 undef), (D.getD 13 undef), (D.getD 14 undef), (D.getD 15 undef), (D.getD 16 undef), (D.getD 17 undef), (D.getD 18 undef), (D.getD 19 undef), (D.getD 20 undef), (D.getD 21 undef), (D.getD 22 undef), (D.getD 23 undef), (D.getD 24 undef), (D.getD 25 undef), (D.getD 26 undef), (D.getD 27 undef), (D.getD 28 undef), (D.getD 29 undef), (D.getD 30 undef), (D.getD 31 undef), (D.getD 32 undef), (D.getD 33 undef), (D.getD 34 undef), (D.getD 35 undef), (D.getD 36 undef), (D.getD 37 undef), (D.getD 38 undef), (D.getD 39 undef), .bool b8, .bool true, .bool b9, .bool b9, .bool true, .int .i64 x12, .bool (x12 == (1 : Int)), .bool (x12 == (1 : Int)), .slice a0 l0 c0, .int .i64 x1, .int .i64 x2, .bool b, (D.getD 52 undef), (D.getD 53 undef), (D.getD 54 undef), (D.getD 55 undef), (D.getD 56 undef), (D.getD 57 undef), (D.getD 58 undef), (D.getD 59 undef), (D.getD 60 undef), (D.getD 61 undef), (D.getD 62 undef), (D.getD 63 undef), (D.getD 64 undef), (D.getD 65 undef), (D.getD 66 undef), (D.getD 67 undef), (D.getD 68 undef), (D.getD 69 undef), (D.getD 70 undef), (D.getD 71 undef), (D.getD 72 undef), (D.getD 73 undef), (D.getD 74 undef), (D.getD 75 undef), (D.getD 76 undef), (D.getD 77 undef), (D.getD 78 undef), (D.getD 79 undef), (D.getD 80 undef), (D.getD 81 undef), (D.getD 82 undef), (D.getD 83 undef), (D.getD 84 undef), (D.getD 85 undef), (D.getD 86 undef), (D.getD 87 undef), (D.getD 88 undef), (D.getD 89 undef), (D.getD 90 undef), (D.getD 91 undef), (D.getD 92 undef), (D.getD 93 undef), (D.getD 94 undef), (D.getD 95 undef), (D.getD 96 undef), (D.getD 97 undef), (D.getD 98 undef), (D.getD 99 undef), (D.getD 100 undef), (D.getD 101 undef), (D.getD 102 undef), (D.getD 103 undef), (D.getD 104 undef), (D.getD 105 undef), (D.getD 106 undef), (D.getD 107 undef), (D.getD 108 undef), (D.getD 109 undef), (D.getD 110 undef), (D.getD 111 undef), (D.getD 112 undef)] H_1
   else
   f96.K3 k n1 a0 l0 c0 x1 x2 x3 b8 b9 x10 x11 [.int .i64 x12, (D.getD 0 undef), (D.getD 1 undef), (D.getD 2 undef), (D.getD 3 undef), (D.getD 4 undef), (D.getD 5 undef), (D.getD 6 undef), (D.getD 7 undef), (D.getD 8 undef), (D.getD 9 undef), (D.getD 10 undef), (D.getD 11 undef), (D.getD 12 undef), (D.getD 13 undef), (D.getD 14 undef), (D.getD 15 undef), (D.getD 16 undef), (D.getD 17 undef), (D.getD 18 undef), (D.getD 19 undef), (D.getD 20 undef), (D.getD 21 undef), (D.getD 22 undef), (D.getD 23 undef), (D.getD 24 undef), (D.getD 25 undef), (D.getD 26 undef), (D.getD 27 undef), (D.getD 28 undef), (D.getD 29 undef), (D.getD 30 undef), (D.getD 31 undef), (D.getD 32 undef), (D.getD 33 undef), (D.getD 34 undef), (D.getD 35 undef), (D.getD 36 undef), (D.getD 37 undef), (D.getD 38 undef), (D.getD 39 undef), .bool b8, .bool true, .bool b9, .bool b9, .bool true, .int .i64 x12, .bool (x12 == (1 : Int)), .bool (x12 == (1 : Int)), (D.getD 48 undef), (D.getD 49 undef), (D.getD 50 undef), (D.getD 51 undef), (D.getD 52 undef), (D.getD 53 undef), (D.getD 54 undef), (D.getD 55 undef), (D.getD 56 undef), (D.getD 57 undef), (D.getD 58 undef), (D.getD 59 undef), (D.getD 60 undef), (D.getD 61 undef), (D.getD 62 undef), (D.getD 63 undef), (D.getD 64 undef), (D.getD 65 undef), (D.getD 66 undef), (D.getD 67 undef), (D.getD 68 undef), (D.getD 69 undef), (D.getD 70 undef), (D.getD 71 undef), (D.getD 72 undef), (D.getD 73 undef), (D.getD 74 undef), (D.getD 75 undef), (D.getD 76 undef), (D.getD 77 undef), (D.getD 78 undef), (D.getD 79 undef), (D.getD 80 undef), (D.getD 81 undef), (D.getD 82 undef), (D.getD 83 undef), (D.getD 84 undef), (D.getD 85 undef), (D.getD 86 undef), (D.getD 87 undef), (D.getD 88 undef), (D.getD 89 undef), (D.getD 90 undef), (D.getD 91 undef), (D.getD 92 undef), (D.getD 93 undef), (D.getD 94 undef), (D.getD 95 undef), (D.getD 96 undef), (D.getD 97 undef), (D.getD 98 undef), (D.getD 99 undef), (D.getD 100 undef), (D.getD 101 undef), (D.getD 102 undef), (D.getD 103 undef), (D.getD 104 undef), (D.getD 105 undef), (D.getD 106 undef), (D.getD 107 undef), (D.getD 108 undef), (D.getD 109 undef), (D.getD 110 undef), (D.getD 111 undef), (D.getD 112 undef)] H
   else
   f96.K3 k n1 a0 l0 c0 x1 x2 x3 b8 b9 x10 x11 [.int .i64 x12, (D.getD 0 undef), (D.getD 1 undef), (D.getD 2 undef), (D.getD 3 undef), (D.getD 4 undef), (D.getD 5 undef), (D.getD 6 undef), (D.getD 7 undef), (D.getD 8 undef), (D.getD 9 undef), (D.getD 10 undef), (D.getD 11 undef), (D.getD 12 undef), (D.getD 13 undef), (D.getD 14 undef), (D.getD 15 undef), (D.getD 16 undef), (D.getD 17 undef), (D.getD 18 undef), (D.getD 19 undef), (D.getD 20 undef), (D.getD 21 undef), (D.getD 22 undef), (D.getD 23 undef), (D.getD 24 undef), (D.getD 25 undef), (D.getD 26 undef), (D.getD 27 undef), (D.getD 28 undef), (D.getD 29 undef), (D.getD 30 undef), (D.getD 31 undef), (D.getD 32 undef), (D.getD 33 undef), (D.getD 34 undef), (D.getD 35 undef), (D.getD 36 undef), (D.getD 37 undef), (D.getD 38 undef), (D.getD 39 undef), .bool b8, .bool true, .bool b9, .bool b9, .bool false, undef, undef, .bool false, (D.getD 48 undef), (D.getD 49 undef), (D.getD 50 undef), (D.getD 51 undef), (D.getD 52 undef), (D.getD 53 undef), (D.getD 54 undef), (D.getD 55 undef), (D.getD 56 undef), (D.getD 57 undef), (D.getD 58 undef), (D.getD 59 undef), (D.getD 60 undef), (D.getD 61 undef), (D.getD 62 undef), (D.getD 63 undef), (D.getD 64 undef), (D.getD 65 undef), (D.getD 66 undef), (D.getD 67 undef), (D.getD 68 undef), (D.getD 69 undef), (D.getD 70 undef), (D.getD 71 undef), (D.getD 72 undef), (D.getD 73 undef), (D.getD 74 undef), (D.getD 75 undef), (D.getD 76 undef), (D.getD 77 undef), (D.getD 78 undef), (D.getD 79 undef), (D.getD 80 undef), (D.getD 81 undef), (D.getD 82 undef), (D.getD 83 undef), (D.getD 84 undef), (D.getD 85 undef), (D.getD 86 undef), (D.getD 87 undef), (D.getD 88 undef), (D.getD 89 undef), (D.getD 90 undef), (D.getD 91 undef), (D.getD 92 undef), (D.getD 93 undef), (D.getD 94 undef), (D.getD 95 undef), (D.getD 96 undef), (D.getD 97 undef), (D.getD 98 undef), (D.getD 99 undef), (D.getD 100 undef), (D.getD 101 undef), (D.getD 102 undef), (D.getD 103 undef), (D.getD 104 undef), (D.getD 105 undef), (D.getD 106 undef), (D.getD 107 undef), (D.getD 108 undef), (D.getD 109 undef), (D.getD 110 undef), (D.getD 111 undef), (D.getD 112 undef)] H
   else
   f96.K3 k n1 a0 l0 c0 x1 x2 x3 b8 b9 x10 x11 [.int .i64 x12, (D.getD 0 undef), (D.getD 1 undef), (D.getD 2 undef), (D.getD 3 undef), (D.getD 4 undef), (D.getD 5 undef), (D.getD 6 undef), (D.getD 7 undef), (D.getD 8 undef), (D.getD 9 undef), (D.getD 10 undef), (D.getD 11 undef), (D.getD 12 undef), (D.getD 13 undef), (D.getD 14 undef), (D.getD 15 undef), (D.getD 16 undef), (D.getD 17 undef), (D.getD 18 undef), (D.getD 19 undef), (D.getD 20 undef), (D.getD 21 undef), (D.getD 22 undef), (D.getD 23 undef), (D.getD 24 undef), (D.getD 25 undef), (D.getD 26 undef), (D.getD 27 undef), (D.getD 28 undef), (D.getD 29 undef), (D.getD 30 undef), (D.getD 31 undef), (D.getD 32 undef), (D.getD 33 undef), (D.getD 34 undef), (D.getD 35 undef), (D.getD 36 undef), (D.getD 37 undef), (D.getD 38 undef), (D.getD 39 undef), .bool b8, .bool false, undef, .bool false, .bool false, undef, undef, .bool false, (D.getD 48 undef), (D.getD 49 undef), (D.getD 50 undef), (D.getD 51 undef), (D.getD 52 undef), (D.getD 53 undef), (D.getD 54 undef), (D.getD 55 undef), (D.getD 56 undef), (D.getD 57 undef), (D.getD 58 undef), (D.getD 59 undef), (D.getD 60 undef), (D.getD 61 undef), (D.getD 62 undef), (D.getD 63 undef), (D.getD 64 undef), (D.getD 65 undef), (D.getD 66 undef), (D.getD 67 undef), (D.getD 68 undef), (D.getD 69 undef), (D.getD 70 undef), (D.getD 71 undef), (D.getD 72 undef), (D.getD 73 undef), (D.getD 74 undef), (D.getD 75 undef), (D.getD 76 undef), (D.getD 77 undef), (D.getD 78 undef), (D.getD 79 undef), (D.getD 80 undef), (D.getD 81 undef), (D.getD 82 undef), (D.getD 83 undef), (D.getD 84 undef), (D.getD 85 undef), (D.getD 86 undef), (D.getD 87 undef), (D.getD 88 undef), (D.getD 89 undef), (D.getD 90 undef), (D.getD 91 undef), (D.getD 92 undef), (D.getD 93 undef), (D.getD 94 undef), (D.getD 95 undef), (D.getD 96 undef), (D.getD 97 undef), (D.getD 98 undef), (D.getD 99 undef), (D.getD 100 undef), (D.getD 101 undef), (D.getD 102 undef), (D.getD 103 undef), (D.getD 104 undef), (D.getD 105 undef), (D.getD 106 undef), (D.getD 107 undef), (D.getD 108 undef), (D.getD 109 undef), (D.getD 110 undef), (D.getD 111 undef), (D.getD 112 undef)] H) := by
  unfold f96.K2
  rw [gateC_eq]
  kernel_rfl
theorem f96.K3_eq (k : Nat) (n1 : Nat) (a0 : Option Addr) (l0 : Nat) (c0 : Nat) (x1 : Int) (x2 : Int) (x3 : Int) (b8 : Bool) (b9 : Bool) (x10 : Int) (x11 : Int) (D : List Value) (H : AHeap) : f96.K3 k n1 a0 l0 c0 x1 x2 x3 b8 b9 x10 x11 D H =
  (bif (decide (x1 > (0 : Int))) then
   a0.bind fun q =>
   if 0 ≤ (IntKind.i64.wrap (x1 - (1 : Int))) ∧ (IntKind.i64.wrap (x1 - (1 : Int))) < (l0 : Int) then
   bif sameB H (H.bump 15) q.block then
   (ldI .i64 (H.bump 15) q.block (q.off + (IntKind.i64.wrap (x1 - (1 : Int))).toNat * 1)).bind fun x =>
   a0.bind fun q_1 =>
   if 0 ≤ x11 ∧ x11 < (l0 : Int) then
   bif sameB H (H.bump 15) q_1.block then
   (ldI .i64 (H.bump 15) q_1.block (q_1.off + x11.toNat * 1)).bind fun x_1 =>
   cB (C k 104 [.int .i64 x, .int .i64 x_1] (H.bump 15)) fun b H_1 =>
   f96.K4 k n1 a0 l0 c0 x1 x2 x3 b8 b9 x10 x11 (!b) [(D.getD 0 undef), (D.getD 1 undef), (D.getD 2 undef), (D.getD 3 undef), (D.getD 4 undef), (D.getD 5 undef), (D.getD 6 undef), (D.getD 7 undef), (D.getD 8 undef), (D.getD 9 undef), (D.getD 10 undef), (D.getD 11 undef), (D.getD 12 undef), (D.getD 13 undef), (D.getD 14 undef), (D.getD 15 undef), (D.getD 16 undef), (D.getD 17 undef), (D.getD 18 undef), (D.getD 19 undef), (D.getD 20 undef), (D.getD 21 undef), (D.getD 22 undef), (D.getD 23 undef), (D.getD 24 undef), (D.getD 25 undef), (D.getD 26 undef), (D.getD 27 undef), (D.getD 28 undef), (D.getD 29 undef), (D.getD 30 undef), (D.getD 31 undef), (D.getD 32 undef), (D.getD 33 undef), (D.getD 34 undef), (D.getD 35 undef), (D.getD 36 undef), (D.getD 37 undef), (D.getD 38 undef), (D.getD 39 undef), (D.getD 40 undef), (D.getD 41 undef), (D.getD 42 undef), (D.getD 43 undef), (D.getD 44 undef), (D.getD 45 undef), (D.getD 46 undef), (D.getD 47 undef), (D.getD 48 undef), (D.getD 49 undef), (D.getD 50 undef), (D.getD 51 undef), (D.getD 52 undef), .int .i64 x1, .bool (decide (x1 > (0 : Int))), .bool true, .slice a0 l0 c0, .int .i64 x1, .int .i64 (IntKind.i64.wrap (x1 - (1 : Int))), .pointer (some ⟨q.block, q.off + (IntKind.i64.wrap (x1 - (1 : Int))).toNat * 1, none⟩), .int .i64 x, .slice a0 l0 c0, .int .i64 x11, .pointer (some ⟨q_1.block, q_1.off + x11.toNat * 1, none⟩), .int .i64 x_1, .bool b, .bool (!b), (D.getD 68 undef), (D.getD 69 undef), (D.getD 70 undef), (D.getD 71 undef), (D.getD 72 undef), (D.getD 73 undef), (D.getD 74 undef), (D.getD 75 undef), (D.getD 76 undef), (D.getD 77 undef), (D.getD 78 undef), (D.getD 79 undef), (D.getD 80 undef), (D.getD 81 undef), (D.getD 82 undef), (D.getD 83 undef), (D.getD 84 undef), (D.getD 85 undef), (D.getD 86 undef), (D.getD 87 undef), (D.getD 88 undef), (D.getD 89 undef), (D.getD 90 undef), (D.getD 91 undef), (D.getD 92 undef), (D.getD 93 undef), (D.getD 94 undef), (D.getD 95 undef), (D.getD 96 undef), (D.getD 97 undef), (D.getD 98 undef), (D.getD 99 undef), (D.getD 100 undef), (D.getD 101 undef), (D.getD 102 undef), (D.getD 103 undef), (D.getD 104 undef), (D.getD 105 undef), (D.getD 106 undef), (D.getD 107 undef), (D.getD 108 undef), (D.getD 109 undef), (D.getD 110 undef), (D.getD 111 undef), (D.getD 112 undef), (D.getD 113 undef)] H_1
   else none
   else none
   else none
   else none
   else
   f96.K4 k n1 a0 l0 c0 x1 x2 x3 b8 b9 x10 x11 false [(D.getD 0 undef), (D.getD 1 undef), (D.getD 2 undef), (D.getD 3 undef), (D.getD 4 undef), (D.getD 5 undef), (D.getD 6 undef), (D.getD 7 undef), (D.getD 8 undef), (D.getD 9 undef), (D.getD 10 undef), (D.getD 11 undef), (D.getD 12 undef), (D.getD 13 undef), (D.getD 14 undef), (D.getD 15 undef), (D.getD 16 undef), (D.getD 17 undef), (D.getD 18 undef), (D.getD 19 undef), (D.getD 20 undef), (D.getD 21 undef), (D.getD 22 undef), (D.getD 23 undef), (D.getD 24 undef), (D.getD 25 undef), (D.getD 26 undef), (D.getD 27 undef), (D.getD 28 undef), (D.getD 29 undef), (D.getD 30 undef), (D.getD 31 undef), (D.getD 32 undef), (D.getD 33 undef), (D.getD 34 undef), (D.getD 35 undef), (D.getD 36 undef), (D.getD 37 undef), (D.getD 38 undef), (D.getD 39 undef), (D.getD 40 undef), (D.getD 41 undef), (D.getD 42 undef), (D.getD 43 undef), (D.getD 44 undef), (D.getD 45 undef), (D.getD 46 undef), (D.getD 47 undef), (D.getD 48 undef), (D.getD 49 undef), (D.getD 50 undef), (D.getD 51 undef), (D.getD 52 undef), .int .i64 x1, .bool (decide (x1 > (0 : Int))), .bool false, undef, undef, undef, undef, undef, undef, undef, undef, undef, undef, undef, (D.getD 68 undef), (D.getD 69 undef), (D.getD 70 undef), (D.getD 71 undef), (D.getD 72 undef), (D.getD 73 undef), (D.getD 74 undef), (D.getD 75 undef), (D.getD 76 undef), (D.getD 77 undef), (D.getD 78 undef), (D.getD 79 undef), (D.getD 80 undef), (D.getD 81 undef), (D.getD 82 undef), (D.getD 83 undef), (D.getD 84 undef), (D.getD 85 undef), (D.getD 86 undef), (D.getD 87 undef), (D.getD 88 undef), (D.getD 89 undef), (D.getD 90 undef), (D.getD 91 undef), (D.getD 92 undef), (D.getD 93 undef), (D.getD 94 undef), (D.getD 95 undef), (D.getD 96 undef), (D.getD 97 undef), (D.getD 98 undef), (D.getD 99 undef), (D.getD 100 undef), (D.getD 101 undef), (D.getD 102 undef), (D.getD 103 undef), (D.getD 104 undef), (D.getD 105 undef), (D.getD 106 undef), (D.getD 107 undef), (D.getD 108 undef), (D.getD 109 undef), (D.getD 110 undef), (D.getD 111 undef), (D.getD 112 undef), (D.getD 113 undef)] (H.bump 15)) := by
  unfold f96.K3
  rw [gateC_eq]
  kernel_rfl
theorem f96.K4_eq (k : Nat) (n1 : Nat) (a0 : Option Addr) (l0 : Nat) (c0 : Nat) (x1 : Int) (x2 : Int) (x3 : Int) (b8 : Bool) (b9 : Bool) (x10 : Int) (x11 : Int) (b87 : Bool) (D : List Value) (H : AHeap) : f96.K4 k n1 a0 l0 c0 x1 x2 x3 b8 b9 x10 x11 b87 D H =
  (bif b87 then
   cI .i64 (C k 105 [.slice a0 l0 c0, .int .i64 x1, .int .i64 x2, .int .i64 x11] H) fun x H_1 =>
   f96.L1 k n1 a0 l0 c0 x x2 x3 b8 b9 [.int .i64 x10, .int .i64 x11, (D.getD 0 undef), .int .i64 x, (D.getD 2 undef), (D.getD 3 undef), (D.getD 4 undef), (D.getD 5 undef), (D.getD 6 undef), (D.getD 7 undef), (D.getD 8 undef), (D.getD 9 undef), (D.getD 10 undef), (D.getD 11 undef), (D.getD 12 undef), (D.getD 13 undef), (D.getD 14 undef), (D.getD 15 undef), (D.getD 16 undef), (D.getD 17 undef), (D.getD 18 undef), (D.getD 19 undef), (D.getD 20 undef), (D.getD 21 undef), (D.getD 22 undef), (D.getD 23 undef), (D.getD 24 undef), (D.getD 25 undef), (D.getD 26 undef), (D.getD 27 undef), (D.getD 28 undef), (D.getD 29 undef), (D.getD 30 undef), (D.getD 31 undef), (D.getD 32 undef), (D.getD 33 undef), (D.getD 34 undef), (D.getD 35 undef), (D.getD 36 undef), (D.getD 37 undef), (D.getD 38 undef), (D.getD 39 undef), (D.getD 40 undef), (D.getD 41 undef), (D.getD 42 undef), (D.getD 43 undef), (D.getD 44 undef), (D.getD 45 undef), (D.getD 46 undef), (D.getD 47 undef), (D.getD 48 undef), (D.getD 49 undef), (D.getD 50 undef), (D.getD 51 undef), (D.getD 52 undef), (D.getD 53 undef), (D.getD 54 undef), (D.getD 55 undef), (D.getD 56 undef), (D.getD 57 undef), (D.getD 58 undef), (D.getD 59 undef), (D.getD 60 undef), (D.getD 61 undef), (D.getD 62 undef), (D.getD 63 undef), (D.getD 64 undef), (D.getD 65 undef), (D.getD 66 undef), .bool b87, .slice a0 l0 c0, .int .i64 x1, .int .i64 x2, .int .i64 x11, .int .i64 x, .int .i64 x, (D.getD 73 undef), (D.getD 74 undef), (D.getD 75 undef), (D.getD 76 undef), (D.getD 77 undef), (D.getD 78 undef), (D.getD 79 undef), (D.getD 80 undef), (D.getD 81 undef), (D.getD 82 undef), (D.getD 83 undef), (D.getD 84 undef), (D.getD 85 undef), (D.getD 86 undef), (D.getD 87 undef), (D.getD 88 undef), (D.getD 89 undef), (D.getD 90 undef), (D.getD 91 undef), (D.getD 92 undef), (D.getD 93 undef), (D.getD 94 undef), (D.getD 95 undef), (D.getD 96 undef), (D.getD 97 undef), (D.getD 98 undef), (D.getD 99 undef), (D.getD 100 undef), (D.getD 101 undef), (D.getD 102 undef), (D.getD 103 undef), (D.getD 104 undef), (D.getD 105 undef), (D.getD 106 undef), (D.getD 107 undef), (D.getD 108 undef), (D.getD 109 undef), (D.getD 110 undef), (D.getD 111 undef), (D.getD 112 undef)] H_1
   else
   f96.K5 k n1 a0 l0 c0 x1 x2 x3 x10 x11 [.bool b8, .bool b9, (D.getD 0 undef), (D.getD 1 undef), (D.getD 2 undef), (D.getD 3 undef), (D.getD 4 undef), (D.getD 5 undef), (D.getD 6 undef), (D.getD 7 undef), (D.getD 8 undef), (D.getD 9 undef), (D.getD 10 undef), (D.getD 11 undef), (D.getD 12 undef), (D.getD 13 undef), (D.getD 14 undef), (D.getD 15 undef), (D.getD 16 undef), (D.getD 17 undef), (D.getD 18 undef), (D.getD 19 undef), (D.getD 20 undef), (D.getD 21 undef), (D.getD 22 undef), (D.getD 23 undef), (D.getD 24 undef), (D.getD 25 undef), (D.getD 26 undef), (D.getD 27 undef), (D.getD 28 undef), (D.getD 29 undef), (D.getD 30 undef), (D.getD 31 undef), (D.getD 32 undef), (D.getD 33 undef), (D.getD 34 undef), (D.getD 35 undef), (D.getD 36 undef), (D.getD 37 undef), (D.getD 38 undef), (D.getD 39 undef), (D.getD 40 undef), (D.getD 41 undef), (D.getD 42 undef), (D.getD 43 undef), (D.getD 44 undef), (D.getD 45 undef), (D.getD 46 undef), (D.getD 47 undef), (D.getD 48 undef), (D.getD 49 undef), (D.getD 50 undef), (D.getD 51 undef), (D.getD 52 undef), (D.getD 53 undef), (D.getD 54 undef), (D.getD 55 undef), (D.getD 56 undef), (D.getD 57 undef), (D.getD 58 undef), (D.getD 59 undef), (D.getD 60 undef), (D.getD 61 undef), (D.getD 62 undef), (D.getD 63 undef), (D.getD 64 undef), (D.getD 65 undef), (D.getD 66 undef), .bool b87, (D.getD 67 undef), (D.getD 68 undef), (D.getD 69 undef), (D.getD 70 undef), (D.getD 71 undef), (D.getD 72 undef), (D.getD 73 undef), (D.getD 74 undef), (D.getD 75 undef), (D.getD 76 undef), (D.getD 77 undef), (D.getD 78 undef), (D.getD 79 undef), (D.getD 80 undef), (D.getD 81 undef), (D.getD 82 undef), (D.getD 83 undef), (D.getD 84 undef), (D.getD 85 undef), (D.getD 86 undef), (D.getD 87 undef), (D.getD 88 undef), (D.getD 89 undef), (D.getD 90 undef), (D.getD 91 undef), (D.getD 92 undef), (D.getD 93 undef), (D.getD 94 undef), (D.getD 95 undef), (D.getD 96 undef), (D.getD 97 undef), (D.getD 98 undef), (D.getD 99 undef), (D.getD 100 undef), (D.getD 101 undef), (D.getD 102 undef), (D.getD 103 undef), (D.getD 104 undef), (D.getD 105 undef), (D.getD 106 undef), (D.getD 107 undef), (D.getD 108 undef), (D.getD 109 undef), (D.getD 110 undef), (D.getD 111 undef), (D.getD 112 undef)] H) := by
  unfold f96.K4
  rw [gateC_eq]
  kernel_rfl
theorem f96.K5_eq (k : Nat) (n1 : Nat) (a0 : Option Addr) (l0 : Nat) (c0 : Nat) (x1 : Int) (x2 : Int) (x3 : Int) (x10 : Int) (x11 : Int) (D : List Value) (H : AHeap) : f96.K5 k n1 a0 l0 c0 x1 x2 x3 x10 x11 D H =
  (cT (C k 106 [.slice a0 l0 c0, .int .i64 x1, .int .i64 x2, .int .i64 x11] H) fun u H_1 =>
   exI .i64 (u.toList[0]?) fun x =>
   exB (u.toList[1]?) fun b =>
   bif (decide ((IntKind.i64.wrap (x - x1)) < (IntKind.i64.wrap (x2 - x)))) then
   cT (C k 96 [.slice a0 l0 c0, .int .i64 x1, .int .i64 x, .int .i64 x3] H_1) fun u_1 H_2 =>
   f96.L1 k n1 a0 l0 c0 (IntKind.i64.wrap (x + (1 : Int))) x2 x3 (decide ((IntKind.i64.wrap (x - x1)) ≥ (IntKind.i64.wrap (x10.tdiv (8 : Int))))) b [.int .i64 x10, .int .i64 x11, (D.getD 2 undef), (D.getD 3 undef), .int .i64 x, .bool b, .int .i64 (IntKind.i64.wrap (x - x1)), .int .i64 (IntKind.i64.wrap (x2 - x)), .int .i64 (IntKind.i64.wrap (x10.tdiv (8 : Int))), (D.getD 9 undef), (D.getD 10 undef), (D.getD 11 undef), (D.getD 12 undef), (D.getD 13 undef), (D.getD 14 undef), (D.getD 15 undef), (D.getD 16 undef), (D.getD 17 undef), (D.getD 18 undef), (D.getD 19 undef), (D.getD 20 undef), (D.getD 21 undef), (D.getD 22 undef), (D.getD 23 undef), (D.getD 24 undef), (D.getD 25 undef), (D.getD 26 undef), (D.getD 27 undef), (D.getD 28 undef), (D.getD 29 undef), (D.getD 30 undef), (D.getD 31 undef), (D.getD 32 undef), (D.getD 33 undef), (D.getD 34 undef), (D.getD 35 undef), (D.getD 36 undef), (D.getD 37 undef), (D.getD 38 undef), (D.getD 39 undef), (D.getD 40 undef), (D.getD 41 undef), (D.getD 42 undef), (D.getD 43 undef), (D.getD 44 undef), (D.getD 45 undef), (D.getD 46 undef), (D.getD 47 undef), (D.getD 48 undef), (D.getD 49 undef), (D.getD 50 undef), (D.getD 51 undef), (D.getD 52 undef), (D.getD 53 undef), (D.getD 54 undef), (D.getD 55 undef), (D.getD 56 undef), (D.getD 57 undef), (D.getD 58 undef), (D.getD 59 undef), (D.getD 60 undef), (D.getD 61 undef), (D.getD 62 undef), (D.getD 63 undef), (D.getD 64 undef), (D.getD 65 undef), (D.getD 66 undef), (D.getD 67 undef), (D.getD 68 undef), (D.getD 69 undef), (D.getD 70 undef), (D.getD 71 undef), (D.getD 72 undef), (D.getD 73 undef), (D.getD 74 undef), (D.getD 75 undef), .tuple u, .slice a0 l0 c0, .int .i64 x1, .int .i64 x2, .int .i64 x11, .tuple u, .int .i64 x, .bool b, .bool b, .int .i64 x, .int .i64 x1, .int .i64 (IntKind.i64.wrap (x - x1)), .int .i64 x2, .int .i64 x, .int .i64 (IntKind.i64.wrap (x2 - x)), .int .i64 x10, .int .i64 (IntKind.i64.wrap (x10.tdiv (8 : Int))), .int .i64 (IntKind.i64.wrap (x - x1)), .int .i64 (IntKind.i64.wrap (x2 - x)), .bool (decide ((IntKind.i64.wrap (x - x1)) < (IntKind.i64.wrap (x2 - x)))), .int .i64 (IntKind.i64.wrap (x - x1)), .int .i64 (IntKind.i64.wrap (x10.tdiv (8 : Int))), .bool (decide ((IntKind.i64.wrap (x - x1)) ≥ (IntKind.i64.wrap (x10.tdiv (8 : Int))))), .slice a0 l0 c0, .int .i64 x1, .int .i64 x, .int .i64 x3, .tuple u_1, .int .i64 x, .int .i64 (IntKind.i64.wrap (x + (1 : Int))), (D.getD 106 undef), (D.getD 107 undef), (D.getD 108 undef), (D.getD 109 undef), (D.getD 110 undef), (D.getD 111 undef), (D.getD 112 undef), (D.getD 113 undef), (D.getD 114 undef), (D.getD 115 undef)] H_2
   else
   cT (C k 96 [.slice a0 l0 c0, .int .i64 (IntKind.i64.wrap (x + (1 : Int))), .int .i64 x2, .int .i64 x3] H_1) fun u_2 H_3 =>
   f96.L1 k n1 a0 l0 c0 x1 x x3 (decide ((IntKind.i64.wrap (x2 - x)) ≥ (IntKind.i64.wrap (x10.tdiv (8 : Int))))) b [.int .i64 x10, .int .i64 x11, (D.getD 2 undef), (D.getD 3 undef), .int .i64 x, .bool b, .int .i64 (IntKind.i64.wrap (x - x1)), .int .i64 (IntKind.i64.wrap (x2 - x)), .int .i64 (IntKind.i64.wrap (x10.tdiv (8 : Int))), (D.getD 9 undef), (D.getD 10 undef), (D.getD 11 undef), (D.getD 12 undef), (D.getD 13 undef), (D.getD 14 undef), (D.getD 15 undef), (D.getD 16 undef), (D.getD 17 undef), (D.getD 18 undef), (D.getD 19 undef), (D.getD 20 undef), (D.getD 21 undef), (D.getD 22 undef), (D.getD 23 undef), (D.getD 24 undef), (D.getD 25 undef), (D.getD 26 undef), (D.getD 27 undef), (D.getD 28 undef), (D.getD 29 undef), (D.getD 30 undef), (D.getD 31 undef), (D.getD 32 undef), (D.getD 33 undef), (D.getD 34 undef), (D.getD 35 undef), (D.getD 36 undef), (D.getD 37 undef), (D.getD 38 undef), (D.getD 39 undef), (D.getD 40 undef), (D.getD 41 undef), (D.getD 42 undef), (D.getD 43 undef), (D.getD 44 undef), (D.getD 45 undef), (D.getD 46 undef), (D.getD 47 undef), (D.getD 48 undef), (D.getD 49 undef), (D.getD 50 undef), (D.getD 51 undef), (D.getD 52 undef), (D.getD 53 undef), (D.getD 54 undef), (D.getD 55 undef), (D.getD 56 undef), (D.getD 57 undef), (D.getD 58 undef), (D.getD 59 undef), (D.getD 60 undef), (D.getD 61 undef), (D.getD 62 undef), (D.getD 63 undef), (D.getD 64 undef), (D.getD 65 undef), (D.getD 66 undef), (D.getD 67 undef), (D.getD 68 undef), (D.getD 69 undef), (D.getD 70 undef), (D.getD 71 undef), (D.getD 72 undef), (D.getD 73 undef), (D.getD 74 undef), (D.getD 75 undef), .tuple u, .slice a0 l0 c0, .int .i64 x1, .int .i64 x2, .int .i64 x11, .tuple u, .int .i64 x, .bool b, .bool b, .int .i64 x, .int .i64 x1, .int .i64 (IntKind.i64.wrap (x - x1)), .int .i64 x2, .int .i64 x, .int .i64 (IntKind.i64.wrap (x2 - x)), .int .i64 x10, .int .i64 (IntKind.i64.wrap (x10.tdiv (8 : Int))), .int .i64 (IntKind.i64.wrap (x - x1)), .int .i64 (IntKind.i64.wrap (x2 - x)), .bool (decide ((IntKind.i64.wrap (x - x1)) < (IntKind.i64.wrap (x2 - x)))), (D.getD 96 undef), (D.getD 97 undef), (D.getD 98 undef), (D.getD 99 undef), (D.getD 100 undef), (D.getD 101 undef), (D.getD 102 undef), (D.getD 103 undef), (D.getD 104 undef), (D.getD 105 undef), .int .i64 (IntKind.i64.wrap (x2 - x)), .int .i64 (IntKind.i64.wrap (x10.tdiv (8 : Int))), .bool (decide ((IntKind.i64.wrap (x2 - x)) ≥ (IntKind.i64.wrap (x10.tdiv (8 : Int))))), .slice a0 l0 c0, .int .i64 x, .int .i64 (IntKind.i64.wrap (x + (1 : Int))), .int .i64 x2, .int .i64 x3, .tuple u_2, .int .i64 x] H_3) := by
  unfold f96.K5
  rw [gateC_eq]
  kernel_rfl
theorem f96_eq (k : Nat) (a0 : Option Addr) (l0 : Nat) (c0 : Nat) (x1 : Int) (x2 : Int) (x3 : Int) (H : AHeap) : C (k + 1) 96 [.slice a0 l0 c0, .int .i64 x1, .int .i64 x2, .int .i64 x3] H =
  (f96.L1 k k a0 l0 c0 x1 x2 x3 true true [undef, undef, undef, undef, undef, undef, undef, undef, undef, undef, undef, undef, undef, undef, undef, undef, undef, undef, undef, undef, undef, undef, undef, undef, undef, undef, undef, undef, undef, undef, undef, undef, undef, undef, undef, undef, undef, undef, undef, undef, undef, undef, undef, undef, undef, undef, undef, undef, undef, undef, undef, undef, undef, undef, undef, undef, undef, undef, undef, undef, undef, undef, undef, undef, undef, undef, undef, undef, undef, undef, undef, undef, undef, undef, undef, undef, undef, undef, undef, undef, undef, undef, undef, undef, undef, undef, undef, undef, undef, undef, undef, undef, undef, undef, undef, undef, undef, undef, undef, undef, undef, undef, undef, undef, undef, undef, undef, undef, undef, undef, undef, undef, undef, undef, undef, undef] H) := by kernel_rfl

/- f97 "math/bits.Len"  names: 0:x 1:x -/
theorem f97_eq (k : Nat) (x0 : Int) (H : AHeap) : C (k + 1) 97 [.int .u64 x0] H =
  (cI .i64 (C k 108 [.int .u64 x0] H) fun x H_1 =>
   some (.int .i64 x, H_1)) := by kernel_rfl

/- f98 "slices.insertionSortOrdered[int]"  names: 0:data 1:a 2:b 3:data 4:a 5:b 6:i 7:j -/
noncomputable def f98.Q0 (k : Nat)  : Kont (Value × AHeap) := retQ Try.prog Try.f98
noncomputable def f98.Q1 (k : Nat)  : Kont (Value × AHeap) := blkQ 0 (f98.Q0 k )
noncomputable def f98.Q2 (k : Nat) (n1 : Nat) : Kont (Value × AHeap) := seqQ (iter (run Try.prog (C k) k (Sub (bodyOf Try.f98) [1, 0, 0])) (f98.Q1 k ) n1) (f98.Q1 k )
noncomputable def f98.Q3 (k : Nat) (n1 : Nat) : Kont (Value × AHeap) := seqQ (gateC (Sub (bodyOf Try.f98) [1, 0, 0, 1, 0]) (Sub (bodyOf Try.f98) [1, 0, 0, 1, 1]) k (run Try.prog (C k) k (Sub (bodyOf Try.f98) [1, 0, 0, 1, 1]) (f98.Q2 k n1))) (f98.Q2 k n1)
noncomputable def f98.Q4 (k : Nat) (n1 : Nat) : Kont (Value × AHeap) := blkQ 1 (f98.Q3 k n1)
noncomputable def f98.Q5 (k : Nat) (n1 : Nat) : Kont (Value × AHeap) := blkQ 2 (f98.Q4 k n1)
noncomputable def f98.Q6 (k : Nat) (n1 : Nat) (n2 : Nat) : Kont (Value × AHeap) := seqQ (iter (run Try.prog (C k) k (Sub (bodyOf Try.f98) [1, 0, 0, 1, 0, 0, 1, 0, 0])) (f98.Q5 k n1) n2) (f98.Q5 k n1)
noncomputable def f98.L1 (k : Nat) (n1 : Nat) (a0 : Option Addr) (l0 : Nat) (c0 : Nat) (x1 : Int) (x2 : Int) (x6 : Int) (D : List Value) (H : AHeap) : Option (Value × AHeap) :=
  iter (run Try.prog (C k) k (Sub (bodyOf Try.f98) [1, 0, 0])) (f98.Q1 k ) n1 [.slice a0 l0 c0, .int .i64 x1, .int .i64 x2, undef, undef, undef, .int .i64 x6, (D.getD 0 undef), (D.getD 1 undef), (D.getD 2 undef), (D.getD 3 undef), (D.getD 4 undef), (D.getD 5 undef), (D.getD 6 undef), (D.getD 7 undef), (D.getD 8 undef), (D.getD 9 undef), (D.getD 10 undef), (D.getD 11 undef), (D.getD 12 undef), (D.getD 13 undef), (D.getD 14 undef), (D.getD 15 undef), (D.getD 16 undef), (D.getD 17 undef), (D.getD 18 undef), (D.getD 19 undef), (D.getD 20 undef), (D.getD 21 undef), (D.getD 22 undef), (D.getD 23 undef), (D.getD 24 undef), (D.getD 25 undef), (D.getD 26 undef), (D.getD 27 undef), (D.getD 28 undef), (D.getD 29 undef), (D.getD 30 undef), (D.getD 31 undef), (D.getD 32 undef), (D.getD 33 undef), (D.getD 34 undef), (D.getD 35 undef), (D.getD 36 undef), (D.getD 37 undef), (D.getD 38 undef), (D.getD 39 undef), (D.getD 40 undef), (D.getD 41 undef)] H
noncomputable def f98.L2 (k : Nat) (n1 : Nat) (n2 : Nat) (a0 : Option Addr) (l0 : Nat) (c0 : Nat) (x1 : Int) (x2 : Int) (x6 : Int) (x7 : Int) (D : List Value) (H : AHeap) : Option (Value × AHeap) :=
  iter (run Try.prog (C k) k (Sub (bodyOf Try.f98) [1, 0, 0, 1, 0, 0, 1, 0, 0])) (f98.Q5 k n1) n2 [.slice a0 l0 c0, .int .i64 x1, .int .i64 x2, undef, undef, undef, .int .i64 x6, .int .i64 x7, (D.getD 0 undef), (D.getD 1 undef), (D.getD 2 undef), (D.getD 3 undef), (D.getD 4 undef), (D.getD 5 undef), (D.getD 6 undef), (D.getD 7 undef), (D.getD 8 undef), (D.getD 9 undef), (D.getD 10 undef), (D.getD 11 undef), (D.getD 12 undef), (D.getD 13 undef), (D.getD 14 undef), (D.getD 15 undef), (D.getD 16 undef), (D.getD 17 undef), (D.getD 18 undef), (D.getD 19 undef), (D.getD 20 undef), (D.getD 21 undef), (D.getD 22 undef), (D.getD 23 undef), (D.getD 24 undef), (D.getD 25 undef), (D.getD 26 undef), (D.getD 27 undef), (D.getD 28 undef), (D.getD 29 undef), (D.getD 30 undef), (D.getD 31 undef), (D.getD 32 undef), (D.getD 33 undef), (D.getD 34 undef), (D.getD 35 undef), (D.getD 36 undef), (D.getD 37 undef), (D.getD 38 undef), (D.getD 39 undef), (D.getD 40 undef)] H
noncomputable def f98.K1 (k : Nat) (n1 : Nat) (n2 : Nat) (a0 : Option Addr) (l0 : Nat) (c0 : Nat) (x1 : Int) (x2 : Int) (x6 : Int) (x7 : Int) (D : List Value) (H : AHeap) : Option (Value × AHeap) :=
  gateC (Sub (bodyOf Try.f98) [1, 0, 0, 1, 0, 0, 1, 0, 0, 0]) (Sub (bodyOf Try.f98) [1, 0, 0, 1, 0, 0, 1, 0, 0, 1]) k (run Try.prog (C k) k (Sub (bodyOf Try.f98) [1, 0, 0, 1, 0, 0, 1, 0, 0, 1]) (f98.Q6 k n1 n2)) [.slice a0 l0 c0, .int .i64 x1, .int .i64 x2, undef, undef, undef, .int .i64 x6, .int .i64 x7, (D.getD 0 undef), (D.getD 1 undef), (D.getD 2 undef), (D.getD 3 undef), (D.getD 4 undef), (D.getD 5 undef), (D.getD 6 undef), (D.getD 7 undef), (D.getD 8 undef), (D.getD 9 undef), (D.getD 10 undef), (D.getD 11 undef), (D.getD 12 undef), (D.getD 13 undef), (D.getD 14 undef), (D.getD 15 undef), (D.getD 16 undef), (D.getD 17 undef), (D.getD 18 undef), (D.getD 19 undef), (D.getD 20 undef), (D.getD 21 undef), (D.getD 22 undef), (D.getD 23 undef), (D.getD 24 undef), (D.getD 25 undef), (D.getD 26 undef), (D.getD 27 undef), (D.getD 28 undef), (D.getD 29 undef), (D.getD 30 undef), (D.getD 31 undef), (D.getD 32 undef), (D.getD 33 undef), (D.getD 34 undef), (D.getD 35 undef), (D.getD 36 undef), (D.getD 37 undef), (D.getD 38 undef), (D.getD 39 undef), (D.getD 40 undef)] H
theorem f98.L1_z (k : Nat)  (a0 : Option Addr) (l0 : Nat) (c0 : Nat) (x1 : Int) (x2 : Int) (x6 : Int) (D : List Value) (H : AHeap) : f98.L1 k 0 a0 l0 c0 x1 x2 x6 D H = none := by kernel_rfl
theorem f98.L1_s (k : Nat) (n1 : Nat) (a0 : Option Addr) (l0 : Nat) (c0 : Nat) (x1 : Int) (x2 : Int) (x6 : Int) (D : List Value) (H : AHeap) : f98.L1 k (n1 + 1) a0 l0 c0 x1 x2 x6 D H =
  (bif (decide (x6 < x2)) then
   f98.L2 k n1 k a0 l0 c0 x1 x2 x6 x6 [(D.getD 1 undef), (D.getD 2 undef), .int .i64 x6, .int .i64 x2, .bool (decide (x6 < x2)), (D.getD 6 undef), (D.getD 7 undef), .int .i64 x6, (D.getD 9 undef), (D.getD 10 undef), (D.getD 11 undef), (D.getD 12 undef), (D.getD 13 undef), (D.getD 14 undef), (D.getD 15 undef), (D.getD 16 undef), (D.getD 17 undef), (D.getD 18 undef), (D.getD 19 undef), (D.getD 20 undef), (D.getD 21 undef), (D.getD 22 undef), (D.getD 23 undef), (D.getD 24 undef), (D.getD 25 undef), (D.getD 26 undef), (D.getD 27 undef), (D.getD 28 undef), (D.getD 29 undef), (D.getD 30 undef), (D.getD 31 undef), (D.getD 32 undef), (D.getD 33 undef), (D.getD 34 undef), (D.getD 35 undef), (D.getD 36 undef), (D.getD 37 undef), (D.getD 38 undef), (D.getD 39 undef), (D.getD 40 undef), (D.getD 41 undef)] H
   else
   some (.tuple #[], H)) := by kernel_rfl
theorem f98.L2_z (k : Nat) (n1 : Nat) (a0 : Option Addr) (l0 : Nat) (c0 : Nat) (x1 : Int) (x2 : Int) (x6 : Int) (x7 : Int) (D : List Value) (H : AHeap) : f98.L2 k n1 0 a0 l0 c0 x1 x2 x6 x7 D H = none := by kernel_rfl
theorem f98.L2_s (k : Nat) (n1 : Nat) (n2 : Nat) (a0 : Option Addr) (l0 : Nat) (c0 : Nat) (x1 : Int) (x2 : Int) (x6 : Int) (x7 : Int) (D : List Value) (H : AHeap) : f98.L2 k n1 (n2 + 1) a0 l0 c0 x1 x2 x6 x7 D H =
  (bif (decide (x7 > x1)) then
   a0.bind fun q =>
   if 0 ≤ x7 ∧ x7 < (l0 : Int) then
   bif sameB H (H.bump 15) q.block then
   (ldI .i64 (H.bump 15) q.block (q.off + x7.toNat * 1)).bind fun x =>
   a0.bind fun q_1 =>
   if 0 ≤ (IntKind.i64.wrap (x7 - (1 : Int))) ∧ (IntKind.i64.wrap (x7 - (1 : Int))) < (l0 : Int) then
   bif sameB H (H.bump 15) q_1.block then
   (ldI .i64 (H.bump 15) q_1.block (q_1.off + (IntKind.i64.wrap (x7 - (1 : Int))).toNat * 1)).bind fun x_1 =>
   cB (C k 104 [.int .i64 x, .int .i64 x_1] (H.bump 15)) fun b H_1 =>
   bif b then
   f98.K1 k n1 n2 a0 l0 c0 x1 x2 x6 x7 [(D.getD 0 undef), (D.getD 1 undef), (D.getD 2 undef), (D.getD 3 undef), (D.getD 4 undef), (D.getD 5 undef), (D.getD 6 undef), (D.getD 7 undef), .int .i64 x7, .int .i64 x1, .bool (decide (x7 > x1)), .bool true, .slice a0 l0 c0, .int .i64 x7, .pointer (some ⟨q.block, q.off + x7.toNat * 1, none⟩), .int .i64 x, .slice a0 l0 c0, .int .i64 x7, .int .i64 (IntKind.i64.wrap (x7 - (1 : Int))), .pointer (some ⟨q_1.block, q_1.off + (IntKind.i64.wrap (x7 - (1 : Int))).toNat * 1, none⟩), .int .i64 x_1, .bool b, .bool b, (D.getD 23 undef), (D.getD 24 undef), (D.getD 25 undef), (D.getD 26 undef), (D.getD 27 undef), (D.getD 28 undef), (D.getD 29 undef), (D.getD 30 undef), (D.getD 31 undef), (D.getD 32 undef), (D.getD 33 undef), (D.getD 34 undef), (D.getD 35 undef), (D.getD 36 undef), (D.getD 37 undef), (D.getD 38 undef), (D.getD 39 undef), (D.getD 40 undef)] H_1
   else
   f98.L1 k n1 a0 l0 c0 x1 x2 (IntKind.i64.wrap (x6 + (1 : Int))) [.int .i64 x7, (D.getD 0 undef), (D.getD 1 undef), (D.getD 2 undef), (D.getD 3 undef), (D.getD 4 undef), .int .i64 x6, .int .i64 (IntKind.i64.wrap (x6 + (1 : Int))), (D.getD 7 undef), .int .i64 x7, .int .i64 x1, .bool (decide (x7 > x1)), .bool true, .slice a0 l0 c0, .int .i64 x7, .pointer (some ⟨q.block, q.off + x7.toNat * 1, none⟩), .int .i64 x, .slice a0 l0 c0, .int .i64 x7, .int .i64 (IntKind.i64.wrap (x7 - (1 : Int))), .pointer (some ⟨q_1.block, q_1.off + (IntKind.i64.wrap (x7 - (1 : Int))).toNat * 1, none⟩), .int .i64 x_1, .bool b, .bool b, (D.getD 23 undef), (D.getD 24 undef), (D.getD 25 undef), (D.getD 26 undef), (D.getD 27 undef), (D.getD 28 undef), (D.getD 29 undef), (D.getD 30 undef), (D.getD 31 undef), (D.getD 32 undef), (D.getD 33 undef), (D.getD 34 undef), (D.getD 35 undef), (D.getD 36 undef), (D.getD 37 undef), (D.getD 38 undef), (D.getD 39 undef), (D.getD 40 undef)] H_1
   else none
   else none
   else none
   else none
   else
   f98.L1 k n1 a0 l0 c0 x1 x2 (IntKind.i64.wrap (x6 + (1 : Int))) [.int .i64 x7, (D.getD 0 undef), (D.getD 1 undef), (D.getD 2 undef), (D.getD 3 undef), (D.getD 4 undef), .int .i64 x6, .int .i64 (IntKind.i64.wrap (x6 + (1 : Int))), (D.getD 7 undef), .int .i64 x7, .int .i64 x1, .bool (decide (x7 > x1)), .bool false, undef, undef, undef, undef, undef, undef, undef, undef, undef, undef, .bool false, (D.getD 23 undef), (D.getD 24 undef), (D.getD 25 undef), (D.getD 26 undef), (D.getD 27 undef), (D.getD 28 undef), (D.getD 29 undef), (D.getD 30 undef), (D.getD 31 undef), (D.getD 32 undef), (D.getD 33 undef), (D.getD 34 undef), (D.getD 35 undef), (D.getD 36 undef), (D.getD 37 undef), (D.getD 38 undef), (D.getD 39 undef), (D.getD 40 undef)] (H.bump 15)) := by kernel_rfl
theorem f98.K1_eq (k : Nat) (n1 : Nat) (n2 : Nat) (a0 : Option Addr) (l0 : Nat) (c0 : Nat) (x1 : Int) (x2 : Int) (x6 : Int) (x7 : Int) (D : List Value) (H : AHeap) : f98.K1 k n1 n2 a0 l0 c0 x1 x2 x6 x7 D H =
  (a0.bind fun q =>
   if 0 ≤ (IntKind.i64.wrap (x7 - (1 : Int))) ∧ (IntKind.i64.wrap (x7 - (1 : Int))) < (l0 : Int) then
   bif sameB H (H.bump 18) q.block then
   (ldI .i64 (H.bump 18) q.block (q.off + (IntKind.i64.wrap (x7 - (1 : Int))).toNat * 1)).bind fun x =>
   a0.bind fun q_1 =>
   if 0 ≤ x7 ∧ x7 < (l0 : Int) then
   bif sameB H (H.bump 18) q_1.block then
   (ldI .i64 (H.bump 18) q_1.block (q_1.off + x7.toNat * 1)).bind fun x_1 =>
   a0.bind fun q_2 =>
   if 0 ≤ x7 ∧ x7 < (l0 : Int) then
   (AHeap.wr (H.bump 18) q_2.block (q_2.off + x7.toNat * 1) [.int .i64 x]).bind fun H_1 =>
   a0.bind fun q_3 =>
   if 0 ≤ (IntKind.i64.wrap (x7 - (1 : Int))) ∧ (IntKind.i64.wrap (x7 - (1 : Int))) < (l0 : Int) then
   (AHeap.wr H_1 q_3.block (q_3.off + (IntKind.i64.wrap (x7 - (1 : Int))).toNat * 1) [.int .i64 x_1]).bind fun H_2 =>
   f98.L2 k n1 n2 a0 l0 c0 x1 x2 x6 (IntKind.i64.wrap (x7 - (1 : Int))) [(D.getD 0 undef), (D.getD 1 undef), (D.getD 2 undef), (D.getD 3 undef), (D.getD 4 undef), (D.getD 5 undef), (D.getD 6 undef), (D.getD 7 undef), (D.getD 8 undef), (D.getD 9 undef), (D.getD 10 undef), (D.getD 11 undef), (D.getD 12 undef), (D.getD 13 undef), (D.getD 14 undef), (D.getD 15 undef), (D.getD 16 undef), (D.getD 17 undef), (D.getD 18 undef), (D.getD 19 undef), (D.getD 20 undef), (D.getD 21 undef), (D.getD 22 undef), .int .i64 x7, .int .i64 (IntKind.i64.wrap (x7 - (1 : Int))), .slice a0 l0 c0, .int .i64 x7, .slice a0 l0 c0, .int .i64 x7, .int .i64 (IntKind.i64.wrap (x7 - (1 : Int))), .slice a0 l0 c0, .int .i64 x7, .int .i64 (IntKind.i64.wrap (x7 - (1 : Int))), .pointer (some ⟨q.block, q.off + (IntKind.i64.wrap (x7 - (1 : Int))).toNat * 1, none⟩), .int .i64 x, .slice a0 l0 c0, .int .i64 x7, .pointer (some ⟨q_1.block, q_1.off + x7.toNat * 1, none⟩), .int .i64 x_1, .pointer (some ⟨q_2.block, q_2.off + x7.toNat * 1, none⟩), .pointer (some ⟨q_3.block, q_3.off + (IntKind.i64.wrap (x7 - (1 : Int))).toNat * 1, none⟩)] H_2
   else none
   else none
   else none
   else none
   else none
   else none) := by
  unfold f98.K1
  rw [gateC_eq]
  kernel_rfl
theorem f98_eq (k : Nat) (a0 : Option Addr) (l0 : Nat) (c0 : Nat) (x1 : Int) (x2 : Int) (H : AHeap) : C (k + 1) 98 [.slice a0 l0 c0, .int .i64 x1, .int .i64 x2] H =
  (f98.L1 k k a0 l0 c0 x1 x2 (IntKind.i64.wrap (x1 + (1 : Int))) [undef, .int .i64 x1, .int .i64 (IntKind.i64.wrap (x1 + (1 : Int))), undef, undef, undef, undef, undef, undef, undef, undef, undef, undef, undef, undef, undef, undef, undef, undef, undef, undef, undef, undef, undef, undef, undef, undef, undef, undef, undef, undef, undef, undef, undef, undef, undef, undef, undef, undef, undef, undef, undef] H) := by kernel_rfl

/- f104 "cmp.Less[int]"  names: 0:x 1:y 2:x 3:y -/
theorem f104_eq (k : Nat) (x0 : Int) (x1 : Int) (H : AHeap) : C (k + 1) 104 [.int .i64 x0, .int .i64 x1] H =
  (cB (C k 114 [.int .i64 x0] H) fun b H_1 =>
   bif b then
   cB (C k 114 [.int .i64 x1] H_1) fun b_1 H_2 =>
   bif (!b_1) then
   some (.bool true, H_2)
   else
   some (.bool (decide (x0 < x1)), H_2)
   else
   some (.bool (decide (x0 < x1)), H_1)) := by kernel_rfl

/- f114 "cmp.isNaN[int]"  names: 0:x 1:x -/
theorem f114_eq (k : Nat) (x0 : Int) (H : AHeap) : C (k + 1) 114 [.int .i64 x0] H =
  (some (.bool (x0 != x0), H)) := by kernel_rfl

end Go.Proofs.MxF
end

section
set_option linter.unusedSimpArgs false
/- Lists of numbers: is one among them; which locks exclude which. -/
set_option linter.unusedVariables false
namespace Go.Proofs.MxF
open Go Go.Mx Go.Proofs

theorem wrapS {i l : Nat} (h : i < l) (hl : l ≤ maxLen) : IntKind.i64.wrap ((i : Int) + 1) = ((i + 1 : Nat) : Int) := by
  unfold maxLen at hl
  rw [IntWalk.i64_in _ (by omega)]; omega
theorem drop_cons {α : Type} {xs : List α} {i : Nat} {x : α} (h : xs[i]? = some x) : xs.drop i = x :: xs.drop (i + 1) := by
  obtain ⟨hi, e⟩ := List.getElem?_eq_some_iff.1 h
  rw [List.drop_eq_getElem_cons hi, e]
/-- reading entry i -/
theorem Ints.at {H : AHeap} {a : Option Addr} {l : Nat} {xs : List Int} (h : Ints H a l xs) {i : Nat} (hi : i < l) :
    ∃ q x, xs[i]? = some x ∧ a = some q ∧ ldI .i64 H q.block (q.off + (i : Int).toNat * 1) = some x := by
  have hx : i < xs.length := by have := h.len; omega
  obtain ⟨q, e, hq⟩ := h.ld (List.getElem?_eq_getElem hx)
  exact ⟨q, xs[i], List.getElem?_eq_getElem hx, e, by rw [Nat.mul_one]; exact hq⟩
def hasI (xs : List Int) (v : Int) : Bool := xs.any fun x => x == v
theorem hasI_cons (x : Int) (xs : List Int) (v : Int) : hasI (x :: xs) v = ((x == v) || hasI xs v) := rfl
theorem hasI_at {xs : List Int} {i : Nat} {x v : Int} (h : xs[i]? = some x) : hasI (xs.drop i) v = ((x == v) || hasI (xs.drop (i + 1)) v) := by
  rw [drop_cons h]; rfl
theorem hasI_end {xs : List Int} {i : Nat} {v : Int} (h : xs.length ≤ i) : hasI (xs.drop i) v = false := by
  rw [List.drop_eq_nil_of_le h]; rfl

theorem f87_loop {k l c : Nat} {a : Option Addr} {xs : List Int} {v : Int} {H : AHeap} (h : Ints H a l xs) (hl : l ≤ maxLen) : ∀ (m i n : Nat) (D : List Value), i + m = l → m < n →
    Ok (f87.L1 k n a l c v (l : Int) (i : Int) D H) fun r => ∃ x : Int, r = (.int .i64 x, H) ∧ decide (x ≥ 0) = hasI (xs.drop i) v := by
  intro m
  induction m with
  | zero =>
    intro i n D hm hn
    obtain ⟨n, rfl⟩ : ∃ j, n = j + 1 := ⟨n - 1, by omega⟩
    rw [f87.L1_s]
    refine ok_biff (by simp only [decide_eq_false_iff_not]; omega) (Ok.ret ⟨_, rfl, ?_⟩)
    rw [hasI_end (by have := h.len; omega)]; rfl
  | succ m ih =>
    intro i n D hm hn
    obtain ⟨n, rfl⟩ : ∃ j, n = j + 1 := ⟨n - 1, by omega⟩
    rw [f87.L1_s]
    obtain ⟨q, x, hx, e, hq⟩ := Ints.at h (i := i) (by omega)
    refine ok_bift (by simp only [decide_eq_true_eq]; omega) (ok_bind e (ok_if (by omega) (ok_bind hq ?_)))
    rw [hasI_at hx, wrapS (l := l) (by omega) hl]
    refine ok_bif (fun hb => Ok.ret ⟨_, rfl, ?_⟩) (fun hb => ?_)
    · rw [beq_iff_eq] at hb; subst hb; rw [beq_self_eq_true]; simp
    · have : (x == v) = false := by rw [Bool.beq_comm] at hb; exact hb
      rw [this, Bool.false_or]
      exact ih (i + 1) n _ (by omega) (by omega)
theorem f63_spec {k l c : Nat} {a : Option Addr} {xs : List Int} {H : AHeap} (h : Ints H a l xs) (hl : l ≤ maxLen) (hk : l + 3 ≤ k) (v : Int) :
    C k 63 [.slice a l c, .int .i64 v] H = some (.bool (hasI xs v), H) := by
  obtain ⟨k, rfl⟩ : ∃ j, k = j + 1 + 1 := ⟨k - 2, by omega⟩
  rw [f63_eq, f87_eq]
  apply eq_of_ok
  obtain ⟨r, e, x, e1, e2⟩ := f87_loop (k := k) (c := c) (v := v) h hl l 0 k [.int .i64 0, undef, .slice a l c, undef, undef, undef, undef, undef, undef, undef, undef, undef] (by omega) (by omega)
  subst e1
  refine ok_cI0 (n := x) e (Ok.ret ?_)
  rw [e2]; rfl

theorem f29_loop {k l c : Nat} {a : Option Addr} {xs : List Int} {v : Int} {H : AHeap} (h : Ints H a l xs) (hl : l ≤ maxLen) : ∀ (m i n : Nat) (D : List Value), i + m = l → m < n →
    Ok (f29.L1 k n v a l c (l : Int) (i : Int) D H) fun r => r = (.bool (hasI (xs.drop i) v), H) := by
  intro m
  induction m with
  | zero =>
    intro i n D hm hn
    obtain ⟨n, rfl⟩ : ∃ j, n = j + 1 := ⟨n - 1, by omega⟩
    rw [f29.L1_s]
    refine ok_biff (by simp only [decide_eq_false_iff_not]; omega) (Ok.ret ?_)
    rw [hasI_end (by have := h.len; omega)]
  | succ m ih =>
    intro i n D hm hn
    obtain ⟨n, rfl⟩ : ∃ j, n = j + 1 := ⟨n - 1, by omega⟩
    rw [f29.L1_s]
    obtain ⟨q, x, hx, e, hq⟩ := Ints.at h (i := i) (by omega)
    refine ok_bift (by simp only [decide_eq_true_eq]; omega) (ok_bind e (ok_if (by omega) (ok_bind hq ?_)))
    rw [hasI_at hx, wrapS (l := l) (by omega) hl]
    refine ok_bif (fun hb => Ok.ret ?_) (fun hb => ?_)
    · rw [hb]; rfl
    · rw [hb, Bool.false_or]
      exact ih (i + 1) n _ (by omega) (by omega)
theorem f29_spec {k l c : Nat} {a : Option Addr} {xs : List Int} {H : AHeap} (h : Ints H a l xs) (hl : l ≤ maxLen) (hk : l + 2 ≤ k) (v : Int) :
    C k 29 [.slice a l c, .int .i64 v] H = some (.bool (hasI xs v), H) := by
  obtain ⟨k, rfl⟩ : ∃ j, k = j + 1 := ⟨k - 1, by omega⟩
  rw [f29_eq]
  exact eq_of_ok (f29_loop (k := k) (c := c) (v := v) h hl l 0 k _ (by omega) (by omega))

/-- a Held in a box -/
def HeldAt (H : AHeap) (p : Nat) (a : Option Addr) (l c : Nat) (a' : Option Addr) (l' c' : Nat) : Prop := ∃ e v, At H p ⟨[.slice a l c, .slice a' l' c'], e, .rw, v⟩
theorem HeldAt.ld0 {H : AHeap} {p : Nat} {a : Option Addr} {l c : Nat} {a' : Option Addr} {l' c' : Nat} (h : HeldAt H p a l c a' l' c') : ldSl H p 0 = some (a, l, c) := by
  obtain ⟨e, v, h⟩ := h; exact ldSl_at h (by simp) rfl
theorem HeldAt.ld1 {H : AHeap} {p : Nat} {a : Option Addr} {l c : Nat} {a' : Option Addr} {l' c' : Nat} (h : HeldAt H p a l c a' l' c') : ldSl H p 1 = some (a', l', c') := by
  obtain ⟨e, v, h⟩ := h; exact ldSl_at h (by simp) rfl
theorem HeldAt.row {H : AHeap} {p : Nat} {a : Option Addr} {l c : Nat} {a' : Option Addr} {l' c' : Nat} (h : HeldAt H p a l c a' l' c') : H.row p 0 2 = some [.slice a l c, .slice a' l' c'] := by
  obtain ⟨e, v, h⟩ := h
  rw [row_at h (by simp) (by simp)]; rfl
theorem HeldAt.agree {H H' : AHeap} {p : Nat} {a : Option Addr} {l c : Nat} {a' : Option Addr} {l' c' : Nat} (h : HeldAt H p a l c a' l' c') (A : Agree H H') : HeldAt H' p a l c a' l' c' := by
  obtain ⟨e, v, h⟩ := h; exact ⟨e, v, h.agree A⟩

theorem f62_spec {k : Nat} {H : AHeap} {p : Nat} {a : Option Addr} {l c : Nat} {a' : Option Addr} {l' c' : Nat} {xs ys : List Int} (hp : HeldAt H p a l c a' l' c') (h : Ints H a l xs) (h' : Ints H a' l' ys) (hl : l ≤ maxLen) (hl' : l' ≤ maxLen)
    (hk : l + l' + 4 ≤ k) (v : Int) : C k 62 [.int .i64 v, .pointer (some ⟨p, 0, none⟩)] H = some (.bool (hasI xs v || hasI ys v), H) := by
  obtain ⟨k, rfl⟩ : ∃ j, k = j + 1 := ⟨k - 1, by omega⟩
  rw [f62_eq]
  apply eq_of_ok
  refine ok_bSl hp.ld0 (ok_cB0 (f63_spec h hl (by omega) v) (ok_bif (fun hb => Ok.ret ?_) (fun hb => ok_bSl hp.ld1 (ok_cB0 (f63_spec h' hl' (by omega) v) (Ok.ret ?_)))))
  · rw [hb]; rfl
  · rw [hb]; rfl

theorem f86_loop {k l c : Nat} {a : Option Addr} {zs : List Int} {H : AHeap} (h : Ints H a l zs) (hl : l ≤ maxLen) {p : Nat} {a1 : Option Addr} {l1 c1 : Nat} {a2 : Option Addr} {l2 c2 : Nat} {xs ys : List Int} (hp : HeldAt H p a1 l1 c1 a2 l2 c2)
    (h1 : Ints H a1 l1 xs) (h2 : Ints H a2 l2 ys) (hl1 : l1 ≤ maxLen) (hl2 : l2 ≤ maxLen) (hk : l1 + l2 + 4 ≤ k) : ∀ (m i n : Nat) (D : List Value), i + m = l → m < n →
    Ok (f86x62.L1 k n a l c p (l : Int) (i : Int) D H) fun r => ∃ x : Int, r = (.int .i64 x, H) ∧ decide (x ≥ 0) = (zs.drop i).any fun v => hasI xs v || hasI ys v := by
  intro m
  induction m with
  | zero =>
    intro i n D hm hn
    obtain ⟨n, rfl⟩ : ∃ j, n = j + 1 := ⟨n - 1, by omega⟩
    rw [f86x62.L1_s]
    refine ok_biff (by simp only [decide_eq_false_iff_not]; omega) (Ok.ret ⟨_, rfl, ?_⟩)
    rw [List.drop_eq_nil_of_le (by have := h.len; omega)]; rfl
  | succ m ih =>
    intro i n D hm hn
    obtain ⟨n, rfl⟩ : ∃ j, n = j + 1 := ⟨n - 1, by omega⟩
    rw [f86x62.L1_s]
    obtain ⟨q, x, hx, e, hq⟩ := Ints.at h (i := i) (by omega)
    refine ok_bift (by simp only [decide_eq_true_eq]; omega) (ok_bind e (ok_if (by omega) (ok_bind hq ?_)))
    rw [drop_cons hx, wrapS (l := l) (by omega) hl, List.any_cons]
    refine ok_cB0 (f62_spec hp h1 h2 hl1 hl2 (by omega) x) (ok_bif (fun hb => Ok.ret ⟨_, rfl, ?_⟩) (fun hb => ?_))
    · rw [hb]; simp
    · rw [hb, Bool.false_or]
      exact ih (i + 1) n _ (by omega) (by omega)
def shares (xs ys zs : List Int) : Bool := xs.any fun v => hasI ys v || hasI zs v
theorem f60_spec {k l c : Nat} {a : Option Addr} {zs : List Int} {H : AHeap} (h : Ints H a l zs) (hl : l ≤ maxLen) {a0 : Option Addr} {l0 c0 : Nat} {a1 : Option Addr} {l1 c1 : Nat} {a2 : Option Addr} {l2 c2 : Nat} {xs ys : List Int}
    (h1 : Ints H a1 l1 xs) (h2 : Ints H a2 l2 ys) (hl1 : l1 ≤ maxLen) (hl2 : l2 ≤ maxLen) (hk : l + l1 + l2 + 10 ≤ k) :
    ∃ H', C k 60 [.agg #[.slice a l c, .slice a0 l0 c0], .agg #[.slice a1 l1 c1, .slice a2 l2 c2]] H = some (.bool (shares zs xs ys), H') ∧ Agree H H' := by
  obtain ⟨k, rfl⟩ : ∃ j, k = j + 1 + 1 + 1 := ⟨k - 3, by omega⟩
  rw [f60_eq]
  refine call_of_ok (ok_al fun i H1 hi n1 A1 B1 => ok_al fun i' H2 hi' n2 A2 B2 => ?_)
  have A02 := A1.trans A2
  refine ok_bSl (ldSl_at (B1.agree A2) (by simp) rfl) ?_
  rw [f61_eq, f86x62_eq]
  obtain ⟨r, e, x, e1, e2⟩ := f86_loop (k := k) (c := c) (h.agree A02) hl (p := i') (c1 := c1) (c2 := c2) ⟨_, _, B2⟩ (h1.agree A02) (h2.agree A02) hl1 hl2 (by omega) l 0 k [.int .i64 0, undef, .slice a l c, undef, undef, undef, undef, undef, undef, undef, undef, undef] (by omega) (by omega)
  subst e1
  refine ok_cB0 (n := decide (x ≥ 0)) (eq_of_ok (ok_cI0 (n := x) e (Ok.ret rfl))) (Ok.ret ⟨?_, A02⟩)
  rw [e2]; rfl

theorem f31_spec {k : Nat} {H : AHeap} {a1 : Option Addr} {l1 c1 : Nat} {a2 : Option Addr} {l2 c2 : Nat} {a3 : Option Addr} {l3 c3 : Nat} {a4 : Option Addr} {l4 c4 : Nat} {x1 x2 x3 x4 : List Int}
    (h1 : Ints H a1 l1 x1) (h2 : Ints H a2 l2 x2) (h3 : Ints H a3 l3 x3) (h4 : Ints H a4 l4 x4) (hl1 : l1 ≤ maxLen) (hl2 : l2 ≤ maxLen) (hl3 : l3 ≤ maxLen) (hl4 : l4 ≤ maxLen) (hk : l1 + l2 + l3 + l4 + 20 ≤ k) :
    ∃ H', C k 31 [.agg #[.slice a1 l1 c1, .slice a2 l2 c2], .agg #[.slice a3 l3 c3, .slice a4 l4 c4]] H = some (.bool (shares x1 x3 x4 || shares x3 x1 x2), H') ∧ Agree H H' := by
  obtain ⟨k, rfl⟩ : ∃ j, k = j + 1 := ⟨k - 1, by omega⟩
  rw [f31_eq]
  refine call_of_ok (ok_al fun i H1 hi n1 A1 B1 => ok_al fun i' H2 hi' n2 A2 B2 => ?_)
  have A02 := A1.trans A2
  have P1 : HeldAt H2 i a1 l1 c1 a2 l2 c2 := ⟨_, _, B1.agree A2⟩
  have P2 : HeldAt H2 i' a3 l3 c3 a4 l4 c4 := ⟨_, _, B2⟩
  refine ok_bind P1.row (ok_bind P2.row (ok_cB (f60_spec (h1.agree A02) hl1 (h3.agree A02) (h4.agree A02) hl3 hl4 (by omega)) fun H3 A3 => ok_bif (fun hb => Ok.ret ⟨?_, A02.trans A3⟩) (fun hb => ?_)))
  · rw [hb]; rfl
  · have A03 := A02.trans A3
    refine ok_bind (P2.agree A3).row (ok_bind (P1.agree A3).row (ok_cB (f60_spec (h3.agree A03) hl3 (h1.agree A03) (h2.agree A03) hl1 hl2 (by omega)) fun H4 A4 => Ok.ret ⟨?_, A03.trans A4⟩))
    rw [hb]; rfl
end Go.Proofs.MxF
end

section
set_option linter.unusedSimpArgs false
/- LocksetExcludes. -/
set_option linter.unusedVariables false
namespace Go.Proofs.MxF
open Go Go.Mx Go.Proofs

theorem awake28 {k : Nat} (hk : 1 ≤ k) (H : AHeap) : C k 28 [] H = some (.bool true, H) := by
  obtain ⟨k, rfl⟩ : ∃ j, k = j + 1 := ⟨k - 1, by omega⟩
  rfl
def refEx (x1 x2 x3 x4 : List Int) : Bool := x1.any (fun v => hasI x3 v || hasI x4 v) || x3.any fun v => hasI x2 v
theorem hasI_iff {xs : List Int} {v : Int} : hasI xs v = true ↔ v ∈ xs := by
  unfold hasI
  rw [List.any_eq_true]
  constructor
  · rintro ⟨x, hx, e⟩; rw [beq_iff_eq] at e; subst e; exact hx
  · intro h; exact ⟨v, h, by simp⟩
theorem ex_eq (x1 x2 x3 x4 : List Int) : (shares x1 x3 x4 || shares x3 x1 x2) = refEx x1 x2 x3 x4 := by
  rw [Bool.eq_iff_iff]
  unfold shares refEx
  simp only [Bool.or_eq_true, List.any_eq_true, hasI_iff]
  constructor
  · rintro (h | ⟨v, hv, h | h⟩)
    · exact .inl h
    · exact .inl ⟨v, h, .inl hv⟩
    · exact .inr ⟨v, hv, h⟩
  · rintro (h | ⟨v, hv, h⟩)
    · exact .inl h
    · exact .inr ⟨v, hv, .inr h⟩

section
variable {k : Nat} {a1 : Option Addr} {l1 c1 : Nat} {a2 : Option Addr} {l2 c2 : Nat} {a3 : Option Addr} {l3 c3 : Nat} {a4 : Option Addr} {l4 c4 : Nat} {x1 x2 x3 x4 : List Int} {H : AHeap}
theorem f30_l2 (h2 : Ints H a2 l2 x2) (h3 : Ints H a3 l3 x3) (hl2 : l2 ≤ maxLen) (hl3 : l3 ≤ maxLen) (hk : l2 + l3 + 20 ≤ k) {p : Nat} (hp : HeldAt H p a1 l1 c1 a2 l2 c2) : ∀ (m i n : Nat) (D : List Value), i + m = l3 → m < n →
    Ok (f30.L2 k n p a3 l3 c3 (l3 : Int) (i : Int) D H) fun r => r = (.bool ((x3.drop i).any fun v => hasI x2 v), H) := by
  intro m
  induction m with
  | zero =>
    intro i n D hm hn
    obtain ⟨n, rfl⟩ : ∃ j, n = j + 1 := ⟨n - 1, by omega⟩
    rw [f30.L2_s]
    refine ok_biff (by simp only [decide_eq_false_iff_not]; omega) (Ok.ret ?_)
    rw [List.drop_eq_nil_of_le (by have := h3.len; omega)]; rfl
  | succ m ih =>
    intro i n D hm hn
    obtain ⟨n, rfl⟩ : ∃ j, n = j + 1 := ⟨n - 1, by omega⟩
    rw [f30.L2_s]
    obtain ⟨q, x, hx, e, hq⟩ := Ints.at h3 (i := i) (by omega)
    refine ok_bift (by simp only [decide_eq_true_eq]; omega) (ok_bind e (ok_if (by omega) (ok_bind hq ?_)))
    rw [drop_cons hx, wrapS (l := l3) (by omega) hl3, List.any_cons]
    refine ok_bSl hp.ld1 (ok_cB0 (f29_spec h2 hl2 (by omega) x) (ok_bif (fun hb => Ok.ret ?_) (fun hb => ?_)))
    · rw [hb]; rfl
    · rw [hb, Bool.false_or]
      exact ih (i + 1) n _ (by omega) (by omega)
theorem f30_l1 (h1 : Ints H a1 l1 x1) (h2 : Ints H a2 l2 x2) (h3 : Ints H a3 l3 x3) (h4 : Ints H a4 l4 x4) (hl1 : l1 ≤ maxLen) (hl2 : l2 ≤ maxLen) (hl3 : l3 ≤ maxLen) (hl4 : l4 ≤ maxLen) (hk : l1 + l2 + l3 + l4 + 20 ≤ k)
    {p p' : Nat} (hp : HeldAt H p a1 l1 c1 a2 l2 c2) (hp' : HeldAt H p' a3 l3 c3 a4 l4 c4) : ∀ (m i n : Nat) (D : List Value), i + m = l1 → m < n →
    Ok (f30.L1 k n p p' a1 l1 c1 (l1 : Int) (i : Int) D H) fun r => r = (.bool ((x1.drop i).any (fun v => hasI x3 v || hasI x4 v) || x3.any fun v => hasI x2 v), H) := by
  intro m
  induction m with
  | zero =>
    intro i n D hm hn
    obtain ⟨n, rfl⟩ : ∃ j, n = j + 1 := ⟨n - 1, by omega⟩
    rw [f30.L1_s]
    refine ok_biff (by simp only [decide_eq_false_iff_not]; omega) (ok_bSl hp'.ld0 ?_)
    rw [List.drop_eq_nil_of_le (by have := h1.len; omega)]
    exact f30_l2 (a1 := a1) (l1 := l1) (c1 := c1) (c2 := c2) h2 h3 hl2 hl3 (by omega) hp l3 0 k _ (by omega) (by omega)
  | succ m ih =>
    intro i n D hm hn
    obtain ⟨n, rfl⟩ : ∃ j, n = j + 1 := ⟨n - 1, by omega⟩
    rw [f30.L1_s]
    obtain ⟨q, x, hx, e, hq⟩ := Ints.at h1 (i := i) (by omega)
    refine ok_bift (by simp only [decide_eq_true_eq]; omega) (ok_bind e (ok_if (by omega) (ok_bind hq ?_)))
    rw [drop_cons hx, wrapS (l := l1) (by omega) hl1, List.any_cons]
    refine ok_bSl hp'.ld0 (ok_cB0 (f29_spec h3 hl3 (by omega) x) (ok_bif (fun hb => Ok.ret ?_) (fun hb => ?_)))
    · rw [hb]; rfl
    · rw [hb, Bool.false_or]
      refine ok_bSl hp'.ld1 (ok_cB0 (f29_spec h4 hl4 (by omega) x) (ok_bif (fun hb => Ok.ret ?_) (fun hb => ?_)))
      · rw [hb]; rfl
      · rw [hb, Bool.false_or]
        exact ih (i + 1) n _ (by omega) (by omega)
theorem f30_spec (h1 : Ints H a1 l1 x1) (h2 : Ints H a2 l2 x2) (h3 : Ints H a3 l3 x3) (h4 : Ints H a4 l4 x4) (hl1 : l1 ≤ maxLen) (hl2 : l2 ≤ maxLen) (hl3 : l3 ≤ maxLen) (hl4 : l4 ≤ maxLen) (hk : l1 + l2 + l3 + l4 + 25 ≤ k) :
    ∃ H', C k 30 [.agg #[.slice a1 l1 c1, .slice a2 l2 c2], .agg #[.slice a3 l3 c3, .slice a4 l4 c4]] H = some (.bool (refEx x1 x2 x3 x4), H') ∧ Agree H H' := by
  obtain ⟨k, rfl⟩ : ∃ j, k = j + 1 := ⟨k - 1, by omega⟩
  rw [f30_eq]
  refine call_of_ok (ok_al fun i H1 hi n1 A1 B1 => ok_al fun i' H2 hi' n2 A2 B2 => ?_)
  have A02 := A1.trans A2
  have P1 : HeldAt H2 i a1 l1 c1 a2 l2 c2 := ⟨_, _, B1.agree A2⟩
  have P2 : HeldAt H2 i' a3 l3 c3 a4 l4 c4 := ⟨_, _, B2⟩
  refine ok_bSl P1.ld0 ?_
  have key := fun D => f30_l1 (k := k) (h1.agree A02) (h2.agree A02) (h3.agree A02) (h4.agree A02) hl1 hl2 hl3 hl4 (by omega) P1 P2 l1 0 k D (by omega) (by omega)
  obtain ⟨r, e, h⟩ := key _
  exact ⟨r, e, by rw [h]; rfl, by rw [h]; exact A02⟩
theorem f8_any (h1 : Ints H a1 l1 x1) (h2 : Ints H a2 l2 x2) (h3 : Ints H a3 l3 x3) (h4 : Ints H a4 l4 x4) (hl1 : l1 ≤ maxLen) (hl2 : l2 ≤ maxLen) (hl3 : l3 ≤ maxLen) (hl4 : l4 ≤ maxLen) :
    ∃ k H', C k 8 [.agg #[.slice a1 l1 c1, .slice a2 l2 c2], .agg #[.slice a3 l3 c3, .slice a4 l4 c4]] H = some (.bool true, H') := by
  have hk : ∃ H', C (l1 + l2 + l3 + l4 + 100 + 1) 8 [.agg #[.slice a1 l1 c1, .slice a2 l2 c2], .agg #[.slice a3 l3 c3, .slice a4 l4 c4]] H = some (.bool true, H') ∧ True := by
    rw [f8_eq]
    refine call_of_ok (ok_al fun i H1 hi n1 A1 B1 => ok_al fun i' H2 hi' n2 A2 B2 => ?_)
    have A02 := A1.trans A2
    have P1 : HeldAt H2 i a1 l1 c1 a2 l2 c2 := ⟨_, _, B1.agree A2⟩
    have P2 : HeldAt H2 i' a3 l3 c3 a4 l4 c4 := ⟨_, _, B2⟩
    refine ok_bSl P1.ld0 (ok_bSl P1.ld1 (ok_bSl P2.ld0 (ok_bSl P2.ld1 ?_)))
    refine ok_bif (fun _ => ok_cB0 (awake28 (by omega) H2) (Ok.ret ⟨rfl, trivial⟩)) (fun _ => ?_)
    refine ok_bind P1.row (ok_bind P2.row (ok_cB (f30_spec (h1.agree A02) (h2.agree A02) (h3.agree A02) (h4.agree A02) hl1 hl2 hl3 hl4 (by omega)) fun H3 A3 => ?_))
    have A03 := A02.trans A3
    refine ok_bind (P1.agree A3).row (ok_bind (P2.agree A3).row (ok_cB (f31_spec (h1.agree A03) (h2.agree A03) (h3.agree A03) (h4.agree A03) hl1 hl2 hl3 hl4 (by omega)) fun H4 A4 => ?_))
    have A04 := A03.trans A4
    have A34 := A3.trans A4
    refine ok_bift (by rw [ex_eq]; simp) ?_
    refine ok_bind (P2.agree A34).row (ok_bind (P1.agree A34).row (ok_cB (f31_spec (h3.agree A04) (h4.agree A04) (h1.agree A04) (h2.agree A04) hl3 hl4 hl1 hl2 (by omega)) fun H5 A5 => ?_))
    refine ok_bift (by rw [Bool.or_comm, ex_eq]; simp) ?_
    exact ok_cB0 (awake28 (by omega) H5) (Ok.ret ⟨rfl, trivial⟩)
  obtain ⟨H', e, _⟩ := hk
  exact ⟨_, H', e⟩
end
end Go.Proofs.MxF
end

section
set_option linter.unusedSimpArgs false
/- Sorting a short list where it lies. -/
set_option linter.unusedVariables false
namespace Go.Mx
open Go Go.Proofs
theorem own_get {N : Nat} {H : AHeap} {a : Option Addr} {l c : Nat} {xs : List Int} (h : Own N 1 H a l c (ints xs)) {t : Nat} {x : Int} (ht : xs[t]? = some x) :
    ∃ q, a = some q ∧ ldI .i64 H q.block (q.off + t * 1) = some x ∧ (∀ H', Agree H H' → sameB H H' q.block = true) ∧ q.off = 0 ∧ q.spot = none := by
  have hl : t < xs.length := (List.getElem?_eq_some_iff.1 ht).1
  obtain ⟨q, e, hq⟩ := h.ints.ld ht
  rcases h.2.2 with ⟨e1, e2⟩ | ⟨i, b, e1, h0, h1, _⟩
  · rw [e1] at e; cases e
  · refine ⟨q, e, by rw [Nat.mul_one]; exact hq, ?_⟩
    rw [e1] at e; cases e
    exact ⟨fun H' A => sameB_agree h1 A, rfl, rfl⟩
end Go.Mx
namespace Go.Proofs.MxF
open Go Go.Mx Go.Proofs
theorem ints_set' (xs : List Int) (t : Nat) (v : Int) : (ints xs).set t (.int .i64 v) = ints (xs.set t v) := by
  unfold ints; rw [List.map_set]
theorem app26' (H : AHeap) (a a' : Option Addr) (l c l' c' : Nat) : apndV Try.prog [26, 26] H (.slice a l c) (.slice a' l' c') = (firstC H 1 l' (.slice a' l' c')).bind fun news => apndS 1 8 H a l c news l' := by kernel_rfl
theorem wrapP {j : Nat} (h : j + 1 ≤ maxLen) : IntKind.i64.wrap (((j + 1 : Nat) : Int) - 1) = (j : Int) := by
  unfold maxLen at h
  rw [IntWalk.i64_in _ (by omega)]; omega
theorem f104_spec {k : Nat} (hk : 2 ≤ k) (x y : Int) (H : AHeap) : C k 104 [.int .i64 x, .int .i64 y] H = some (.bool (decide (x < y)), H) := by
  obtain ⟨k, rfl⟩ : ∃ j, k = j + 1 + 1 := ⟨k - 2, by omega⟩
  rw [f104_eq]
  apply eq_of_ok
  refine ok_cB0 (n := x != x) (f114_eq k x H) (ok_biff (by simp) (Ok.ret rfl))
abbrev Srt (xs : List Int) : Prop := xs.Pairwise (· ≤ ·)
theorem srt_insert {A B : List Int} {v : Int} (h : Srt (A ++ B)) (h1 : ∀ x ∈ A, x ≤ v) (h2 : ∀ x ∈ B, v < x) : Srt (A ++ v :: B) := by
  rw [Srt, List.pairwise_append] at h ⊢
  refine ⟨h.1, List.pairwise_cons.2 ⟨fun x hx => Int.le_of_lt (h2 x hx), h.2.1⟩, fun x hx y hy => ?_⟩
  rcases List.mem_cons.1 hy with rfl | hy
  · exact h1 x hx
  · exact h.2.2 x hx y hy

theorem f98_l2 {k N : Nat} (hk : 2 ≤ k) {a : Option Addr} {l c i n1 : Nat} {P : List Int} {x2 : Int} (hl : l ≤ maxLen) {Q : Value × AHeap → Prop} : ∀ (m : Nat) (A B R : List Int) (v : Int) (H : AHeap) (D : List Value) (n2 : Nat),
    A.length = m → m < n2 → Own N 1 H a l c (ints (P ++ (A ++ v :: (B ++ R)))) → Srt (A ++ B) → (∀ b ∈ B, v < b) → P.length + A.length + B.length = i →
    (∀ zs H' D', Own N 1 H' a l c (ints (P ++ (zs ++ R))) → zs.length = A.length + 1 + B.length → Srt zs → zs.Perm (A ++ v :: B) → Keep a H H' → Ok (f98.L1 k n1 a l c (P.length : Int) x2 (IntKind.i64.wrap ((i : Int) + 1)) D' H') Q) →
    Ok (f98.L2 k n1 n2 a l c (P.length : Int) x2 (i : Int) ((P.length + m : Nat) : Int) D H) Q := by
  intro m
  induction m with
  | zero =>
    intro A B R v H D n2 hA hn h hs hv hi next
    obtain ⟨n2, rfl⟩ : ∃ j, n2 = j + 1 := ⟨n2 - 1, by omega⟩
    rw [f98.L2_s]
    obtain rfl := List.eq_nil_of_length_eq_zero hA
    refine ok_biff (by simp only [decide_eq_false_iff_not]; omega) (next (v :: B) (H.bump 15) _ (h.agree (agree_bump H 15)) (by simp; omega) (srt_insert (A := []) hs (by simp) hv) (List.Perm.refl _) (agree_bump H 15).keep)
  | succ m ih =>
    intro A B R v H D n2 hA hn h hs hv hi next
    obtain ⟨n2, rfl⟩ : ∃ j, n2 = j + 1 := ⟨n2 - 1, by omega⟩
    rw [f98.L2_s]
    obtain ⟨A', w, rfl⟩ : ∃ A' w, A = A' ++ [w] := ⟨A.dropLast, A.getLast (by intro e; subst e; cases hA), (List.dropLast_concat_getLast _).symm⟩
    have hm : A'.length = m := by simp at hA; exact hA
    have hlen := h.len
    simp only [List.length_append, List.length_cons, List.length_nil] at hlen
    have g1 : (P ++ (A' ++ [w] ++ v :: (B ++ R)))[P.length + (m + 1)]? = some v := by
      rw [List.getElem?_append_right (by omega), List.getElem?_append_right (by simp; omega)]
      simp [hm]
    have g0 : (P ++ (A' ++ [w] ++ v :: (B ++ R)))[P.length + m]? = some w := by
      rw [List.getElem?_append_right (by omega), List.append_assoc, List.getElem?_append_right (by omega)]
      simp [hm]
    have e0 : IntKind.i64.wrap (((P.length + (m + 1) : Nat) : Int) - 1) = ((P.length + m : Nat) : Int) := wrapP (j := P.length + m) (by omega)
    obtain ⟨q, eq, q1, qs, _, _⟩ := own_get h g1
    obtain ⟨q', eq', q0, _⟩ := own_get h g0
    rw [eq] at eq'
    cases eq'
    have Ab := agree_bump H 15
    have hb := h.agree Ab
    obtain ⟨p, ep, p1, _⟩ := own_get hb g1
    obtain ⟨p', ep', p0, _⟩ := own_get hb g0
    rw [eq] at ep ep'
    cases ep
    cases ep'
    refine ok_bift (by simp only [decide_eq_true_eq]; omega) (ok_bind eq (ok_if (by omega) (ok_bift (qs _ Ab) (ok_bind p1 (ok_bind eq ?_)))))
    rw [e0]
    refine ok_if (by omega) (ok_bift (qs _ Ab) (ok_bind p0 (ok_cB0 (f104_spec hk v w _) (ok_bif (fun hc => ?_) (fun hc => ?_)))))
    · rw [decide_eq_true_eq] at hc
      rw [f98.K1_eq, e0]
      have Ab2 := agree_bump (H.bump 15) 18
      have hb2 := hb.agree Ab2
      obtain ⟨r, er, r1, rs, _⟩ := own_get hb g1
      rw [eq] at er
      cases er
      obtain ⟨r, er, r1, _⟩ := own_get hb2 g1
      rw [eq] at er
      cases er
      obtain ⟨r, er, r0, _⟩ := own_get hb2 g0
      rw [eq] at er
      cases er
      refine ok_bind eq (ok_if (by omega) (ok_bift (rs _ Ab2) (ok_bind r0 (ok_bind eq (ok_if (by omega) (ok_bift (rs _ Ab2) (ok_bind r1 (ok_bind eq (ok_if (by omega) ?_)))))))))
      obtain ⟨s, H3, es, hw, h3, k3, n3⟩ := own_set hb2 (t := P.length + (m + 1)) (by omega) (.int .i64 w)
      rw [eq] at es
      cases es
      refine ok_bind hw (ok_bind eq (ok_if (by omega) ?_))
      obtain ⟨s, H4, es, hw4, h4, k4, n4⟩ := own_set h3 (t := P.length + m) (by omega) (.int .i64 v)
      rw [eq] at es
      cases es
      refine ok_bind hw4 ?_
      rw [ints_set', ints_set'] at h4
      have ex : ((P ++ (A' ++ [w] ++ v :: (B ++ R))).set (P.length + (m + 1)) w).set (P.length + m) v = P ++ (A' ++ v :: (w :: B ++ R)) := by
        rw [List.set_append_right _ _ (by omega), List.set_append_right _ _ (by omega)]
        rw [show P.length + (m + 1) - P.length = m + 1 from by omega, show P.length + m - P.length = m from by omega]
        rw [List.append_assoc, List.set_append_right _ _ (by omega), List.set_append_right _ _ (by omega), hm]
        simp
      rw [ex] at h4
      have K4 : Keep a H H4 := (Keep.of_agree (Ab.trans Ab2) k3).trans (Orig.refl _ _) k4
      refine ih A' (w :: B) R v H4 _ n2 hm (by omega) h4 (by rw [List.append_assoc] at hs; exact hs) (fun b hb => ?_) (by simp only [List.length_append, List.length_cons, List.length_nil] at hi ⊢; omega) (fun zs H' D' o1 o2 o3 o4 o5 => ?_)
      · rcases List.mem_cons.1 hb with rfl | hb
        · exact hc
        · exact hv b hb
      · refine next zs H' D' o1 (by rw [o2]; simp only [List.length_append, List.length_cons, List.length_nil]; omega) o3 (o4.trans ?_) (K4.trans (Orig.refl _ _) o5)
        rw [List.append_assoc]
        exact List.Perm.append_left _ (List.Perm.swap _ _ _)
    · rw [decide_eq_false_iff_not] at hc
      have hle : w ≤ v := by omega
      refine next (A' ++ [w] ++ v :: B) _ _ (by rw [show P ++ (A' ++ [w] ++ v :: B ++ R) = P ++ (A' ++ [w] ++ v :: (B ++ R)) from by simp]; exact hb) (by simp; omega) (srt_insert hs (fun x hx => ?_) hv) (List.Perm.refl _) Ab.keep
      rw [Srt, List.append_assoc, List.pairwise_append] at hs
      rcases List.mem_append.1 hx with hx | hx
      · exact Int.le_trans (hs.2.2 x hx w (by simp)) hle
      · rw [List.mem_singleton] at hx; subst hx; exact hle

theorem f98_l1 {k N : Nat} {a : Option Addr} {l c : Nat} {P R2 : List Int} {x2 : Int} (hl : l ≤ maxLen) (hk : l + 3 ≤ k) : ∀ (m : Nat) (S R1 : List Int) (H : AHeap) (D : List Value) (n : Nat),
    R1.length = m → m < n → Own N 1 H a l c (ints (P ++ (S ++ (R1 ++ R2)))) → Srt S → x2 = ((P.length + S.length + m : Nat) : Int) →
    Ok (f98.L1 k n a l c (P.length : Int) x2 ((P.length + S.length : Nat) : Int) D H) fun r => r.1 = .tuple #[] ∧ (∃ zs, Own N 1 r.2 a l c (ints (P ++ (zs ++ R2))) ∧ Srt zs ∧ zs.Perm (S ++ R1)) ∧ Keep a H r.2 := by
  intro m
  induction m with
  | zero =>
    intro S R1 H D n hR hn h hs hx
    obtain ⟨n, rfl⟩ : ∃ j, n = j + 1 := ⟨n - 1, by omega⟩
    rw [f98.L1_s]
    obtain rfl := List.eq_nil_of_length_eq_zero hR
    refine ok_biff (by simp only [decide_eq_false_iff_not]; omega) (Ok.ret ⟨rfl, ⟨S, h, hs, by rw [List.append_nil]⟩, (Agree.refl H).keep⟩)
  | succ m ih =>
    intro S R1 H D n hR hn h hs hx
    obtain ⟨n, rfl⟩ : ∃ j, n = j + 1 := ⟨n - 1, by omega⟩
    rw [f98.L1_s]
    cases R1 with
    | nil => cases hR
    | cons v R1 =>
      have hlen := h.len
      simp only [List.length_append, List.length_cons] at hlen hR
      refine ok_bift (by simp only [decide_eq_true_eq]; omega) ?_
      refine f98_l2 (N := N) (by omega) (P := P) (i := P.length + S.length) hl S.length S [] (R1 ++ R2) v H _ k rfl (by omega) h (by rw [List.append_nil]; exact hs) (fun b hb => by cases hb) rfl (fun zs H' D' o1 o2 o3 o4 o5 => ?_)
      rw [wrapS (l := P.length + S.length + 1) (by omega) (by omega)]
      have o2' : zs.length = S.length + 1 := o2
      obtain ⟨r, e, e1, ⟨ws, w1, w2, w3⟩, e3⟩ := ih zs R1 H' D' n (by omega) (by omega) o1 o3 (by omega)
      rw [show P.length + S.length + 1 = P.length + zs.length from by omega]
      refine ⟨r, e, e1, ⟨ws, w1, w2, w3.trans ?_⟩, o5.trans (Orig.refl _ _) e3⟩
      exact (o4.append_right R1).trans (by simp)
theorem f98_spec {k N : Nat} {a : Option Addr} {l c : Nat} {P M R : List Int} {H : AHeap} (hl : l < maxLen) (hk : l + 5 ≤ k) (h : Own N 1 H a l c (ints (P ++ (M ++ R)))) :
    ∃ H', C k 98 [.slice a l c, .int .i64 (P.length : Int), .int .i64 ((P.length + M.length : Nat) : Int)] H = some (.tuple #[], H') ∧ ((∃ zs, Own N 1 H' a l c (ints (P ++ (zs ++ R))) ∧ Srt zs ∧ zs.Perm M) ∧ Keep a H H') := by
  obtain ⟨k, rfl⟩ : ∃ j, k = j + 1 := ⟨k - 1, by omega⟩
  have hlen := h.len
  simp only [List.length_append] at hlen
  rw [f98_eq]
  refine call_of_ok ?_
  have e0 : IntKind.i64.wrap ((P.length : Int) + 1) = ((P.length + 1 : Nat) : Int) := by unfold maxLen at hl; rw [IntWalk.i64_in _ (by omega)]; omega
  rw [e0]
  cases M with
  | nil =>
    obtain ⟨k, rfl⟩ : ∃ j, k = j + 1 := ⟨k - 1, by omega⟩
    rw [f98.L1_s]
    exact ok_biff (by simp only [decide_eq_false_iff_not, List.length_nil]; omega) (Ok.ret ⟨rfl, ⟨[], h, .nil, .nil⟩, (Agree.refl H).keep⟩)
  | cons v M =>
    simp only [List.length_cons] at hlen ⊢
    have key := fun D => f98_l1 (k := k) (N := N) (P := P) (R2 := R) (x2 := ((P.length + (M.length + 1) : Nat) : Int)) (Nat.le_of_lt hl) (by omega) M.length [v] M H D k rfl (by omega) (by simpa using h) (List.pairwise_singleton _ _) (by simp only [List.length_cons, List.length_nil]; omega)
    exact key _

theorem len64 (k : Nat) (H : AHeap) (n : Nat) (h : n ≤ 12) : ∃ r, C (k + 1 + 1) 108 [.int .u64 (n : Int)] H = some (.int .i64 r, H) := by
  match n, h with
  | 0, _ => exact ⟨0, by kernel_rfl⟩
  | 1, _ => exact ⟨1, by kernel_rfl⟩
  | 2, _ => exact ⟨2, by kernel_rfl⟩
  | 3, _ => exact ⟨2, by kernel_rfl⟩
  | 4, _ => exact ⟨3, by kernel_rfl⟩
  | 5, _ => exact ⟨3, by kernel_rfl⟩
  | 6, _ => exact ⟨3, by kernel_rfl⟩
  | 7, _ => exact ⟨3, by kernel_rfl⟩
  | 8, _ => exact ⟨4, by kernel_rfl⟩
  | 9, _ => exact ⟨4, by kernel_rfl⟩
  | 10, _ => exact ⟨4, by kernel_rfl⟩
  | 11, _ => exact ⟨4, by kernel_rfl⟩
  | 12, _ => exact ⟨4, by kernel_rfl⟩

/-- slices.Sort of a short slice -/
theorem f83_short {k N : Nat} {a : Option Addr} {l c : Nat} {xs : List Int} {H : AHeap} (hl : l ≤ 12) (hk : 30 ≤ k) (h : Own N 1 H a l c (ints xs)) :
    ∃ H', C k 83 [.slice a l c] H = some (.tuple #[], H') ∧ ((∃ zs, Own N 1 H' a l c (ints zs) ∧ Srt zs ∧ zs.Perm xs) ∧ Keep a H H') := by
  obtain ⟨k, rfl⟩ : ∃ j, k = j + 1 + 1 + 1 + 1 := ⟨k - 4, by omega⟩
  have hlen := h.len
  rw [f83_eq]
  refine call_of_ok ?_
  have ew : IntKind.u64.wrap (l : Int) = (l : Int) := IntWalk.u64_in _ (by omega)
  rw [ew, f97_eq]
  obtain ⟨r, er⟩ := len64 k H l hl
  refine ok_cI0 (n := r) (eq_of_ok (ok_cI0 (n := r) er (Ok.ret rfl))) ?_
  have hM : l < maxLen := by unfold maxLen; omega
  have h0 : Own N 1 H a l c (ints ([] ++ (xs ++ []))) := by simpa using h
  have sp := f98_spec (k := k + 1 + 1) (P := []) (M := xs) (R := []) hM (by omega) h0
  have en : ((([] : List Int).length + xs.length : Nat) : Int) = (l : Int) := by rw [hlen]; simp
  rw [en] at sp
  refine ok_cT1 (g := []) (P := fun H' => (∃ zs, Own N 1 H' a l c (ints zs) ∧ Srt zs ∧ zs.Perm xs) ∧ Keep a H H') ?_ (fun H' hp => Ok.ret ⟨rfl, hp⟩)
  rw [f96_eq]
  refine call_of_ok ?_
  rw [f96.L1_s]
  have e12 : IntKind.i64.wrap ((l : Int) - 0) = (l : Int) := by rw [IntWalk.i64_in _ (by omega)]; omega
  rw [e12]
  refine ok_bift (by simp only [decide_eq_true_eq]; omega) (ok_cT1 (g := []) sp fun H' hp => Ok.ret ⟨rfl, ?_⟩)
  obtain ⟨⟨zs, h1, h2, h3⟩, h4⟩ := hp
  exact ⟨⟨zs, by simpa using h1, h2, h3⟩, h4⟩
end Go.Proofs.MxF
end

section
set_option linter.unusedSimpArgs false
/- Equal neighbours taken out, where the list lies. -/
set_option linter.unusedVariables false
namespace Go.Mx
open Go Go.Proofs
def cmpS (acc : List Int) (v : Int) : List Int := if acc.getLast? = some v then acc else acc ++ [v]
/-- equal neighbours taken out -/
def cmp (xs : List Int) : List Int := xs.foldl cmpS []
theorem cmp_snoc (xs : List Int) (v : Int) : cmp (xs ++ [v]) = cmpS (cmp xs) v := by unfold cmp; rw [List.foldl_append]; rfl
theorem snoc_ind {p : List Int → Prop} (h0 : p []) (h1 : ∀ xs v, p xs → p (xs ++ [v])) : ∀ xs, p xs := by
  intro xs
  have : ∀ n (xs : List Int), xs.length = n → p xs := by
    intro n
    induction n with
    | zero => intro xs h; rw [List.eq_nil_of_length_eq_zero h]; exact h0
    | succ n ih =>
      intro xs h
      have hne : xs ≠ [] := by intro e; subst e; cases h
      rw [← List.dropLast_concat_getLast hne]
      exact h1 _ _ (ih _ (by rw [List.length_dropLast]; omega))
  exact this _ xs rfl
theorem cmp_last (xs : List Int) : (cmp xs).getLast? = xs.getLast? := by
  refine snoc_ind (p := fun xs => (cmp xs).getLast? = xs.getLast?) rfl (fun xs v ih => ?_) xs
  rw [cmp_snoc]
  unfold cmpS
  split
  · next h => rw [h]; simp
  · simp
theorem mem_cmp {xs : List Int} : ∀ {v : Int}, v ∈ cmp xs ↔ v ∈ xs := by
  refine snoc_ind (p := fun xs => ∀ {v : Int}, v ∈ cmp xs ↔ v ∈ xs) (fun {v} => Iff.rfl) (fun xs w ih v => ?_) xs
  rw [cmp_snoc, List.mem_append, List.mem_singleton]
  unfold cmpS
  split
  · next h =>
    rw [ih]
    constructor
    · exact .inl
    · rintro (h1 | rfl)
      · exact h1
      · exact ih.1 (List.mem_of_getLast? h)
  · rw [List.mem_append, List.mem_singleton, ih]
theorem cmp_strict {xs : List Int} : xs.Pairwise (· ≤ ·) → (cmp xs).Pairwise (· < ·) := by
  refine snoc_ind (p := fun xs => xs.Pairwise (· ≤ ·) → (cmp xs).Pairwise (· < ·)) (fun _ => .nil) (fun xs v ih h => ?_) xs
  rw [List.pairwise_append] at h
  rw [cmp_snoc]
  unfold cmpS
  split
  · exact ih h.1
  · next hne =>
    rw [List.pairwise_append]
    refine ⟨ih h.1, List.pairwise_singleton _ _, fun x hx y hy => ?_⟩
    rw [List.mem_singleton] at hy
    subst hy
    have hle := h.2.2 x (mem_cmp.1 hx) y (by simp)
    rcases Int.lt_or_eq_of_le hle with h1 | rfl
    · exact h1
    · exfalso
      -- x is the greatest element, and is in cmp xs: then it is the last one
      have hs := ih h.1
      obtain ⟨z, hz⟩ : ∃ z, (cmp xs).getLast? = some z := by
        cases e : (cmp xs).getLast? with
        | none => rw [List.getLast?_eq_none_iff] at e; rw [e] at hx; cases hx
        | some z => exact ⟨z, rfl⟩
      have hzle : z ≤ x := h.2.2 z (mem_cmp.1 (List.mem_of_getLast? hz)) x (by simp)
      have hne' : cmp xs ≠ [] := by intro e; rw [e] at hx; cases hx
      have hd := List.dropLast_concat_getLast hne'
      have hz' : (cmp xs).getLast hne' = z := by
        rw [List.getLast?_eq_some_getLast hne'] at hz; exact Option.some.inj hz
      rw [hz'] at hd
      rw [← hd, List.mem_append, List.mem_singleton] at hx
      rcases hx with hx | rfl
      · rw [← hd, List.pairwise_append] at hs
        have := hs.2.2 x hx z (by simp)
        omega
      · exact hne hz
theorem cmp_take {xs : List Int} {i : Nat} {v w : Int} (h : xs[i + 1]? = some v) (h' : xs[i]? = some w) : cmp (xs.take (i + 1 + 1)) = if w = v then cmp (xs.take (i + 1)) else cmp (xs.take (i + 1)) ++ [v] := by
  have e : xs.take (i + 1 + 1) = xs.take (i + 1) ++ [v] := by rw [List.take_add_one, h]; rfl
  have e' : xs.take (i + 1) = xs.take i ++ [w] := by rw [List.take_add_one, h']; rfl
  rw [e, cmp_snoc]
  unfold cmpS
  rw [cmp_last, e']
  simp only [List.getLast?_append, List.getLast?_singleton, Option.some_or, Option.some.injEq]
theorem strict_ext : ∀ {xs ys : List Int}, xs.Pairwise (· < ·) → ys.Pairwise (· < ·) → (∀ v, v ∈ xs ↔ v ∈ ys) → xs = ys := by
  intro xs
  induction xs with
  | nil =>
    intro ys _ _ h
    cases ys with
    | nil => rfl
    | cons y ys => have := (h y).2 (by simp); cases this
  | cons x xs ih =>
    intro ys hx hy h
    cases ys with
    | nil => have := (h x).1 (by simp); cases this
    | cons y ys =>
      rw [List.pairwise_cons] at hx hy
      have hxy : x = y := by
        have h1 := (h x).1 (by simp)
        have h2 := (h y).2 (by simp)
        rcases List.mem_cons.1 h1 with e | h1
        · exact e
        · rcases List.mem_cons.1 h2 with e | h2
          · exact e.symm
          · have := hy.1 x h1; have := hx.1 y h2; omega
      subst hxy
      congr 1
      refine ih hx.2 hy.2 fun v => ?_
      constructor
      · intro hv
        rcases List.mem_cons.1 ((h v).1 (List.mem_cons_of_mem _ hv)) with rfl | h3
        · have := hx.1 v hv; omega
        · exact h3
      · intro hv
        rcases List.mem_cons.1 ((h v).2 (List.mem_cons_of_mem _ hv)) with rfl | h3
        · have := hy.1 v hv; omega
        · exact h3
theorem cutLo {a : Option Addr} {l c lo : Nat} (h : lo ≤ l) (hc : l ≤ c) : cutSl 1 a l c (some (lo : Int)) none none = some (a.map fun a => ⟨a.block, a.off + lo * 1, a.spot⟩, l - lo, c - lo) := by
  unfold cutSl cutBounds
  dsimp only
  simp only [Option.getD_some, Option.isSome_none]
  rw [if_pos (by omega)]
  simp
theorem cutHi {a : Option Addr} {l c hi : Nat} (h : hi ≤ l) (hc : l ≤ c) : cutSl 1 a l c none (some (hi : Int)) none = some (a, hi, c) := by
  unfold cutSl cutBounds
  dsimp only
  simp only [Option.getD_none, Option.isSome_none]
  rw [if_pos (by omega)]
  simp
end Go.Mx
end

section
set_option linter.unusedSimpArgs false
/- slices.Compact and lockset.set. -/
set_option linter.unusedVariables false
namespace Go.Proofs.MxF
open Go Go.Mx Go.Proofs
theorem clear26 (H : AHeap) (q : Addr) (n c : Nat) : clearV Try.prog [26] H (.slice (some q) n c) = if n = 0 then some H else H.wr q.block q.off (rep [.int .i64 0] n) := by kernel_rfl
theorem rep_len (v : Value) (n : Nat) : (rep [v] n).length = n := by
  induction n with
  | zero => rfl
  | succ n ih => rw [rep]; simp [ih]
/-- the tail cleared, and the slice cut -/
theorem own_clear {N : Nat} {H : AHeap} {a : Option Addr} {l c k : Nat} {xs : List Int} (h : Own N 1 H a l c (ints xs)) (hk : k ≤ l) {q : Addr} (hq : a = some q) (c' : Nat) :
    ∃ H', clearV Try.prog [26] H (.slice (some ⟨q.block, q.off + k * 1, q.spot⟩) (l - k) c') = some H' ∧ Own N 1 H' a k c (ints (xs.take k)) ∧ Keep a H H' := by
  rw [clear26]
  rcases h.2.2 with ⟨e, e2⟩ | ⟨i, b, e, h0, h1, h2, h3, h4, h5⟩
  · rw [e] at hq; cases hq
  rw [e] at hq
  cases hq
  have hlen := h.1
  have hlc := h.2.1
  have ht : ∀ cells : List Value, cells.take (k * 1) = b.cells.take (k * 1) → cells.take (k * 1) = ints (xs.take k) := by
    intro cells hc
    rw [hc]
    have : ints (xs.take k) = (ints xs).take k := by unfold ints; rw [List.map_take]
    rw [this, ← h5, List.take_take, Nat.mul_one, Nat.mul_one, Nat.min_eq_left hk]
  have hxl : (xs.take k).length = k := by
    have : (ints xs).length = xs.length := by simp [ints]
    rw [List.length_take]
    omega
  by_cases hz : l - k = 0
  · rw [if_pos hz]
    exact ⟨H, rfl, ⟨by simp only [ints, List.length_map, hxl, Nat.mul_one], by omega, .inr ⟨i, b, e, h0, h1, h2, h3, h4, ht _ rfl⟩⟩, (Agree.refl H).keep⟩
  · rw [if_neg hz]
    obtain ⟨H', hw, w1, w2, w3⟩ := wr_at (o := 0 + k * 1) (vs := rep [.int .i64 0] (l - k)) h1 h2 (by rw [rep_len]; omega)
    refine ⟨H', hw, ⟨by simp only [ints, List.length_map, hxl, Nat.mul_one], by omega, .inr ⟨i, _, e, h0, w2, h2, h3, ?_, ht _ ?_⟩⟩, ⟨by omega, fun j hj hne => w3 j fun e1 => hne _ e e1.symm, fun f j hj => ?_⟩⟩
    · show (splice b.cells (0 + k * 1) (rep [.int .i64 0] (l - k))).length = c * 1
      unfold splice
      simp only [List.length_append, List.length_take, List.length_drop, rep_len]
      omega
    · show (splice b.cells (0 + k * 1) (rep [.int .i64 0] (l - k))).take (k * 1) = _
      unfold splice
      rw [List.append_assoc, List.take_append_of_le_length (by rw [List.length_take]; omega), List.take_take, Nat.zero_add, Nat.min_self]
    · rw [w1] at hj
      rw [w3 j (by have := h1.1; omega)]
      exact f j hj

theorem ldoff {H : AHeap} {b : Nat} {o o' : Nat} {x : Int} (h : ldI .i64 H b o = some x) (e : o = o') : ldI .i64 H b o' = some x := by rw [← e]; exact h

theorem f84_l2 {k N : Nat} {a : Option Addr} {l c i0 n1 : Nat} {xs : List Int} {q : Addr} (hq : a = some q) (hq0 : q.off = 0) (hl : l < maxLen) : ∀ (m p w n2 : Nat) (ys : List Int) (H : AHeap) (D : List Value),
    p + m = l → m < n2 → i0 < p → 0 < w → w ≤ p - 1 → xs.length = l → Own N 1 H a l c (ints ys) → ys.take w = cmp (xs.take p) → ys.drop (p - 1) = xs.drop (p - 1) →
    Ok (f84.L2 k n1 n2 a l c (w : Int) (some ⟨q.block, q.off + i0 * 1, q.spot⟩) (l - i0) (c - i0) ((p - i0 : Nat) : Int) D H) fun r => ∃ l', r.1 = .slice a l' c ∧ (Own N 1 r.2 a l' c (ints (cmp xs)) ∧ Keep a H r.2) := by
  intro m
  induction m with
  | zero =>
    intro p w n2 ys H D hm hn hi hw hwp hxl h ht hd
    obtain ⟨n2, rfl⟩ : ∃ j, n2 = j + 1 := ⟨n2 - 1, by omega⟩
    rw [f84.L2_s]
    refine ok_biff (by simp only [decide_eq_false_iff_not]; omega) ?_
    refine ok_bSl (cutLo (by omega) h.2.1) ?_
    obtain ⟨H', e, h1, h2⟩ := own_clear h (k := w) (by omega) hq (c - w)
    subst hq
    refine ok_bind e (ok_bSl (cutHi (by omega) h.2.1) (Ok.ret ⟨w, rfl, ?_, h2⟩))
    rw [ht, List.take_of_length_le (by omega)] at h1
    exact h1
  | succ m ih =>
    intro p w n2 ys H D hm hn hi hw hwp hxl h ht hd
    obtain ⟨n2, rfl⟩ : ∃ j, n2 = j + 1 := ⟨n2 - 1, by omega⟩
    rw [f84.L2_s]
    have hlen := h.len
    obtain ⟨p', rfl⟩ : ∃ p', p = p' + 1 := ⟨p - 1, by omega⟩
    rw [Nat.add_sub_cancel] at hd hwp
    have hy : ∀ j, p' ≤ j → ys[j]? = xs[j]? := by
      intro j hj
      have : (ys.drop p')[j - p']? = (xs.drop p')[j - p']? := by rw [hd]
      rw [List.getElem?_drop, List.getElem?_drop, show p' + (j - p') = j from by omega] at this
      exact this
    have g1 : xs[p' + 1]? = some xs[p' + 1] := List.getElem?_eq_getElem (by omega)
    have g0 : xs[p']? = some xs[p'] := List.getElem?_eq_getElem (by omega)
    have hct := cmp_take g1 g0
    revert g1 g0 hct
    generalize xs[p' + 1] = x
    generalize xs[p'] = y
    intro g1 g0 hct
    rw [← hy (p' + 1) (by omega)] at g1
    rw [← hy p' (by omega)] at g0
    have Ab := agree_bump H 10
    have hb := h.agree Ab
    obtain ⟨s, es, l1, ls, _⟩ := own_get h g1
    rw [hq] at es
    cases es
    obtain ⟨s, es, m1, _⟩ := own_get hb g1
    rw [hq] at es
    cases es
    obtain ⟨s, es, m0, _⟩ := own_get hb g0
    rw [hq] at es
    cases es
    have e1 : (((p' + 1 - i0 : Nat) : Int)).toNat = p' + 1 - i0 := by omega
    have e0 : IntKind.i64.wrap (((p' + 1 - i0 : Nat) : Int) - 1) = ((p' - i0 : Nat) : Int) := by
      unfold maxLen at hl
      rw [IntWalk.i64_in _ (by omega)]; omega
    refine ok_bift (by simp only [decide_eq_true_eq]; omega) (ok_bind rfl (ok_if (by omega) (ok_bift (ls _ Ab) ?_)))
    refine ok_bind (ldoff m1 (by rw [e1]; show q.off + (p' + 1) * 1 = q.off + i0 * 1 + (p' + 1 - i0) * 1; omega)) (ok_bind rfl ?_)
    rw [e0]
    refine ok_if (by omega) (ok_bift (ls _ Ab) (ok_bind (ldoff m0 (by show q.off + p' * 1 = q.off + i0 * 1 + (((p' - i0 : Nat) : Int)).toNat * 1; omega)) ?_))
    have ew : IntKind.i64.wrap (((p' + 1 - i0 : Nat) : Int) + 1) = ((p' + 1 + 1 - i0 : Nat) : Int) := by
      unfold maxLen at hl
      rw [IntWalk.i64_in _ (by omega)]; omega
    have ew2 : IntKind.i64.wrap ((w : Int) + 1) = ((w + 1 : Nat) : Int) := wrapS (l := l) (by omega) (Nat.le_of_lt hl)
    refine ok_bif (fun hc => ?_) (fun hc => ?_)
    · simp only [bne_iff_ne, ne_eq] at hc
      refine ok_bind rfl (ok_if (by omega) (ok_bind (ldoff m1 (by rw [e1]; show q.off + (p' + 1) * 1 = q.off + i0 * 1 + (p' + 1 - i0) * 1; omega)) (ok_bind hq (ok_if (by omega) ?_))))
      obtain ⟨s, H2, es, hwr, h2, k2, n2'⟩ := own_set hb (t := w) (by omega) (.int .i64 x)
      rw [hq] at es
      cases es
      refine ok_bind hwr ?_
      rw [ints_set'] at h2
      rw [ew, ew2]
      have t2 : (ys.set w x).take (w + 1) = cmp (xs.take (p' + 1 + 1)) := by
        rw [hct, if_neg (fun e => hc e.symm), ← ht, List.take_add_one, List.getElem?_set_self (by omega), List.take_set, List.set_eq_of_length_le (by rw [List.length_take]; omega)]
        rfl
      have d2 : (ys.set w x).drop (p' + 1 + 1 - 1) = xs.drop (p' + 1 + 1 - 1) := by
        rw [Nat.add_sub_cancel, List.drop_set_of_lt (by omega)]
        have := congrArg (List.drop 1) hd
        rw [List.drop_drop, List.drop_drop] at this
        exact this
      obtain ⟨r, e, l', r1, r2, r3⟩ := ih (p' + 1 + 1) (w + 1) n2 (ys.set w x) H2 _ (by omega) (by omega) (by omega) (by omega) (by omega) hxl h2 t2 d2
      exact ⟨r, e, l', r1, r2, (Keep.of_agree Ab k2).trans (Orig.refl _ _) r3⟩
    · simp only [bne_eq_false_iff_eq] at hc
      rw [ew]
      have t2 : ys.take w = cmp (xs.take (p' + 1 + 1)) := by rw [hct, if_pos hc.symm]; exact ht
      have d2 : ys.drop (p' + 1 + 1 - 1) = xs.drop (p' + 1 + 1 - 1) := by
        rw [Nat.add_sub_cancel]
        have := congrArg (List.drop 1) hd
        rw [List.drop_drop, List.drop_drop] at this
        exact this
      obtain ⟨r, e, l', r1, r2, r3⟩ := ih (p' + 1 + 1) w n2 ys (H.bump 10) _ (by omega) (by omega) (by omega) (by omega) (by omega) hxl hb t2 d2
      exact ⟨r, e, l', r1, r2, Keep.of_agree Ab r3⟩

theorem f84_l1 {k N : Nat} {a : Option Addr} {l c : Nat} {xs : List Int} (hl : l < maxLen) (hk : l < k) : ∀ (m i n : Nat) (H : AHeap) (D : List Value),
    i + m = l → m < n → 1 ≤ i → Own N 1 H a l c (ints xs) → cmp (xs.take i) = xs.take i →
    Ok (f84.L1 k n a l c (i : Int) D H) fun r => ∃ l', r.1 = .slice a l' c ∧ (Own N 1 r.2 a l' c (ints (cmp xs)) ∧ Keep a H r.2) := by
  intro m
  induction m with
  | zero =>
    intro i n H D hm hn hi h hc
    obtain ⟨n, rfl⟩ : ∃ j, n = j + 1 := ⟨n - 1, by omega⟩
    rw [f84.L1_s]
    refine ok_biff (by simp only [decide_eq_false_iff_not]; omega) (Ok.ret ⟨l, rfl, ?_, (Agree.refl H).keep⟩)
    have := h.len
    rw [List.take_of_length_le (by omega)] at hc
    rw [hc]; exact h
  | succ m ih =>
    intro i n H D hm hn hi h hc
    obtain ⟨n, rfl⟩ : ∃ j, n = j + 1 := ⟨n - 1, by omega⟩
    rw [f84.L1_s]
    have hlen := h.len
    obtain ⟨i, rfl⟩ : ∃ i', i = i' + 1 := ⟨i - 1, by omega⟩
    have g1 : xs[i + 1]? = some xs[i + 1] := List.getElem?_eq_getElem (by omega)
    have g0 : xs[i]? = some xs[i] := List.getElem?_eq_getElem (by omega)
    have hct := cmp_take g1 g0
    have htk : xs.take (i + 1 + 1) = xs.take (i + 1) ++ [xs[i + 1]] := by rw [List.take_add_one, g1]; rfl
    revert g1 g0 hct htk
    generalize xs[i + 1] = x
    generalize xs[i] = y
    intro g1 g0 hct htk
    have Ab := agree_bump H 10
    have hb := h.agree Ab
    obtain ⟨q, eq, l1, ls, hq0, _⟩ := own_get h g1
    obtain ⟨s, es, m1, _⟩ := own_get hb g1
    rw [eq] at es
    cases es
    obtain ⟨s, es, m0, _⟩ := own_get hb g0
    rw [eq] at es
    cases es
    refine ok_bift (by simp only [decide_eq_true_eq]; omega) (ok_bind eq (ok_if (by omega) (ok_bift (ls _ Ab) (ok_bind m1 (ok_bind eq ?_)))))
    rw [wrapP (j := i) (by omega)]
    refine ok_if (by omega) (ok_bift (ls _ Ab) (ok_bind m0 (ok_bif (fun hb' => ?_) (fun hb' => ?_))))
    · rw [beq_iff_eq] at hb'
      subst hb'
      refine ok_bSl (cutLo (by omega) h.2.1) ?_
      rw [eq]
      rw [if_pos rfl] at hct
      have key := fun D => f84_l2 (k := k) (N := N) (a := some q) (l := l) (c := c) (i0 := i + 1) (n1 := n) (xs := xs) (q := q) rfl hq0 hl m (i + 1 + 1) (i + 1) k xs (H.bump 10) D (by omega) (by omega) (by omega) (by omega) (by omega) hlen.symm (by rw [← eq]; exact hb) (by rw [hct, hc]) rfl
      rw [show i + 1 + 1 - (i + 1) = 1 from by omega] at key
      obtain ⟨r, e, l', r1, r2, r3⟩ := key _
      exact ⟨r, e, l', r1, r2, Keep.of_agree Ab r3⟩
    · have hne : ¬ (y = x) := by simp only [beq_eq_false_iff_ne, ne_eq] at hb'; exact fun e => hb' e.symm
      rw [wrapS (i := i + 1) (l := l) (by omega) (Nat.le_of_lt hl)]
      rw [if_neg hne, hc, ← htk] at hct
      obtain ⟨r, e, l', r1, r2, r3⟩ := ih (i + 1 + 1) n (H.bump 10) _ (by omega) (by omega) (by omega) hb hct
      exact ⟨r, e, l', r1, r2, Keep.of_agree Ab r3⟩
theorem cmp_short {xs : List Int} (h : xs.length < 2) : cmp xs = xs := by
  match xs, h with
  | [], _ => rfl
  | [x], _ => rfl
theorem f84_spec {k N : Nat} {a : Option Addr} {l c : Nat} {xs : List Int} {H : AHeap} (hl : l < maxLen) (hk : l + 3 ≤ k) (h : Own N 1 H a l c (ints xs)) :
    ∃ a' l' c' H', C k 84 [.slice a l c] H = some (.slice a' l' c', H') ∧ (a' = a ∧ Own N 1 H' a l' c' (ints (cmp xs)) ∧ Keep a H H') := by
  obtain ⟨k, rfl⟩ : ∃ j, k = j + 1 := ⟨k - 1, by omega⟩
  rw [f84_eq]
  have hlen := h.len
  refine callsl_of_ok (ok_bif (fun hc => Ok.ret ⟨a, l, c, rfl, rfl, ?_, (Agree.refl H).keep⟩) (fun hc => ?_))
  · rw [decide_eq_true_eq] at hc
    rw [cmp_short (by omega)]; exact h
  · rw [decide_eq_false_iff_not] at hc
    have key := fun D => f84_l1 (k := k) (N := N) (xs := xs) hl (by omega) (l - 1) 1 k H D (by omega) (by omega) (by omega) h (cmp_short (by rw [List.length_take]; omega))
    obtain ⟨r, e, l', r1, r2, r3⟩ := key _
    exact ⟨r, e, a, l', c, r1, rfl, r2, r3⟩
end Go.Proofs.MxF
end

section
set_option linter.unusedSimpArgs false
/- lockset.set and lockset.both. -/
set_option linter.unusedVariables false
namespace Go.Proofs.MxF
open Go Go.Mx Go.Proofs
abbrev Strict (xs : List Int) : Prop := xs.Pairwise (· < ·)

theorem f55_spec {k : Nat} {a : Option Addr} {l c : Nat} {xs : List Int} {H : AHeap} (hl : l ≤ 12) (hk : 40 ≤ k) (h : Ints H a l xs) :
    ∃ a' l' c' H', C k 55 [.slice a l c] H = some (.slice a' l' c', H') ∧ ((∃ zs, Own H.next 1 H' a' l' c' (ints zs) ∧ Strict zs ∧ (∀ v, v ∈ zs ↔ v ∈ xs) ∧ zs.length ≤ xs.length) ∧ Agree H H') := by
  obtain ⟨k, rfl⟩ : ∃ j, k = j + 1 := ⟨k - 1, by omega⟩
  rw [f55_eq]
  refine callsl_of_ok (ok_cSl (app_own (by decide) (app26' _ _ _ _ _ _ _) (Own.nil H.next 1 H) (cs' := ints xs) (by rw [Nat.mul_one]; exact h) (Nat.le_refl _) (by omega) (by omega)) fun a2 l2 c2 H2 hp => ?_)
  obtain ⟨rfl, h1, k1, o1⟩ := hp
  have A1 := k1.none
  rw [List.nil_append] at h1
  have hlen := h.len
  refine ok_cT1 (f83_short (by omega) (by omega) h1) fun H3 hp => ?_
  obtain ⟨⟨ys, h2, s2, p2⟩, k2⟩ := hp
  have hlm : 0 + l < maxLen := by unfold maxLen; omega
  refine ok_cSl (f84_spec hlm (by omega) h2) fun a4 l4 c4 H4 hp => ?_
  obtain ⟨rfl, h3, k3⟩ := hp
  refine Ok.ret ⟨_, _, _, rfl, ⟨_, h3, cmp_strict s2, fun v => ?_, ?_⟩, (k2.trans (Orig.refl _ _) k3).agree A1 h1.block⟩
  · rw [mem_cmp, p2.mem_iff]
  · have e1 := h3.len
    have e2 := h3.2.1
    have e3 := h2.len
    have : (cmp ys).length ≤ ys.length := by
      refine snoc_ind (p := fun ys => (cmp ys).length ≤ ys.length) (by simp [cmp]) (fun ys v ih => ?_) ys
      rw [cmp_snoc]
      unfold cmpS
      split <;> simp <;> omega
    rw [p2.length_eq] at this
    exact this

theorem f85_spec {k : Nat} {H : AHeap} {p : Nat} {e v0 : Nat} {a : Option Addr} {l c : Nat} {ys : List Int} (hp : At H p ⟨[.slice a l c], e, .rw, v0⟩) (h : Ints H a l ys) (hl : l ≤ maxLen) (hk : l + 4 ≤ k) (v : Int) :
    C k 85 [.int .i64 v, .pointer (some ⟨p, 0, none⟩)] H = some (.bool (!hasI ys v), H) := by
  obtain ⟨k, rfl⟩ : ∃ j, k = j + 1 := ⟨k - 1, by omega⟩
  rw [f85_eq]
  exact eq_of_ok (ok_bSl (ldSl_at hp (by simp) rfl) (ok_cB0 (f63_spec h hl (by omega) v) (Ok.ret rfl)))
theorem filter_take {xs : List Int} {kp : Int → Bool} {i : Nat} {x : Int} (h : xs[i]? = some x) : (xs.take (i + 1)).filter kp = if kp x then (xs.take i).filter kp ++ [x] else (xs.take i).filter kp := by
  rw [List.take_add_one, h, List.filter_append]
  by_cases hx : kp x <;> simp [hx]

section
variable {k N : Nat} {a : Option Addr} {l c : Nat} {xs ys : List Int} {p e v0 : Nat} {b : Option Addr} {lb cb : Nat}
theorem f86_l1 (hl : l < maxLen) (hlb : lb ≤ maxLen) (hk : lb + 4 ≤ k) {H : AHeap} (h : Ints H a l xs) (hp : At H p ⟨[.slice b lb cb], e, .rw, v0⟩) (hb : Ints H b lb ys) : ∀ (m i n : Nat) (D : List Value), i + m = l → m < n →
    (xs.take i).filter (hasI ys) = xs.take i →
    Ok (f86x85.L1 k n a l c p (l : Int) (i : Int) D H) fun r => (r = (.int .i64 (-1), H) ∧ xs.filter (hasI ys) = xs) ∨ ∃ (j : Nat) (x : Int), r = (.int .i64 (j : Int), H) ∧ (xs.take j).filter (hasI ys) = xs.take j ∧ xs[j]? = some x ∧ hasI ys x = false := by
  intro m
  induction m with
  | zero =>
    intro i n D hm hn hf
    obtain ⟨n, rfl⟩ : ∃ j, n = j + 1 := ⟨n - 1, by omega⟩
    rw [f86x85.L1_s]
    refine ok_biff (by simp only [decide_eq_false_iff_not]; omega) (Ok.ret (.inl ⟨rfl, ?_⟩))
    rw [List.take_of_length_le (by have := h.len; omega)] at hf
    exact hf
  | succ m ih =>
    intro i n D hm hn hf
    obtain ⟨n, rfl⟩ : ∃ j, n = j + 1 := ⟨n - 1, by omega⟩
    rw [f86x85.L1_s]
    obtain ⟨q, x, hx, eq, hq⟩ := Ints.at h (i := i) (by omega)
    refine ok_bift (by simp only [decide_eq_true_eq]; omega) (ok_bind eq (ok_if (by omega) (ok_bind hq ?_)))
    refine ok_cB0 (f85_spec hp hb hlb hk x) (ok_bif (fun hc => Ok.ret (.inr ⟨i, x, rfl, hf, hx, ?_⟩)) (fun hc => ?_))
    · simpa using hc
    · rw [wrapS (l := l) (by omega) (Nat.le_of_lt hl)]
      refine ih (i + 1) n _ (by omega) (by omega) ?_
      have hc' : hasI ys x = true := by simpa using hc
      rw [filter_take hx, if_pos hc', hf, List.take_add_one, hx]
      rfl
theorem f81_l1 (hl : l < maxLen) (hlb : lb ≤ maxLen) (hk : lb + 4 ≤ k) (hne : ∀ q, a = some q → q.block ≠ p) (hnb : ∀ q q', a = some q → b = some q' → q.block ≠ q'.block) (hxl : xs.length = l) :
    ∀ (m j w n : Nat) (zs : List Int) (H : AHeap) (D : List Value), j + m = l → m < n → w < j → Own N 1 H a l c (ints zs) → zs.take w = (xs.take j).filter (hasI ys) → zs.drop j = xs.drop j →
    At H p ⟨[.slice b lb cb], e, .rw, v0⟩ → Ints H b lb ys →
    Ok (f81x85.L1 k n a l c p (w : Int) (j : Int) D H) fun r => ∃ l', r.1 = .slice a l' c ∧ (Own N 1 r.2 a l' c (ints (xs.filter (hasI ys))) ∧ Keep a H r.2) := by
  intro m
  induction m with
  | zero =>
    intro j w n zs H D hm hn hw h ht hd hp hb
    obtain ⟨n, rfl⟩ : ∃ j, n = j + 1 := ⟨n - 1, by omega⟩
    rw [f81x85.L1_s]
    have hlen := h.len
    obtain ⟨q, hq, _⟩ := own_get h (t := 0) (x := zs[0]) (List.getElem?_eq_getElem (by omega))
    refine ok_biff (by simp only [decide_eq_false_iff_not]; omega) (ok_bSl (cutLo (by omega) h.2.1) ?_)
    obtain ⟨H', e, h1, h2⟩ := own_clear h (k := w) (by omega) hq (c - w)
    subst hq
    refine ok_bind e (ok_bSl (cutHi (by omega) h.2.1) (Ok.ret ⟨w, rfl, ?_, h2⟩))
    rw [ht, List.take_of_length_le (by omega)] at h1
    exact h1
  | succ m ih =>
    intro j w n zs H D hm hn hw h ht hd hp hb
    obtain ⟨n, rfl⟩ : ∃ j, n = j + 1 := ⟨n - 1, by omega⟩
    rw [f81x85.L1_s]
    have hlen := h.len
    have g1 : xs[j]? = some xs[j] := List.getElem?_eq_getElem (by omega)
    revert g1
    generalize xs[j] = x
    intro g1
    have gz : zs[j]? = some x := by
      have : (zs.drop j)[0]? = (xs.drop j)[0]? := by rw [hd]
      rw [List.getElem?_drop, List.getElem?_drop] at this
      exact this.trans g1
    have hft := filter_take (kp := hasI ys) g1
    have hd1 : zs.drop (j + 1) = xs.drop (j + 1) := by
      have := congrArg (List.drop 1) hd
      rw [List.drop_drop, List.drop_drop] at this
      exact this
    obtain ⟨q, eq, lq, _⟩ := own_get h gz
    refine ok_bift (by simp only [decide_eq_true_eq]; omega) (ok_bind eq (ok_if (by omega) (ok_bind lq (ok_cB0 (f85_spec hp hb hlb hk x) ?_))))
    rw [wrapS (i := j) (l := l) (by omega) (Nat.le_of_lt hl)]
    refine ok_bif (fun hc => ?_) (fun hc => ?_)
    · have hc' : hasI ys x = true := by simpa using hc
      refine ok_bind eq (ok_if (by omega) ?_)
      obtain ⟨s, H2, es, hwr, h2, k2, n2'⟩ := own_set h (t := w) (by omega) (.int .i64 x)
      rw [eq] at es
      cases es
      refine ok_bind hwr ?_
      rw [ints_set'] at h2
      rw [wrapS (i := w) (l := l) (by omega) (Nat.le_of_lt hl)]
      rw [if_pos hc', ← ht] at hft
      have t2 : (zs.set w x).take (w + 1) = (xs.take (j + 1)).filter (hasI ys) := by
        rw [hft, List.take_add_one, List.getElem?_set_self (by omega), List.take_set, List.set_eq_of_length_le (by rw [List.length_take]; omega)]
        rfl
      have d2 : (zs.set w x).drop (j + 1) = xs.drop (j + 1) := by rw [List.drop_set_of_lt (by omega)]; exact hd1
      obtain ⟨r, er, l', r1, r2, r3⟩ := ih (j + 1) (w + 1) n (zs.set w x) H2 _ (by omega) (by omega) (by omega) h2 t2 d2 (hp.keep k2 hne) (Cells.keep hb k2 fun q q' e1 e2 => hnb q' q e2 e1)
      exact ⟨r, er, l', r1, r2, k2.trans (Orig.refl _ _) r3⟩
    · have hc' : hasI ys x = false := by simpa using hc
      rw [if_neg (by rw [hc']; decide)] at hft
      obtain ⟨r, er, l', r1, r2, r3⟩ := ih (j + 1) w n zs H _ (by omega) (by omega) (by omega) h (by rw [hft]; exact ht) hd1 hp hb
      exact ⟨r, er, l', r1, r2, r3⟩
theorem f81_spec {H : AHeap} (hl : l < maxLen) (hlb : lb ≤ maxLen) (hk : l + lb + 10 ≤ k) (hne : ∀ q, a = some q → q.block ≠ p) (hnb : ∀ q q', a = some q → b = some q' → q.block ≠ q'.block)
    (h : Own N 1 H a l c (ints xs)) (hp : At H p ⟨[.slice b lb cb], e, .rw, v0⟩) (hb : Ints H b lb ys) :
    ∃ a' l' c' H', C k 81 [.slice a l c, .func (.func 85) #[] #[.pointer (some ⟨p, 0, none⟩)]] H = some (.slice a' l' c', H') ∧ (a' = a ∧ Own N 1 H' a' l' c' (ints (xs.filter (hasI ys))) ∧ Keep a H H') := by
  obtain ⟨k, rfl⟩ : ∃ j, k = j + 1 + 1 := ⟨k - 2, by omega⟩
  have hlen := h.len
  rw [f81x85_eq, f86x85_eq]
  obtain ⟨r, er, hr⟩ := f86_l1 (k := k) (a := a) (c := c) hl hlb (by omega) h.ints hp hb l 0 k [.int .i64 0, undef, .slice a l c, undef, undef, undef, undef, undef, undef, undef, undef, undef] (by omega) (by omega) rfl
  rcases hr with ⟨rfl, hx⟩ | ⟨j, x, rfl, hj, gx, hx⟩
  · refine callsl_of_ok (ok_cI0 (n := -1) er (ok_bift rfl (Ok.ret ⟨a, l, c, rfl, rfl, ?_, (Agree.refl H).keep⟩)))
    rw [hx]; exact h
  · have hjl : j < xs.length := (List.getElem?_eq_some_iff.1 gx).1
    refine callsl_of_ok (ok_cI0 (n := (j : Int)) er (ok_biff (by simp only [beq_eq_false_iff_ne, ne_eq]; omega) ?_))
    rw [wrapS (l := l) (by omega) (Nat.le_of_lt hl)]
    have hft := filter_take (kp := hasI ys) gx
    rw [if_neg (by rw [hx]; decide), hj] at hft
    have key := fun D => f81_l1 (k := k + 1) (N := N) (e := e) (v0 := v0) (c := c) (cb := cb) hl hlb (by omega) hne hnb hlen.symm (l - (j + 1)) (j + 1) j (k + 1) xs H D (by omega) (by omega) (by omega) h hft.symm rfl hp hb
    obtain ⟨r, e, l', r1, r2, r3⟩ := key _
    exact ⟨r, e, a, l', c, r1, rfl, r2, r3⟩
end

theorem f56_spec {k : Nat} {a : Option Addr} {l c : Nat} {xs : List Int} {b : Option Addr} {lb cb : Nat} {ys : List Int} {H : AHeap} (hl : l ≤ 12) (hlb : lb ≤ 1000) (hk : 1100 ≤ k) (h : Ints H a l xs) (hb : Ints H b lb ys) :
    ∃ a' l' c' H', C k 56 [.slice a l c, .slice b lb cb] H = some (.slice a' l' c', H') ∧ ((∃ zs, Own H.next 1 H' a' l' c' (ints zs) ∧ Strict zs ∧ (∀ v, v ∈ zs ↔ v ∈ xs ∧ v ∈ ys) ∧ zs.length ≤ xs.length) ∧ Agree H H') := by
  obtain ⟨k, rfl⟩ : ∃ j, k = j + 1 := ⟨k - 1, by omega⟩
  rw [f56_eq]
  refine callsl_of_ok (ok_al fun i H1 hi n1 A1 B1 => ?_)
  have hlen := h.len
  refine ok_cSl (f55_spec hl (by omega) (h.agree A1)) fun a2 l2 c2 H2 hp => ?_
  obtain ⟨⟨zs, h2, s2, m2, n2⟩, A2⟩ := hp
  have hl2 := h2.len
  have hm : maxLen = 9223372036854775807 := rfl
  have hbel := h2.block
  refine ok_cSl (f81_spec (by omega) (by omega) (by omega) (fun q e => by have := hbel q e; omega) (fun q q' e e' => by have := hbel q e; have := Cells.below hb q' e'; omega) h2 (B1.agree A2) (hb.agree (A1.trans A2))) fun a3 l3 c3 H3 hp => ?_
  obtain ⟨rfl, h3, k3⟩ := hp
  have A02 := A1.trans A2
  refine Ok.ret ⟨_, _, _, rfl, ⟨_, h3.lower (by omega), s2.filter _, fun v => ?_, Nat.le_trans (List.length_filter_le _ _) n2⟩, k3.agree A02 (fun q e => by have := hbel q e; omega)⟩
  rw [List.mem_filter, m2, hasI_iff]
end Go.Proofs.MxF
end

section
set_option linter.unusedSimpArgs false
/- The reference's sorted lists. -/
set_option linter.unusedVariables false
namespace Go.Mx
open Go Go.Proofs
theorem cutMax {a : Option Addr} {l c w : Nat} (h : w ≤ l) (hc : l ≤ c) : cutSl 1 a l c none (some (w : Int)) (some (w : Int)) = some (a.map fun a => ⟨a.block, a.off + 0 * 1, some 0⟩, w, w) := by
  unfold cutSl cutBounds
  dsimp only
  simp only [Option.getD_none, Option.isSome_some, if_true]
  rw [if_pos (by omega)]
  simp
theorem apnd_cut {N : Nat} {H : AHeap} {a : Option Addr} {l c w n : Nat} {xs news : List Int} (h : Own N 1 H a l c (ints xs)) (hw : w ≤ l) (hn : 0 < n) (hl : news.length = n) (hb : w + n ≤ 1000000) :
    ∃ a2 c2 H', apndS 1 8 H (a.map fun a => ⟨a.block, a.off + 0 * 1, some 0⟩) w w (ints news) n = some (.slice a2 (w + n) c2, H') ∧ Own H.next 1 H' a2 (w + n) c2 (ints (xs.take w ++ news)) ∧ Agree H H' := by
  have hil : (ints news).length = n := by simp [ints, hl]
  have hx : (ints xs).length = xs.length := by simp [ints]
  unfold apndS
  rw [if_neg (by rintro (h1 | h1 | h1); exact absurd h1 (by decide); exact h1 (by omega); exact h1 (Nat.le_refl _)), if_neg (by omega), if_neg (by rintro (h1 | h1 | h1); exact absurd h1 (by decide); exact h1 (by omega); exact h1 (by omega))]
  rcases h.2.2 with ⟨e, e2⟩ | ⟨i, b, e, h0, h1, h2, h3, h4, h5⟩
  · subst e
    have hlen := h.1
    have hlc := h.2.1
    obtain rfl : w = 0 := by omega
    have hxs : xs.take 0 ++ news = news := by simp
    rw [hxs]
    refine ⟨_, _, _, rfl, ⟨by rw [hil]; omega, Nat.le_refl _, .inr ⟨H.next, _, rfl, Nat.le_refl _, at_alloc H _, rfl, rfl, ?_, ?_⟩⟩, agree_alloc _ _⟩
    · show (ints news).length = (0 + n) * 1
      omega
    · show (ints news).take ((0 + n) * 1) = ints news
      rw [List.take_of_length_le (by omega)]
  · subst e
    have hlen := h.1
    have hlc := h.2.1
    dsimp only [Option.map]
    rw [h1.2]
    dsimp only
    rw [if_neg (by rintro (h6 | h6); rw [h2] at h6; cases h6; exact h6 (by omega))]
    rw [if_pos (Option.isSome_some)]
    have hold : (b.cells.drop (0 + 0 * 1)).take (w * 1) ++ ints news = ints (xs.take w ++ news) := by
      have : ints (xs.take w ++ news) = (ints xs).take w ++ ints news := by unfold ints; rw [List.map_append, List.map_take]
      rw [this, ← h5, List.take_take]
      simp only [Nat.zero_mul, Nat.add_zero, List.drop_zero, Nat.mul_one]
      rw [Nat.min_eq_left hw]
    rw [hold]
    have hil2 : (ints (xs.take w ++ news)).length = w + n := by simp [ints, hl]; omega
    refine ⟨_, _, _, rfl, ⟨by rw [hil2]; omega, Nat.le_refl _, .inr ⟨H.next, _, rfl, Nat.le_refl _, at_alloc H _, rfl, rfl, ?_, ?_⟩⟩, agree_alloc _ _⟩
    · show (ints (xs.take w ++ news)).length = (w + n) * 1
      omega
    · show (ints (xs.take w ++ news)).take ((w + n) * 1) = _
      rw [List.take_of_length_le (by omega)]
end Go.Mx
namespace Go.Proofs.MxF
open Go Go.Mx Go.Proofs
theorem strict_ins {os : List Int} {v : Int} {i : Nat} (h : Strict os) (h1 : ∀ x ∈ os.take i, x < v) (h2 : ∀ x, os[i]? = some x → v < x) : Strict (os.take i ++ v :: os.drop i) := by
  have ho := h
  rw [← List.take_append_drop i os, Strict, List.pairwise_append] at h
  have hv : ∀ x ∈ os.drop i, v < x := by
    intro x hx
    cases e : os.drop i with
    | nil => rw [e] at hx; cases hx
    | cons y r =>
      have hy : os[i]? = some y := by
        have : (os.drop i)[0]? = some y := by rw [e]; rfl
        rw [List.getElem?_drop] at this
        exact this
      have hvy := h2 y hy
      rw [e] at hx
      rcases List.mem_cons.1 hx with rfl | hx
      · exact hvy
      · have hp := h.2.1
        rw [e, List.pairwise_cons] at hp
        have := hp.1 x hx
        omega
  rw [Strict, List.pairwise_append]
  refine ⟨h.1, List.pairwise_cons.2 ⟨hv, h.2.1⟩, fun x hx y hy => ?_⟩
  rcases List.mem_cons.1 hy with rfl | hy
  · exact h1 x hx
  · exact h.2.2 x hx y hy

section
variable {k N n1 : Nat} {a8 : Option Addr} {l8 c8 : Nat} {xs : List Int} {Q : Value × AHeap → Prop}
/-- what the outer loop needs -/
def Out (N : Nat) (H : AHeap) (a : Option Addr) (l c : Nat) (os : List Int) : Prop := Own N 1 H a l c (ints os) ∧ Strict os
theorem f58_K1 (hl8 : l8 ≤ 1000) {H0 H : AHeap} (A0 : Agree H0 H) (hN : H0.next = N) {a3 : Option Addr} {l3 c3 i : Nat} {os : List Int} {v : Int} {x9 x10 : Int} {D : List Value} (h : Out N H a3 l3 c3 os) (hi : i ≤ l3) (hl3 : l3 ≤ 1000)
    (h1 : ∀ x ∈ os.take i, x < v) (h2 : ∀ x, os[i]? = some x → v < x)
    (next : ∀ a l c os' H' D', Out N H' a l c os' → os'.length = os.length + 1 → (∀ x, x ∈ os' ↔ x = v ∨ x ∈ os) → Agree H0 H' → Ok (f58.L1 k n1 a l c a8 l8 c8 x9 (IntKind.i64.wrap (x10 + 1)) D' H') Q) :
    Ok (f58.K1 k n1 a3 l3 c3 v (i : Int) a8 l8 c8 x9 x10 D H) Q := by
  rw [f58.K1_eq]
  have hlen := h.1.len
  refine ok_al fun ib H1 hib n1' A1 B1 => ok_bSl (cutLo hi h.1.2.1) ?_
  have hO : Own H.next 1 H1 (some ⟨ib, 0, none⟩) 1 1 (ints [v]) := ⟨rfl, Nat.le_refl _, .inr ⟨ib, _, rfl, by omega, B1, rfl, rfl, rfl, rfl⟩⟩
  have hrest : Cells H1 (a3.map fun a => ⟨a.block, a.off + i * 1, a.spot⟩) ((l3 - i) * 1) (ints (os.drop i)) := by
    have hc := (h.1.agree A1).cells
    rcases hc.2 with ⟨e, e2⟩ | ⟨ii, o, s, b, e, g1, g2, g3, g4⟩
    · subst e
      have : os = [] := by cases os with
        | nil => rfl
        | cons _ _ => cases e2
      subst this
      simp at hlen
      subst hlen
      exact ⟨by simp [ints], .inl ⟨rfl, by simp [ints]⟩⟩
    · subst e
      refine ⟨by simp [ints, hlen], .inr ⟨ii, o + i * 1, s, b, rfl, g1, g2, by omega, ?_⟩⟩
      have : ints (os.drop i) = (ints os).drop i := by unfold ints; rw [List.map_drop]
      rw [this, ← g4, List.drop_take, List.drop_drop, Nat.mul_one, Nat.mul_one, Nat.mul_one]
  refine ok_cSl (app_own (by decide) (app26' _ _ _ _ _ _ _) hO hrest (by have := A1.next; omega) (by omega) (by omega)) fun a1 l1 c1 H2 hp => ?_
  obtain ⟨rfl, o1, k1, or1⟩ := hp
  rw [ints_app] at o1
  have A2 : Agree H H2 := k1.agree A1 (fun q e => by cases e; show H.next ≤ ib; omega)
  refine ok_bSl (cutMax hi h.1.2.1) ?_
  have h2' := h.1.agree A2
  obtain ⟨a4, c4, H3, e4, o4, A4⟩ := apnd_cut (w := i) (n := 1 + (l3 - i)) (news := [v] ++ os.drop i) h2' hi (by omega) (by simp [hlen]; omega) (by omega)
  refine ok_cSl (P := fun a l c H' => a = a4 ∧ l = i + (1 + (l3 - i)) ∧ c = c4 ∧ H' = H3) ⟨a4, _, c4, H3, ?_, rfl, rfl, rfl, rfl⟩ ?_
  · rw [app26']
    have hcc : firstC H2 1 (1 + (l3 - i)) (.slice a1 (1 + (l3 - i)) c1) = some (ints ([v] ++ os.drop i)) := firstC_cells (by decide) (by rw [Nat.mul_one]; exact o1.ints)
    rw [hcc, Option.bind_some]
    exact e4
  · rintro _ _ _ _ ⟨rfl, rfl, rfl, rfl⟩
    have hNle : N ≤ H2.next := by rw [← hN]; exact (A0.trans A2).next
    refine next _ _ _ (os.take i ++ ([v] ++ os.drop i)) _ _ ⟨o4.lower hNle, strict_ins h.2 h1 h2⟩ ?_ (fun x => ?_) ((A0.trans A2).trans A4)
    · simp; omega
    · constructor
      · intro hx
        rcases List.mem_append.1 hx with hx | hx
        · exact .inr (List.mem_of_mem_take hx)
        · rcases List.mem_append.1 hx with hx | hx
          · exact .inl (List.mem_singleton.1 hx)
          · exact .inr (List.mem_of_mem_drop hx)
      · rintro (rfl | hx)
        · simp
        · rw [← List.take_append_drop i os] at hx
          rcases List.mem_append.1 hx with hx | hx
          · exact List.mem_append_left _ hx
          · exact List.mem_append_right _ (List.mem_append_right _ hx)
theorem f58_l2 (hl8 : l8 ≤ 1000) {H0 : AHeap} (hN : H0.next = N) {v : Int} {x9 x10 : Int} {a3 : Option Addr} {l3 c3 : Nat} {os : List Int} (hl3 : l3 ≤ 1000)
    (next : ∀ a l c os' H' D', Out N H' a l c os' → os'.length ≤ os.length + 1 → (∀ x, x ∈ os' ↔ x = v ∨ x ∈ os) → Agree H0 H' → Ok (f58.L1 k n1 a l c a8 l8 c8 x9 (IntKind.i64.wrap (x10 + 1)) D' H') Q) :
    ∀ (m i n2 : Nat) (H : AHeap) (D : List Value), Agree H0 H → Out N H a3 l3 c3 os → i + m = l3 → m < n2 → (∀ x ∈ os.take i, x < v) → Ok (f58.L2 k n1 n2 a3 l3 c3 v (i : Int) a8 l8 c8 x9 x10 D H) Q := by
  intro m
  induction m with
  | zero =>
    intro i n2 H D A0 h hm hn ht
    obtain ⟨n2, rfl⟩ : ∃ j, n2 = j + 1 := ⟨n2 - 1, by omega⟩
    rw [f58.L2_s]
    have hlen := h.1.len
    refine ok_biff (by simp only [decide_eq_false_iff_not]; omega) (ok_biff (by simp only [decide_eq_false_iff_not]; omega) ?_)
    exact f58_K1 hl8 A0 hN h (by omega) hl3 ht (fun x hx => by rw [List.getElem?_eq_none (by omega)] at hx; cases hx) fun a l c os' H' D' o1 o2 => next a l c os' H' D' o1 (by omega)
  | succ m ih =>
    intro i n2 H D A0 h hm hn ht
    obtain ⟨n2, rfl⟩ : ∃ j, n2 = j + 1 := ⟨n2 - 1, by omega⟩
    rw [f58.L2_s]
    have hlen := h.1.len
    obtain ⟨q, x, hx, e, hq⟩ := Ints.at h.1.ints (i := i) (by omega)
    have hlt : ((i : Int) < (l3 : Int)) := by omega
    refine ok_bift (by simp only [decide_eq_true_eq]; omega) (ok_bind e (ok_if (by omega) (ok_bind hq (ok_bif (fun hc => ?_) (fun hc => ?_)))))
    · rw [decide_eq_true_eq] at hc
      rw [wrapS (l := l3) (by omega) (by unfold maxLen; omega)]
      refine ih (i + 1) n2 H _ A0 h (by omega) (by omega) (fun y hy => ?_)
      rw [List.take_add_one, hx, List.mem_append] at hy
      rcases hy with hy | hy
      · exact ht y hy
      · simp at hy; rw [hy]; exact hc
    · rw [decide_eq_false_iff_not] at hc
      refine ok_bift (by simp only [decide_eq_true_eq]; omega) (ok_bind e (ok_if (by omega) (ok_bind hq (ok_bif (fun hc' => ?_) (fun hc' => ?_)))))
      · rw [beq_iff_eq] at hc'
        subst hc'
        refine next a3 l3 c3 os H _ h (by omega) (fun y => ?_) A0
        constructor
        · exact .inr
        · rintro (rfl | hy)
          · exact List.mem_of_getElem? hx
          · exact hy
      · have hne : ¬ x = v := by simpa using hc'
        refine f58_K1 hl8 A0 hN h (by omega) hl3 ht (fun y hy => ?_) fun a l c os' H' D' o1 o2 => next a l c os' H' D' o1 (by omega)
        rw [hx] at hy
        cases hy
        omega
theorem f58_l1 (hl8 : l8 ≤ 1000) (hk : 1002 ≤ k) {H0 : AHeap} (hN : H0.next = N) (hx : Ints H0 a8 l8 xs) : ∀ (m i n1 : Nat) (a3 : Option Addr) (l3 c3 : Nat) (os : List Int) (H : AHeap) (D : List Value),
    Agree H0 H → Out N H a3 l3 c3 os → os.length ≤ i → (∀ x, x ∈ os ↔ x ∈ xs.take i) → i + m = l8 → m < n1 →
    Ok (f58.L1 k n1 a3 l3 c3 a8 l8 c8 (l8 : Int) (i : Int) D H) fun r => ∃ a l c, r.1 = .slice a l c ∧ ((∃ os, Out N r.2 a l c os ∧ (∀ x, x ∈ os ↔ x ∈ xs) ∧ os.length ≤ l8) ∧ Agree H0 r.2) := by
  intro m
  induction m with
  | zero =>
    intro i n1 a3 l3 c3 os H D A0 h ho hmem hm hn
    obtain ⟨n1, rfl⟩ : ∃ j, n1 = j + 1 := ⟨n1 - 1, by omega⟩
    rw [f58.L1_s]
    refine ok_biff (by simp only [decide_eq_false_iff_not]; omega) (Ok.ret ⟨a3, l3, c3, rfl, ⟨os, h, fun x => ?_, by omega⟩, A0⟩)
    rw [hmem, List.take_of_length_le (by have := hx.len; omega)]
  | succ m ih =>
    intro i n1 a3 l3 c3 os H D A0 h ho hmem hm hn
    obtain ⟨n1, rfl⟩ : ∃ j, n1 = j + 1 := ⟨n1 - 1, by omega⟩
    rw [f58.L1_s]
    have hlen := h.1.len
    obtain ⟨q, v, hv, e, hq⟩ := Ints.at (hx.agree A0) (i := i) (by omega)
    refine ok_bift (by simp only [decide_eq_true_eq]; omega) (ok_bind e (ok_if (by omega) (ok_bind hq ?_)))
    refine f58_l2 (n1 := n1) hl8 hN (os := os) (by omega) (fun a l c os' H' D' o1 o2 o3 o4 => ?_) l3 0 k H _ A0 h (by omega) (by omega) (fun x hx => by simp at hx)
    rw [wrapS (l := l8) (by omega) (by unfold maxLen; omega)]
    refine ih (i + 1) n1 a l c os' H' D' o4 o1 (by omega) (fun x => ?_) (by omega) (by omega)
    rw [o3, hmem, List.take_add_one, hv, List.mem_append]
    simp
    exact Or.comm
theorem f58_spec {H : AHeap} (hl8 : l8 ≤ 1000) (hk : 1003 ≤ k) (hx : Ints H a8 l8 xs) :
    ∃ a l c H', C k 58 [.slice a8 l8 c8] H = some (.slice a l c, H') ∧ ((∃ os, Own H.next 1 H' a l c (ints os) ∧ Strict os ∧ (∀ x, x ∈ os ↔ x ∈ xs) ∧ os.length ≤ l8) ∧ Agree H H') := by
  obtain ⟨k, rfl⟩ : ∃ j, k = j + 1 := ⟨k - 1, by omega⟩
  rw [f58_eq]
  have key := fun D => f58_l1 (k := k) (N := H.next) (c8 := c8) hl8 (by omega) rfl hx l8 0 k none 0 0 [] H D (Agree.refl H) ⟨Own.nil _ _ _, .nil⟩ (by simp) (by simp) (by omega) (by omega)
  obtain ⟨r, e, a, l, c, e1, ⟨os, o1, o2, o3⟩, A⟩ := key _
  exact callsl_of_ok ⟨r, e, a, l, c, e1, ⟨os, o1.1, o1.2, o2, o3⟩, A⟩
end
theorem f57_spec {k : Nat} {H : AHeap} {a : Option Addr} {l c : Nat} {a' : Option Addr} {l' c' : Nat} {xs ys : List Int} (hk : 1200 ≤ k) (hl : l ≤ 400) (hl' : l' ≤ 400) (h : Ints H a l xs) (h' : Ints H a' l' ys) :
    ∃ a2 l2 c2 H', C k 57 [.agg #[.slice a l c, .slice a' l' c']] H = some (.slice a2 l2 c2, H') ∧ ((∃ os, Own H.next 1 H' a2 l2 c2 (ints os) ∧ Strict os ∧ (∀ x, x ∈ os ↔ x ∈ xs ∨ x ∈ ys) ∧ os.length ≤ l + l') ∧ Agree H H') := by
  obtain ⟨k, rfl⟩ : ∃ j, k = j + 1 := ⟨k - 1, by omega⟩
  rw [f57_eq]
  refine callsl_of_ok (ok_al fun i H1 hi n1 A1 B1 => ?_)
  have P1 : HeldAt H1 i a l c a' l' c' := ⟨_, _, B1⟩
  have Ab := agree_bump H1 8
  refine ok_bift (sameB_agree B1 Ab) (ok_bSl (P1.agree Ab).ld0 ?_)
  refine ok_cSl (f45_spec (by omega) ((h.agree A1).agree Ab) (by omega)) fun a1 l1 c1 H2 hp => ?_
  obtain ⟨rfl, o1, A2⟩ := hp
  have A12 := Ab.trans A2
  refine ok_bift (sameB_agree B1 A12) (ok_bSl (P1.agree A12).ld1 ?_)
  refine ok_cSl (app_own (by decide) (app26' _ _ _ _ _ _ _) o1 (cs' := ints ys) (by rw [Nat.mul_one]; exact (h'.agree A1).agree A12) A2.next (by omega) (by omega)) fun a3 l3 c3 H3 hp => ?_
  obtain ⟨rfl, o3, k3, or3⟩ := hp
  rw [ints_app] at o3
  have hbn := o1.block
  have A3 : Agree H1 H3 := k3.agree A12 (fun q e => by have := hbn q e; have := Ab.next; omega)
  refine ok_cSl (f58_spec (by omega) (by omega) o3.ints) fun a4 l4 c4 H4 hp => ?_
  obtain ⟨⟨os, o4, s4, m4, g4⟩, A4⟩ := hp
  have A03 := A1.trans A3
  exact Ok.ret ⟨_, _, _, rfl, ⟨os, o4.lower A03.next, s4, (fun x => by rw [m4, List.mem_append]), g4⟩, A03.trans A4⟩
end Go.Proofs.MxF
end

section
set_option linter.unusedSimpArgs false
/- Lists whose elements are rows of cells. -/
set_option linter.unusedVariables false
namespace Go.Mx
open Go
section
variable {α : Type} {f : α → List Value} {sz : Nat}
theorem flat_len (hf : ∀ x, (f x).length = sz) (xs : List α) : (xs.flatMap f).length = xs.length * sz := by
  induction xs with
  | nil => simp
  | cons x xs ih => rw [List.flatMap_cons, List.length_append, ih, hf, List.length_cons, Nat.succ_mul, Nat.add_comm]
theorem flat_split (hf : ∀ x, (f x).length = sz) {xs : List α} {i : Nat} {x : α} (h : xs[i]? = some x) :
    xs.flatMap f = (xs.take i).flatMap f ++ (f x ++ (xs.drop (i + 1)).flatMap f) ∧ ((xs.take i).flatMap f).length = i * sz := by
  obtain ⟨hi, e⟩ := List.getElem?_eq_some_iff.1 h
  constructor
  · conv => lhs; rw [← List.take_append_drop i xs, List.flatMap_append, List.drop_eq_getElem_cons hi, e, List.flatMap_cons]
  · rw [flat_len hf, List.length_take]
    congr 1
    omega
theorem flat_get (hf : ∀ x, (f x).length = sz) {xs : List α} {i j : Nat} {x : α} (h : xs[i]? = some x) (hj : j < sz) : (xs.flatMap f)[i * sz + j]? = (f x)[j]? := by
  obtain ⟨e, hl⟩ := flat_split hf h
  rw [e, List.getElem?_append_right (by omega), hl, Nat.add_sub_cancel_left, List.getElem?_append_left (by rw [hf]; exact hj)]
theorem flat_row (hf : ∀ x, (f x).length = sz) {xs : List α} {i : Nat} {x : α} (h : xs[i]? = some x) : ((xs.flatMap f).drop (i * sz)).take sz = f x := by
  obtain ⟨e, hl⟩ := flat_split hf h
  rw [e, List.drop_left' hl, List.take_left' (hf x)]
theorem flat_splice (hf : ∀ x, (f x).length = sz) {xs : List α} {i j : Nat} {x y : α} {vs : List Value} (h : xs[i]? = some x) (hj : j + vs.length ≤ sz) (hy : f y = splice (f x) j vs) :
    splice (xs.flatMap f) (i * sz + j) vs = (xs.set i y).flatMap f := by
  obtain ⟨e, hl⟩ := flat_split hf h
  obtain ⟨hi, _⟩ := List.getElem?_eq_some_iff.1 h
  have e2 : (xs.set i y).flatMap f = (xs.take i).flatMap f ++ (f y ++ (xs.drop (i + 1)).flatMap f) := by
    rw [List.set_eq_take_append_cons_drop, if_pos hi, List.flatMap_append, List.flatMap_cons]
  rw [e2, hy, e]
  generalize (xs.take i).flatMap f = A at hl
  generalize (xs.drop (i + 1)).flatMap f = B
  have hx := hf x
  revert hx
  generalize f x = X
  intro hx
  unfold splice
  rw [List.take_append, List.take_append, List.take_of_length_le (by omega), hl, Nat.add_sub_cancel_left]
  rw [show j - X.length = 0 from by omega, List.take_zero, List.append_nil]
  rw [show i * sz + j + vs.length = A.length + (j + vs.length) from by omega, ← List.drop_drop, List.drop_left' rfl, List.drop_append_of_le_length (by omega)]
  simp
theorem flat_snoc (xs : List α) (x : α) : (xs ++ [x]).flatMap f = xs.flatMap f ++ f x := by
  rw [List.flatMap_append, List.flatMap_singleton]
end

/-- cells that are read, all in blocks of a kind -/
def CellsF (F : Nat → Prop) (H : AHeap) (a : Option Addr) (n : Nat) (cs : List Value) : Prop := Cells H a n cs ∧ ∀ q, a = some q → F q.block
section
variable {F G : Nat → Prop} {H H' : AHeap} {a : Option Addr} {n : Nat} {cs : List Value}
theorem CellsF.agree (h : CellsF F H a n cs) (A : Agree H H') : CellsF F H' a n cs := ⟨h.1.agree A, h.2⟩
theorem CellsF.wrote (h : CellsF F H a n cs) {i : Nat} {b' : Blk} (w : Wrote H H' i b') (hi : ¬ F i) : CellsF F H' a n cs :=
  ⟨Cells.wrote h.1 w fun q e hh => hi (hh ▸ h.2 q e), h.2⟩
theorem CellsF.mono (h : CellsF F H a n cs) (k : ∀ i, F i → G i) : CellsF G H a n cs := ⟨h.1, fun q e => k _ (h.2 q e)⟩
theorem CellsF.keep (h : CellsF F H a n cs) {b : Option Addr} (k : Keep b H H') (hb : ∀ q, b = some q → ¬ F q.block) : CellsF F H' a n cs :=
  ⟨Cells.keep h.1 k fun q q' e e' hh => hb q' e' (hh ▸ h.2 q e), h.2⟩
theorem CellsF.sub (h : CellsF F H a n cs) (k : Sub' H H') : CellsF F H' a n cs := ⟨h.1.sub k, h.2⟩
end

/-- a part of a slice of ours is written -/
theorem own_wr {N sz : Nat} {H : AHeap} {a : Option Addr} {l c : Nat} {cs : List Value} (h : Own N sz H a l c cs) {o : Nat} {vs : List Value} (hv : 0 < vs.length) (ho : o + vs.length ≤ l * sz) :
    ∃ q H', a = some q ∧ q.off = 0 ∧ H.wr q.block (q.off + o) vs = some H' ∧ Own N sz H' a l c (splice cs o vs) ∧ Keep a H H' ∧ H'.next = H.next := by
  rcases h.2.2 with ⟨e, e2⟩ | ⟨i, b, e, h0, h1, h2, h3, h4, h5⟩
  · have := h.2.1
    subst e2
    have : l = 0 := by omega
    subst this
    rw [Nat.zero_mul] at ho
    omega
  · have hlen := h.1
    have hle : l * sz ≤ c * sz := Nat.mul_le_mul_right _ h.2.1
    obtain ⟨H', hw, w1, w2, w3⟩ := wr_at (o := 0 + o) (vs := vs) h1 h2 (by omega)
    refine ⟨_, H', e, rfl, hw, ⟨?_, h.2.1, .inr ⟨i, _, e, h0, w2, h2, h3, ?_, ?_⟩⟩, ⟨by rw [w1]; exact Nat.le_refl _, fun j hj hne => w3 j fun e1 => hne _ e e1.symm, fun f j hj => ?_⟩, w1⟩
    · unfold splice
      simp only [List.length_append, List.length_take, List.length_drop]
      omega
    · show (splice b.cells (0 + o) vs).length = c * sz
      unfold splice
      simp only [List.length_append, List.length_take, List.length_drop]
      omega
    · show (splice b.cells (0 + o) vs).take (l * sz) = splice cs o vs
      rw [← h5]
      unfold splice
      rw [Nat.zero_add, List.take_append, List.take_of_length_le (by simp only [List.length_append, List.length_take]; omega), List.take_take, Nat.min_eq_left (by omega)]
      congr 1
      rw [List.drop_take, List.length_append, List.length_take]
      congr 1
      omega
    · rw [w1] at hj
      rw [w3 j (by have := h1.1; omega)]
      exact f j hj
theorem own_same {N sz : Nat} {H : AHeap} {a : Option Addr} {l c : Nat} {cs : List Value} (h : Own N sz H a l c cs) {q : Addr} (e : a = some q) : ∀ H', Agree H H' → sameB H H' q.block = true := by
  intro H' A
  rcases h.2.2 with ⟨e1, _⟩ | ⟨i, b, e1, h0, h1, _⟩
  · rw [e1] at e; cases e
  · rw [e1] at e; cases e; exact sameB_agree h1 A
theorem Own.keep {N sz : Nat} {H H' : AHeap} {a b : Option Addr} {l c : Nat} {cs : List Value} (h : Own N sz H a l c cs) (k : Keep b H H') (hne : ∀ q q', a = some q → b = some q' → q'.block ≠ q.block) : Own N sz H' a l c cs := by
  refine ⟨h.1, h.2.1, ?_⟩
  rcases h.2.2 with h | ⟨i, bl, e, h0, h1, h2⟩
  · exact .inl h
  · exact .inr ⟨i, bl, e, h0, h1.keep k (fun q e' => hne _ q e e'), h2⟩
theorem Own.cellsF {N sz : Nat} {H : AHeap} {a : Option Addr} {l c : Nat} {cs : List Value} (h : Own N sz H a l c cs) : CellsF (N ≤ ·) H a (l * sz) cs := ⟨h.cells, h.block⟩
theorem Cells.stay {H : AHeap} {a : Option Addr} {n : Nat} {cs : List Value} (h : Cells H a n cs) {q : Addr} (e : a = some q) : ∀ H', Agree H H' → sameB H H' q.block = true := by
  intro H' A
  rcases h.2 with ⟨e1, _⟩ | ⟨i, o, s, b, e1, h1, _⟩
  · rw [e1] at e; cases e
  · rw [e1] at e; cases e; exact sameB_agree h1 A
/-- the load of a cell of a slice -/
theorem Cells.ldI {H : AHeap} {a : Option Addr} {n : Nat} {cs : List Value} (h : Cells H a n cs) {j : Nat} {k : IntKind} {x : Int} (hj : cs[j]? = some (.int k x)) : ∃ q, a = some q ∧ Mx.ldI k H q.block (q.off + j) = some x := by
  obtain ⟨q, e, hc⟩ := Cells.cell h hj
  exact ⟨q, e, by unfold Mx.ldI; rw [hc]; simp [asI]⟩
theorem Cells.ldSl {H : AHeap} {a : Option Addr} {n : Nat} {cs : List Value} (h : Cells H a n cs) {j : Nat} {b : Option Addr} {l c : Nat} (hj : cs[j]? = some (.slice b l c)) : ∃ q, a = some q ∧ Mx.ldSl H q.block (q.off + j) = some (b, l, c) := by
  obtain ⟨q, e, hc⟩ := Cells.cell h hj
  exact ⟨q, e, by unfold Mx.ldSl; rw [hc]; simp [asSl]⟩
end Go.Mx
end
