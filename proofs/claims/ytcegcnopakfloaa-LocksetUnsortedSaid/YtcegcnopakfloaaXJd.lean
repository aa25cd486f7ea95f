/- Texts of this claim, laid together: Lp L1 L2 Lp2 Lp5. -/
import Derived.Test.YtcegcnopakfloaaXJc
import Derived.IntWalk
section
set_option linter.unusedSimpArgs false
/- Functions of the program as the machine comes to them: printed by a program of this workplace (px.py); the kernel checks each line. -/
set_option linter.unusedVariables false
namespace Go.Proofs.MxF
open Go Go.Mx Go.Proofs

/- f55 "interleave/lockset.set[int]"  names: 0:l 1:l 3:out -/
theorem f55_eq (k : Nat) (a0 : Option Addr) (l0 : Nat) (c0 : Nat) (H : AHeap) : C (k + 1) 55 [.slice a0 l0 c0] H =
  (cSl (apndV Try.prog [26, 26] H (.slice none 0 0) (.slice a0 l0 c0)) fun a l c H_1 =>
   cT (C k 83 [.slice a l c] H_1) fun u H_2 =>
   cSl (C k 84 [.slice a l c] H_2) fun a_1 l_1 c_1 H_3 =>
   some (.slice a_1 l_1 c_1, H_3)) := by kernel_rfl

/- f56 "interleave/lockset.both[int]"  names: 0:a 1:b 2:a 3:b -/
theorem f56_eq (k : Nat) (a0 : Option Addr) (l0 : Nat) (c0 : Nat) (a1 : Option Addr) (l1 : Nat) (c1 : Nat) (H : AHeap) : C (k + 1) 56 [.slice a0 l0 c0, .slice a1 l1 c1] H =
  (alK none H ⟨[.slice a1 l1 c1], 0, .rw, 0⟩ fun i H_1 =>
   cSl (C k 55 [.slice a0 l0 c0] H_1) fun a l c H_2 =>
   cSl (C k 81 [.slice a l c, .func (.func 85) #[] #[.pointer (some ⟨i, 0, none⟩)]] H_2) fun a_1 l_1 c_1 H_3 =>
   some (.slice a_1 l_1 c_1, H_3)) := by kernel_rfl

/- f57 "interleave/interleaveref27.Union"  names: 0:h 1:h -/
theorem f57_eq (k : Nat) (a0_0 : Option Addr) (l0_0 : Nat) (c0_0 : Nat) (a0_1 : Option Addr) (l0_1 : Nat) (c0_1 : Nat) (H : AHeap) : C (k + 1) 57 [.agg #[.slice a0_0 l0_0 c0_0, .slice a0_1 l0_1 c0_1]] H =
  (alK none H ⟨[.slice a0_0 l0_0 c0_0, .slice a0_1 l0_1 c0_1], 0, .rw, 0⟩ fun i H_1 =>
   bif sameB H_1 (H_1.bump 8) i then
   bSl (ldSl (H_1.bump 8) i (0)) fun a l c =>
   cSl (C k 45 [.slice a l c] (H_1.bump 8)) fun a_1 l_1 c_1 H_2 =>
   bif sameB H_1 H_2 i then
   bSl (ldSl H_2 i (1)) fun a_2 l_2 c_2 =>
   cSl (apndV Try.prog [26, 26] H_2 (.slice a_1 l_1 c_1) (.slice a_2 l_2 c_2)) fun a_3 l_3 c_3 H_3 =>
   cSl (C k 58 [.slice a_3 l_3 c_3] H_3) fun a_4 l_4 c_4 H_4 =>
   some (.slice a_4 l_4 c_4, H_4)
   else none
   else none) := by kernel_rfl

/- f58 "interleave/interleaveref27.sorted"  names: 0:l 1:l 3:out 4:_ 5:x 6:i 7:rest -/
noncomputable def f58.Q0 (k : Nat)  : Kont (Value × AHeap) := retQ Try.prog Try.f58
noncomputable def f58.Q1 (k : Nat)  : Kont (Value × AHeap) := seqQ (gateC (Sub (bodyOf Try.f58) [1, 1, 0]) (Sub (bodyOf Try.f58) [1, 1, 1]) k (run Try.prog (C k) k (Sub (bodyOf Try.f58) [1, 1, 1]) (f58.Q0 k ))) (f58.Q0 k )
noncomputable def f58.Q2 (k : Nat)  : Kont (Value × AHeap) := blkQ 0 (f58.Q1 k )
noncomputable def f58.Q3 (k : Nat) (n1 : Nat) : Kont (Value × AHeap) := seqQ (iter (run Try.prog (C k) k (Sub (bodyOf Try.f58) [1, 1, 0, 1, 0, 0])) (f58.Q2 k ) n1) (f58.Q2 k )
noncomputable def f58.Q4 (k : Nat) (n1 : Nat) : Kont (Value × AHeap) := seqQ (gateC (Sub (bodyOf Try.f58) [1, 1, 0, 1, 0, 0, 1, 1, 0]) (Sub (bodyOf Try.f58) [1, 1, 0, 1, 0, 0, 1, 1, 1]) k (run Try.prog (C k) k (Sub (bodyOf Try.f58) [1, 1, 0, 1, 0, 0, 1, 1, 1]) (f58.Q3 k n1))) (f58.Q3 k n1)
noncomputable def f58.Q5 (k : Nat) (n1 : Nat) : Kont (Value × AHeap) := blkQ 1 (f58.Q4 k n1)
noncomputable def f58.Q6 (k : Nat) (n1 : Nat) : Kont (Value × AHeap) := seqQ (gateC (Sub (bodyOf Try.f58) [1, 1, 0, 1, 0, 0, 1, 1, 0, 0, 1, 1, 0]) (Sub (bodyOf Try.f58) [1, 1, 0, 1, 0, 0, 1, 1, 0, 0, 1, 1, 1]) k (run Try.prog (C k) k (Sub (bodyOf Try.f58) [1, 1, 0, 1, 0, 0, 1, 1, 0, 0, 1, 1, 1]) (f58.Q5 k n1))) (f58.Q5 k n1)
noncomputable def f58.Q7 (k : Nat) (n1 : Nat) : Kont (Value × AHeap) := blkQ 2 (f58.Q6 k n1)
noncomputable def f58.L1 (k : Nat) (n1 : Nat) (a3 : Option Addr) (l3 : Nat) (c3 : Nat) (a8 : Option Addr) (l8 : Nat) (c8 : Nat) (x9 : Int) (x10 : Int) (D : List Value) (H : AHeap) : Option (Value × AHeap) :=
  iter (run Try.prog (C k) k (Sub (bodyOf Try.f58) [1, 1, 0, 1, 0, 0])) (f58.Q2 k ) n1 [(D.getD 0 undef), undef, (D.getD 1 undef), .slice a3 l3 c3, undef, (D.getD 2 undef), (D.getD 3 undef), (D.getD 4 undef), .slice a8 l8 c8, .int .i64 x9, .int .i64 x10, (D.getD 5 undef), (D.getD 6 undef), (D.getD 7 undef), (D.getD 8 undef), (D.getD 9 undef), (D.getD 10 undef), (D.getD 11 undef), (D.getD 12 undef), (D.getD 13 undef), (D.getD 14 undef), (D.getD 15 undef), (D.getD 16 undef), (D.getD 17 undef), (D.getD 18 undef), (D.getD 19 undef), (D.getD 20 undef), (D.getD 21 undef), (D.getD 22 undef), (D.getD 23 undef), (D.getD 24 undef), (D.getD 25 undef), (D.getD 26 undef), (D.getD 27 undef), (D.getD 28 undef), (D.getD 29 undef), (D.getD 30 undef), (D.getD 31 undef), (D.getD 32 undef), (D.getD 33 undef), (D.getD 34 undef), (D.getD 35 undef), (D.getD 36 undef), (D.getD 37 undef), (D.getD 38 undef), (D.getD 39 undef), (D.getD 40 undef), (D.getD 41 undef), (D.getD 42 undef), (D.getD 43 undef), (D.getD 44 undef), (D.getD 45 undef), (D.getD 46 undef), undef] H
noncomputable def f58.L2 (k : Nat) (n1 : Nat) (n2 : Nat) (a3 : Option Addr) (l3 : Nat) (c3 : Nat) (x5 : Int) (x6 : Int) (a8 : Option Addr) (l8 : Nat) (c8 : Nat) (x9 : Int) (x10 : Int) (D : List Value) (H : AHeap) : Option (Value × AHeap) :=
  iter (run Try.prog (C k) k (Sub (bodyOf Try.f58) [1, 1, 0, 1, 0, 0, 1, 1, 0, 0, 1, 1, 0, 0, 0])) (f58.Q7 k n1) n2 [(D.getD 0 undef), undef, (D.getD 1 undef), .slice a3 l3 c3, undef, .int .i64 x5, .int .i64 x6, (D.getD 2 undef), .slice a8 l8 c8, .int .i64 x9, .int .i64 x10, (D.getD 3 undef), (D.getD 4 undef), (D.getD 5 undef), (D.getD 6 undef), (D.getD 7 undef), (D.getD 8 undef), (D.getD 9 undef), (D.getD 10 undef), (D.getD 11 undef), (D.getD 12 undef), (D.getD 13 undef), (D.getD 14 undef), (D.getD 15 undef), (D.getD 16 undef), (D.getD 17 undef), (D.getD 18 undef), (D.getD 19 undef), (D.getD 20 undef), (D.getD 21 undef), (D.getD 22 undef), (D.getD 23 undef), (D.getD 24 undef), (D.getD 25 undef), (D.getD 26 undef), (D.getD 27 undef), (D.getD 28 undef), (D.getD 29 undef), (D.getD 30 undef), (D.getD 31 undef), (D.getD 32 undef), (D.getD 33 undef), (D.getD 34 undef), (D.getD 35 undef), (D.getD 36 undef), (D.getD 37 undef), (D.getD 38 undef), (D.getD 39 undef), (D.getD 40 undef), (D.getD 41 undef), (D.getD 42 undef), (D.getD 43 undef), (D.getD 44 undef), undef] H
noncomputable def f58.K1 (k : Nat) (n1 : Nat) (a3 : Option Addr) (l3 : Nat) (c3 : Nat) (x5 : Int) (x6 : Int) (a8 : Option Addr) (l8 : Nat) (c8 : Nat) (x9 : Int) (x10 : Int) (D : List Value) (H : AHeap) : Option (Value × AHeap) :=
  gateC (Sub (bodyOf Try.f58) [1, 1, 0, 1, 0, 0, 1, 1, 0, 0, 1, 1, 1, 0]) (Sub (bodyOf Try.f58) [1, 1, 0, 1, 0, 0, 1, 1, 0, 0, 1, 1, 1, 1]) k (run Try.prog (C k) k (Sub (bodyOf Try.f58) [1, 1, 0, 1, 0, 0, 1, 1, 0, 0, 1, 1, 1, 1]) (f58.Q5 k n1)) [(D.getD 0 undef), undef, (D.getD 1 undef), .slice a3 l3 c3, undef, .int .i64 x5, .int .i64 x6, (D.getD 2 undef), .slice a8 l8 c8, .int .i64 x9, .int .i64 x10, (D.getD 3 undef), (D.getD 4 undef), (D.getD 5 undef), (D.getD 6 undef), (D.getD 7 undef), (D.getD 8 undef), (D.getD 9 undef), (D.getD 10 undef), (D.getD 11 undef), (D.getD 12 undef), (D.getD 13 undef), (D.getD 14 undef), (D.getD 15 undef), (D.getD 16 undef), (D.getD 17 undef), (D.getD 18 undef), (D.getD 19 undef), (D.getD 20 undef), (D.getD 21 undef), (D.getD 22 undef), (D.getD 23 undef), (D.getD 24 undef), (D.getD 25 undef), (D.getD 26 undef), (D.getD 27 undef), (D.getD 28 undef), (D.getD 29 undef), (D.getD 30 undef), (D.getD 31 undef), (D.getD 32 undef), (D.getD 33 undef), (D.getD 34 undef), (D.getD 35 undef), (D.getD 36 undef), (D.getD 37 undef), (D.getD 38 undef), (D.getD 39 undef), (D.getD 40 undef), (D.getD 41 undef), (D.getD 42 undef), (D.getD 43 undef), (D.getD 44 undef), undef] H
theorem f58.L1_z (k : Nat)  (a3 : Option Addr) (l3 : Nat) (c3 : Nat) (a8 : Option Addr) (l8 : Nat) (c8 : Nat) (x9 : Int) (x10 : Int) (D : List Value) (H : AHeap) : f58.L1 k 0 a3 l3 c3 a8 l8 c8 x9 x10 D H = none := by kernel_rfl
theorem f58.L1_s (k : Nat) (n1 : Nat) (a3 : Option Addr) (l3 : Nat) (c3 : Nat) (a8 : Option Addr) (l8 : Nat) (c8 : Nat) (x9 : Int) (x10 : Int) (D : List Value) (H : AHeap) : f58.L1 k (n1 + 1) a3 l3 c3 a8 l8 c8 x9 x10 D H =
  (bif (decide (x10 < x9)) then
   a8.bind fun q =>
   if 0 ≤ x10 ∧ x10 < (l8 : Int) then
   (ldI .i64 H q.block (q.off + x10.toNat * 1)).bind fun x =>
   f58.L2 k n1 k a3 l3 c3 x 0 a8 l8 c8 x9 x10 [(D.getD 0 undef), (D.getD 1 undef), (D.getD 4 undef), .bool (decide (x10 < x9)), .pointer (some ⟨q.block, q.off + x10.toNat * 1, none⟩), .int .i64 x, (D.getD 8 undef), (D.getD 9 undef), (D.getD 10 undef), (D.getD 11 undef), (D.getD 12 undef), (D.getD 13 undef), (D.getD 14 undef), (D.getD 15 undef), (D.getD 16 undef), (D.getD 17 undef), (D.getD 18 undef), (D.getD 19 undef), (D.getD 20 undef), (D.getD 21 undef), (D.getD 22 undef), (D.getD 23 undef), (D.getD 24 undef), (D.getD 25 undef), (D.getD 26 undef), (D.getD 27 undef), (D.getD 28 undef), (D.getD 29 undef), (D.getD 30 undef), (D.getD 31 undef), (D.getD 32 undef), (D.getD 33 undef), (D.getD 34 undef), (D.getD 35 undef), (D.getD 36 undef), (D.getD 37 undef), (D.getD 38 undef), (D.getD 39 undef), (D.getD 40 undef), (D.getD 41 undef), (D.getD 42 undef), (D.getD 43 undef), (D.getD 44 undef), (D.getD 45 undef), (D.getD 46 undef)] H
   else none
   else
   some (.slice a3 l3 c3, H)) := by kernel_rfl
theorem f58.L2_z (k : Nat) (n1 : Nat) (a3 : Option Addr) (l3 : Nat) (c3 : Nat) (x5 : Int) (x6 : Int) (a8 : Option Addr) (l8 : Nat) (c8 : Nat) (x9 : Int) (x10 : Int) (D : List Value) (H : AHeap) : f58.L2 k n1 0 a3 l3 c3 x5 x6 a8 l8 c8 x9 x10 D H = none := by kernel_rfl
theorem f58.L2_s (k : Nat) (n1 : Nat) (n2 : Nat) (a3 : Option Addr) (l3 : Nat) (c3 : Nat) (x5 : Int) (x6 : Int) (a8 : Option Addr) (l8 : Nat) (c8 : Nat) (x9 : Int) (x10 : Int) (D : List Value) (H : AHeap) : f58.L2 k n1 (n2 + 1) a3 l3 c3 x5 x6 a8 l8 c8 x9 x10 D H =
  (bif (decide (x6 < (l3 : Int))) then
   a3.bind fun q =>
   if 0 ≤ x6 ∧ x6 < (l3 : Int) then
   (ldI .i64 H q.block (q.off + x6.toNat * 1)).bind fun x =>
   bif (decide (x < x5)) then
   f58.L2 k n1 n2 a3 l3 c3 x5 (IntKind.i64.wrap (x6 + (1 : Int))) a8 l8 c8 x9 x10 [(D.getD 0 undef), (D.getD 1 undef), (D.getD 2 undef), (D.getD 3 undef), (D.getD 4 undef), (D.getD 5 undef), .int .i64 x6, .slice a3 l3 c3, .int .i64 (l3 : Int), .bool (decide (x6 < (l3 : Int))), .bool true, .slice a3 l3 c3, .int .i64 x6, .pointer (some ⟨q.block, q.off + x6.toNat * 1, none⟩), .int .i64 x, .int .i64 x5, .bool (decide (x < x5)), .bool (decide (x < x5)), .int .i64 x6, .int .i64 (IntKind.i64.wrap (x6 + (1 : Int))), (D.getD 20 undef), (D.getD 21 undef), (D.getD 22 undef), (D.getD 23 undef), (D.getD 24 undef), (D.getD 25 undef), (D.getD 26 undef), (D.getD 27 undef), (D.getD 28 undef), (D.getD 29 undef), (D.getD 30 undef), (D.getD 31 undef), (D.getD 32 undef), (D.getD 33 undef), (D.getD 34 undef), (D.getD 35 undef), (D.getD 36 undef), (D.getD 37 undef), (D.getD 38 undef), (D.getD 39 undef), (D.getD 40 undef), (D.getD 41 undef), (D.getD 42 undef), (D.getD 43 undef), (D.getD 44 undef)] H
   else
   bif (decide (x6 < (l3 : Int))) then
   a3.bind fun q_1 =>
   if 0 ≤ x6 ∧ x6 < (l3 : Int) then
   (ldI .i64 H q_1.block (q_1.off + x6.toNat * 1)).bind fun x_1 =>
   bif (x_1 == x5) then
   f58.L1 k n1 a3 l3 c3 a8 l8 c8 x9 (IntKind.i64.wrap (x10 + (1 : Int))) [(D.getD 0 undef), (D.getD 1 undef), .int .i64 x5, .int .i64 x6, (D.getD 2 undef), (D.getD 3 undef), (D.getD 4 undef), (D.getD 5 undef), .int .i64 x6, .slice a3 l3 c3, .int .i64 (l3 : Int), .bool (decide (x6 < (l3 : Int))), .bool true, .slice a3 l3 c3, .int .i64 x6, .pointer (some ⟨q.block, q.off + x6.toNat * 1, none⟩), .int .i64 x, .int .i64 x5, .bool (decide (x < x5)), .bool (decide (x < x5)), (D.getD 18 undef), (D.getD 19 undef), .int .i64 x6, .slice a3 l3 c3, .int .i64 (l3 : Int), .bool (decide (x6 < (l3 : Int))), .bool true, .slice a3 l3 c3, .int .i64 x6, .pointer (some ⟨q_1.block, q_1.off + x6.toNat * 1, none⟩), .int .i64 x_1, .int .i64 x5, .bool (x_1 == x5), .bool (x_1 == x5), (D.getD 32 undef), (D.getD 33 undef), (D.getD 34 undef), (D.getD 35 undef), (D.getD 36 undef), (D.getD 37 undef), (D.getD 38 undef), (D.getD 39 undef), (D.getD 40 undef), (D.getD 41 undef), (D.getD 42 undef), (D.getD 43 undef), .int .i64 (IntKind.i64.wrap (x10 + (1 : Int)))] H
   else
   f58.K1 k n1 a3 l3 c3 x5 x6 a8 l8 c8 x9 x10 [(D.getD 0 undef), (D.getD 1 undef), (D.getD 2 undef), (D.getD 3 undef), (D.getD 4 undef), (D.getD 5 undef), .int .i64 x6, .slice a3 l3 c3, .int .i64 (l3 : Int), .bool (decide (x6 < (l3 : Int))), .bool true, .slice a3 l3 c3, .int .i64 x6, .pointer (some ⟨q.block, q.off + x6.toNat * 1, none⟩), .int .i64 x, .int .i64 x5, .bool (decide (x < x5)), .bool (decide (x < x5)), (D.getD 18 undef), (D.getD 19 undef), .int .i64 x6, .slice a3 l3 c3, .int .i64 (l3 : Int), .bool (decide (x6 < (l3 : Int))), .bool true, .slice a3 l3 c3, .int .i64 x6, .pointer (some ⟨q_1.block, q_1.off + x6.toNat * 1, none⟩), .int .i64 x_1, .int .i64 x5, .bool (x_1 == x5), .bool (x_1 == x5), (D.getD 32 undef), (D.getD 33 undef), (D.getD 34 undef), (D.getD 35 undef), (D.getD 36 undef), (D.getD 37 undef), (D.getD 38 undef), (D.getD 39 undef), (D.getD 40 undef), (D.getD 41 undef), (D.getD 42 undef), (D.getD 43 undef), (D.getD 44 undef)] H
   else none
   else
   f58.K1 k n1 a3 l3 c3 x5 x6 a8 l8 c8 x9 x10 [(D.getD 0 undef), (D.getD 1 undef), (D.getD 2 undef), (D.getD 3 undef), (D.getD 4 undef), (D.getD 5 undef), .int .i64 x6, .slice a3 l3 c3, .int .i64 (l3 : Int), .bool (decide (x6 < (l3 : Int))), .bool true, .slice a3 l3 c3, .int .i64 x6, .pointer (some ⟨q.block, q.off + x6.toNat * 1, none⟩), .int .i64 x, .int .i64 x5, .bool (decide (x < x5)), .bool (decide (x < x5)), (D.getD 18 undef), (D.getD 19 undef), .int .i64 x6, .slice a3 l3 c3, .int .i64 (l3 : Int), .bool (decide (x6 < (l3 : Int))), .bool false, undef, undef, undef, undef, undef, undef, .bool false, (D.getD 32 undef), (D.getD 33 undef), (D.getD 34 undef), (D.getD 35 undef), (D.getD 36 undef), (D.getD 37 undef), (D.getD 38 undef), (D.getD 39 undef), (D.getD 40 undef), (D.getD 41 undef), (D.getD 42 undef), (D.getD 43 undef), (D.getD 44 undef)] H
   else none
   else
   bif (decide (x6 < (l3 : Int))) then
   a3.bind fun q_2 =>
   if 0 ≤ x6 ∧ x6 < (l3 : Int) then
   (ldI .i64 H q_2.block (q_2.off + x6.toNat * 1)).bind fun x_2 =>
   bif (x_2 == x5) then
   f58.L1 k n1 a3 l3 c3 a8 l8 c8 x9 (IntKind.i64.wrap (x10 + (1 : Int))) [(D.getD 0 undef), (D.getD 1 undef), .int .i64 x5, .int .i64 x6, (D.getD 2 undef), (D.getD 3 undef), (D.getD 4 undef), (D.getD 5 undef), .int .i64 x6, .slice a3 l3 c3, .int .i64 (l3 : Int), .bool (decide (x6 < (l3 : Int))), .bool false, undef, undef, undef, undef, undef, undef, .bool false, (D.getD 18 undef), (D.getD 19 undef), .int .i64 x6, .slice a3 l3 c3, .int .i64 (l3 : Int), .bool (decide (x6 < (l3 : Int))), .bool true, .slice a3 l3 c3, .int .i64 x6, .pointer (some ⟨q_2.block, q_2.off + x6.toNat * 1, none⟩), .int .i64 x_2, .int .i64 x5, .bool (x_2 == x5), .bool (x_2 == x5), (D.getD 32 undef), (D.getD 33 undef), (D.getD 34 undef), (D.getD 35 undef), (D.getD 36 undef), (D.getD 37 undef), (D.getD 38 undef), (D.getD 39 undef), (D.getD 40 undef), (D.getD 41 undef), (D.getD 42 undef), (D.getD 43 undef), .int .i64 (IntKind.i64.wrap (x10 + (1 : Int)))] H
   else
   f58.K1 k n1 a3 l3 c3 x5 x6 a8 l8 c8 x9 x10 [(D.getD 0 undef), (D.getD 1 undef), (D.getD 2 undef), (D.getD 3 undef), (D.getD 4 undef), (D.getD 5 undef), .int .i64 x6, .slice a3 l3 c3, .int .i64 (l3 : Int), .bool (decide (x6 < (l3 : Int))), .bool false, undef, undef, undef, undef, undef, undef, .bool false, (D.getD 18 undef), (D.getD 19 undef), .int .i64 x6, .slice a3 l3 c3, .int .i64 (l3 : Int), .bool (decide (x6 < (l3 : Int))), .bool true, .slice a3 l3 c3, .int .i64 x6, .pointer (some ⟨q_2.block, q_2.off + x6.toNat * 1, none⟩), .int .i64 x_2, .int .i64 x5, .bool (x_2 == x5), .bool (x_2 == x5), (D.getD 32 undef), (D.getD 33 undef), (D.getD 34 undef), (D.getD 35 undef), (D.getD 36 undef), (D.getD 37 undef), (D.getD 38 undef), (D.getD 39 undef), (D.getD 40 undef), (D.getD 41 undef), (D.getD 42 undef), (D.getD 43 undef), (D.getD 44 undef)] H
   else none
   else
   f58.K1 k n1 a3 l3 c3 x5 x6 a8 l8 c8 x9 x10 [(D.getD 0 undef), (D.getD 1 undef), (D.getD 2 undef), (D.getD 3 undef), (D.getD 4 undef), (D.getD 5 undef), .int .i64 x6, .slice a3 l3 c3, .int .i64 (l3 : Int), .bool (decide (x6 < (l3 : Int))), .bool false, undef, undef, undef, undef, undef, undef, .bool false, (D.getD 18 undef), (D.getD 19 undef), .int .i64 x6, .slice a3 l3 c3, .int .i64 (l3 : Int), .bool (decide (x6 < (l3 : Int))), .bool false, undef, undef, undef, undef, undef, undef, .bool false, (D.getD 32 undef), (D.getD 33 undef), (D.getD 34 undef), (D.getD 35 undef), (D.getD 36 undef), (D.getD 37 undef), (D.getD 38 undef), (D.getD 39 undef), (D.getD 40 undef), (D.getD 41 undef), (D.getD 42 undef), (D.getD 43 undef), (D.getD 44 undef)] H) := by kernel_rfl
theorem f58.K1_eq (k : Nat) (n1 : Nat) (a3 : Option Addr) (l3 : Nat) (c3 : Nat) (x5 : Int) (x6 : Int) (a8 : Option Addr) (l8 : Nat) (c8 : Nat) (x9 : Int) (x10 : Int) (D : List Value) (H : AHeap) : f58.K1 k n1 a3 l3 c3 x5 x6 a8 l8 c8 x9 x10 D H =
  (alK none H ⟨[.int .i64 x5], 1, .rw, 0⟩ fun i H_1 =>
   bSl (cutSl 1 a3 l3 c3 (some x6) none none) fun a l c =>
   cSl (apndV Try.prog [26, 26] H_1 (.slice (some ⟨i, 0, none⟩) 1 1) (.slice a l c)) fun a_1 l_1 c_1 H_2 =>
   bSl (cutSl 1 a3 l3 c3 none (some x6) (some x6)) fun a_2 l_2 c_2 =>
   cSl (apndV Try.prog [26, 26] H_2 (.slice a_2 l_2 c_2) (.slice a_1 l_1 c_1)) fun a_3 l_3 c_3 H_3 =>
   f58.L1 k n1 a_3 l_3 c_3 a8 l8 c8 x9 (IntKind.i64.wrap (x10 + (1 : Int))) [(D.getD 0 undef), (D.getD 1 undef), .int .i64 x5, .int .i64 x6, .slice a_1 l_1 c_1, (D.getD 3 undef), (D.getD 4 undef), (D.getD 5 undef), (D.getD 6 undef), (D.getD 7 undef), (D.getD 8 undef), (D.getD 9 undef), (D.getD 10 undef), (D.getD 11 undef), (D.getD 12 undef), (D.getD 13 undef), (D.getD 14 undef), (D.getD 15 undef), (D.getD 16 undef), (D.getD 17 undef), (D.getD 18 undef), (D.getD 19 undef), (D.getD 20 undef), (D.getD 21 undef), (D.getD 22 undef), (D.getD 23 undef), (D.getD 24 undef), (D.getD 25 undef), (D.getD 26 undef), (D.getD 27 undef), (D.getD 28 undef), (D.getD 29 undef), (D.getD 30 undef), (D.getD 31 undef), .int .i64 x5, .slice (some ⟨i, 0, none⟩) 1 1, .slice a3 l3 c3, .int .i64 x6, .slice a l c, .slice a_1 l_1 c_1, .slice a3 l3 c3, .int .i64 x6, .int .i64 x6, .slice a_2 l_2 c_2, .slice a_1 l_1 c_1, .slice a_3 l_3 c_3, .int .i64 (IntKind.i64.wrap (x10 + (1 : Int)))] H_3) := by
  unfold f58.K1
  rw [gateC_eq]
  kernel_rfl
theorem f58_eq (k : Nat) (a0 : Option Addr) (l0 : Nat) (c0 : Nat) (H : AHeap) : C (k + 1) 58 [.slice a0 l0 c0] H =
  (f58.L1 k k none 0 0 a0 l0 c0 (l0 : Int) 0 [.slice a0 l0 c0, .slice none 0 0, undef, undef, undef, undef, undef, undef, undef, undef, undef, undef, undef, undef, undef, undef, undef, undef, undef, undef, undef, undef, undef, undef, undef, undef, undef, undef, undef, undef, undef, undef, undef, undef, undef, undef, undef, undef, undef, undef, undef, undef, undef, undef, undef, undef, undef] H) := by kernel_rfl

/- f59 "interleave/interleaveref22.Equal"  names: 0:a 1:b 2:a 3:b 5:i -/
noncomputable def f59.Q0 (k : Nat)  : Kont (Value × AHeap) := retQ Try.prog Try.f59
noncomputable def f59.Q1 (k : Nat)  : Kont (Value × AHeap) := seqQ (gateC (Sub (bodyOf Try.f59) [1, 1, 0]) (Sub (bodyOf Try.f59) [1, 1, 1]) k (run Try.prog (C k) k (Sub (bodyOf Try.f59) [1, 1, 1]) (f59.Q0 k ))) (f59.Q0 k )
noncomputable def f59.Q2 (k : Nat)  : Kont (Value × AHeap) := blkQ 0 (f59.Q1 k )
noncomputable def f59.L1 (k : Nat) (n1 : Nat) (a0 : Option Addr) (l0 : Nat) (c0 : Nat) (a1 : Option Addr) (l1 : Nat) (c1 : Nat) (x12 : Int) (x13 : Int) (D : List Value) (H : AHeap) : Option (Value × AHeap) :=
  iter (run Try.prog (C k) k (Sub (bodyOf Try.f59) [1, 1, 0, 1, 0, 0])) (f59.Q2 k ) n1 [.slice a0 l0 c0, .slice a1 l1 c1, undef, undef, (D.getD 0 undef), (D.getD 1 undef), (D.getD 2 undef), (D.getD 3 undef), (D.getD 4 undef), (D.getD 5 undef), (D.getD 6 undef), (D.getD 7 undef), .int .i64 x12, .int .i64 x13, (D.getD 8 undef), (D.getD 9 undef), (D.getD 10 undef), (D.getD 11 undef), (D.getD 12 undef), (D.getD 13 undef), (D.getD 14 undef), (D.getD 15 undef), (D.getD 16 undef), (D.getD 17 undef), (D.getD 18 undef), (D.getD 19 undef)] H
theorem f59.L1_z (k : Nat)  (a0 : Option Addr) (l0 : Nat) (c0 : Nat) (a1 : Option Addr) (l1 : Nat) (c1 : Nat) (x12 : Int) (x13 : Int) (D : List Value) (H : AHeap) : f59.L1 k 0 a0 l0 c0 a1 l1 c1 x12 x13 D H = none := by kernel_rfl
theorem f59.L1_s (k : Nat) (n1 : Nat) (a0 : Option Addr) (l0 : Nat) (c0 : Nat) (a1 : Option Addr) (l1 : Nat) (c1 : Nat) (x12 : Int) (x13 : Int) (D : List Value) (H : AHeap) : f59.L1 k (n1 + 1) a0 l0 c0 a1 l1 c1 x12 x13 D H =
  (bif (decide (x13 < x12)) then
   a0.bind fun q =>
   if 0 ≤ x13 ∧ x13 < (l0 : Int) then
   bif sameB H (H.bump 9) q.block then
   (ldI .i64 (H.bump 9) q.block (q.off + x13.toNat * 1)).bind fun x =>
   a1.bind fun q_1 =>
   if 0 ≤ x13 ∧ x13 < (l1 : Int) then
   bif sameB H (H.bump 9) q_1.block then
   (ldI .i64 (H.bump 9) q_1.block (q_1.off + x13.toNat * 1)).bind fun x_1 =>
   bif (x != x_1) then
   some (.bool false, (H.bump 9))
   else
   f59.L1 k n1 a0 l0 c0 a1 l1 c1 x12 (IntKind.i64.wrap (x13 + (1 : Int))) [(D.getD 0 undef), .int .i64 x13, (D.getD 2 undef), (D.getD 3 undef), (D.getD 4 undef), (D.getD 5 undef), (D.getD 6 undef), (D.getD 7 undef), .bool (decide (x13 < x12)), .int .i64 x13, .slice a0 l0 c0, .int .i64 x13, .pointer (some ⟨q.block, q.off + x13.toNat * 1, none⟩), .int .i64 x, .slice a1 l1 c1, .int .i64 x13, .pointer (some ⟨q_1.block, q_1.off + x13.toNat * 1, none⟩), .int .i64 x_1, .bool (x != x_1), .int .i64 (IntKind.i64.wrap (x13 + (1 : Int)))] (H.bump 9)
   else none
   else none
   else none
   else none
   else
   some (.bool true, H)) := by kernel_rfl
theorem f59_eq (k : Nat) (a0 : Option Addr) (l0 : Nat) (c0 : Nat) (a1 : Option Addr) (l1 : Nat) (c1 : Nat) (H : AHeap) : C (k + 1) 59 [.slice a0 l0 c0, .slice a1 l1 c1] H =
  (bif ((l0 : Int) != (l1 : Int)) then
   some (.bool false, H)
   else
   f59.L1 k k a0 l0 c0 a1 l1 c1 (l0 : Int) 0 [.bool false, undef, .slice a0 l0 c0, .int .i64 (l0 : Int), .slice a1 l1 c1, .int .i64 (l1 : Int), .bool ((l0 : Int) != (l1 : Int)), .slice a0 l0 c0, undef, undef, undef, undef, undef, undef, undef, undef, undef, undef, undef, undef] H) := by kernel_rfl

/- f60 "interleave/lockset.Excludes$1"  names: 0:x 1:y 2:x 3:y -/
theorem f60_eq (k : Nat) (a0_0 : Option Addr) (l0_0 : Nat) (c0_0 : Nat) (a0_1 : Option Addr) (l0_1 : Nat) (c0_1 : Nat) (a1_0 : Option Addr) (l1_0 : Nat) (c1_0 : Nat) (a1_1 : Option Addr) (l1_1 : Nat) (c1_1 : Nat) (H : AHeap) : C (k + 1) 60 [.agg #[.slice a0_0 l0_0 c0_0, .slice a0_1 l0_1 c0_1], .agg #[.slice a1_0 l1_0 c1_0, .slice a1_1 l1_1 c1_1]] H =
  (alK none H ⟨[.slice a0_0 l0_0 c0_0, .slice a0_1 l0_1 c0_1], 0, .rw, 0⟩ fun i H_1 =>
   alK none H_1 ⟨[.slice a1_0 l1_0 c1_0, .slice a1_1 l1_1 c1_1], 0, .rw, 0⟩ fun i_1 H_2 =>
   bSl (ldSl H_2 i (0)) fun a l c =>
   cB (C k 61 [.slice a l c, .func (.func 62) #[] #[.pointer (some ⟨i_1, 0, none⟩)]] H_2) fun b H_3 =>
   some (.bool b, H_3)) := by kernel_rfl

/- f61 "slices.ContainsFunc[[]int,int]"  names: 0:s 1:f 2:s 3:f -/
theorem f61_eq (k : Nat) (a0 : Option Addr) (l0 : Nat) (c0 : Nat) (v1 : Value) (H : AHeap) : C (k + 1) 61 [.slice a0 l0 c0, v1] H =
  (cI .i64 (C k 86 [.slice a0 l0 c0, v1] H) fun x H_1 =>
   some (.bool (decide (x ≥ (0 : Int))), H_1)) := by kernel_rfl

/- f62 "interleave/lockset.Excludes$1$1"  names: 0:l 2:l -/
theorem f62_eq (k : Nat) (x0 : Int) (pc0 : Nat) (H : AHeap) : C (k + 1) 62 [.int .i64 x0, .pointer (some ⟨pc0, 0, none⟩)] H =
  (bSl (ldSl H pc0 (0)) fun a l c =>
   cB (C k 63 [.slice a l c, .int .i64 x0] H) fun b H_1 =>
   bif b then
   some (.bool true, H_1)
   else
   bSl (ldSl H_1 pc0 (1)) fun a_1 l_1 c_1 =>
   cB (C k 63 [.slice a_1 l_1 c_1, .int .i64 x0] H_1) fun b_1 H_2 =>
   some (.bool b_1, H_2)) := by kernel_rfl

/- f63 "slices.Contains[[]int,int]"  names: 0:s 1:v 2:s 3:v -/
theorem f63_eq (k : Nat) (a0 : Option Addr) (l0 : Nat) (c0 : Nat) (x1 : Int) (H : AHeap) : C (k + 1) 63 [.slice a0 l0 c0, .int .i64 x1] H =
  (cI .i64 (C k 87 [.slice a0 l0 c0, .int .i64 x1] H) fun x H_1 =>
   some (.bool (decide (x ≥ (0 : Int))), H_1)) := by kernel_rfl

/- f81x85 "slices.DeleteFunc[[]int,int]"  names: 0:s 1:del 2:s 3:del 5:i 6:j 7:v -/
noncomputable def f81x85.Q0 (k : Nat)  : Kont (Value × AHeap) := retQ Try.prog Try.f81
noncomputable def f81x85.Q1 (k : Nat)  : Kont (Value × AHeap) := seqQ (gateC (Sub (bodyOf Try.f81) [1, 1, 1, 0]) (Sub (bodyOf Try.f81) [1, 1, 1, 1]) k (run Try.prog (C k) k (Sub (bodyOf Try.f81) [1, 1, 1, 1]) (f81x85.Q0 k ))) (f81x85.Q0 k )
noncomputable def f81x85.Q2 (k : Nat)  : Kont (Value × AHeap) := blkQ 0 (f81x85.Q1 k )
noncomputable def f81x85.L1 (k : Nat) (n1 : Nat) (a0 : Option Addr) (l0 : Nat) (c0 : Nat) (p1_0 : Nat) (x5 : Int) (x6 : Int) (D : List Value) (H : AHeap) : Option (Value × AHeap) :=
  iter (run Try.prog (C k) k (Sub (bodyOf Try.f81) [1, 1, 1, 0, 1, 0, 0])) (f81x85.Q2 k ) n1 [.slice a0 l0 c0, .func (.func 85) #[] #[.pointer (some ⟨p1_0, 0, none⟩)], undef, undef, (D.getD 0 undef), .int .i64 x5, .int .i64 x6, (D.getD 1 undef), (D.getD 2 undef), (D.getD 3 undef), (D.getD 4 undef), (D.getD 5 undef), (D.getD 6 undef), undef, (D.getD 7 undef), (D.getD 8 undef), (D.getD 9 undef), (D.getD 10 undef), (D.getD 11 undef), (D.getD 12 undef), (D.getD 13 undef), (D.getD 14 undef), (D.getD 15 undef), (D.getD 16 undef), (D.getD 17 undef), (D.getD 18 undef), (D.getD 19 undef), (D.getD 20 undef), (D.getD 21 undef), (D.getD 22 undef), (D.getD 23 undef), (D.getD 24 undef), (D.getD 25 undef), (D.getD 26 undef), (D.getD 27 undef), (D.getD 28 undef), undef, undef, undef, undef, undef, undef] H
theorem f81x85.L1_z (k : Nat)  (a0 : Option Addr) (l0 : Nat) (c0 : Nat) (p1_0 : Nat) (x5 : Int) (x6 : Int) (D : List Value) (H : AHeap) : f81x85.L1 k 0 a0 l0 c0 p1_0 x5 x6 D H = none := by kernel_rfl
theorem f81x85.L1_s (k : Nat) (n1 : Nat) (a0 : Option Addr) (l0 : Nat) (c0 : Nat) (p1_0 : Nat) (x5 : Int) (x6 : Int) (D : List Value) (H : AHeap) : f81x85.L1 k (n1 + 1) a0 l0 c0 p1_0 x5 x6 D H =
  (bif (decide (x6 < (l0 : Int))) then
   a0.bind fun q =>
   if 0 ≤ x6 ∧ x6 < (l0 : Int) then
   (ldI .i64 H q.block (q.off + x6.toNat * 1)).bind fun x =>
   cB (C k 85 [.int .i64 x, .pointer (some ⟨p1_0, 0, none⟩)] H) fun b H_1 =>
   bif (!b) then
   a0.bind fun q_1 =>
   if 0 ≤ x5 ∧ x5 < (l0 : Int) then
   (AHeap.wr H_1 q_1.block (q_1.off + x5.toNat * 1) [.int .i64 x]).bind fun H_2 =>
   f81x85.L1 k n1 a0 l0 c0 p1_0 (IntKind.i64.wrap (x5 + (1 : Int))) (IntKind.i64.wrap (x6 + (1 : Int))) [(D.getD 0 undef), .int .i64 x, (D.getD 2 undef), (D.getD 3 undef), (D.getD 4 undef), (D.getD 5 undef), (D.getD 6 undef), (D.getD 7 undef), (D.getD 8 undef), .int .i64 x6, .slice a0 l0 c0, .int .i64 (l0 : Int), .bool (decide (x6 < (l0 : Int))), .int .i64 x6, .int .i64 (IntKind.i64.wrap (x6 + (1 : Int))), .slice a0 l0 c0, .int .i64 x6, .pointer (some ⟨q.block, q.off + x6.toNat * 1, none⟩), .int .i64 x, .func (.func 85) #[] #[.pointer (some ⟨p1_0, 0, none⟩)], .int .i64 x, .bool b, .bool (!b), .slice a0 l0 c0, .int .i64 x5, .int .i64 x, .pointer (some ⟨q_1.block, q_1.off + x5.toNat * 1, none⟩), .int .i64 x5, .int .i64 (IntKind.i64.wrap (x5 + (1 : Int)))] H_2
   else none
   else
   f81x85.L1 k n1 a0 l0 c0 p1_0 x5 (IntKind.i64.wrap (x6 + (1 : Int))) [(D.getD 0 undef), .int .i64 x, (D.getD 2 undef), (D.getD 3 undef), (D.getD 4 undef), (D.getD 5 undef), (D.getD 6 undef), (D.getD 7 undef), (D.getD 8 undef), .int .i64 x6, .slice a0 l0 c0, .int .i64 (l0 : Int), .bool (decide (x6 < (l0 : Int))), .int .i64 x6, .int .i64 (IntKind.i64.wrap (x6 + (1 : Int))), .slice a0 l0 c0, .int .i64 x6, .pointer (some ⟨q.block, q.off + x6.toNat * 1, none⟩), .int .i64 x, .func (.func 85) #[] #[.pointer (some ⟨p1_0, 0, none⟩)], .int .i64 x, .bool b, .bool (!b), (D.getD 23 undef), (D.getD 24 undef), (D.getD 25 undef), (D.getD 26 undef), (D.getD 27 undef), (D.getD 28 undef)] H_1
   else none
   else
   bSl (cutSl 1 a0 l0 c0 (some x5) none none) fun a l c =>
   (clearV Try.prog [26] H (.slice a l c)).bind fun H_3 =>
   bSl (cutSl 1 a0 l0 c0 none (some x5) none) fun a_1 l_1 c_1 =>
   some (.slice a_1 l_1 c_1, H_3)) := by kernel_rfl
theorem f81x85_eq (k : Nat) (a0 : Option Addr) (l0 : Nat) (c0 : Nat) (pc0 : Nat) (H : AHeap) : C (k + 1) 81 [.slice a0 l0 c0, .func (.func 85) #[] #[.pointer (some ⟨pc0, 0, none⟩)]] H =
  (cI .i64 (C k 86 [.slice a0 l0 c0, .func (.func 85) #[] #[.pointer (some ⟨pc0, 0, none⟩)]] H) fun x H_1 =>
   bif (x == ((-1) : Int)) then
   some (.slice a0 l0 c0, H_1)
   else
   f81x85.L1 k k a0 l0 c0 pc0 x (IntKind.i64.wrap (x + (1 : Int))) [.slice none 0 0, undef, .slice a0 l0 c0, .func (.func 85) #[] #[.pointer (some ⟨pc0, 0, none⟩)], .int .i64 x, .int .i64 x, .bool (x == ((-1) : Int)), .int .i64 x, .int .i64 (IntKind.i64.wrap (x + (1 : Int))), undef, undef, undef, undef, undef, undef, undef, undef, undef, undef, undef, undef, undef, undef, undef, undef, undef, undef, undef, undef] H_1) := by kernel_rfl

/- f84 "slices.Compact[[]int,int]"  names: 0:s 1:s 3:k 4:s2 5:k2 -/
noncomputable def f84.Q0 (k : Nat)  : Kont (Value × AHeap) := retQ Try.prog Try.f84
noncomputable def f84.Q1 (k : Nat)  : Kont (Value × AHeap) := seqQ (gateC (Sub (bodyOf Try.f84) [1, 1, 0]) (Sub (bodyOf Try.f84) [1, 1, 1]) k (run Try.prog (C k) k (Sub (bodyOf Try.f84) [1, 1, 1]) (f84.Q0 k ))) (f84.Q0 k )
noncomputable def f84.Q2 (k : Nat)  : Kont (Value × AHeap) := blkQ 0 (f84.Q1 k )
noncomputable def f84.Q3 (k : Nat) (n1 : Nat) : Kont (Value × AHeap) := seqQ (iter (run Try.prog (C k) k (Sub (bodyOf Try.f84) [1, 1, 0, 1, 0, 0])) (f84.Q2 k ) n1) (f84.Q2 k )
noncomputable def f84.Q4 (k : Nat) (n1 : Nat) : Kont (Value × AHeap) := seqQ (gateC (Sub (bodyOf Try.f84) [1, 1, 0, 1, 0, 0, 1, 0]) (Sub (bodyOf Try.f84) [1, 1, 0, 1, 0, 0, 1, 1]) k (run Try.prog (C k) k (Sub (bodyOf Try.f84) [1, 1, 0, 1, 0, 0, 1, 1]) (f84.Q3 k n1))) (f84.Q3 k n1)
noncomputable def f84.Q5 (k : Nat) (n1 : Nat) : Kont (Value × AHeap) := blkQ 1 (f84.Q4 k n1)
noncomputable def f84.Q6 (k : Nat) (n1 : Nat) : Kont (Value × AHeap) := seqQ (gateC (Sub (bodyOf Try.f84) [1, 1, 0, 1, 0, 0, 1, 0, 0, 1, 0, 1, 0]) (Sub (bodyOf Try.f84) [1, 1, 0, 1, 0, 0, 1, 0, 0, 1, 0, 1, 1]) k (run Try.prog (C k) k (Sub (bodyOf Try.f84) [1, 1, 0, 1, 0, 0, 1, 0, 0, 1, 0, 1, 1]) (f84.Q5 k n1))) (f84.Q5 k n1)
noncomputable def f84.Q7 (k : Nat) (n1 : Nat) : Kont (Value × AHeap) := blkQ 2 (f84.Q6 k n1)
noncomputable def f84.L1 (k : Nat) (n1 : Nat) (a0 : Option Addr) (l0 : Nat) (c0 : Nat) (x3 : Int) (D : List Value) (H : AHeap) : Option (Value × AHeap) :=
  iter (run Try.prog (C k) k (Sub (bodyOf Try.f84) [1, 1, 0, 1, 0, 0])) (f84.Q2 k ) n1 [.slice a0 l0 c0, undef, (D.getD 0 undef), .int .i64 x3, undef, undef, (D.getD 1 undef), (D.getD 2 undef), (D.getD 3 undef), undef, (D.getD 4 undef), (D.getD 5 undef), (D.getD 6 undef), (D.getD 7 undef), (D.getD 8 undef), (D.getD 9 undef), (D.getD 10 undef), (D.getD 11 undef), (D.getD 12 undef), (D.getD 13 undef), (D.getD 14 undef), (D.getD 15 undef), (D.getD 16 undef), (D.getD 17 undef), (D.getD 18 undef), (D.getD 19 undef), undef, undef, undef, undef, undef, undef, undef, undef, undef, undef, undef, undef, undef, undef, undef, undef, undef, undef, undef, undef, undef, undef, undef, undef, undef, undef, undef, undef, undef, undef, undef, undef, undef, undef, undef] H
noncomputable def f84.L2 (k : Nat) (n1 : Nat) (n2 : Nat) (a0 : Option Addr) (l0 : Nat) (c0 : Nat) (x3 : Int) (a4 : Option Addr) (l4 : Nat) (c4 : Nat) (x5 : Int) (D : List Value) (H : AHeap) : Option (Value × AHeap) :=
  iter (run Try.prog (C k) k (Sub (bodyOf Try.f84) [1, 1, 0, 1, 0, 0, 1, 0, 0, 1, 0, 1, 0, 1, 0, 0])) (f84.Q7 k n1) n2 [.slice a0 l0 c0, undef, (D.getD 0 undef), .int .i64 x3, .slice a4 l4 c4, .int .i64 x5, (D.getD 1 undef), (D.getD 2 undef), (D.getD 3 undef), undef, (D.getD 4 undef), (D.getD 5 undef), (D.getD 6 undef), (D.getD 7 undef), (D.getD 8 undef), (D.getD 9 undef), (D.getD 10 undef), (D.getD 11 undef), (D.getD 12 undef), (D.getD 13 undef), (D.getD 14 undef), (D.getD 15 undef), (D.getD 16 undef), (D.getD 17 undef), (D.getD 18 undef), (D.getD 19 undef), (D.getD 20 undef), (D.getD 21 undef), (D.getD 22 undef), (D.getD 23 undef), (D.getD 24 undef), (D.getD 25 undef), (D.getD 26 undef), (D.getD 27 undef), (D.getD 28 undef), (D.getD 29 undef), (D.getD 30 undef), (D.getD 31 undef), (D.getD 32 undef), (D.getD 33 undef), (D.getD 34 undef), (D.getD 35 undef), (D.getD 36 undef), (D.getD 37 undef), (D.getD 38 undef), (D.getD 39 undef), (D.getD 40 undef), (D.getD 41 undef), (D.getD 42 undef), (D.getD 43 undef), (D.getD 44 undef), (D.getD 45 undef), (D.getD 46 undef), (D.getD 47 undef), undef, undef, undef, undef, undef, undef, undef] H
theorem f84.L1_z (k : Nat)  (a0 : Option Addr) (l0 : Nat) (c0 : Nat) (x3 : Int) (D : List Value) (H : AHeap) : f84.L1 k 0 a0 l0 c0 x3 D H = none := by kernel_rfl
theorem f84.L1_s (k : Nat) (n1 : Nat) (a0 : Option Addr) (l0 : Nat) (c0 : Nat) (x3 : Int) (D : List Value) (H : AHeap) : f84.L1 k (n1 + 1) a0 l0 c0 x3 D H =
  (bif (decide (x3 < (l0 : Int))) then
   a0.bind fun q =>
   if 0 ≤ x3 ∧ x3 < (l0 : Int) then
   bif sameB H (H.bump 10) q.block then
   (ldI .i64 (H.bump 10) q.block (q.off + x3.toNat * 1)).bind fun x =>
   a0.bind fun q_1 =>
   if 0 ≤ (IntKind.i64.wrap (x3 - (1 : Int))) ∧ (IntKind.i64.wrap (x3 - (1 : Int))) < (l0 : Int) then
   bif sameB H (H.bump 10) q_1.block then
   (ldI .i64 (H.bump 10) q_1.block (q_1.off + (IntKind.i64.wrap (x3 - (1 : Int))).toNat * 1)).bind fun x_1 =>
   bif (x == x_1) then
   bSl (cutSl 1 a0 l0 c0 (some x3) none none) fun a l c =>
   f84.L2 k n1 k a0 l0 c0 x3 a l c 1 [(D.getD 0 undef), (D.getD 1 undef), (D.getD 2 undef), (D.getD 3 undef), .int .i64 x3, .slice a0 l0 c0, .int .i64 (l0 : Int), .bool (decide (x3 < (l0 : Int))), (D.getD 8 undef), (D.getD 9 undef), .slice a0 l0 c0, .int .i64 x3, .pointer (some ⟨q.block, q.off + x3.toNat * 1, none⟩), .int .i64 x, .slice a0 l0 c0, .int .i64 x3, .int .i64 (IntKind.i64.wrap (x3 - (1 : Int))), .pointer (some ⟨q_1.block, q_1.off + (IntKind.i64.wrap (x3 - (1 : Int))).toNat * 1, none⟩), .int .i64 x_1, .bool (x == x_1), .slice a0 l0 c0, .int .i64 x3, .slice a l c, undef, undef, undef, undef, undef, undef, undef, undef, undef, undef, undef, undef, undef, undef, undef, undef, undef, undef, undef, undef, undef, undef, undef, undef, undef] (H.bump 10)
   else
   f84.L1 k n1 a0 l0 c0 (IntKind.i64.wrap (x3 + (1 : Int))) [(D.getD 0 undef), (D.getD 1 undef), (D.getD 2 undef), (D.getD 3 undef), .int .i64 x3, .slice a0 l0 c0, .int .i64 (l0 : Int), .bool (decide (x3 < (l0 : Int))), .int .i64 x3, .int .i64 (IntKind.i64.wrap (x3 + (1 : Int))), .slice a0 l0 c0, .int .i64 x3, .pointer (some ⟨q.block, q.off + x3.toNat * 1, none⟩), .int .i64 x, .slice a0 l0 c0, .int .i64 x3, .int .i64 (IntKind.i64.wrap (x3 - (1 : Int))), .pointer (some ⟨q_1.block, q_1.off + (IntKind.i64.wrap (x3 - (1 : Int))).toNat * 1, none⟩), .int .i64 x_1, .bool (x == x_1)] (H.bump 10)
   else none
   else none
   else none
   else none
   else
   some (.slice a0 l0 c0, H)) := by kernel_rfl
theorem f84.L2_z (k : Nat) (n1 : Nat) (a0 : Option Addr) (l0 : Nat) (c0 : Nat) (x3 : Int) (a4 : Option Addr) (l4 : Nat) (c4 : Nat) (x5 : Int) (D : List Value) (H : AHeap) : f84.L2 k n1 0 a0 l0 c0 x3 a4 l4 c4 x5 D H = none := by kernel_rfl
theorem f84.L2_s (k : Nat) (n1 : Nat) (n2 : Nat) (a0 : Option Addr) (l0 : Nat) (c0 : Nat) (x3 : Int) (a4 : Option Addr) (l4 : Nat) (c4 : Nat) (x5 : Int) (D : List Value) (H : AHeap) : f84.L2 k n1 (n2 + 1) a0 l0 c0 x3 a4 l4 c4 x5 D H =
  (bif (decide (x5 < (l4 : Int))) then
   a4.bind fun q =>
   if 0 ≤ x5 ∧ x5 < (l4 : Int) then
   bif sameB H (H.bump 10) q.block then
   (ldI .i64 (H.bump 10) q.block (q.off + x5.toNat * 1)).bind fun x =>
   a4.bind fun q_1 =>
   if 0 ≤ (IntKind.i64.wrap (x5 - (1 : Int))) ∧ (IntKind.i64.wrap (x5 - (1 : Int))) < (l4 : Int) then
   bif sameB H (H.bump 10) q_1.block then
   (ldI .i64 (H.bump 10) q_1.block (q_1.off + (IntKind.i64.wrap (x5 - (1 : Int))).toNat * 1)).bind fun x_1 =>
   bif (x != x_1) then
   a4.bind fun q_2 =>
   if 0 ≤ x5 ∧ x5 < (l4 : Int) then
   (ldI .i64 (H.bump 10) q_2.block (q_2.off + x5.toNat * 1)).bind fun x_2 =>
   a0.bind fun q_3 =>
   if 0 ≤ x3 ∧ x3 < (l0 : Int) then
   (AHeap.wr (H.bump 10) q_3.block (q_3.off + x3.toNat * 1) [.int .i64 x_2]).bind fun H_1 =>
   f84.L2 k n1 n2 a0 l0 c0 (IntKind.i64.wrap (x3 + (1 : Int))) a4 l4 c4 (IntKind.i64.wrap (x5 + (1 : Int))) [(D.getD 0 undef), (D.getD 1 undef), (D.getD 2 undef), (D.getD 3 undef), (D.getD 4 undef), (D.getD 5 undef), (D.getD 6 undef), (D.getD 7 undef), (D.getD 8 undef), (D.getD 9 undef), (D.getD 10 undef), (D.getD 11 undef), (D.getD 12 undef), (D.getD 13 undef), (D.getD 14 undef), (D.getD 15 undef), (D.getD 16 undef), (D.getD 17 undef), (D.getD 18 undef), (D.getD 19 undef), (D.getD 20 undef), (D.getD 21 undef), (D.getD 22 undef), .int .i64 x5, .slice a4 l4 c4, .int .i64 (l4 : Int), .bool (decide (x5 < (l4 : Int))), .int .i64 x5, .int .i64 (IntKind.i64.wrap (x5 + (1 : Int))), .slice a4 l4 c4, .int .i64 x5, .pointer (some ⟨q.block, q.off + x5.toNat * 1, none⟩), .int .i64 x, .slice a4 l4 c4, .int .i64 x5, .int .i64 (IntKind.i64.wrap (x5 - (1 : Int))), .pointer (some ⟨q_1.block, q_1.off + (IntKind.i64.wrap (x5 - (1 : Int))).toNat * 1, none⟩), .int .i64 x_1, .bool (x != x_1), .slice a0 l0 c0, .int .i64 x3, .slice a4 l4 c4, .int .i64 x5, .pointer (some ⟨q_2.block, q_2.off + x5.toNat * 1, none⟩), .int .i64 x_2, .pointer (some ⟨q_3.block, q_3.off + x3.toNat * 1, none⟩), .int .i64 x3, .int .i64 (IntKind.i64.wrap (x3 + (1 : Int)))] H_1
   else none
   else none
   else
   f84.L2 k n1 n2 a0 l0 c0 x3 a4 l4 c4 (IntKind.i64.wrap (x5 + (1 : Int))) [(D.getD 0 undef), (D.getD 1 undef), (D.getD 2 undef), (D.getD 3 undef), (D.getD 4 undef), (D.getD 5 undef), (D.getD 6 undef), (D.getD 7 undef), (D.getD 8 undef), (D.getD 9 undef), (D.getD 10 undef), (D.getD 11 undef), (D.getD 12 undef), (D.getD 13 undef), (D.getD 14 undef), (D.getD 15 undef), (D.getD 16 undef), (D.getD 17 undef), (D.getD 18 undef), (D.getD 19 undef), (D.getD 20 undef), (D.getD 21 undef), (D.getD 22 undef), .int .i64 x5, .slice a4 l4 c4, .int .i64 (l4 : Int), .bool (decide (x5 < (l4 : Int))), .int .i64 x5, .int .i64 (IntKind.i64.wrap (x5 + (1 : Int))), .slice a4 l4 c4, .int .i64 x5, .pointer (some ⟨q.block, q.off + x5.toNat * 1, none⟩), .int .i64 x, .slice a4 l4 c4, .int .i64 x5, .int .i64 (IntKind.i64.wrap (x5 - (1 : Int))), .pointer (some ⟨q_1.block, q_1.off + (IntKind.i64.wrap (x5 - (1 : Int))).toNat * 1, none⟩), .int .i64 x_1, .bool (x != x_1), (D.getD 39 undef), (D.getD 40 undef), (D.getD 41 undef), (D.getD 42 undef), (D.getD 43 undef), (D.getD 44 undef), (D.getD 45 undef), (D.getD 46 undef), (D.getD 47 undef)] (H.bump 10)
   else none
   else none
   else none
   else none
   else
   bSl (cutSl 1 a0 l0 c0 (some x3) none none) fun a l c =>
   (clearV Try.prog [26] H (.slice a l c)).bind fun H_2 =>
   bSl (cutSl 1 a0 l0 c0 none (some x3) none) fun a_1 l_1 c_1 =>
   some (.slice a_1 l_1 c_1, H_2)) := by kernel_rfl
theorem f84_eq (k : Nat) (a0 : Option Addr) (l0 : Nat) (c0 : Nat) (H : AHeap) : C (k + 1) 84 [.slice a0 l0 c0] H =
  (bif (decide ((l0 : Int) < (2 : Int))) then
   some (.slice a0 l0 c0, H)
   else
   f84.L1 k k a0 l0 c0 1 [.slice none 0 0, .slice a0 l0 c0, .int .i64 (l0 : Int), .bool (decide ((l0 : Int) < (2 : Int))), undef, undef, undef, undef, undef, undef, undef, undef, undef, undef, undef, undef, undef, undef, undef, undef] H) := by kernel_rfl

/- f85 "interleave/lockset.both[int]$1"  names: 0:l 2:l -/
theorem f85_eq (k : Nat) (x0 : Int) (pc0 : Nat) (H : AHeap) : C (k + 1) 85 [.int .i64 x0, .pointer (some ⟨pc0, 0, none⟩)] H =
  (bSl (ldSl H pc0 (0)) fun a l c =>
   cB (C k 63 [.slice a l c, .int .i64 x0] H) fun b H_1 =>
   some (.bool (!b), H_1)) := by kernel_rfl

/- f86x62 "slices.IndexFunc[[]int,int]"  names: 0:s 1:f 2:s 3:f 5:i -/
noncomputable def f86x62.Q0 (k : Nat)  : Kont (Value × AHeap) := retQ Try.prog Try.f86
noncomputable def f86x62.Q1 (k : Nat)  : Kont (Value × AHeap) := seqQ (gateC (Sub (bodyOf Try.f86) [1, 0]) (Sub (bodyOf Try.f86) [1, 1]) k (run Try.prog (C k) k (Sub (bodyOf Try.f86) [1, 1]) (f86x62.Q0 k ))) (f86x62.Q0 k )
noncomputable def f86x62.Q2 (k : Nat)  : Kont (Value × AHeap) := blkQ 0 (f86x62.Q1 k )
noncomputable def f86x62.L1 (k : Nat) (n1 : Nat) (a0 : Option Addr) (l0 : Nat) (c0 : Nat) (p1_0 : Nat) (x7 : Int) (x8 : Int) (D : List Value) (H : AHeap) : Option (Value × AHeap) :=
  iter (run Try.prog (C k) k (Sub (bodyOf Try.f86) [1, 0, 1, 0, 0])) (f86x62.Q2 k ) n1 [.slice a0 l0 c0, .func (.func 62) #[] #[.pointer (some ⟨p1_0, 0, none⟩)], undef, undef, (D.getD 0 undef), (D.getD 1 undef), (D.getD 2 undef), .int .i64 x7, .int .i64 x8, (D.getD 3 undef), (D.getD 4 undef), (D.getD 5 undef), (D.getD 6 undef), (D.getD 7 undef), (D.getD 8 undef), (D.getD 9 undef), (D.getD 10 undef), undef, (D.getD 11 undef)] H
theorem f86x62.L1_z (k : Nat)  (a0 : Option Addr) (l0 : Nat) (c0 : Nat) (p1_0 : Nat) (x7 : Int) (x8 : Int) (D : List Value) (H : AHeap) : f86x62.L1 k 0 a0 l0 c0 p1_0 x7 x8 D H = none := by kernel_rfl
theorem f86x62.L1_s (k : Nat) (n1 : Nat) (a0 : Option Addr) (l0 : Nat) (c0 : Nat) (p1_0 : Nat) (x7 : Int) (x8 : Int) (D : List Value) (H : AHeap) : f86x62.L1 k (n1 + 1) a0 l0 c0 p1_0 x7 x8 D H =
  (bif (decide (x8 < x7)) then
   a0.bind fun q =>
   if 0 ≤ x8 ∧ x8 < (l0 : Int) then
   (ldI .i64 H q.block (q.off + x8.toNat * 1)).bind fun x =>
   cB (C k 62 [.int .i64 x, .pointer (some ⟨p1_0, 0, none⟩)] H) fun b H_1 =>
   bif b then
   some (.int .i64 x8, H_1)
   else
   f86x62.L1 k n1 a0 l0 c0 p1_0 x7 (IntKind.i64.wrap (x8 + (1 : Int))) [(D.getD 0 undef), .int .i64 x8, (D.getD 2 undef), .bool (decide (x8 < x7)), .int .i64 x8, .func (.func 62) #[] #[.pointer (some ⟨p1_0, 0, none⟩)], .slice a0 l0 c0, .int .i64 x8, .pointer (some ⟨q.block, q.off + x8.toNat * 1, none⟩), .int .i64 x, .bool b, .int .i64 (IntKind.i64.wrap (x8 + (1 : Int)))] H_1
   else none
   else
   some (.int .i64 (-1), H)) := by kernel_rfl
theorem f86x62_eq (k : Nat) (a0 : Option Addr) (l0 : Nat) (c0 : Nat) (pc0 : Nat) (H : AHeap) : C (k + 1) 86 [.slice a0 l0 c0, .func (.func 62) #[] #[.pointer (some ⟨pc0, 0, none⟩)]] H =
  (f86x62.L1 k k a0 l0 c0 pc0 (l0 : Int) 0 [.int .i64 0, undef, .slice a0 l0 c0, undef, undef, undef, undef, undef, undef, undef, undef, undef] H) := by kernel_rfl

/- f87 "slices.Index[[]int,int]"  names: 0:s 1:v 2:s 3:v 5:i -/
noncomputable def f87.Q0 (k : Nat)  : Kont (Value × AHeap) := retQ Try.prog Try.f87
noncomputable def f87.Q1 (k : Nat)  : Kont (Value × AHeap) := seqQ (gateC (Sub (bodyOf Try.f87) [1, 0]) (Sub (bodyOf Try.f87) [1, 1]) k (run Try.prog (C k) k (Sub (bodyOf Try.f87) [1, 1]) (f87.Q0 k ))) (f87.Q0 k )
noncomputable def f87.Q2 (k : Nat)  : Kont (Value × AHeap) := blkQ 0 (f87.Q1 k )
noncomputable def f87.L1 (k : Nat) (n1 : Nat) (a0 : Option Addr) (l0 : Nat) (c0 : Nat) (x1 : Int) (x7 : Int) (x8 : Int) (D : List Value) (H : AHeap) : Option (Value × AHeap) :=
  iter (run Try.prog (C k) k (Sub (bodyOf Try.f87) [1, 0, 1, 0, 0])) (f87.Q2 k ) n1 [.slice a0 l0 c0, .int .i64 x1, undef, undef, (D.getD 0 undef), (D.getD 1 undef), (D.getD 2 undef), .int .i64 x7, .int .i64 x8, (D.getD 3 undef), (D.getD 4 undef), (D.getD 5 undef), (D.getD 6 undef), (D.getD 7 undef), (D.getD 8 undef), (D.getD 9 undef), (D.getD 10 undef), undef, (D.getD 11 undef)] H
theorem f87.L1_z (k : Nat)  (a0 : Option Addr) (l0 : Nat) (c0 : Nat) (x1 : Int) (x7 : Int) (x8 : Int) (D : List Value) (H : AHeap) : f87.L1 k 0 a0 l0 c0 x1 x7 x8 D H = none := by kernel_rfl
theorem f87.L1_s (k : Nat) (n1 : Nat) (a0 : Option Addr) (l0 : Nat) (c0 : Nat) (x1 : Int) (x7 : Int) (x8 : Int) (D : List Value) (H : AHeap) : f87.L1 k (n1 + 1) a0 l0 c0 x1 x7 x8 D H =
  (bif (decide (x8 < x7)) then
   a0.bind fun q =>
   if 0 ≤ x8 ∧ x8 < (l0 : Int) then
   (ldI .i64 H q.block (q.off + x8.toNat * 1)).bind fun x =>
   bif (x1 == x) then
   some (.int .i64 x8, H)
   else
   f87.L1 k n1 a0 l0 c0 x1 x7 (IntKind.i64.wrap (x8 + (1 : Int))) [(D.getD 0 undef), .int .i64 x8, (D.getD 2 undef), .bool (decide (x8 < x7)), .int .i64 x8, .int .i64 x1, .slice a0 l0 c0, .int .i64 x8, .pointer (some ⟨q.block, q.off + x8.toNat * 1, none⟩), .int .i64 x, .bool (x1 == x), .int .i64 (IntKind.i64.wrap (x8 + (1 : Int)))] H
   else none
   else
   some (.int .i64 (-1), H)) := by kernel_rfl
theorem f87_eq (k : Nat) (a0 : Option Addr) (l0 : Nat) (c0 : Nat) (x1 : Int) (H : AHeap) : C (k + 1) 87 [.slice a0 l0 c0, .int .i64 x1] H =
  (f87.L1 k k a0 l0 c0 x1 (l0 : Int) 0 [.int .i64 0, undef, .slice a0 l0 c0, undef, undef, undef, undef, undef, undef, undef, undef, undef] H) := by kernel_rfl

/- f29 "interleave/interleaveref27.Has"  names: 0:l 1:n 2:l 3:n 5:_ 6:x -/
noncomputable def f29.Q0 (k : Nat)  : Kont (Value × AHeap) := retQ Try.prog Try.f29
noncomputable def f29.Q1 (k : Nat)  : Kont (Value × AHeap) := seqQ (gateC (Sub (bodyOf Try.f29) [1, 0]) (Sub (bodyOf Try.f29) [1, 1]) k (run Try.prog (C k) k (Sub (bodyOf Try.f29) [1, 1]) (f29.Q0 k ))) (f29.Q0 k )
noncomputable def f29.Q2 (k : Nat)  : Kont (Value × AHeap) := blkQ 0 (f29.Q1 k )
noncomputable def f29.L1 (k : Nat) (n1 : Nat) (x1 : Int) (a7 : Option Addr) (l7 : Nat) (c7 : Nat) (x8 : Int) (x9 : Int) (D : List Value) (H : AHeap) : Option (Value × AHeap) :=
  iter (run Try.prog (C k) k (Sub (bodyOf Try.f29) [1, 0, 1, 0, 0])) (f29.Q2 k ) n1 [(D.getD 0 undef), .int .i64 x1, undef, undef, (D.getD 1 undef), undef, (D.getD 2 undef), .slice a7 l7 c7, .int .i64 x8, .int .i64 x9, (D.getD 3 undef), (D.getD 4 undef), (D.getD 5 undef), (D.getD 6 undef), (D.getD 7 undef), (D.getD 8 undef), (D.getD 9 undef)] H
theorem f29.L1_z (k : Nat)  (x1 : Int) (a7 : Option Addr) (l7 : Nat) (c7 : Nat) (x8 : Int) (x9 : Int) (D : List Value) (H : AHeap) : f29.L1 k 0 x1 a7 l7 c7 x8 x9 D H = none := by kernel_rfl
theorem f29.L1_s (k : Nat) (n1 : Nat) (x1 : Int) (a7 : Option Addr) (l7 : Nat) (c7 : Nat) (x8 : Int) (x9 : Int) (D : List Value) (H : AHeap) : f29.L1 k (n1 + 1) x1 a7 l7 c7 x8 x9 D H =
  (bif (decide (x9 < x8)) then
   a7.bind fun q =>
   if 0 ≤ x9 ∧ x9 < (l7 : Int) then
   (ldI .i64 H q.block (q.off + x9.toNat * 1)).bind fun x =>
   bif (x == x1) then
   some (.bool true, H)
   else
   f29.L1 k n1 x1 a7 l7 c7 x8 (IntKind.i64.wrap (x9 + (1 : Int))) [(D.getD 0 undef), (D.getD 1 undef), .int .i64 x, .bool (decide (x9 < x8)), .pointer (some ⟨q.block, q.off + x9.toNat * 1, none⟩), .int .i64 x, .int .i64 x, .int .i64 x1, .bool (x == x1), .int .i64 (IntKind.i64.wrap (x9 + (1 : Int)))] H
   else none
   else
   some (.bool false, H)) := by kernel_rfl
theorem f29_eq (k : Nat) (a0 : Option Addr) (l0 : Nat) (c0 : Nat) (x1 : Int) (H : AHeap) : C (k + 1) 29 [.slice a0 l0 c0, .int .i64 x1] H =
  (f29.L1 k k x1 a0 l0 c0 (l0 : Int) 0 [.slice a0 l0 c0, .bool false, undef, undef, undef, undef, undef, undef, undef, undef] H) := by kernel_rfl

/- f30 "interleave/interleaveref27.Excludes"  names: 0:a 1:b 2:a 3:b 5:_ 6:x 7:_ 8:x -/
noncomputable def f30.Q0 (k : Nat)  : Kont (Value × AHeap) := retQ Try.prog Try.f30
noncomputable def f30.Q1 (k : Nat)  : Kont (Value × AHeap) := seqQ (gateC (Sub (bodyOf Try.f30) [1, 0]) (Sub (bodyOf Try.f30) [1, 1]) k (run Try.prog (C k) k (Sub (bodyOf Try.f30) [1, 1]) (f30.Q0 k ))) (f30.Q0 k )
noncomputable def f30.Q2 (k : Nat)  : Kont (Value × AHeap) := blkQ 0 (f30.Q1 k )
noncomputable def f30.Q3 (k : Nat)  : Kont (Value × AHeap) := seqQ (gateC (Sub (bodyOf Try.f30) [1, 1, 0]) (Sub (bodyOf Try.f30) [1, 1, 1]) k (run Try.prog (C k) k (Sub (bodyOf Try.f30) [1, 1, 1]) (f30.Q0 k ))) (f30.Q0 k )
noncomputable def f30.Q4 (k : Nat)  : Kont (Value × AHeap) := blkQ 2 (f30.Q3 k )
noncomputable def f30.L1 (k : Nat) (n1 : Nat) (p2 : Nat) (p3 : Nat) (a10 : Option Addr) (l10 : Nat) (c10 : Nat) (x11 : Int) (x12 : Int) (D : List Value) (H : AHeap) : Option (Value × AHeap) :=
  iter (run Try.prog (C k) k (Sub (bodyOf Try.f30) [1, 0, 1, 0, 0])) (f30.Q2 k ) n1 [(D.getD 0 undef), (D.getD 1 undef), .pointer (some ⟨p2, 0, none⟩), .pointer (some ⟨p3, 0, none⟩), (D.getD 2 undef), undef, (D.getD 3 undef), undef, undef, (D.getD 4 undef), .slice a10 l10 c10, .int .i64 x11, .int .i64 x12, (D.getD 5 undef), (D.getD 6 undef), (D.getD 7 undef), (D.getD 8 undef), (D.getD 9 undef), (D.getD 10 undef), (D.getD 11 undef), (D.getD 12 undef), (D.getD 13 undef), (D.getD 14 undef), (D.getD 15 undef), (D.getD 16 undef), (D.getD 17 undef), (D.getD 18 undef), undef, undef, undef, undef, undef, undef, undef, undef, undef, undef, undef, undef] H
noncomputable def f30.L2 (k : Nat) (n1 : Nat) (p2 : Nat) (a28 : Option Addr) (l28 : Nat) (c28 : Nat) (x29 : Int) (x30 : Int) (D : List Value) (H : AHeap) : Option (Value × AHeap) :=
  iter (run Try.prog (C k) k (Sub (bodyOf Try.f30) [1, 1, 0, 1, 0, 0])) (f30.Q4 k ) n1 [(D.getD 0 undef), (D.getD 1 undef), .pointer (some ⟨p2, 0, none⟩), (D.getD 2 undef), (D.getD 3 undef), undef, (D.getD 4 undef), undef, (D.getD 5 undef), (D.getD 6 undef), (D.getD 7 undef), (D.getD 8 undef), (D.getD 9 undef), (D.getD 10 undef), (D.getD 11 undef), (D.getD 12 undef), (D.getD 13 undef), (D.getD 14 undef), (D.getD 15 undef), (D.getD 16 undef), (D.getD 17 undef), (D.getD 18 undef), (D.getD 19 undef), (D.getD 20 undef), (D.getD 21 undef), (D.getD 22 undef), (D.getD 23 undef), (D.getD 24 undef), .slice a28 l28 c28, .int .i64 x29, .int .i64 x30, (D.getD 25 undef), (D.getD 26 undef), (D.getD 27 undef), (D.getD 28 undef), (D.getD 29 undef), (D.getD 30 undef), (D.getD 31 undef), (D.getD 32 undef)] H
theorem f30.L1_z (k : Nat)  (p2 : Nat) (p3 : Nat) (a10 : Option Addr) (l10 : Nat) (c10 : Nat) (x11 : Int) (x12 : Int) (D : List Value) (H : AHeap) : f30.L1 k 0 p2 p3 a10 l10 c10 x11 x12 D H = none := by kernel_rfl
theorem f30.L1_s (k : Nat) (n1 : Nat) (p2 : Nat) (p3 : Nat) (a10 : Option Addr) (l10 : Nat) (c10 : Nat) (x11 : Int) (x12 : Int) (D : List Value) (H : AHeap) : f30.L1 k (n1 + 1) p2 p3 a10 l10 c10 x11 x12 D H =
  (bif (decide (x12 < x11)) then
   a10.bind fun q =>
   if 0 ≤ x12 ∧ x12 < (l10 : Int) then
   (ldI .i64 H q.block (q.off + x12.toNat * 1)).bind fun x =>
   bSl (ldSl H p3 (0)) fun a l c =>
   cB (C k 29 [.slice a l c, .int .i64 x] H) fun b H_1 =>
   bif b then
   some (.bool true, H_1)
   else
   bSl (ldSl H_1 p3 (1)) fun a_1 l_1 c_1 =>
   cB (C k 29 [.slice a_1 l_1 c_1, .int .i64 x] H_1) fun b_1 H_2 =>
   bif b_1 then
   some (.bool true, H_2)
   else
   f30.L1 k n1 p2 p3 a10 l10 c10 x11 (IntKind.i64.wrap (x12 + (1 : Int))) [(D.getD 0 undef), (D.getD 1 undef), (D.getD 2 undef), .int .i64 x, (D.getD 4 undef), .bool (decide (x12 < x11)), .pointer (some ⟨q.block, q.off + x12.toNat * 1, none⟩), .int .i64 x, .pointer (some ⟨p3, 0, none⟩), .slice a l c, .int .i64 x, .bool b, .bool false, .pointer (some ⟨p3, 1, none⟩), .slice a_1 l_1 c_1, .int .i64 x, .bool b_1, .bool b_1, .int .i64 (IntKind.i64.wrap (x12 + (1 : Int)))] H_2
   else none
   else
   bSl (ldSl H p3 (0)) fun a_2 l_2 c_2 =>
   f30.L2 k k p2 a_2 l_2 c_2 (l_2 : Int) 0 [(D.getD 0 undef), (D.getD 1 undef), .pointer (some ⟨p3, 0, none⟩), (D.getD 2 undef), (D.getD 3 undef), undef, (D.getD 4 undef), .slice a10 l10 c10, .int .i64 x11, .int .i64 x12, .bool (decide (x12 < x11)), (D.getD 6 undef), (D.getD 7 undef), (D.getD 8 undef), (D.getD 9 undef), (D.getD 10 undef), (D.getD 11 undef), (D.getD 12 undef), (D.getD 13 undef), (D.getD 14 undef), (D.getD 15 undef), (D.getD 16 undef), (D.getD 17 undef), (D.getD 18 undef), .pointer (some ⟨p3, 0, none⟩), undef, undef, undef, undef, undef, undef, undef, undef] H) := by kernel_rfl
theorem f30.L2_z (k : Nat)  (p2 : Nat) (a28 : Option Addr) (l28 : Nat) (c28 : Nat) (x29 : Int) (x30 : Int) (D : List Value) (H : AHeap) : f30.L2 k 0 p2 a28 l28 c28 x29 x30 D H = none := by kernel_rfl
theorem f30.L2_s (k : Nat) (n1 : Nat) (p2 : Nat) (a28 : Option Addr) (l28 : Nat) (c28 : Nat) (x29 : Int) (x30 : Int) (D : List Value) (H : AHeap) : f30.L2 k (n1 + 1) p2 a28 l28 c28 x29 x30 D H =
  (bif (decide (x30 < x29)) then
   a28.bind fun q =>
   if 0 ≤ x30 ∧ x30 < (l28 : Int) then
   (ldI .i64 H q.block (q.off + x30.toNat * 1)).bind fun x =>
   bSl (ldSl H p2 (1)) fun a l c =>
   cB (C k 29 [.slice a l c, .int .i64 x] H) fun b H_1 =>
   bif b then
   some (.bool true, H_1)
   else
   f30.L2 k n1 p2 a28 l28 c28 x29 (IntKind.i64.wrap (x30 + (1 : Int))) [(D.getD 0 undef), (D.getD 1 undef), (D.getD 2 undef), (D.getD 3 undef), (D.getD 4 undef), .int .i64 x, (D.getD 6 undef), (D.getD 7 undef), (D.getD 8 undef), (D.getD 9 undef), (D.getD 10 undef), (D.getD 11 undef), (D.getD 12 undef), (D.getD 13 undef), (D.getD 14 undef), (D.getD 15 undef), (D.getD 16 undef), (D.getD 17 undef), (D.getD 18 undef), (D.getD 19 undef), (D.getD 20 undef), (D.getD 21 undef), (D.getD 22 undef), (D.getD 23 undef), (D.getD 24 undef), .bool (decide (x30 < x29)), .pointer (some ⟨q.block, q.off + x30.toNat * 1, none⟩), .int .i64 x, .pointer (some ⟨p2, 1, none⟩), .slice a l c, .int .i64 x, .bool b, .int .i64 (IntKind.i64.wrap (x30 + (1 : Int)))] H_1
   else none
   else
   some (.bool false, H)) := by kernel_rfl
theorem f30_eq (k : Nat) (a0_0 : Option Addr) (l0_0 : Nat) (c0_0 : Nat) (a0_1 : Option Addr) (l0_1 : Nat) (c0_1 : Nat) (a1_0 : Option Addr) (l1_0 : Nat) (c1_0 : Nat) (a1_1 : Option Addr) (l1_1 : Nat) (c1_1 : Nat) (H : AHeap) : C (k + 1) 30 [.agg #[.slice a0_0 l0_0 c0_0, .slice a0_1 l0_1 c0_1], .agg #[.slice a1_0 l1_0 c1_0, .slice a1_1 l1_1 c1_1]] H =
  (alK none H ⟨[.slice a0_0 l0_0 c0_0, .slice a0_1 l0_1 c0_1], 0, .rw, 0⟩ fun i H_1 =>
   alK none H_1 ⟨[.slice a1_0 l1_0 c1_0, .slice a1_1 l1_1 c1_1], 0, .rw, 0⟩ fun i_1 H_2 =>
   bSl (ldSl H_2 i (0)) fun a l c =>
   f30.L1 k k i i_1 a l c (l : Int) 0 [.agg #[.slice a0_0 l0_0 c0_0, .slice a0_1 l0_1 c0_1], .agg #[.slice a1_0 l1_0 c1_0, .slice a1_1 l1_1 c1_1], .bool false, undef, .pointer (some ⟨i, 0, none⟩), undef, undef, undef, undef, undef, undef, undef, undef, undef, undef, undef, undef, undef, undef] H_2) := by kernel_rfl

/- f31 "interleave/lockset.Excludes"  names: 0:a 1:b 2:a 3:b 5:shares -/
theorem f31_eq (k : Nat) (a0_0 : Option Addr) (l0_0 : Nat) (c0_0 : Nat) (a0_1 : Option Addr) (l0_1 : Nat) (c0_1 : Nat) (a1_0 : Option Addr) (l1_0 : Nat) (c1_0 : Nat) (a1_1 : Option Addr) (l1_1 : Nat) (c1_1 : Nat) (H : AHeap) : C (k + 1) 31 [.agg #[.slice a0_0 l0_0 c0_0, .slice a0_1 l0_1 c0_1], .agg #[.slice a1_0 l1_0 c1_0, .slice a1_1 l1_1 c1_1]] H =
  (alK none H ⟨[.slice a0_0 l0_0 c0_0, .slice a0_1 l0_1 c0_1], 0, .rw, 0⟩ fun i H_1 =>
   alK none H_1 ⟨[.slice a1_0 l1_0 c1_0, .slice a1_1 l1_1 c1_1], 0, .rw, 0⟩ fun i_1 H_2 =>
   (AHeap.row H_2 i (0) 2).bind fun g =>
   (AHeap.row H_2 i_1 (0) 2).bind fun g_1 =>
   cB (C k 60 [.agg (g : List Value).toArray, .agg (g_1 : List Value).toArray] H_2) fun b H_3 =>
   bif b then
   some (.bool true, H_3)
   else
   (AHeap.row H_3 i_1 (0) 2).bind fun g_2 =>
   (AHeap.row H_3 i (0) 2).bind fun g_3 =>
   cB (C k 60 [.agg (g_2 : List Value).toArray, .agg (g_3 : List Value).toArray] H_3) fun b_1 H_4 =>
   some (.bool b_1, H_4)) := by kernel_rfl

/- f23 "interleave/interleavelaw28.held"  names: 0:n 1:n 3:h 4:k -/
noncomputable def f23.Q0 (k : Nat)  : Kont (Value × AHeap) := retQ Try.prog Try.f23
noncomputable def f23.Q1 (k : Nat)  : Kont (Value × AHeap) := seqQ (gateC (Sub (bodyOf Try.f23) [1, 1, 0]) (Sub (bodyOf Try.f23) [1, 1, 1]) k (run Try.prog (C k) k (Sub (bodyOf Try.f23) [1, 1, 1]) (f23.Q0 k ))) (f23.Q0 k )
noncomputable def f23.Q2 (k : Nat)  : Kont (Value × AHeap) := blkQ 0 (f23.Q1 k )
noncomputable def f23.L1 (k : Nat) (n1 : Nat) (x0 : Int) (p2 : Nat) (p3 : Nat) (x4 : Int) (D : List Value) (H : AHeap) : Option (Value × AHeap) :=
  iter (run Try.prog (C k) k (Sub (bodyOf Try.f23) [1, 1, 0, 1, 0, 0])) (f23.Q2 k ) n1 [.int .u8 x0, undef, .pointer (some ⟨p2, 0, none⟩), .pointer (some ⟨p3, 0, none⟩), .int .i64 x4, (D.getD 0 undef), (D.getD 1 undef), (D.getD 2 undef), (D.getD 3 undef), (D.getD 4 undef), (D.getD 5 undef), (D.getD 6 undef), (D.getD 7 undef), (D.getD 8 undef), (D.getD 9 undef), (D.getD 10 undef), (D.getD 11 undef), (D.getD 12 undef), (D.getD 13 undef), (D.getD 14 undef), (D.getD 15 undef), (D.getD 16 undef), (D.getD 17 undef), (D.getD 18 undef), (D.getD 19 undef), (D.getD 20 undef), (D.getD 21 undef), (D.getD 22 undef), (D.getD 23 undef), undef] H
theorem f23.L1_z (k : Nat)  (x0 : Int) (p2 : Nat) (p3 : Nat) (x4 : Int) (D : List Value) (H : AHeap) : f23.L1 k 0 x0 p2 p3 x4 D H = none := by kernel_rfl
theorem f23.L1_s (k : Nat) (n1 : Nat) (x0 : Int) (p2 : Nat) (p3 : Nat) (x4 : Int) (D : List Value) (H : AHeap) : f23.L1 k (n1 + 1) x0 p2 p3 x4 D H =
  (bif (decide (x4 < (4 : Int))) then
   bif ((x0.tmod (3 : Int)) == (1 : Int)) then
   bSl (ldSl H p3 (0)) fun a l c =>
   alK none H ⟨[.int .i64 x4], 1, .rw, 0⟩ fun i H_1 =>
   cSl (apndV Try.prog [26, 26] H_1 (.slice a l c) (.slice (some ⟨i, 0, none⟩) 1 1)) fun a_1 l_1 c_1 H_2 =>
   (AHeap.wr H_2 p3 (0) [.slice a_1 l_1 c_1]).bind fun H_3 =>
   f23.L1 k n1 (IntKind.u8.wrap (x0.tdiv (3 : Int))) p2 p3 (IntKind.i64.wrap (x4 + (1 : Int))) [.int .i64 x4, .bool (decide (x4 < (4 : Int))), .int .i64 x4, .int .i64 (IntKind.i64.wrap (x4 + (1 : Int))), .int .u8 x0, .int .u8 (x0.tmod (3 : Int)), .bool ((x0.tmod (3 : Int)) == (1 : Int)), .bool ((x0.tmod (3 : Int)) == (1 : Int)), .pointer (some ⟨p3, 0, none⟩), .slice a l c, .int .i64 x4, .slice (some ⟨i, 0, none⟩) 1 1, .slice a_1 l_1 c_1, .pointer (some ⟨p3, 0, none⟩), (D.getD 14 undef), (D.getD 15 undef), (D.getD 16 undef), (D.getD 17 undef), (D.getD 18 undef), (D.getD 19 undef), (D.getD 20 undef), (D.getD 21 undef), .int .u8 x0, .int .u8 (IntKind.u8.wrap (x0.tdiv (3 : Int)))] H_3
   else
   bif ((x0.tmod (3 : Int)) == (2 : Int)) then
   bSl (ldSl H p3 (1)) fun a_2 l_2 c_2 =>
   alK none H ⟨[.int .i64 x4], 1, .rw, 0⟩ fun i_1 H_4 =>
   cSl (apndV Try.prog [26, 26] H_4 (.slice a_2 l_2 c_2) (.slice (some ⟨i_1, 0, none⟩) 1 1)) fun a_3 l_3 c_3 H_5 =>
   (AHeap.wr H_5 p3 (1) [.slice a_3 l_3 c_3]).bind fun H_6 =>
   f23.L1 k n1 (IntKind.u8.wrap (x0.tdiv (3 : Int))) p2 p3 (IntKind.i64.wrap (x4 + (1 : Int))) [.int .i64 x4, .bool (decide (x4 < (4 : Int))), .int .i64 x4, .int .i64 (IntKind.i64.wrap (x4 + (1 : Int))), .int .u8 x0, .int .u8 (x0.tmod (3 : Int)), .bool ((x0.tmod (3 : Int)) == (1 : Int)), .bool ((x0.tmod (3 : Int)) == (1 : Int)), (D.getD 8 undef), (D.getD 9 undef), (D.getD 10 undef), (D.getD 11 undef), (D.getD 12 undef), (D.getD 13 undef), .bool ((x0.tmod (3 : Int)) == (2 : Int)), .bool ((x0.tmod (3 : Int)) == (2 : Int)), .pointer (some ⟨p3, 1, none⟩), .slice a_2 l_2 c_2, .int .i64 x4, .slice (some ⟨i_1, 0, none⟩) 1 1, .slice a_3 l_3 c_3, .pointer (some ⟨p3, 1, none⟩), .int .u8 x0, .int .u8 (IntKind.u8.wrap (x0.tdiv (3 : Int)))] H_6
   else
   f23.L1 k n1 (IntKind.u8.wrap (x0.tdiv (3 : Int))) p2 p3 (IntKind.i64.wrap (x4 + (1 : Int))) [.int .i64 x4, .bool (decide (x4 < (4 : Int))), .int .i64 x4, .int .i64 (IntKind.i64.wrap (x4 + (1 : Int))), .int .u8 x0, .int .u8 (x0.tmod (3 : Int)), .bool ((x0.tmod (3 : Int)) == (1 : Int)), .bool ((x0.tmod (3 : Int)) == (1 : Int)), (D.getD 8 undef), (D.getD 9 undef), (D.getD 10 undef), (D.getD 11 undef), (D.getD 12 undef), (D.getD 13 undef), .bool ((x0.tmod (3 : Int)) == (2 : Int)), .bool ((x0.tmod (3 : Int)) == (2 : Int)), (D.getD 16 undef), (D.getD 17 undef), (D.getD 18 undef), (D.getD 19 undef), (D.getD 20 undef), (D.getD 21 undef), .int .u8 x0, .int .u8 (IntKind.u8.wrap (x0.tdiv (3 : Int)))] H
   else
   (AHeap.row H p3 (0) 2).bind fun g =>
   if notTup (.agg (g : List Value).toArray) = true ∧ (g).length = 2 then
   (AHeap.wr H p2 (0) g).bind fun H_7 =>
   (AHeap.row H_7 p2 (0) 2).bind fun g_1 =>
   some (.agg (g_1 : List Value).toArray, H_7)
   else none) := by kernel_rfl
theorem f23_eq (k : Nat) (x0 : Int) (H : AHeap) : C (k + 1) 23 [.int .u8 x0] H =
  (alK none H ⟨[.slice none 0 0, .slice none 0 0], 0, .rw, 0⟩ fun i H_1 =>
   alK none H_1 ⟨[.slice none 0 0, .slice none 0 0], 0, .rw, 0⟩ fun i_1 H_2 =>
   f23.L1 k k x0 i i_1 0 [undef, undef, undef, undef, undef, undef, undef, undef, undef, undef, undef, undef, undef, undef, undef, undef, undef, undef, undef, undef, undef, undef, undef, undef] H_2) := by kernel_rfl

/- f24 "interleave/lockset.Step"  names:  -/
noncomputable def f24.Q0 (k : Nat)  : Kont (Value × AHeap) := retQ Try.prog Try.f24
noncomputable def f24.Q1 (k : Nat)  : Kont (Value × AHeap) := seqQ (gateC (Sub (bodyOf Try.f24) [1, 1, 1, 0]) (Sub (bodyOf Try.f24) [1, 1, 1, 1]) k (run Try.prog (C k) k (Sub (bodyOf Try.f24) [1, 1, 1, 1]) (f24.Q0 k ))) (f24.Q0 k )
noncomputable def f24.Q2 (k : Nat)  : Kont (Value × AHeap) := blkQ 0 (f24.Q1 k )
noncomputable def f24.K1 (k : Nat)  (p8 : Nat) (p11 : Nat) (D : List Value) (H : AHeap) : Option (Value × AHeap) :=
  gateC (Sub (bodyOf Try.f24) [1, 1, 1, 0]) (Sub (bodyOf Try.f24) [1, 1, 1, 1]) k (run Try.prog (C k) k (Sub (bodyOf Try.f24) [1, 1, 1, 1]) (f24.Q0 k )) [(D.getD 0 undef), (D.getD 1 undef), (D.getD 2 undef), (D.getD 3 undef), (D.getD 4 undef), undef, undef, (D.getD 5 undef), .pointer (some ⟨p8, 0, none⟩), (D.getD 6 undef), (D.getD 7 undef), .pointer (some ⟨p11, 0, none⟩), (D.getD 8 undef), (D.getD 9 undef), (D.getD 10 undef), (D.getD 11 undef), (D.getD 12 undef), (D.getD 13 undef), (D.getD 14 undef), (D.getD 15 undef), (D.getD 16 undef), (D.getD 17 undef), (D.getD 18 undef), (D.getD 19 undef), (D.getD 20 undef), (D.getD 21 undef), (D.getD 22 undef), (D.getD 23 undef), (D.getD 24 undef), (D.getD 25 undef), (D.getD 26 undef), (D.getD 27 undef), (D.getD 28 undef), (D.getD 29 undef), (D.getD 30 undef), (D.getD 31 undef), (D.getD 32 undef), (D.getD 33 undef), (D.getD 34 undef), (D.getD 35 undef), (D.getD 36 undef), (D.getD 37 undef), (D.getD 38 undef), (D.getD 39 undef), (D.getD 40 undef), (D.getD 41 undef), (D.getD 42 undef), (D.getD 43 undef), (D.getD 44 undef), (D.getD 45 undef), (D.getD 46 undef), (D.getD 47 undef), (D.getD 48 undef), (D.getD 49 undef), (D.getD 50 undef), (D.getD 51 undef), (D.getD 52 undef), (D.getD 53 undef), (D.getD 54 undef), (D.getD 55 undef), (D.getD 56 undef), (D.getD 57 undef), (D.getD 58 undef), (D.getD 59 undef), (D.getD 60 undef), (D.getD 61 undef), (D.getD 62 undef), (D.getD 63 undef), (D.getD 64 undef), (D.getD 65 undef), (D.getD 66 undef), (D.getD 67 undef), (D.getD 68 undef), (D.getD 69 undef), undef, undef, undef, undef, undef, undef, undef, undef, undef, undef] H
noncomputable def f24.K2 (k : Nat)  (b2 : Bool) (p4 : Nat) (p7 : Nat) (p8 : Nat) (a10 : Option Addr) (l10 : Nat) (c10 : Nat) (p11 : Nat) (b33 : Bool) (D : List Value) (H : AHeap) : Option (Value × AHeap) :=
  gateC (Sub (bodyOf Try.f24) [1, 1, 1, 0, 0, 1, 1, 0]) (Sub (bodyOf Try.f24) [1, 1, 1, 0, 0, 1, 1, 1]) k (run Try.prog (C k) k (Sub (bodyOf Try.f24) [1, 1, 1, 0, 0, 1, 1, 1]) (f24.Q2 k )) [(D.getD 0 undef), (D.getD 1 undef), .bool b2, (D.getD 2 undef), .pointer (some ⟨p4, 0, none⟩), undef, undef, .pointer (some ⟨p7, 0, none⟩), .pointer (some ⟨p8, 0, none⟩), (D.getD 3 undef), .slice a10 l10 c10, .pointer (some ⟨p11, 0, none⟩), (D.getD 4 undef), (D.getD 5 undef), (D.getD 6 undef), (D.getD 7 undef), (D.getD 8 undef), (D.getD 9 undef), (D.getD 10 undef), (D.getD 11 undef), (D.getD 12 undef), (D.getD 13 undef), undef, undef, undef, undef, undef, (D.getD 14 undef), (D.getD 15 undef), (D.getD 16 undef), (D.getD 17 undef), undef, undef, .bool b33, (D.getD 18 undef), (D.getD 19 undef), (D.getD 20 undef), (D.getD 21 undef), (D.getD 22 undef), (D.getD 23 undef), (D.getD 24 undef), (D.getD 25 undef), (D.getD 26 undef), undef, undef, undef, undef, undef, undef, undef, undef, undef, undef, undef, undef, undef, undef, undef, undef, undef, undef, undef, undef, undef, undef, undef, undef, undef, undef, undef, undef, undef, undef, undef, undef, undef, undef, undef, undef, undef, undef, undef, undef, undef] H
noncomputable def f24.K3 (k : Nat)  (b2 : Bool) (p4 : Nat) (p7 : Nat) (p8 : Nat) (a10 : Option Addr) (l10 : Nat) (c10 : Nat) (p11 : Nat) (b46 : Bool) (D : List Value) (H : AHeap) : Option (Value × AHeap) :=
  gateC (Sub (bodyOf Try.f24) [1, 1, 1, 0, 0, 1, 1, 1, 1, 0]) (Sub (bodyOf Try.f24) [1, 1, 1, 0, 0, 1, 1, 1, 1, 1]) k (run Try.prog (C k) k (Sub (bodyOf Try.f24) [1, 1, 1, 0, 0, 1, 1, 1, 1, 1]) (f24.Q2 k )) [(D.getD 0 undef), (D.getD 1 undef), .bool b2, (D.getD 2 undef), .pointer (some ⟨p4, 0, none⟩), undef, undef, .pointer (some ⟨p7, 0, none⟩), .pointer (some ⟨p8, 0, none⟩), (D.getD 3 undef), .slice a10 l10 c10, .pointer (some ⟨p11, 0, none⟩), (D.getD 4 undef), (D.getD 5 undef), (D.getD 6 undef), (D.getD 7 undef), (D.getD 8 undef), (D.getD 9 undef), (D.getD 10 undef), (D.getD 11 undef), (D.getD 12 undef), (D.getD 13 undef), undef, undef, undef, undef, undef, (D.getD 14 undef), (D.getD 15 undef), (D.getD 16 undef), (D.getD 17 undef), undef, undef, (D.getD 18 undef), (D.getD 19 undef), (D.getD 20 undef), (D.getD 21 undef), (D.getD 22 undef), (D.getD 23 undef), (D.getD 24 undef), (D.getD 25 undef), (D.getD 26 undef), (D.getD 27 undef), undef, undef, undef, .bool b46, (D.getD 28 undef), (D.getD 29 undef), (D.getD 30 undef), (D.getD 31 undef), (D.getD 32 undef), (D.getD 33 undef), undef, undef, undef, undef, undef, undef, undef, undef, undef, undef, undef, undef, undef, undef, undef, undef, undef, undef, undef, undef, undef, undef, undef, undef, undef, undef, undef, undef, undef, undef, undef] H
theorem f24.K1_eq (k : Nat)  (p8 : Nat) (p11 : Nat) (D : List Value) (H : AHeap) : f24.K1 k  p8 p11 D H =
  (bif sameB H (H.bump 12) p11 then
   (AHeap.row (H.bump 12) p11 (0) 3).bind fun g =>
   bif sameB H (H.bump 12) p11 then
   (ldI .i64 (H.bump 12) p11 (0)).bind fun x =>
   if notTup (.agg (g : List Value).toArray) = true ∧ (g).length = 3 then
   (AHeap.wr (H.bump 12) p8 (0) g).bind fun H_1 =>
   bif (x == (3 : Int)) then
   bif sameB H H_1 p11 then
   bSl (ldSl H_1 p11 (2)) fun a l c =>
   (AHeap.row H_1 p8 (0) 3).bind fun g_1 =>
   some (.tuple #[.agg (g_1 : List Value).toArray, .bool ((l : Int) == (0 : Int))], H_1)
   else none
   else
   (AHeap.row H_1 p8 (0) 3).bind fun g_2 =>
   some (.tuple #[.agg (g_2 : List Value).toArray, .bool false], H_1)
   else none
   else none
   else none) := by
  unfold f24.K1
  rw [gateC_eq]
  kernel_rfl
theorem f24.K2_eq (k : Nat)  (b2 : Bool) (p4 : Nat) (p7 : Nat) (p8 : Nat) (a10 : Option Addr) (l10 : Nat) (c10 : Nat) (p11 : Nat) (b33 : Bool) (D : List Value) (H : AHeap) : f24.K2 k  b2 p4 p7 p8 a10 l10 c10 p11 b33 D H =
  (bif b33 then
   (ldI .i64 H p4 (1)).bind fun x =>
   (AHeap.wr H p11 (1) [.int .i64 x]).bind fun H_1 =>
   f24.K1 k p8 p11 [(D.getD 0 undef), (D.getD 1 undef), .bool b2, (D.getD 2 undef), .pointer (some ⟨p4, 0, none⟩), .pointer (some ⟨p7, 0, none⟩), (D.getD 3 undef), .slice a10 l10 c10, (D.getD 4 undef), (D.getD 5 undef), (D.getD 6 undef), (D.getD 7 undef), (D.getD 8 undef), (D.getD 9 undef), (D.getD 10 undef), (D.getD 11 undef), (D.getD 12 undef), (D.getD 13 undef), undef, undef, undef, undef, undef, (D.getD 14 undef), (D.getD 15 undef), (D.getD 16 undef), (D.getD 17 undef), undef, undef, .bool b33, (D.getD 18 undef), (D.getD 19 undef), (D.getD 20 undef), (D.getD 21 undef), (D.getD 22 undef), (D.getD 23 undef), (D.getD 24 undef), (D.getD 25 undef), (D.getD 26 undef), .pointer (some ⟨p4, 1, none⟩), .int .i64 x, .pointer (some ⟨p11, 1, none⟩), undef, undef, undef, undef, undef, undef, undef, undef, undef, undef, undef, undef, undef, undef, undef, undef, undef, undef, undef, undef, undef, undef, undef, undef, undef, undef, undef, undef] H_1
   else
   (ldI .i64 H p4 (0)).bind fun x_1 =>
   bif (x_1 == (1 : Int)) then
   f24.K3 k b2 p4 p7 p8 a10 l10 c10 p11 b2 [(D.getD 0 undef), (D.getD 1 undef), (D.getD 2 undef), (D.getD 3 undef), (D.getD 4 undef), (D.getD 5 undef), (D.getD 6 undef), (D.getD 7 undef), (D.getD 8 undef), (D.getD 9 undef), (D.getD 10 undef), (D.getD 11 undef), (D.getD 12 undef), (D.getD 13 undef), (D.getD 14 undef), (D.getD 15 undef), (D.getD 16 undef), (D.getD 17 undef), .bool b33, (D.getD 18 undef), (D.getD 19 undef), (D.getD 20 undef), (D.getD 21 undef), (D.getD 22 undef), (D.getD 23 undef), (D.getD 24 undef), (D.getD 25 undef), (D.getD 26 undef), .pointer (some ⟨p4, 0, none⟩), .int .i64 x_1, .bool (x_1 == (1 : Int)), .bool true, .bool b2, .bool b2] H
   else
   f24.K3 k b2 p4 p7 p8 a10 l10 c10 p11 false [(D.getD 0 undef), (D.getD 1 undef), (D.getD 2 undef), (D.getD 3 undef), (D.getD 4 undef), (D.getD 5 undef), (D.getD 6 undef), (D.getD 7 undef), (D.getD 8 undef), (D.getD 9 undef), (D.getD 10 undef), (D.getD 11 undef), (D.getD 12 undef), (D.getD 13 undef), (D.getD 14 undef), (D.getD 15 undef), (D.getD 16 undef), (D.getD 17 undef), .bool b33, (D.getD 18 undef), (D.getD 19 undef), (D.getD 20 undef), (D.getD 21 undef), (D.getD 22 undef), (D.getD 23 undef), (D.getD 24 undef), (D.getD 25 undef), (D.getD 26 undef), .pointer (some ⟨p4, 0, none⟩), .int .i64 x_1, .bool (x_1 == (1 : Int)), .bool false, undef, .bool false] H) := by
  unfold f24.K2
  rw [gateC_eq]
  kernel_rfl
theorem f24.K3_eq (k : Nat)  (b2 : Bool) (p4 : Nat) (p7 : Nat) (p8 : Nat) (a10 : Option Addr) (l10 : Nat) (c10 : Nat) (p11 : Nat) (b46 : Bool) (D : List Value) (H : AHeap) : f24.K3 k  b2 p4 p7 p8 a10 l10 c10 p11 b46 D H =
  (bif b46 then
   bSl (ldSl H p7 (0)) fun a l c =>
   cSl (C k 55 [.slice a l c] H) fun a_1 l_1 c_1 H_1 =>
   (AHeap.wr H_1 p11 (0) [.int .i64 3]).bind fun H_2 =>
   (AHeap.wr H_2 p11 (2) [.slice a_1 l_1 c_1]).bind fun H_3 =>
   f24.K1 k p8 p11 [(D.getD 0 undef), (D.getD 1 undef), .bool b2, (D.getD 2 undef), .pointer (some ⟨p4, 0, none⟩), .pointer (some ⟨p7, 0, none⟩), (D.getD 3 undef), .slice a10 l10 c10, (D.getD 4 undef), (D.getD 5 undef), (D.getD 6 undef), (D.getD 7 undef), (D.getD 8 undef), (D.getD 9 undef), (D.getD 10 undef), (D.getD 11 undef), (D.getD 12 undef), (D.getD 13 undef), undef, undef, undef, undef, undef, (D.getD 14 undef), (D.getD 15 undef), (D.getD 16 undef), (D.getD 17 undef), undef, undef, (D.getD 18 undef), (D.getD 19 undef), (D.getD 20 undef), (D.getD 21 undef), (D.getD 22 undef), (D.getD 23 undef), (D.getD 24 undef), (D.getD 25 undef), (D.getD 26 undef), (D.getD 27 undef), undef, undef, undef, .bool b46, (D.getD 28 undef), (D.getD 29 undef), (D.getD 30 undef), (D.getD 31 undef), (D.getD 32 undef), (D.getD 33 undef), .pointer (some ⟨p7, 0, none⟩), .slice a l c, .slice a_1 l_1 c_1, .pointer (some ⟨p11, 0, none⟩), .pointer (some ⟨p11, 2, none⟩), undef, undef, undef, undef, undef, undef, undef, undef, undef, undef, undef, undef, undef, undef, undef, undef] H_3
   else
   (ldI .i64 H p4 (0)).bind fun x =>
   bif (x == (1 : Int)) then
   (AHeap.wr H p11 (0) [.int .i64 2]).bind fun H_4 =>
   (AHeap.wr H_4 p11 (2) [.slice a10 l10 c10]).bind fun H_5 =>
   f24.K1 k p8 p11 [(D.getD 0 undef), (D.getD 1 undef), .bool b2, (D.getD 2 undef), .pointer (some ⟨p4, 0, none⟩), .pointer (some ⟨p7, 0, none⟩), (D.getD 3 undef), .slice a10 l10 c10, (D.getD 4 undef), (D.getD 5 undef), (D.getD 6 undef), (D.getD 7 undef), (D.getD 8 undef), (D.getD 9 undef), (D.getD 10 undef), (D.getD 11 undef), (D.getD 12 undef), (D.getD 13 undef), undef, undef, undef, undef, undef, (D.getD 14 undef), (D.getD 15 undef), (D.getD 16 undef), (D.getD 17 undef), undef, undef, (D.getD 18 undef), (D.getD 19 undef), (D.getD 20 undef), (D.getD 21 undef), (D.getD 22 undef), (D.getD 23 undef), (D.getD 24 undef), (D.getD 25 undef), (D.getD 26 undef), (D.getD 27 undef), undef, undef, undef, .bool b46, (D.getD 28 undef), (D.getD 29 undef), (D.getD 30 undef), (D.getD 31 undef), (D.getD 32 undef), (D.getD 33 undef), undef, undef, undef, undef, undef, .bool (x == (1 : Int)), .pointer (some ⟨p4, 0, none⟩), .int .i64 x, .bool (x == (1 : Int)), .slice a10 l10 c10, .pointer (some ⟨p11, 0, none⟩), .pointer (some ⟨p11, 2, none⟩), undef, undef, undef, undef, undef, undef, undef, undef, undef] H_5
   else
   bif b2 then
   bSl (ldSl H p4 (2)) fun a_2 l_2 c_2 =>
   bSl (ldSl H p7 (0)) fun a_3 l_3 c_3 =>
   cSl (C k 56 [.slice a_2 l_2 c_2, .slice a_3 l_3 c_3] H) fun a_4 l_4 c_4 H_6 =>
   (AHeap.wr H_6 p11 (0) [.int .i64 3]).bind fun H_7 =>
   (AHeap.wr H_7 p11 (2) [.slice a_4 l_4 c_4]).bind fun H_8 =>
   f24.K1 k p8 p11 [(D.getD 0 undef), (D.getD 1 undef), .bool b2, (D.getD 2 undef), .pointer (some ⟨p4, 0, none⟩), .pointer (some ⟨p7, 0, none⟩), (D.getD 3 undef), .slice a10 l10 c10, (D.getD 4 undef), (D.getD 5 undef), (D.getD 6 undef), (D.getD 7 undef), (D.getD 8 undef), (D.getD 9 undef), (D.getD 10 undef), (D.getD 11 undef), (D.getD 12 undef), (D.getD 13 undef), undef, undef, undef, undef, undef, (D.getD 14 undef), (D.getD 15 undef), (D.getD 16 undef), (D.getD 17 undef), undef, undef, (D.getD 18 undef), (D.getD 19 undef), (D.getD 20 undef), (D.getD 21 undef), (D.getD 22 undef), (D.getD 23 undef), (D.getD 24 undef), (D.getD 25 undef), (D.getD 26 undef), (D.getD 27 undef), undef, undef, undef, .bool b46, (D.getD 28 undef), (D.getD 29 undef), (D.getD 30 undef), (D.getD 31 undef), (D.getD 32 undef), (D.getD 33 undef), undef, undef, undef, undef, undef, .bool (x == (1 : Int)), .pointer (some ⟨p4, 0, none⟩), .int .i64 x, .bool (x == (1 : Int)), undef, undef, undef, .bool b2, .bool b2, .pointer (some ⟨p4, 2, none⟩), .slice a_2 l_2 c_2, .pointer (some ⟨p7, 0, none⟩), .slice a_3 l_3 c_3, .slice a_4 l_4 c_4, .pointer (some ⟨p11, 0, none⟩), .pointer (some ⟨p11, 2, none⟩)] H_8
   else
   bSl (ldSl H p4 (2)) fun a_5 l_5 c_5 =>
   cSl (C k 56 [.slice a_5 l_5 c_5, .slice a10 l10 c10] H) fun a_6 l_6 c_6 H_9 =>
   (AHeap.wr H_9 p11 (2) [.slice a_6 l_6 c_6]).bind fun H_10 =>
   f24.K1 k p8 p11 [(D.getD 0 undef), (D.getD 1 undef), .bool b2, (D.getD 2 undef), .pointer (some ⟨p4, 0, none⟩), .pointer (some ⟨p7, 0, none⟩), (D.getD 3 undef), .slice a10 l10 c10, (D.getD 4 undef), (D.getD 5 undef), (D.getD 6 undef), (D.getD 7 undef), (D.getD 8 undef), (D.getD 9 undef), (D.getD 10 undef), (D.getD 11 undef), (D.getD 12 undef), (D.getD 13 undef), .pointer (some ⟨p4, 2, none⟩), .slice a_5 l_5 c_5, .slice a10 l10 c10, .slice a_6 l_6 c_6, .pointer (some ⟨p11, 2, none⟩), (D.getD 14 undef), (D.getD 15 undef), (D.getD 16 undef), (D.getD 17 undef), undef, undef, (D.getD 18 undef), (D.getD 19 undef), (D.getD 20 undef), (D.getD 21 undef), (D.getD 22 undef), (D.getD 23 undef), (D.getD 24 undef), (D.getD 25 undef), (D.getD 26 undef), (D.getD 27 undef), undef, undef, undef, .bool b46, (D.getD 28 undef), (D.getD 29 undef), (D.getD 30 undef), (D.getD 31 undef), (D.getD 32 undef), (D.getD 33 undef), undef, undef, undef, undef, undef, .bool (x == (1 : Int)), .pointer (some ⟨p4, 0, none⟩), .int .i64 x, .bool (x == (1 : Int)), undef, undef, undef, .bool b2, .bool b2, undef, undef, undef, undef, undef, undef, undef] H_10) := by
  unfold f24.K3
  rw [gateC_eq]
  kernel_rfl
theorem f24_eq (k : Nat) (x0_0 : Int) (x0_1 : Int) (a0_2 : Option Addr) (l0_2 : Nat) (c0_2 : Nat) (x1 : Int) (b2 : Bool) (a3_0 : Option Addr) (l3_0 : Nat) (c3_0 : Nat) (a3_1 : Option Addr) (l3_1 : Nat) (c3_1 : Nat) (H : AHeap) : C (k + 1) 24 [.agg #[.int .i64 x0_0, .int .i64 x0_1, .slice a0_2 l0_2 c0_2], .int .i64 x1, .bool b2, .agg #[.slice a3_0 l3_0 c3_0, .slice a3_1 l3_1 c3_1]] H =
  (alK none H ⟨[.int .i64 x0_0, .int .i64 x0_1, .slice a0_2 l0_2 c0_2], 0, .rw, 0⟩ fun i H_1 =>
   alK none H_1 ⟨[.slice a3_0 l3_0 c3_0, .slice a3_1 l3_1 c3_1], 0, .rw, 0⟩ fun i_1 H_2 =>
   alK none H_2 ⟨[.int .i64 0, .int .i64 0, .slice none 0 0], 0, .rw, 0⟩ fun i_2 H_3 =>
   bif sameB H_3 (H_3.bump 8) i_1 then
   bSl (ldSl (H_3.bump 8) i_1 (0)) fun a l c =>
   cSl (apndV Try.prog [26, 26] (H_3.bump 8) (.slice none 0 0) (.slice a l c)) fun a_1 l_1 c_1 H_4 =>
   bif sameB H_3 H_4 i_1 then
   bSl (ldSl H_4 i_1 (1)) fun a_2 l_2 c_2 =>
   cSl (apndV Try.prog [26, 26] H_4 (.slice a_1 l_1 c_1) (.slice a_2 l_2 c_2)) fun a_3 l_3 c_3 H_5 =>
   cSl (C k 55 [.slice a_3 l_3 c_3] H_5) fun a_4 l_4 c_4 H_6 =>
   (ldI .i64 H_6 i (0)).bind fun x =>
   alK none H_6 ⟨[.int .i64 0, .int .i64 0, .slice none 0 0], 0, .rw, 0⟩ fun i_3 H_7 =>
   (AHeap.wr H_7 i_3 (0) [.int .i64 x, .int .i64 0, .slice none 0 0]).bind fun H_8 =>
   (ldI .i64 H_8 i (0)).bind fun x_1 =>
   bif (x_1 == (0 : Int)) then
   (AHeap.wr H_8 i_3 (0) [.int .i64 1, .int .i64 x1, .slice none 0 0]).bind fun H_9 =>
   f24.K1 k i_2 i_3 [.agg #[.int .i64 x0_0, .int .i64 x0_1, .slice a0_2 l0_2 c0_2], .int .i64 x1, .bool b2, .agg #[.slice a3_0 l3_0 c3_0, .slice a3_1 l3_1 c3_1], .pointer (some ⟨i, 0, none⟩), .pointer (some ⟨i_1, 0, none⟩), .bool false, .slice a_4 l_4 c_4, .pointer (some ⟨i_1, 0, none⟩), .slice a l c, .slice a_1 l_1 c_1, .pointer (some ⟨i_1, 1, none⟩), .slice a_2 l_2 c_2, .slice a_3 l_3 c_3, .slice a_4 l_4 c_4, .pointer (some ⟨i, 0, none⟩), .int .i64 x, .agg #[.int .i64 x, .int .i64 0, .slice none 0 0], undef, undef, undef, undef, undef, .bool (x_1 == (0 : Int)), .pointer (some ⟨i, 0, none⟩), .int .i64 x_1, .bool (x_1 == (0 : Int)), .int .i64 x1, .agg #[.int .i64 1, .int .i64 x1, .slice none 0 0], undef, undef, undef, undef, undef, undef, undef, undef, undef, undef, undef, undef, undef, undef, undef, undef, undef, undef, undef, undef, undef, undef, undef, undef, undef, undef, undef, undef, undef, undef, undef, undef, undef, undef, undef, undef, undef, undef, undef, undef, undef] H_9
   else
   (ldI .i64 H_8 i (0)).bind fun x_2 =>
   bif (x_2 == (1 : Int)) then
   (ldI .i64 H_8 i (1)).bind fun x_3 =>
   f24.K2 k b2 i i_1 i_2 a_4 l_4 c_4 i_3 (x_3 == x1) [.agg #[.int .i64 x0_0, .int .i64 x0_1, .slice a0_2 l0_2 c0_2], .int .i64 x1, .agg #[.slice a3_0 l3_0 c3_0, .slice a3_1 l3_1 c3_1], .bool false, .pointer (some ⟨i_1, 0, none⟩), .slice a l c, .slice a_1 l_1 c_1, .pointer (some ⟨i_1, 1, none⟩), .slice a_2 l_2 c_2, .slice a_3 l_3 c_3, .slice a_4 l_4 c_4, .pointer (some ⟨i, 0, none⟩), .int .i64 x, .agg #[.int .i64 x, .int .i64 0, .slice none 0 0], .bool (x_1 == (0 : Int)), .pointer (some ⟨i, 0, none⟩), .int .i64 x_1, .bool (x_1 == (0 : Int)), .pointer (some ⟨i, 0, none⟩), .int .i64 x_2, .bool (x_2 == (1 : Int)), .bool true, .pointer (some ⟨i, 1, none⟩), .int .i64 x_3, .int .i64 x1, .bool (x_3 == x1), .bool (x_3 == x1)] H_8
   else
   f24.K2 k b2 i i_1 i_2 a_4 l_4 c_4 i_3 false [.agg #[.int .i64 x0_0, .int .i64 x0_1, .slice a0_2 l0_2 c0_2], .int .i64 x1, .agg #[.slice a3_0 l3_0 c3_0, .slice a3_1 l3_1 c3_1], .bool false, .pointer (some ⟨i_1, 0, none⟩), .slice a l c, .slice a_1 l_1 c_1, .pointer (some ⟨i_1, 1, none⟩), .slice a_2 l_2 c_2, .slice a_3 l_3 c_3, .slice a_4 l_4 c_4, .pointer (some ⟨i, 0, none⟩), .int .i64 x, .agg #[.int .i64 x, .int .i64 0, .slice none 0 0], .bool (x_1 == (0 : Int)), .pointer (some ⟨i, 0, none⟩), .int .i64 x_1, .bool (x_1 == (0 : Int)), .pointer (some ⟨i, 0, none⟩), .int .i64 x_2, .bool (x_2 == (1 : Int)), .bool false, undef, undef, undef, undef, .bool false] H_8
   else none
   else none) := by kernel_rfl

/- f25 "interleave/interleaveref27.Eraser"  names:  -/
noncomputable def f25.Q0 (k : Nat)  : Kont (Value × AHeap) := retQ Try.prog Try.f25
noncomputable def f25.Q1 (k : Nat)  : Kont (Value × AHeap) := seqQ (gateC (Sub (bodyOf Try.f25) [1, 1, 1, 1, 1, 0]) (Sub (bodyOf Try.f25) [1, 1, 1, 1, 1, 1]) k (run Try.prog (C k) k (Sub (bodyOf Try.f25) [1, 1, 1, 1, 1, 1]) (f25.Q0 k ))) (f25.Q0 k )
noncomputable def f25.Q2 (k : Nat)  : Kont (Value × AHeap) := blkQ 0 (f25.Q1 k )
noncomputable def f25.Q3 (k : Nat)  : Kont (Value × AHeap) := blkQ 1 (f25.Q2 k )
noncomputable def f25.K1 (k : Nat)  (x1 : Int) (b2 : Bool) (p4 : Nat) (p8 : Nat) (a10 : Option Addr) (l10 : Nat) (c10 : Nat) (D : List Value) (H : AHeap) : Option (Value × AHeap) :=
  gateC (Sub (bodyOf Try.f25) [1, 1, 0]) (Sub (bodyOf Try.f25) [1, 1, 1]) k (run Try.prog (C k) k (Sub (bodyOf Try.f25) [1, 1, 1]) (f25.Q0 k )) [(D.getD 0 undef), .int .i64 x1, .bool b2, (D.getD 1 undef), .pointer (some ⟨p4, 0, none⟩), undef, undef, (D.getD 2 undef), .pointer (some ⟨p8, 0, none⟩), (D.getD 3 undef), .slice a10 l10 c10, undef, undef, undef, (D.getD 4 undef), (D.getD 5 undef), (D.getD 6 undef), (D.getD 7 undef), (D.getD 8 undef), (D.getD 9 undef), undef, undef, undef, undef, undef, undef, undef, undef, undef, undef, undef, undef, undef, undef, undef, undef, undef, undef, undef, undef, undef, undef, undef, undef, undef, undef, undef, undef, undef, undef, undef, undef, undef, undef, undef, undef, undef, undef, undef, undef, undef, undef, undef, undef, undef, undef, undef, undef, undef, undef, undef] H
noncomputable def f25.K2 (k : Nat)  (x1 : Int) (p4 : Nat) (p8 : Nat) (a10 : Option Addr) (l10 : Nat) (c10 : Nat) (p11 : Nat) (D : List Value) (H : AHeap) : Option (Value × AHeap) :=
  gateC (Sub (bodyOf Try.f25) [1, 1, 1, 1, 0]) (Sub (bodyOf Try.f25) [1, 1, 1, 1, 1]) k (run Try.prog (C k) k (Sub (bodyOf Try.f25) [1, 1, 1, 1, 1]) (f25.Q0 k )) [(D.getD 0 undef), .int .i64 x1, (D.getD 1 undef), (D.getD 2 undef), .pointer (some ⟨p4, 0, none⟩), undef, undef, (D.getD 3 undef), .pointer (some ⟨p8, 0, none⟩), (D.getD 4 undef), .slice a10 l10 c10, .pointer (some ⟨p11, 0, none⟩), undef, undef, (D.getD 5 undef), (D.getD 6 undef), (D.getD 7 undef), (D.getD 8 undef), (D.getD 9 undef), (D.getD 10 undef), (D.getD 11 undef), (D.getD 12 undef), (D.getD 13 undef), (D.getD 14 undef), (D.getD 15 undef), (D.getD 16 undef), (D.getD 17 undef), (D.getD 18 undef), undef, undef, undef, undef, undef, undef, undef, undef, undef, undef, undef, undef, undef, undef, undef, undef, undef, undef, undef, undef, undef, undef, undef, undef, undef, undef, undef, undef, undef, undef, undef, undef, undef, undef, undef, undef, undef, undef, undef, undef, undef, undef, undef] H
noncomputable def f25.K3 (k : Nat)  (p8 : Nat) (p11 : Nat) (D : List Value) (H : AHeap) : Option (Value × AHeap) :=
  gateC (Sub (bodyOf Try.f25) [1, 1, 1, 1, 1, 0]) (Sub (bodyOf Try.f25) [1, 1, 1, 1, 1, 1]) k (run Try.prog (C k) k (Sub (bodyOf Try.f25) [1, 1, 1, 1, 1, 1]) (f25.Q0 k )) [(D.getD 0 undef), (D.getD 1 undef), (D.getD 2 undef), (D.getD 3 undef), (D.getD 4 undef), undef, undef, (D.getD 5 undef), .pointer (some ⟨p8, 0, none⟩), (D.getD 6 undef), (D.getD 7 undef), .pointer (some ⟨p11, 0, none⟩), undef, (D.getD 8 undef), (D.getD 9 undef), (D.getD 10 undef), (D.getD 11 undef), (D.getD 12 undef), (D.getD 13 undef), (D.getD 14 undef), (D.getD 15 undef), (D.getD 16 undef), (D.getD 17 undef), (D.getD 18 undef), (D.getD 19 undef), (D.getD 20 undef), (D.getD 21 undef), (D.getD 22 undef), (D.getD 23 undef), (D.getD 24 undef), (D.getD 25 undef), (D.getD 26 undef), (D.getD 27 undef), (D.getD 28 undef), (D.getD 29 undef), (D.getD 30 undef), (D.getD 31 undef), (D.getD 32 undef), (D.getD 33 undef), (D.getD 34 undef), (D.getD 35 undef), (D.getD 36 undef), (D.getD 37 undef), (D.getD 38 undef), (D.getD 39 undef), (D.getD 40 undef), (D.getD 41 undef), (D.getD 42 undef), (D.getD 43 undef), undef, undef, (D.getD 44 undef), (D.getD 45 undef), (D.getD 46 undef), (D.getD 47 undef), (D.getD 48 undef), (D.getD 49 undef), undef, undef, (D.getD 50 undef), (D.getD 51 undef), undef, undef, undef, undef, undef, undef, undef, undef, undef, undef] H
noncomputable def f25.L1 (k : Nat) (n1 : Nat) (p8 : Nat) (a10 : Option Addr) (l10 : Nat) (c10 : Nat) (p11 : Nat) (a31 : Option Addr) (l31 : Nat) (c31 : Nat) (x32 : Int) (x33 : Int) (D : List Value) (H : AHeap) : Option (Value × AHeap) :=
  iter (run Try.prog (C k) k (Sub (bodyOf Try.f25) [1, 1, 1, 1, 1, 0, 1, 0, 1, 1, 1, 1, 1, 0, 0])) (f25.Q3 k ) n1 [(D.getD 0 undef), (D.getD 1 undef), (D.getD 2 undef), (D.getD 3 undef), (D.getD 4 undef), undef, undef, (D.getD 5 undef), .pointer (some ⟨p8, 0, none⟩), (D.getD 6 undef), .slice a10 l10 c10, .pointer (some ⟨p11, 0, none⟩), undef, (D.getD 7 undef), (D.getD 8 undef), (D.getD 9 undef), (D.getD 10 undef), (D.getD 11 undef), (D.getD 12 undef), (D.getD 13 undef), (D.getD 14 undef), (D.getD 15 undef), (D.getD 16 undef), (D.getD 17 undef), (D.getD 18 undef), (D.getD 19 undef), (D.getD 20 undef), (D.getD 21 undef), (D.getD 22 undef), (D.getD 23 undef), (D.getD 24 undef), .slice a31 l31 c31, .int .i64 x32, .int .i64 x33, (D.getD 25 undef), (D.getD 26 undef), (D.getD 27 undef), (D.getD 28 undef), (D.getD 29 undef), (D.getD 30 undef), (D.getD 31 undef), (D.getD 32 undef), (D.getD 33 undef), (D.getD 34 undef), (D.getD 35 undef), (D.getD 36 undef), (D.getD 37 undef), (D.getD 38 undef), (D.getD 39 undef), undef, undef, (D.getD 40 undef), (D.getD 41 undef), undef, undef, undef, undef, undef, undef, undef, undef, undef, undef, undef, undef, undef, undef, undef, undef, undef, undef] H
theorem f25.K1_eq (k : Nat)  (x1 : Int) (b2 : Bool) (p4 : Nat) (p8 : Nat) (a10 : Option Addr) (l10 : Nat) (c10 : Nat) (D : List Value) (H : AHeap) : f25.K1 k  x1 b2 p4 p8 a10 l10 c10 D H =
  (alK none H ⟨[.int .i64 0, .int .i64 0, .slice none 0 0], 0, .rw, 0⟩ fun i H_1 =>
   (AHeap.wr H_1 i (0) [.int .i64 2, .int .i64 0, .slice none 0 0]).bind fun H_2 =>
   bif b2 then
   (AHeap.wr H_2 i (0) [.int .i64 3]).bind fun H_3 =>
   f25.K2 k x1 p4 p8 a10 l10 c10 i [(D.getD 0 undef), .bool b2, (D.getD 1 undef), (D.getD 2 undef), (D.getD 3 undef), (D.getD 4 undef), (D.getD 5 undef), (D.getD 6 undef), (D.getD 7 undef), (D.getD 8 undef), (D.getD 9 undef), .agg #[.int .i64 2, .int .i64 0, .slice none 0 0], .bool b2, .bool true, undef, undef, undef, .bool true, .pointer (some ⟨i, 0, none⟩)] H_3
   else
   (ldI .i64 H_2 p4 (0)).bind fun x =>
   bif (x == (3 : Int)) then
   (AHeap.wr H_2 i (0) [.int .i64 3]).bind fun H_4 =>
   f25.K2 k x1 p4 p8 a10 l10 c10 i [(D.getD 0 undef), .bool b2, (D.getD 1 undef), (D.getD 2 undef), (D.getD 3 undef), (D.getD 4 undef), (D.getD 5 undef), (D.getD 6 undef), (D.getD 7 undef), (D.getD 8 undef), (D.getD 9 undef), .agg #[.int .i64 2, .int .i64 0, .slice none 0 0], .bool b2, .bool false, .pointer (some ⟨p4, 0, none⟩), .int .i64 x, .bool (x == (3 : Int)), .bool (x == (3 : Int)), .pointer (some ⟨i, 0, none⟩)] H_4
   else
   f25.K2 k x1 p4 p8 a10 l10 c10 i [(D.getD 0 undef), .bool b2, (D.getD 1 undef), (D.getD 2 undef), (D.getD 3 undef), (D.getD 4 undef), (D.getD 5 undef), (D.getD 6 undef), (D.getD 7 undef), (D.getD 8 undef), (D.getD 9 undef), .agg #[.int .i64 2, .int .i64 0, .slice none 0 0], .bool b2, .bool false, .pointer (some ⟨p4, 0, none⟩), .int .i64 x, .bool (x == (3 : Int)), .bool (x == (3 : Int)), undef] H_2) := by
  unfold f25.K1
  rw [gateC_eq]
  kernel_rfl
theorem f25.K2_eq (k : Nat)  (x1 : Int) (p4 : Nat) (p8 : Nat) (a10 : Option Addr) (l10 : Nat) (c10 : Nat) (p11 : Nat) (D : List Value) (H : AHeap) : f25.K2 k  x1 p4 p8 a10 l10 c10 p11 D H =
  ((ldI .i64 H p4 (0)).bind fun x =>
   bif (x == (0 : Int)) then
   (AHeap.wr H p8 (0) [.int .i64 1, .int .i64 x1, .slice none 0 0]).bind fun H_1 =>
   (AHeap.row H_1 p8 (0) 3).bind fun g =>
   some (.tuple #[.agg (g : List Value).toArray, .bool false], H_1)
   else
   bif (x == (1 : Int)) then
   (ldI .i64 H p4 (1)).bind fun x_1 =>
   bif (x_1 == x1) then
   (AHeap.wr H p8 (0) [.int .i64 1, .int .i64 x1, .slice none 0 0]).bind fun H_2 =>
   (AHeap.row H_2 p8 (0) 3).bind fun g_1 =>
   some (.tuple #[.agg (g_1 : List Value).toArray, .bool false], H_2)
   else
   (AHeap.wr H p11 (2) [.slice a10 l10 c10]).bind fun H_3 =>
   f25.K3 k p8 p11 [(D.getD 0 undef), .int .i64 x1, (D.getD 1 undef), (D.getD 2 undef), .pointer (some ⟨p4, 0, none⟩), (D.getD 3 undef), (D.getD 4 undef), .slice a10 l10 c10, undef, (D.getD 5 undef), (D.getD 6 undef), (D.getD 7 undef), (D.getD 8 undef), (D.getD 9 undef), (D.getD 10 undef), (D.getD 11 undef), (D.getD 12 undef), (D.getD 13 undef), (D.getD 14 undef), (D.getD 15 undef), (D.getD 16 undef), (D.getD 17 undef), (D.getD 18 undef), .pointer (some ⟨p4, 0, none⟩), .int .i64 x, undef, undef, undef, undef, undef, undef, undef, undef, undef, undef, undef, undef, undef, undef, undef, undef, undef, .bool (x == (0 : Int)), .bool (x == (0 : Int)), .bool (x == (1 : Int)), .bool (x == (1 : Int)), .pointer (some ⟨p4, 1, none⟩), .int .i64 x_1, .int .i64 x1, .bool (x_1 == x1), .slice a10 l10 c10, .pointer (some ⟨p11, 2, none⟩)] H_3
   else
   bSl (ldSl H p4 (2)) fun a l c =>
   f25.L1 k k p8 a10 l10 c10 p11 a l c (l : Int) 0 [(D.getD 0 undef), .int .i64 x1, (D.getD 1 undef), (D.getD 2 undef), .pointer (some ⟨p4, 0, none⟩), (D.getD 3 undef), (D.getD 4 undef), undef, (D.getD 5 undef), (D.getD 6 undef), (D.getD 7 undef), (D.getD 8 undef), (D.getD 9 undef), (D.getD 10 undef), (D.getD 11 undef), (D.getD 12 undef), (D.getD 13 undef), (D.getD 14 undef), (D.getD 15 undef), (D.getD 16 undef), (D.getD 17 undef), (D.getD 18 undef), .pointer (some ⟨p4, 0, none⟩), .int .i64 x, .pointer (some ⟨p4, 2, none⟩), undef, undef, undef, undef, undef, undef, undef, undef, undef, undef, undef, undef, undef, .bool (x == (0 : Int)), .bool (x == (0 : Int)), .bool (x == (1 : Int)), .bool (x == (1 : Int))] H) := by
  unfold f25.K2
  rw [gateC_eq]
  kernel_rfl
theorem f25.K3_eq (k : Nat)  (p8 : Nat) (p11 : Nat) (D : List Value) (H : AHeap) : f25.K3 k  p8 p11 D H =
  (bif sameB H (H.bump 12) p11 then
   (AHeap.row (H.bump 12) p11 (0) 3).bind fun g =>
   bif sameB H (H.bump 12) p11 then
   (ldI .i64 (H.bump 12) p11 (0)).bind fun x =>
   if notTup (.agg (g : List Value).toArray) = true ∧ (g).length = 3 then
   (AHeap.wr (H.bump 12) p8 (0) g).bind fun H_1 =>
   bif (x == (3 : Int)) then
   bif sameB H H_1 p11 then
   bSl (ldSl H_1 p11 (2)) fun a l c =>
   (AHeap.row H_1 p8 (0) 3).bind fun g_1 =>
   some (.tuple #[.agg (g_1 : List Value).toArray, .bool ((l : Int) == (0 : Int))], H_1)
   else none
   else
   (AHeap.row H_1 p8 (0) 3).bind fun g_2 =>
   some (.tuple #[.agg (g_2 : List Value).toArray, .bool false], H_1)
   else none
   else none
   else none) := by
  unfold f25.K3
  rw [gateC_eq]
  kernel_rfl
theorem f25.L1_z (k : Nat)  (p8 : Nat) (a10 : Option Addr) (l10 : Nat) (c10 : Nat) (p11 : Nat) (a31 : Option Addr) (l31 : Nat) (c31 : Nat) (x32 : Int) (x33 : Int) (D : List Value) (H : AHeap) : f25.L1 k 0 p8 a10 l10 c10 p11 a31 l31 c31 x32 x33 D H = none := by kernel_rfl
theorem f25.L1_s (k : Nat) (n1 : Nat) (p8 : Nat) (a10 : Option Addr) (l10 : Nat) (c10 : Nat) (p11 : Nat) (a31 : Option Addr) (l31 : Nat) (c31 : Nat) (x32 : Int) (x33 : Int) (D : List Value) (H : AHeap) : f25.L1 k (n1 + 1) p8 a10 l10 c10 p11 a31 l31 c31 x32 x33 D H =
  (bif (decide (x33 < x32)) then
   a31.bind fun q =>
   if 0 ≤ x33 ∧ x33 < (l31 : Int) then
   (ldI .i64 H q.block (q.off + x33.toNat * 1)).bind fun x =>
   cB (C k 29 [.slice a10 l10 c10, .int .i64 x] H) fun b H_1 =>
   bif b then
   bSl (ldSl H_1 p11 (2)) fun a l c =>
   alK none H_1 ⟨[.int .i64 x], 1, .rw, 0⟩ fun i H_2 =>
   cSl (apndV Try.prog [26, 26] H_2 (.slice a l c) (.slice (some ⟨i, 0, none⟩) 1 1)) fun a_1 l_1 c_1 H_3 =>
   (AHeap.wr H_3 p11 (2) [.slice a_1 l_1 c_1]).bind fun H_4 =>
   f25.L1 k n1 p8 a10 l10 c10 p11 a31 l31 c31 x32 (IntKind.i64.wrap (x33 + (1 : Int))) [(D.getD 0 undef), (D.getD 1 undef), (D.getD 2 undef), (D.getD 3 undef), (D.getD 4 undef), (D.getD 5 undef), (D.getD 6 undef), .int .i64 x, (D.getD 8 undef), (D.getD 9 undef), (D.getD 10 undef), (D.getD 11 undef), (D.getD 12 undef), (D.getD 13 undef), (D.getD 14 undef), (D.getD 15 undef), (D.getD 16 undef), (D.getD 17 undef), (D.getD 18 undef), (D.getD 19 undef), (D.getD 20 undef), (D.getD 21 undef), (D.getD 22 undef), (D.getD 23 undef), (D.getD 24 undef), .bool (decide (x33 < x32)), .pointer (some ⟨q.block, q.off + x33.toNat * 1, none⟩), .int .i64 x, .slice a10 l10 c10, .int .i64 x, .bool b, .pointer (some ⟨p11, 2, none⟩), .slice a l c, .int .i64 x, .slice (some ⟨i, 0, none⟩) 1 1, .slice a_1 l_1 c_1, .pointer (some ⟨p11, 2, none⟩), .int .i64 (IntKind.i64.wrap (x33 + (1 : Int))), (D.getD 38 undef), (D.getD 39 undef), (D.getD 40 undef), (D.getD 41 undef)] H_4
   else
   f25.L1 k n1 p8 a10 l10 c10 p11 a31 l31 c31 x32 (IntKind.i64.wrap (x33 + (1 : Int))) [(D.getD 0 undef), (D.getD 1 undef), (D.getD 2 undef), (D.getD 3 undef), (D.getD 4 undef), (D.getD 5 undef), (D.getD 6 undef), .int .i64 x, (D.getD 8 undef), (D.getD 9 undef), (D.getD 10 undef), (D.getD 11 undef), (D.getD 12 undef), (D.getD 13 undef), (D.getD 14 undef), (D.getD 15 undef), (D.getD 16 undef), (D.getD 17 undef), (D.getD 18 undef), (D.getD 19 undef), (D.getD 20 undef), (D.getD 21 undef), (D.getD 22 undef), (D.getD 23 undef), (D.getD 24 undef), .bool (decide (x33 < x32)), .pointer (some ⟨q.block, q.off + x33.toNat * 1, none⟩), .int .i64 x, .slice a10 l10 c10, .int .i64 x, .bool b, (D.getD 31 undef), (D.getD 32 undef), (D.getD 33 undef), (D.getD 34 undef), (D.getD 35 undef), (D.getD 36 undef), .int .i64 (IntKind.i64.wrap (x33 + (1 : Int))), (D.getD 38 undef), (D.getD 39 undef), (D.getD 40 undef), (D.getD 41 undef)] H_1
   else none
   else
   f25.K3 k p8 p11 [(D.getD 0 undef), (D.getD 1 undef), (D.getD 2 undef), (D.getD 3 undef), (D.getD 4 undef), (D.getD 5 undef), (D.getD 6 undef), .slice a10 l10 c10, (D.getD 7 undef), (D.getD 8 undef), (D.getD 9 undef), (D.getD 10 undef), (D.getD 11 undef), (D.getD 12 undef), (D.getD 13 undef), (D.getD 14 undef), (D.getD 15 undef), (D.getD 16 undef), (D.getD 17 undef), (D.getD 18 undef), (D.getD 19 undef), (D.getD 20 undef), (D.getD 21 undef), (D.getD 22 undef), (D.getD 23 undef), (D.getD 24 undef), .slice a31 l31 c31, .int .i64 x32, .int .i64 x33, .bool (decide (x33 < x32)), (D.getD 26 undef), (D.getD 27 undef), (D.getD 28 undef), (D.getD 29 undef), (D.getD 30 undef), (D.getD 31 undef), (D.getD 32 undef), (D.getD 33 undef), (D.getD 34 undef), (D.getD 35 undef), (D.getD 36 undef), (D.getD 37 undef), (D.getD 38 undef), (D.getD 39 undef), (D.getD 40 undef), (D.getD 41 undef), undef, undef, undef, undef, undef, undef] H) := by kernel_rfl
theorem f25_eq (k : Nat) (x0_0 : Int) (x0_1 : Int) (a0_2 : Option Addr) (l0_2 : Nat) (c0_2 : Nat) (x1 : Int) (b2 : Bool) (a3_0 : Option Addr) (l3_0 : Nat) (c3_0 : Nat) (a3_1 : Option Addr) (l3_1 : Nat) (c3_1 : Nat) (H : AHeap) : C (k + 1) 25 [.agg #[.int .i64 x0_0, .int .i64 x0_1, .slice a0_2 l0_2 c0_2], .int .i64 x1, .bool b2, .agg #[.slice a3_0 l3_0 c3_0, .slice a3_1 l3_1 c3_1]] H =
  (alK none H ⟨[.int .i64 x0_0, .int .i64 x0_1, .slice a0_2 l0_2 c0_2], 0, .rw, 0⟩ fun i H_1 =>
   alK none H_1 ⟨[.slice a3_0 l3_0 c3_0, .slice a3_1 l3_1 c3_1], 0, .rw, 0⟩ fun i_1 H_2 =>
   alK none H_2 ⟨[.int .i64 0, .int .i64 0, .slice none 0 0], 0, .rw, 0⟩ fun i_2 H_3 =>
   (AHeap.row H_3 i_1 (0) 2).bind fun g =>
   cSl (C k 57 [.agg (g : List Value).toArray] H_3) fun a l c H_4 =>
   bif b2 then
   bSl (ldSl H_4 i_1 (0)) fun a_1 l_1 c_1 =>
   cSl (C k 58 [.slice a_1 l_1 c_1] H_4) fun a_2 l_2 c_2 H_5 =>
   f25.K1 k x1 b2 i i_2 a_2 l_2 c_2 [.agg #[.int .i64 x0_0, .int .i64 x0_1, .slice a0_2 l0_2 c0_2], .agg #[.slice a3_0 l3_0 c3_0, .slice a3_1 l3_1 c3_1], .pointer (some ⟨i_1, 0, none⟩), .bool false, .agg (g : List Value).toArray, .slice a l c, .bool b2, .pointer (some ⟨i_1, 0, none⟩), .slice a_1 l_1 c_1, .slice a_2 l_2 c_2] H_5
   else
   f25.K1 k x1 b2 i i_2 a l c [.agg #[.int .i64 x0_0, .int .i64 x0_1, .slice a0_2 l0_2 c0_2], .agg #[.slice a3_0 l3_0 c3_0, .slice a3_1 l3_1 c3_1], .pointer (some ⟨i_1, 0, none⟩), .bool false, .agg (g : List Value).toArray, .slice a l c, .bool b2, undef, undef, undef] H_4) := by kernel_rfl

/- f26 "interleave/interleaveref27.SameEraser"  names: 0:a 1:b 2:a 3:b -/
theorem f26_eq (k : Nat) (x0_0 : Int) (x0_1 : Int) (a0_2 : Option Addr) (l0_2 : Nat) (c0_2 : Nat) (x1_0 : Int) (x1_1 : Int) (a1_2 : Option Addr) (l1_2 : Nat) (c1_2 : Nat) (H : AHeap) : C (k + 1) 26 [.agg #[.int .i64 x0_0, .int .i64 x0_1, .slice a0_2 l0_2 c0_2], .agg #[.int .i64 x1_0, .int .i64 x1_1, .slice a1_2 l1_2 c1_2]] H =
  (alK none H ⟨[.int .i64 x0_0, .int .i64 x0_1, .slice a0_2 l0_2 c0_2], 0, .rw, 0⟩ fun i H_1 =>
   alK none H_1 ⟨[.int .i64 x1_0, .int .i64 x1_1, .slice a1_2 l1_2 c1_2], 0, .rw, 0⟩ fun i_1 H_2 =>
   (ldI .i64 H_2 i (0)).bind fun x =>
   (ldI .i64 H_2 i_1 (0)).bind fun x_1 =>
   bif (x == x_1) then
   (ldI .i64 H_2 i (1)).bind fun x_2 =>
   (ldI .i64 H_2 i_1 (1)).bind fun x_3 =>
   bif (x_2 == x_3) then
   bSl (ldSl H_2 i (2)) fun a l c =>
   bSl (ldSl H_2 i_1 (2)) fun a_1 l_1 c_1 =>
   cB (C k 59 [.slice a l c, .slice a_1 l_1 c_1] H_2) fun b H_3 =>
   some (.bool b, H_3)
   else
   some (.bool false, H_2)
   else
   some (.bool false, H_2)) := by kernel_rfl

/- f27 "interleave/interleaveref27.SameHeld"  names: 0:a 1:b 2:a 3:b 5:i -/
noncomputable def f27.Q0 (k : Nat)  : Kont (Value × AHeap) := retQ Try.prog Try.f27
noncomputable def f27.Q1 (k : Nat)  : Kont (Value × AHeap) := seqQ (gateC (Sub (bodyOf Try.f27) [1, 1, 0]) (Sub (bodyOf Try.f27) [1, 1, 1]) k (run Try.prog (C k) k (Sub (bodyOf Try.f27) [1, 1, 1]) (f27.Q0 k ))) (f27.Q0 k )
noncomputable def f27.Q2 (k : Nat)  : Kont (Value × AHeap) := blkQ 0 (f27.Q1 k )
noncomputable def f27.L1 (k : Nat) (n1 : Nat) (a0 : Option Addr) (l0 : Nat) (c0 : Nat) (a1 : Option Addr) (l1 : Nat) (c1 : Nat) (x12 : Int) (x13 : Int) (D : List Value) (H : AHeap) : Option (Value × AHeap) :=
  iter (run Try.prog (C k) k (Sub (bodyOf Try.f27) [1, 1, 0, 1, 0, 0])) (f27.Q2 k ) n1 [.slice a0 l0 c0, .slice a1 l1 c1, undef, undef, (D.getD 0 undef), (D.getD 1 undef), (D.getD 2 undef), (D.getD 3 undef), (D.getD 4 undef), (D.getD 5 undef), (D.getD 6 undef), (D.getD 7 undef), .int .i64 x12, .int .i64 x13, (D.getD 8 undef), (D.getD 9 undef), (D.getD 10 undef), (D.getD 11 undef), (D.getD 12 undef), (D.getD 13 undef), (D.getD 14 undef), (D.getD 15 undef), (D.getD 16 undef), (D.getD 17 undef), (D.getD 18 undef), (D.getD 19 undef), (D.getD 20 undef), (D.getD 21 undef), (D.getD 22 undef), (D.getD 23 undef), (D.getD 24 undef), (D.getD 25 undef), (D.getD 26 undef), (D.getD 27 undef), (D.getD 28 undef), (D.getD 29 undef), (D.getD 30 undef), (D.getD 31 undef), (D.getD 32 undef), (D.getD 33 undef), (D.getD 34 undef), (D.getD 35 undef), (D.getD 36 undef)] H
theorem f27.L1_z (k : Nat)  (a0 : Option Addr) (l0 : Nat) (c0 : Nat) (a1 : Option Addr) (l1 : Nat) (c1 : Nat) (x12 : Int) (x13 : Int) (D : List Value) (H : AHeap) : f27.L1 k 0 a0 l0 c0 a1 l1 c1 x12 x13 D H = none := by kernel_rfl
theorem f27.L1_s (k : Nat) (n1 : Nat) (a0 : Option Addr) (l0 : Nat) (c0 : Nat) (a1 : Option Addr) (l1 : Nat) (c1 : Nat) (x12 : Int) (x13 : Int) (D : List Value) (H : AHeap) : f27.L1 k (n1 + 1) a0 l0 c0 a1 l1 c1 x12 x13 D H =
  (bif (decide (x13 < x12)) then
   a0.bind fun q =>
   if 0 ≤ x13 ∧ x13 < (l0 : Int) then
   bif sameB H (H.bump 26) q.block then
   bSl (ldSl (H.bump 26) q.block (q.off + x13.toNat * 2 + 0)) fun a l c =>
   a1.bind fun q_1 =>
   if 0 ≤ x13 ∧ x13 < (l1 : Int) then
   bif sameB H (H.bump 26) q_1.block then
   bSl (ldSl (H.bump 26) q_1.block (q_1.off + x13.toNat * 2 + 0)) fun a_1 l_1 c_1 =>
   cB (C k 59 [.slice a l c, .slice a_1 l_1 c_1] (H.bump 26)) fun b H_1 =>
   bif (!b) then
   some (.bool false, H_1)
   else
   a0.bind fun q_2 =>
   if 0 ≤ x13 ∧ x13 < (l0 : Int) then
   bif sameB H H_1 q_2.block then
   bSl (ldSl H_1 q_2.block (q_2.off + x13.toNat * 2 + 1)) fun a_2 l_2 c_2 =>
   a1.bind fun q_3 =>
   if 0 ≤ x13 ∧ x13 < (l1 : Int) then
   bif sameB H H_1 q_3.block then
   bSl (ldSl H_1 q_3.block (q_3.off + x13.toNat * 2 + 1)) fun a_3 l_3 c_3 =>
   cB (C k 59 [.slice a_2 l_2 c_2, .slice a_3 l_3 c_3] H_1) fun b_1 H_2 =>
   bif (!b_1) then
   some (.bool false, H_2)
   else
   f27.L1 k n1 a0 l0 c0 a1 l1 c1 x12 (IntKind.i64.wrap (x13 + (1 : Int))) [(D.getD 0 undef), .int .i64 x13, (D.getD 2 undef), (D.getD 3 undef), (D.getD 4 undef), (D.getD 5 undef), (D.getD 6 undef), (D.getD 7 undef), .bool (decide (x13 < x12)), .int .i64 x13, .slice a0 l0 c0, .int .i64 x13, .pointer (some ⟨q.block, q.off + x13.toNat * 2, none⟩), .pointer (some ⟨q.block, q.off + x13.toNat * 2 + 0, none⟩), .slice a l c, .slice a1 l1 c1, .int .i64 x13, .pointer (some ⟨q_1.block, q_1.off + x13.toNat * 2, none⟩), .pointer (some ⟨q_1.block, q_1.off + x13.toNat * 2 + 0, none⟩), .slice a_1 l_1 c_1, .bool b, .bool (!b), .bool false, .slice a0 l0 c0, .int .i64 x13, .pointer (some ⟨q_2.block, q_2.off + x13.toNat * 2, none⟩), .pointer (some ⟨q_2.block, q_2.off + x13.toNat * 2 + 1, none⟩), .slice a_2 l_2 c_2, .slice a1 l1 c1, .int .i64 x13, .pointer (some ⟨q_3.block, q_3.off + x13.toNat * 2, none⟩), .pointer (some ⟨q_3.block, q_3.off + x13.toNat * 2 + 1, none⟩), .slice a_3 l_3 c_3, .bool b_1, .bool (!b_1), .bool (!b_1), .int .i64 (IntKind.i64.wrap (x13 + (1 : Int)))] H_2
   else none
   else none
   else none
   else none
   else none
   else none
   else none
   else none
   else
   some (.bool true, H)) := by kernel_rfl
theorem f27_eq (k : Nat) (a0 : Option Addr) (l0 : Nat) (c0 : Nat) (a1 : Option Addr) (l1 : Nat) (c1 : Nat) (H : AHeap) : C (k + 1) 27 [.slice a0 l0 c0, .slice a1 l1 c1] H =
  (bif ((l0 : Int) != (l1 : Int)) then
   some (.bool false, H)
   else
   f27.L1 k k a0 l0 c0 a1 l1 c1 (l0 : Int) 0 [.bool false, undef, .slice a0 l0 c0, .int .i64 (l0 : Int), .slice a1 l1 c1, .int .i64 (l1 : Int), .bool ((l0 : Int) != (l1 : Int)), .slice a0 l0 c0, undef, undef, undef, undef, undef, undef, undef, undef, undef, undef, undef, undef, undef, undef, undef, undef, undef, undef, undef, undef, undef, undef, undef, undef, undef, undef, undef, undef, undef] H) := by kernel_rfl

/- f6 "interleave/interleavelaw28.LocksetUnsorted"  names:  -/
theorem f6_eq (k : Nat) (x0 : Int) (x1 : Int) (b2 : Bool) (a3_0 : Option Addr) (l3_0 : Nat) (c3_0 : Nat) (a3_1 : Option Addr) (l3_1 : Nat) (c3_1 : Nat) (a4_0 : Option Addr) (l4_0 : Nat) (c4_0 : Nat) (a4_1 : Option Addr) (l4_1 : Nat) (c4_1 : Nat) (H : AHeap) : C (k + 1) 6 [.int .i64 x0, .int .i64 x1, .bool b2, .agg #[.slice a3_0 l3_0 c3_0, .slice a3_1 l3_1 c3_1], .agg #[.slice a4_0 l4_0 c4_0, .slice a4_1 l4_1 c4_1]] H =
  (alK none H ⟨[.slice a3_0 l3_0 c3_0, .slice a3_1 l3_1 c3_1], 0, .rw, 0⟩ fun i H_1 =>
   alK none H_1 ⟨[.slice a4_0 l4_0 c4_0, .slice a4_1 l4_1 c4_1], 0, .rw, 0⟩ fun i_1 H_2 =>
   bSl (ldSl H_2 i (0)) fun a l c =>
   bSl (ldSl H_2 i (1)) fun a_1 l_1 c_1 =>
   bSl (ldSl H_2 i_1 (0)) fun a_2 l_2 c_2 =>
   bSl (ldSl H_2 i_1 (1)) fun a_3 l_3 c_3 =>
   bif (decide ((IntKind.i64.wrap ((IntKind.i64.wrap ((IntKind.i64.wrap ((l : Int) + (l_1 : Int))) + (l_2 : Int))) + (l_3 : Int))) > (60 : Int))) then
   cB (C k 28 [] H_2) fun b H_3 =>
   some (.bool b, H_3)
   else
   (AHeap.row H_2 i (0) 2).bind fun g =>
   cT (C k 24 [.agg #[.int .i64 0, .int .i64 0, .slice none 0 0], .int .i64 x0, .bool b2, .agg (g : List Value).toArray] H_2) fun u H_4 =>
   exG (u.toList[0]?) fun g_1 =>
   exB (u.toList[1]?) fun b_1 =>
   alK none H_4 ⟨[.int .i64 0, .int .i64 0, .slice none 0 0], 0, .rw, 0⟩ fun i_2 H_5 =>
   if notTup (.agg g_1) = true ∧ (g_1.toList).length = 3 then
   (AHeap.wr H_5 i_2 (0) g_1.toList).bind fun H_6 =>
   (AHeap.row H_6 i_2 (0) 3).bind fun g_2 =>
   (AHeap.row H_6 i (0) 2).bind fun g_3 =>
   cT (C k 24 [.agg (g_2 : List Value).toArray, .int .i64 x1, .bool b2, .agg (g_3 : List Value).toArray] H_6) fun u_1 H_7 =>
   exG (u_1.toList[0]?) fun g_4 =>
   exB (u_1.toList[1]?) fun b_2 =>
   alK none H_7 ⟨[.int .i64 0, .int .i64 0, .slice none 0 0], 0, .rw, 0⟩ fun i_3 H_8 =>
   if notTup (.agg g_4) = true ∧ (g_4.toList).length = 3 then
   (AHeap.wr H_8 i_3 (0) g_4.toList).bind fun H_9 =>
   (AHeap.row H_9 i_3 (0) 3).bind fun g_5 =>
   (AHeap.row H_9 i_1 (0) 2).bind fun g_6 =>
   cT (C k 24 [.agg (g_5 : List Value).toArray, .int .i64 x0, .bool (!b2), .agg (g_6 : List Value).toArray] H_9) fun u_2 H_10 =>
   exG (u_2.toList[0]?) fun g_7 =>
   exB (u_2.toList[1]?) fun b_3 =>
   alK none H_10 ⟨[.int .i64 0, .int .i64 0, .slice none 0 0], 0, .rw, 0⟩ fun i_4 H_11 =>
   if notTup (.agg g_7) = true ∧ (g_7.toList).length = 3 then
   (AHeap.wr H_11 i_4 (0) g_7.toList).bind fun H_12 =>
   (AHeap.row H_12 i (0) 2).bind fun g_8 =>
   cT (C k 25 [.agg #[.int .i64 0, .int .i64 0, .slice none 0 0], .int .i64 x0, .bool b2, .agg (g_8 : List Value).toArray] H_12) fun u_3 H_13 =>
   exG (u_3.toList[0]?) fun g_9 =>
   exB (u_3.toList[1]?) fun b_4 =>
   alK none H_13 ⟨[.int .i64 0, .int .i64 0, .slice none 0 0], 0, .rw, 0⟩ fun i_5 H_14 =>
   if notTup (.agg g_9) = true ∧ (g_9.toList).length = 3 then
   (AHeap.wr H_14 i_5 (0) g_9.toList).bind fun H_15 =>
   (AHeap.row H_15 i_5 (0) 3).bind fun g_10 =>
   (AHeap.row H_15 i (0) 2).bind fun g_11 =>
   cT (C k 25 [.agg (g_10 : List Value).toArray, .int .i64 x1, .bool b2, .agg (g_11 : List Value).toArray] H_15) fun u_4 H_16 =>
   exG (u_4.toList[0]?) fun g_12 =>
   exB (u_4.toList[1]?) fun b_5 =>
   alK none H_16 ⟨[.int .i64 0, .int .i64 0, .slice none 0 0], 0, .rw, 0⟩ fun i_6 H_17 =>
   if notTup (.agg g_12) = true ∧ (g_12.toList).length = 3 then
   (AHeap.wr H_17 i_6 (0) g_12.toList).bind fun H_18 =>
   (AHeap.row H_18 i_6 (0) 3).bind fun g_13 =>
   (AHeap.row H_18 i_1 (0) 2).bind fun g_14 =>
   cT (C k 25 [.agg (g_13 : List Value).toArray, .int .i64 x0, .bool (!b2), .agg (g_14 : List Value).toArray] H_18) fun u_5 H_19 =>
   exG (u_5.toList[0]?) fun g_15 =>
   exB (u_5.toList[1]?) fun b_6 =>
   alK none H_19 ⟨[.int .i64 0, .int .i64 0, .slice none 0 0], 0, .rw, 0⟩ fun i_7 H_20 =>
   if notTup (.agg g_15) = true ∧ (g_15.toList).length = 3 then
   (AHeap.wr H_20 i_7 (0) g_15.toList).bind fun H_21 =>
   bif (b_1 == b_4) then
   bif (b_2 == b_5) then
   bif (b_3 == b_6) then
   (AHeap.row H_21 i_2 (0) 3).bind fun g_16 =>
   (AHeap.row H_21 i_5 (0) 3).bind fun g_17 =>
   cB (C k 26 [.agg (g_16 : List Value).toArray, .agg (g_17 : List Value).toArray] H_21) fun b_7 H_22 =>
   bif b_7 then
   (AHeap.row H_22 i_3 (0) 3).bind fun g_18 =>
   (AHeap.row H_22 i_6 (0) 3).bind fun g_19 =>
   cB (C k 26 [.agg (g_18 : List Value).toArray, .agg (g_19 : List Value).toArray] H_22) fun b_8 H_23 =>
   bif b_8 then
   (AHeap.row H_23 i_4 (0) 3).bind fun g_20 =>
   (AHeap.row H_23 i_7 (0) 3).bind fun g_21 =>
   cB (C k 26 [.agg (g_20 : List Value).toArray, .agg (g_21 : List Value).toArray] H_23) fun b_9 H_24 =>
   bif b_9 then
   cB (C k 28 [] H_24) fun b_10 H_25 =>
   some (.bool b_10, H_25)
   else
   some (.bool false, H_24)
   else
   some (.bool false, H_23)
   else
   some (.bool false, H_22)
   else
   some (.bool false, H_21)
   else
   some (.bool false, H_21)
   else
   some (.bool false, H_21)
   else none
   else none
   else none
   else none
   else none
   else none) := by kernel_rfl

/- f7 "interleave/interleavelaw28.LocksetShrinks"  names:  -/
noncomputable def f7.Q0 (k : Nat)  : Kont (Value × AHeap) := retQ Try.prog Try.f7
noncomputable def f7.Q1 (k : Nat)  : Kont (Value × AHeap) := seqQ (gateC (Sub (bodyOf Try.f7) [1, 1, 0]) (Sub (bodyOf Try.f7) [1, 1, 1]) k (run Try.prog (C k) k (Sub (bodyOf Try.f7) [1, 1, 1]) (f7.Q0 k ))) (f7.Q0 k )
noncomputable def f7.Q2 (k : Nat)  : Kont (Value × AHeap) := blkQ 0 (f7.Q1 k )
noncomputable def f7.Q3 (k : Nat) (n1 : Nat) : Kont (Value × AHeap) := seqQ (iter (run Try.prog (C k) k (Sub (bodyOf Try.f7) [1, 1, 0, 1, 0, 0])) (f7.Q2 k ) n1) (f7.Q2 k )
noncomputable def f7.Q4 (k : Nat) (n1 : Nat) : Kont (Value × AHeap) := seqQ (gateC (Sub (bodyOf Try.f7) [1, 1, 0, 1, 0, 0, 1, 1, 0]) (Sub (bodyOf Try.f7) [1, 1, 0, 1, 0, 0, 1, 1, 1]) k (run Try.prog (C k) k (Sub (bodyOf Try.f7) [1, 1, 0, 1, 0, 0, 1, 1, 1]) (f7.Q3 k n1))) (f7.Q3 k n1)
noncomputable def f7.Q5 (k : Nat) (n1 : Nat) : Kont (Value × AHeap) := blkQ 1 (f7.Q4 k n1)
noncomputable def f7.Q6 (k : Nat) (n1 : Nat) : Kont (Value × AHeap) := seqQ (gateC (Sub (bodyOf Try.f7) [1, 1, 0, 1, 0, 0, 1, 1, 0, 0, 1, 1, 1, 1, 0]) (Sub (bodyOf Try.f7) [1, 1, 0, 1, 0, 0, 1, 1, 0, 0, 1, 1, 1, 1, 1]) k (run Try.prog (C k) k (Sub (bodyOf Try.f7) [1, 1, 0, 1, 0, 0, 1, 1, 0, 0, 1, 1, 1, 1, 1]) (f7.Q5 k n1))) (f7.Q5 k n1)
noncomputable def f7.Q7 (k : Nat) (n1 : Nat) : Kont (Value × AHeap) := blkQ 2 (f7.Q6 k n1)
noncomputable def f7.L1 (k : Nat) (n1 : Nat) (p3 : Nat) (a11 : Option Addr) (l11 : Nat) (c11 : Nat) (x12 : Int) (x13 : Int) (D : List Value) (H : AHeap) : Option (Value × AHeap) :=
  iter (run Try.prog (C k) k (Sub (bodyOf Try.f7) [1, 1, 0, 1, 0, 0])) (f7.Q2 k ) n1 [(D.getD 0 undef), undef, (D.getD 1 undef), .pointer (some ⟨p3, 0, none⟩), (D.getD 2 undef), (D.getD 3 undef), (D.getD 4 undef), (D.getD 5 undef), (D.getD 6 undef), (D.getD 7 undef), (D.getD 8 undef), .slice a11 l11 c11, .int .i64 x12, .int .i64 x13, (D.getD 9 undef), (D.getD 10 undef), (D.getD 11 undef), (D.getD 12 undef), (D.getD 13 undef), (D.getD 14 undef), (D.getD 15 undef), (D.getD 16 undef), (D.getD 17 undef), (D.getD 18 undef), (D.getD 19 undef), (D.getD 20 undef), (D.getD 21 undef), (D.getD 22 undef), (D.getD 23 undef), (D.getD 24 undef), (D.getD 25 undef), (D.getD 26 undef), (D.getD 27 undef), (D.getD 28 undef), (D.getD 29 undef), (D.getD 30 undef), (D.getD 31 undef), (D.getD 32 undef), (D.getD 33 undef), (D.getD 34 undef), (D.getD 35 undef), (D.getD 36 undef), (D.getD 37 undef), (D.getD 38 undef), (D.getD 39 undef), (D.getD 40 undef), (D.getD 41 undef), (D.getD 42 undef), (D.getD 43 undef), (D.getD 44 undef), (D.getD 45 undef), (D.getD 46 undef), (D.getD 47 undef), (D.getD 48 undef), (D.getD 49 undef), (D.getD 50 undef), (D.getD 51 undef), (D.getD 52 undef), (D.getD 53 undef), (D.getD 54 undef), (D.getD 55 undef), (D.getD 56 undef), (D.getD 57 undef), (D.getD 58 undef), (D.getD 59 undef), (D.getD 60 undef), (D.getD 61 undef), (D.getD 62 undef), (D.getD 63 undef), (D.getD 64 undef), (D.getD 65 undef), (D.getD 66 undef), (D.getD 67 undef), (D.getD 68 undef), (D.getD 69 undef), (D.getD 70 undef), (D.getD 71 undef), (D.getD 72 undef), (D.getD 73 undef), (D.getD 74 undef), (D.getD 75 undef), (D.getD 76 undef), (D.getD 77 undef), (D.getD 78 undef), (D.getD 79 undef), (D.getD 80 undef), (D.getD 81 undef), (D.getD 82 undef), (D.getD 83 undef), (D.getD 84 undef), (D.getD 85 undef), (D.getD 86 undef), (D.getD 87 undef), (D.getD 88 undef), (D.getD 89 undef), (D.getD 90 undef), (D.getD 91 undef), (D.getD 92 undef), (D.getD 93 undef), (D.getD 94 undef), (D.getD 95 undef), (D.getD 96 undef), (D.getD 97 undef), (D.getD 98 undef), (D.getD 99 undef), (D.getD 100 undef), (D.getD 101 undef), (D.getD 102 undef), (D.getD 103 undef), (D.getD 104 undef), (D.getD 105 undef), (D.getD 106 undef), (D.getD 107 undef), (D.getD 108 undef), (D.getD 109 undef), (D.getD 110 undef), (D.getD 111 undef), (D.getD 112 undef), (D.getD 113 undef), (D.getD 114 undef), (D.getD 115 undef), (D.getD 116 undef), undef] H
noncomputable def f7.K1 (k : Nat) (n1 : Nat) (p3 : Nat) (p6 : Nat) (a11 : Option Addr) (l11 : Nat) (c11 : Nat) (x12 : Int) (x13 : Int) (D : List Value) (H : AHeap) : Option (Value × AHeap) :=
  gateC (Sub (bodyOf Try.f7) [1, 1, 0, 1, 0, 0, 1, 1, 0, 0, 1, 1, 1, 0]) (Sub (bodyOf Try.f7) [1, 1, 0, 1, 0, 0, 1, 1, 0, 0, 1, 1, 1, 1]) k (run Try.prog (C k) k (Sub (bodyOf Try.f7) [1, 1, 0, 1, 0, 0, 1, 1, 0, 0, 1, 1, 1, 1]) (f7.Q5 k n1)) [(D.getD 0 undef), undef, (D.getD 1 undef), .pointer (some ⟨p3, 0, none⟩), (D.getD 2 undef), (D.getD 3 undef), .pointer (some ⟨p6, 0, none⟩), (D.getD 4 undef), (D.getD 5 undef), (D.getD 6 undef), (D.getD 7 undef), .slice a11 l11 c11, .int .i64 x12, .int .i64 x13, (D.getD 8 undef), (D.getD 9 undef), (D.getD 10 undef), (D.getD 11 undef), (D.getD 12 undef), (D.getD 13 undef), (D.getD 14 undef), (D.getD 15 undef), (D.getD 16 undef), (D.getD 17 undef), (D.getD 18 undef), (D.getD 19 undef), (D.getD 20 undef), (D.getD 21 undef), (D.getD 22 undef), (D.getD 23 undef), (D.getD 24 undef), (D.getD 25 undef), (D.getD 26 undef), (D.getD 27 undef), (D.getD 28 undef), (D.getD 29 undef), (D.getD 30 undef), (D.getD 31 undef), (D.getD 32 undef), (D.getD 33 undef), (D.getD 34 undef), (D.getD 35 undef), (D.getD 36 undef), (D.getD 37 undef), (D.getD 38 undef), (D.getD 39 undef), (D.getD 40 undef), (D.getD 41 undef), (D.getD 42 undef), (D.getD 43 undef), (D.getD 44 undef), (D.getD 45 undef), (D.getD 46 undef), (D.getD 47 undef), (D.getD 48 undef), (D.getD 49 undef), (D.getD 50 undef), (D.getD 51 undef), (D.getD 52 undef), (D.getD 53 undef), (D.getD 54 undef), (D.getD 55 undef), (D.getD 56 undef), (D.getD 57 undef), (D.getD 58 undef), (D.getD 59 undef), (D.getD 60 undef), (D.getD 61 undef), (D.getD 62 undef), (D.getD 63 undef), (D.getD 64 undef), (D.getD 65 undef), (D.getD 66 undef), (D.getD 67 undef), (D.getD 68 undef), (D.getD 69 undef), (D.getD 70 undef), (D.getD 71 undef), (D.getD 72 undef), (D.getD 73 undef), (D.getD 74 undef), (D.getD 75 undef), (D.getD 76 undef), (D.getD 77 undef), (D.getD 78 undef), (D.getD 79 undef), (D.getD 80 undef), (D.getD 81 undef), (D.getD 82 undef), (D.getD 83 undef), (D.getD 84 undef), (D.getD 85 undef), (D.getD 86 undef), (D.getD 87 undef), (D.getD 88 undef), (D.getD 89 undef), (D.getD 90 undef), (D.getD 91 undef), (D.getD 92 undef), (D.getD 93 undef), (D.getD 94 undef), (D.getD 95 undef), (D.getD 96 undef), (D.getD 97 undef), (D.getD 98 undef), (D.getD 99 undef), (D.getD 100 undef), (D.getD 101 undef), (D.getD 102 undef), (D.getD 103 undef), (D.getD 104 undef), (D.getD 105 undef), (D.getD 106 undef), (D.getD 107 undef), (D.getD 108 undef), (D.getD 109 undef), (D.getD 110 undef), (D.getD 111 undef), (D.getD 112 undef), (D.getD 113 undef), (D.getD 114 undef), (D.getD 115 undef), undef] H
noncomputable def f7.L2 (k : Nat) (n1 : Nat) (n2 : Nat) (p3 : Nat) (p6 : Nat) (a11 : Option Addr) (l11 : Nat) (c11 : Nat) (x12 : Int) (x13 : Int) (a88 : Option Addr) (l88 : Nat) (c88 : Nat) (x89 : Int) (x90 : Int) (D : List Value) (H : AHeap) : Option (Value × AHeap) :=
  iter (run Try.prog (C k) k (Sub (bodyOf Try.f7) [1, 1, 0, 1, 0, 0, 1, 1, 0, 0, 1, 1, 1, 1, 0, 1, 0, 0])) (f7.Q7 k n1) n2 [(D.getD 0 undef), undef, (D.getD 1 undef), .pointer (some ⟨p3, 0, none⟩), (D.getD 2 undef), (D.getD 3 undef), .pointer (some ⟨p6, 0, none⟩), (D.getD 4 undef), (D.getD 5 undef), (D.getD 6 undef), (D.getD 7 undef), .slice a11 l11 c11, .int .i64 x12, .int .i64 x13, (D.getD 8 undef), (D.getD 9 undef), (D.getD 10 undef), (D.getD 11 undef), (D.getD 12 undef), (D.getD 13 undef), (D.getD 14 undef), (D.getD 15 undef), (D.getD 16 undef), (D.getD 17 undef), (D.getD 18 undef), (D.getD 19 undef), (D.getD 20 undef), (D.getD 21 undef), (D.getD 22 undef), (D.getD 23 undef), (D.getD 24 undef), (D.getD 25 undef), (D.getD 26 undef), (D.getD 27 undef), (D.getD 28 undef), (D.getD 29 undef), (D.getD 30 undef), (D.getD 31 undef), (D.getD 32 undef), (D.getD 33 undef), (D.getD 34 undef), (D.getD 35 undef), (D.getD 36 undef), (D.getD 37 undef), (D.getD 38 undef), (D.getD 39 undef), (D.getD 40 undef), (D.getD 41 undef), (D.getD 42 undef), (D.getD 43 undef), (D.getD 44 undef), (D.getD 45 undef), (D.getD 46 undef), (D.getD 47 undef), (D.getD 48 undef), (D.getD 49 undef), (D.getD 50 undef), (D.getD 51 undef), (D.getD 52 undef), (D.getD 53 undef), (D.getD 54 undef), (D.getD 55 undef), (D.getD 56 undef), (D.getD 57 undef), (D.getD 58 undef), (D.getD 59 undef), (D.getD 60 undef), (D.getD 61 undef), (D.getD 62 undef), (D.getD 63 undef), (D.getD 64 undef), (D.getD 65 undef), (D.getD 66 undef), (D.getD 67 undef), (D.getD 68 undef), (D.getD 69 undef), (D.getD 70 undef), (D.getD 71 undef), (D.getD 72 undef), (D.getD 73 undef), (D.getD 74 undef), (D.getD 75 undef), (D.getD 76 undef), (D.getD 77 undef), (D.getD 78 undef), (D.getD 79 undef), (D.getD 80 undef), (D.getD 81 undef), .slice a88 l88 c88, .int .i64 x89, .int .i64 x90, (D.getD 82 undef), (D.getD 83 undef), (D.getD 84 undef), (D.getD 85 undef), (D.getD 86 undef), (D.getD 87 undef), (D.getD 88 undef), (D.getD 89 undef), (D.getD 90 undef), (D.getD 91 undef), (D.getD 92 undef), (D.getD 93 undef), (D.getD 94 undef), (D.getD 95 undef), (D.getD 96 undef), (D.getD 97 undef), (D.getD 98 undef), (D.getD 99 undef), (D.getD 100 undef), (D.getD 101 undef), (D.getD 102 undef), (D.getD 103 undef), (D.getD 104 undef), (D.getD 105 undef), (D.getD 106 undef), (D.getD 107 undef), (D.getD 108 undef), (D.getD 109 undef), (D.getD 110 undef), (D.getD 111 undef), (D.getD 112 undef), undef] H
theorem f7.L1_z (k : Nat)  (p3 : Nat) (a11 : Option Addr) (l11 : Nat) (c11 : Nat) (x12 : Int) (x13 : Int) (D : List Value) (H : AHeap) : f7.L1 k 0 p3 a11 l11 c11 x12 x13 D H = none := by kernel_rfl
theorem f7.L1_s (k : Nat) (n1 : Nat) (p3 : Nat) (a11 : Option Addr) (l11 : Nat) (c11 : Nat) (x12 : Int) (x13 : Int) (D : List Value) (H : AHeap) : f7.L1 k (n1 + 1) p3 a11 l11 c11 x12 x13 D H =
  (bif (decide (x13 < x12)) then
   a11.bind fun q =>
   if 0 ≤ x13 ∧ x13 < (l11 : Int) then
   (AHeap.row H q.block (q.off + x13.toNat * 3) 3).bind fun g =>
   alK none H ⟨[.int .u8 0, .int .u8 0, .int .u8 0], 0, .rw, 0⟩ fun i H_1 =>
   if notTup (.agg (g : List Value).toArray) = true ∧ (g).length = 3 then
   (AHeap.wr H_1 i (0) g).bind fun H_2 =>
   bif (decide (x13 ≥ (60 : Int))) then
   cB (C k 28 [] H_2) fun b H_3 =>
   some (.bool b, H_3)
   else
   if 0 ≤ (2 : Int) ∧ (2 : Int) < ((3 : Nat) : Int) then
   bif sameB H_2 (H_2.bump 19) i then
   (ldI .u8 (H_2.bump 19) i (0 + (2 : Int).toNat * 1)).bind fun x =>
   cG (C k 23 [.int .u8 x] (H_2.bump 19)) fun g_1 H_4 =>
   bif sameB H_2 H_4 p3 then
   (AHeap.row H_4 p3 (0) 3).bind fun g_2 =>
   if 0 ≤ (0 : Int) ∧ (0 : Int) < ((3 : Nat) : Int) then
   bif sameB H_2 H_4 i then
   (ldI .u8 H_4 i (0 + (0 : Int).toNat * 1)).bind fun x_1 =>
   if 0 ≤ (1 : Int) ∧ (1 : Int) < ((3 : Nat) : Int) then
   bif sameB H_2 H_4 i then
   (ldI .u8 H_4 i (0 + (1 : Int).toNat * 1)).bind fun x_2 =>
   cT (C k 24 [.agg (g_2 : List Value).toArray, .int .i64 ((IntKind.i64.wrap x_1).tmod (3 : Int)), .bool ((x_2.tmod (2 : Int)) == (1 : Int)), .agg g_1] H_4) fun u H_5 =>
   exG (u.toList[0]?) fun g_3 =>
   alK (some (H_2.next + 16)) H_5 ⟨[.int .i64 0, .int .i64 0, .slice none 0 0], 0, .rw, 0⟩ fun i_1 H_6 =>
   if notTup (.agg g_3) = true ∧ (g_3.toList).length = 3 then
   (AHeap.wr H_6 i_1 (0) g_3.toList).bind fun H_7 =>
   exB (u.toList[1]?) fun b_1 =>
   (ldI .i64 H_7 i_1 (0)).bind fun x_3 =>
   (ldI .i64 H_7 p3 (0)).bind fun x_4 =>
   bif (decide (x_3 < x_4)) then
   some (.bool false, H_7)
   else
   (ldI .i64 H_7 i_1 (0)).bind fun x_5 =>
   bif (decide (x_5 < (1 : Int))) then
   some (.bool false, H_7)
   else
   (ldI .i64 H_7 i_1 (0)).bind fun x_6 =>
   bif (decide (x_6 > (3 : Int))) then
   some (.bool false, H_7)
   else
   (ldI .i64 H_7 i_1 (0)).bind fun x_7 =>
   bif (x_7 == (3 : Int)) then
   bSl (ldSl H_7 i_1 (2)) fun a l c =>
   bif (!(b_1 == ((l : Int) == (0 : Int)))) then
   some (.bool false, H_7)
   else
   (ldI .i64 H_7 i_1 (0)).bind fun x_8 =>
   bif (x_8 == (1 : Int)) then
   bSl (ldSl H_7 i_1 (2)) fun a_1 l_1 c_1 =>
   bif (decide ((l_1 : Int) > (0 : Int))) then
   some (.bool false, H_7)
   else
   (ldI .i64 H_7 p3 (0)).bind fun x_9 =>
   bif (x_9 == (1 : Int)) then
   (ldI .i64 H_7 i_1 (1)).bind fun x_10 =>
   (ldI .i64 H_7 p3 (1)).bind fun x_11 =>
   bif (x_10 != x_11) then
   some (.bool false, H_7)
   else
   f7.K1 k n1 p3 i_1 a11 l11 c11 x12 x13 [(D.getD 0 undef), (D.getD 1 undef), .int .i64 x13, .pointer (some ⟨i, 0, none⟩), .bool b_1, (D.getD 6 undef), (D.getD 7 undef), (D.getD 8 undef), .bool (decide (x13 < x12)), .int .i64 x13, .pointer (some ⟨q.block, q.off + x13.toNat * 3, none⟩), .agg (g : List Value).toArray, .int .i64 x13, .bool (decide (x13 ≥ (60 : Int))), .tuple u, .agg (g_2 : List Value).toArray, .pointer (some ⟨i, 0 + (0 : Int).toNat * 1, none⟩), .int .u8 x_1, .int .i64 (IntKind.i64.wrap x_1), .int .i64 ((IntKind.i64.wrap x_1).tmod (3 : Int)), .pointer (some ⟨i, 0 + (1 : Int).toNat * 1, none⟩), .int .u8 x_2, .int .u8 (x_2.tmod (2 : Int)), .bool ((x_2.tmod (2 : Int)) == (1 : Int)), .pointer (some ⟨i, 0 + (2 : Int).toNat * 1, none⟩), .int .u8 x, .agg g_1, .tuple u, .agg g_3, .bool b_1, .pointer (some ⟨i_1, 0, none⟩), .int .i64 x_3, .pointer (some ⟨p3, 0, none⟩), .int .i64 x_4, .bool (decide (x_3 < x_4)), .bool false, .pointer (some ⟨i_1, 0, none⟩), .int .i64 x_5, .bool (decide (x_5 < (1 : Int))), .bool (decide (x_5 < (1 : Int))), .bool false, .pointer (some ⟨i_1, 0, none⟩), .int .i64 x_6, .bool (decide (x_6 > (3 : Int))), .bool (decide (x_6 > (3 : Int))), .bool false, .bool b_1, .pointer (some ⟨i_1, 0, none⟩), .int .i64 x_7, .bool (x_7 == (3 : Int)), .bool true, .pointer (some ⟨i_1, 2, none⟩), .slice a l c, .int .i64 (l : Int), .bool ((l : Int) == (0 : Int)), .bool ((l : Int) == (0 : Int)), .bool (!(b_1 == ((l : Int) == (0 : Int)))), .bool (!(b_1 == ((l : Int) == (0 : Int)))), .bool false, .pointer (some ⟨i_1, 0, none⟩), .int .i64 x_8, .bool (x_8 == (1 : Int)), .bool true, .pointer (some ⟨i_1, 2, none⟩), .slice a_1 l_1 c_1, .int .i64 (l_1 : Int), .bool (decide ((l_1 : Int) > (0 : Int))), .bool false, .pointer (some ⟨p3, 0, none⟩), .int .i64 x_9, .bool (x_9 == (1 : Int)), .bool true, .pointer (some ⟨i_1, 1, none⟩), .int .i64 x_10, .pointer (some ⟨p3, 1, none⟩), .int .i64 x_11, .bool (x_10 != x_11), .bool (x_10 != x_11), .bool (x_10 != x_11), .bool (x_10 != x_11), .bool (x_10 != x_11), (D.getD 82 undef), (D.getD 83 undef), (D.getD 84 undef), (D.getD 85 undef), (D.getD 86 undef), (D.getD 87 undef), (D.getD 88 undef), (D.getD 89 undef), (D.getD 90 undef), (D.getD 91 undef), (D.getD 92 undef), (D.getD 93 undef), (D.getD 94 undef), (D.getD 95 undef), (D.getD 96 undef), (D.getD 97 undef), (D.getD 98 undef), (D.getD 99 undef), (D.getD 100 undef), (D.getD 101 undef), (D.getD 102 undef), (D.getD 103 undef), (D.getD 104 undef), (D.getD 105 undef), (D.getD 106 undef), (D.getD 107 undef), (D.getD 108 undef), (D.getD 109 undef), (D.getD 110 undef), (D.getD 111 undef), (D.getD 112 undef), (D.getD 113 undef), (D.getD 114 undef), (D.getD 115 undef), (D.getD 116 undef)] H_7
   else
   f7.K1 k n1 p3 i_1 a11 l11 c11 x12 x13 [(D.getD 0 undef), (D.getD 1 undef), .int .i64 x13, .pointer (some ⟨i, 0, none⟩), .bool b_1, (D.getD 6 undef), (D.getD 7 undef), (D.getD 8 undef), .bool (decide (x13 < x12)), .int .i64 x13, .pointer (some ⟨q.block, q.off + x13.toNat * 3, none⟩), .agg (g : List Value).toArray, .int .i64 x13, .bool (decide (x13 ≥ (60 : Int))), .tuple u, .agg (g_2 : List Value).toArray, .pointer (some ⟨i, 0 + (0 : Int).toNat * 1, none⟩), .int .u8 x_1, .int .i64 (IntKind.i64.wrap x_1), .int .i64 ((IntKind.i64.wrap x_1).tmod (3 : Int)), .pointer (some ⟨i, 0 + (1 : Int).toNat * 1, none⟩), .int .u8 x_2, .int .u8 (x_2.tmod (2 : Int)), .bool ((x_2.tmod (2 : Int)) == (1 : Int)), .pointer (some ⟨i, 0 + (2 : Int).toNat * 1, none⟩), .int .u8 x, .agg g_1, .tuple u, .agg g_3, .bool b_1, .pointer (some ⟨i_1, 0, none⟩), .int .i64 x_3, .pointer (some ⟨p3, 0, none⟩), .int .i64 x_4, .bool (decide (x_3 < x_4)), .bool false, .pointer (some ⟨i_1, 0, none⟩), .int .i64 x_5, .bool (decide (x_5 < (1 : Int))), .bool (decide (x_5 < (1 : Int))), .bool false, .pointer (some ⟨i_1, 0, none⟩), .int .i64 x_6, .bool (decide (x_6 > (3 : Int))), .bool (decide (x_6 > (3 : Int))), .bool false, .bool b_1, .pointer (some ⟨i_1, 0, none⟩), .int .i64 x_7, .bool (x_7 == (3 : Int)), .bool true, .pointer (some ⟨i_1, 2, none⟩), .slice a l c, .int .i64 (l : Int), .bool ((l : Int) == (0 : Int)), .bool ((l : Int) == (0 : Int)), .bool (!(b_1 == ((l : Int) == (0 : Int)))), .bool (!(b_1 == ((l : Int) == (0 : Int)))), .bool false, .pointer (some ⟨i_1, 0, none⟩), .int .i64 x_8, .bool (x_8 == (1 : Int)), .bool true, .pointer (some ⟨i_1, 2, none⟩), .slice a_1 l_1 c_1, .int .i64 (l_1 : Int), .bool (decide ((l_1 : Int) > (0 : Int))), .bool false, .pointer (some ⟨p3, 0, none⟩), .int .i64 x_9, .bool (x_9 == (1 : Int)), .bool false, undef, undef, undef, undef, undef, .bool false, .bool false, .bool false, .bool false, (D.getD 82 undef), (D.getD 83 undef), (D.getD 84 undef), (D.getD 85 undef), (D.getD 86 undef), (D.getD 87 undef), (D.getD 88 undef), (D.getD 89 undef), (D.getD 90 undef), (D.getD 91 undef), (D.getD 92 undef), (D.getD 93 undef), (D.getD 94 undef), (D.getD 95 undef), (D.getD 96 undef), (D.getD 97 undef), (D.getD 98 undef), (D.getD 99 undef), (D.getD 100 undef), (D.getD 101 undef), (D.getD 102 undef), (D.getD 103 undef), (D.getD 104 undef), (D.getD 105 undef), (D.getD 106 undef), (D.getD 107 undef), (D.getD 108 undef), (D.getD 109 undef), (D.getD 110 undef), (D.getD 111 undef), (D.getD 112 undef), (D.getD 113 undef), (D.getD 114 undef), (D.getD 115 undef), (D.getD 116 undef)] H_7
   else
   f7.K1 k n1 p3 i_1 a11 l11 c11 x12 x13 [(D.getD 0 undef), (D.getD 1 undef), .int .i64 x13, .pointer (some ⟨i, 0, none⟩), .bool b_1, (D.getD 6 undef), (D.getD 7 undef), (D.getD 8 undef), .bool (decide (x13 < x12)), .int .i64 x13, .pointer (some ⟨q.block, q.off + x13.toNat * 3, none⟩), .agg (g : List Value).toArray, .int .i64 x13, .bool (decide (x13 ≥ (60 : Int))), .tuple u, .agg (g_2 : List Value).toArray, .pointer (some ⟨i, 0 + (0 : Int).toNat * 1, none⟩), .int .u8 x_1, .int .i64 (IntKind.i64.wrap x_1), .int .i64 ((IntKind.i64.wrap x_1).tmod (3 : Int)), .pointer (some ⟨i, 0 + (1 : Int).toNat * 1, none⟩), .int .u8 x_2, .int .u8 (x_2.tmod (2 : Int)), .bool ((x_2.tmod (2 : Int)) == (1 : Int)), .pointer (some ⟨i, 0 + (2 : Int).toNat * 1, none⟩), .int .u8 x, .agg g_1, .tuple u, .agg g_3, .bool b_1, .pointer (some ⟨i_1, 0, none⟩), .int .i64 x_3, .pointer (some ⟨p3, 0, none⟩), .int .i64 x_4, .bool (decide (x_3 < x_4)), .bool false, .pointer (some ⟨i_1, 0, none⟩), .int .i64 x_5, .bool (decide (x_5 < (1 : Int))), .bool (decide (x_5 < (1 : Int))), .bool false, .pointer (some ⟨i_1, 0, none⟩), .int .i64 x_6, .bool (decide (x_6 > (3 : Int))), .bool (decide (x_6 > (3 : Int))), .bool false, .bool b_1, .pointer (some ⟨i_1, 0, none⟩), .int .i64 x_7, .bool (x_7 == (3 : Int)), .bool true, .pointer (some ⟨i_1, 2, none⟩), .slice a l c, .int .i64 (l : Int), .bool ((l : Int) == (0 : Int)), .bool ((l : Int) == (0 : Int)), .bool (!(b_1 == ((l : Int) == (0 : Int)))), .bool (!(b_1 == ((l : Int) == (0 : Int)))), .bool false, .pointer (some ⟨i_1, 0, none⟩), .int .i64 x_8, .bool (x_8 == (1 : Int)), .bool false, undef, undef, undef, undef, undef, undef, undef, undef, undef, undef, undef, undef, undef, undef, undef, undef, .bool false, .bool false, (D.getD 82 undef), (D.getD 83 undef), (D.getD 84 undef), (D.getD 85 undef), (D.getD 86 undef), (D.getD 87 undef), (D.getD 88 undef), (D.getD 89 undef), (D.getD 90 undef), (D.getD 91 undef), (D.getD 92 undef), (D.getD 93 undef), (D.getD 94 undef), (D.getD 95 undef), (D.getD 96 undef), (D.getD 97 undef), (D.getD 98 undef), (D.getD 99 undef), (D.getD 100 undef), (D.getD 101 undef), (D.getD 102 undef), (D.getD 103 undef), (D.getD 104 undef), (D.getD 105 undef), (D.getD 106 undef), (D.getD 107 undef), (D.getD 108 undef), (D.getD 109 undef), (D.getD 110 undef), (D.getD 111 undef), (D.getD 112 undef), (D.getD 113 undef), (D.getD 114 undef), (D.getD 115 undef), (D.getD 116 undef)] H_7
   else
   bif (!(b_1 == false)) then
   some (.bool false, H_7)
   else
   (ldI .i64 H_7 i_1 (0)).bind fun x_12 =>
   bif (x_12 == (1 : Int)) then
   bSl (ldSl H_7 i_1 (2)) fun a_2 l_2 c_2 =>
   bif (decide ((l_2 : Int) > (0 : Int))) then
   some (.bool false, H_7)
   else
   (ldI .i64 H_7 p3 (0)).bind fun x_13 =>
   bif (x_13 == (1 : Int)) then
   (ldI .i64 H_7 i_1 (1)).bind fun x_14 =>
   (ldI .i64 H_7 p3 (1)).bind fun x_15 =>
   bif (x_14 != x_15) then
   some (.bool false, H_7)
   else
   f7.K1 k n1 p3 i_1 a11 l11 c11 x12 x13 [(D.getD 0 undef), (D.getD 1 undef), .int .i64 x13, .pointer (some ⟨i, 0, none⟩), .bool b_1, (D.getD 6 undef), (D.getD 7 undef), (D.getD 8 undef), .bool (decide (x13 < x12)), .int .i64 x13, .pointer (some ⟨q.block, q.off + x13.toNat * 3, none⟩), .agg (g : List Value).toArray, .int .i64 x13, .bool (decide (x13 ≥ (60 : Int))), .tuple u, .agg (g_2 : List Value).toArray, .pointer (some ⟨i, 0 + (0 : Int).toNat * 1, none⟩), .int .u8 x_1, .int .i64 (IntKind.i64.wrap x_1), .int .i64 ((IntKind.i64.wrap x_1).tmod (3 : Int)), .pointer (some ⟨i, 0 + (1 : Int).toNat * 1, none⟩), .int .u8 x_2, .int .u8 (x_2.tmod (2 : Int)), .bool ((x_2.tmod (2 : Int)) == (1 : Int)), .pointer (some ⟨i, 0 + (2 : Int).toNat * 1, none⟩), .int .u8 x, .agg g_1, .tuple u, .agg g_3, .bool b_1, .pointer (some ⟨i_1, 0, none⟩), .int .i64 x_3, .pointer (some ⟨p3, 0, none⟩), .int .i64 x_4, .bool (decide (x_3 < x_4)), .bool false, .pointer (some ⟨i_1, 0, none⟩), .int .i64 x_5, .bool (decide (x_5 < (1 : Int))), .bool (decide (x_5 < (1 : Int))), .bool false, .pointer (some ⟨i_1, 0, none⟩), .int .i64 x_6, .bool (decide (x_6 > (3 : Int))), .bool (decide (x_6 > (3 : Int))), .bool false, .bool b_1, .pointer (some ⟨i_1, 0, none⟩), .int .i64 x_7, .bool (x_7 == (3 : Int)), .bool false, undef, undef, undef, undef, .bool false, .bool (!(b_1 == false)), .bool (!(b_1 == false)), .bool false, .pointer (some ⟨i_1, 0, none⟩), .int .i64 x_12, .bool (x_12 == (1 : Int)), .bool true, .pointer (some ⟨i_1, 2, none⟩), .slice a_2 l_2 c_2, .int .i64 (l_2 : Int), .bool (decide ((l_2 : Int) > (0 : Int))), .bool false, .pointer (some ⟨p3, 0, none⟩), .int .i64 x_13, .bool (x_13 == (1 : Int)), .bool true, .pointer (some ⟨i_1, 1, none⟩), .int .i64 x_14, .pointer (some ⟨p3, 1, none⟩), .int .i64 x_15, .bool (x_14 != x_15), .bool (x_14 != x_15), .bool (x_14 != x_15), .bool (x_14 != x_15), .bool (x_14 != x_15), (D.getD 82 undef), (D.getD 83 undef), (D.getD 84 undef), (D.getD 85 undef), (D.getD 86 undef), (D.getD 87 undef), (D.getD 88 undef), (D.getD 89 undef), (D.getD 90 undef), (D.getD 91 undef), (D.getD 92 undef), (D.getD 93 undef), (D.getD 94 undef), (D.getD 95 undef), (D.getD 96 undef), (D.getD 97 undef), (D.getD 98 undef), (D.getD 99 undef), (D.getD 100 undef), (D.getD 101 undef), (D.getD 102 undef), (D.getD 103 undef), (D.getD 104 undef), (D.getD 105 undef), (D.getD 106 undef), (D.getD 107 undef), (D.getD 108 undef), (D.getD 109 undef), (D.getD 110 undef), (D.getD 111 undef), (D.getD 112 undef), (D.getD 113 undef), (D.getD 114 undef), (D.getD 115 undef), (D.getD 116 undef)] H_7
   else
   f7.K1 k n1 p3 i_1 a11 l11 c11 x12 x13 [(D.getD 0 undef), (D.getD 1 undef), .int .i64 x13, .pointer (some ⟨i, 0, none⟩), .bool b_1, (D.getD 6 undef), (D.getD 7 undef), (D.getD 8 undef), .bool (decide (x13 < x12)), .int .i64 x13, .pointer (some ⟨q.block, q.off + x13.toNat * 3, none⟩), .agg (g : List Value).toArray, .int .i64 x13, .bool (decide (x13 ≥ (60 : Int))), .tuple u, .agg (g_2 : List Value).toArray, .pointer (some ⟨i, 0 + (0 : Int).toNat * 1, none⟩), .int .u8 x_1, .int .i64 (IntKind.i64.wrap x_1), .int .i64 ((IntKind.i64.wrap x_1).tmod (3 : Int)), .pointer (some ⟨i, 0 + (1 : Int).toNat * 1, none⟩), .int .u8 x_2, .int .u8 (x_2.tmod (2 : Int)), .bool ((x_2.tmod (2 : Int)) == (1 : Int)), .pointer (some ⟨i, 0 + (2 : Int).toNat * 1, none⟩), .int .u8 x, .agg g_1, .tuple u, .agg g_3, .bool b_1, .pointer (some ⟨i_1, 0, none⟩), .int .i64 x_3, .pointer (some ⟨p3, 0, none⟩), .int .i64 x_4, .bool (decide (x_3 < x_4)), .bool false, .pointer (some ⟨i_1, 0, none⟩), .int .i64 x_5, .bool (decide (x_5 < (1 : Int))), .bool (decide (x_5 < (1 : Int))), .bool false, .pointer (some ⟨i_1, 0, none⟩), .int .i64 x_6, .bool (decide (x_6 > (3 : Int))), .bool (decide (x_6 > (3 : Int))), .bool false, .bool b_1, .pointer (some ⟨i_1, 0, none⟩), .int .i64 x_7, .bool (x_7 == (3 : Int)), .bool false, undef, undef, undef, undef, .bool false, .bool (!(b_1 == false)), .bool (!(b_1 == false)), .bool false, .pointer (some ⟨i_1, 0, none⟩), .int .i64 x_12, .bool (x_12 == (1 : Int)), .bool true, .pointer (some ⟨i_1, 2, none⟩), .slice a_2 l_2 c_2, .int .i64 (l_2 : Int), .bool (decide ((l_2 : Int) > (0 : Int))), .bool false, .pointer (some ⟨p3, 0, none⟩), .int .i64 x_13, .bool (x_13 == (1 : Int)), .bool false, undef, undef, undef, undef, undef, .bool false, .bool false, .bool false, .bool false, (D.getD 82 undef), (D.getD 83 undef), (D.getD 84 undef), (D.getD 85 undef), (D.getD 86 undef), (D.getD 87 undef), (D.getD 88 undef), (D.getD 89 undef), (D.getD 90 undef), (D.getD 91 undef), (D.getD 92 undef), (D.getD 93 undef), (D.getD 94 undef), (D.getD 95 undef), (D.getD 96 undef), (D.getD 97 undef), (D.getD 98 undef), (D.getD 99 undef), (D.getD 100 undef), (D.getD 101 undef), (D.getD 102 undef), (D.getD 103 undef), (D.getD 104 undef), (D.getD 105 undef), (D.getD 106 undef), (D.getD 107 undef), (D.getD 108 undef), (D.getD 109 undef), (D.getD 110 undef), (D.getD 111 undef), (D.getD 112 undef), (D.getD 113 undef), (D.getD 114 undef), (D.getD 115 undef), (D.getD 116 undef)] H_7
   else
   f7.K1 k n1 p3 i_1 a11 l11 c11 x12 x13 [(D.getD 0 undef), (D.getD 1 undef), .int .i64 x13, .pointer (some ⟨i, 0, none⟩), .bool b_1, (D.getD 6 undef), (D.getD 7 undef), (D.getD 8 undef), .bool (decide (x13 < x12)), .int .i64 x13, .pointer (some ⟨q.block, q.off + x13.toNat * 3, none⟩), .agg (g : List Value).toArray, .int .i64 x13, .bool (decide (x13 ≥ (60 : Int))), .tuple u, .agg (g_2 : List Value).toArray, .pointer (some ⟨i, 0 + (0 : Int).toNat * 1, none⟩), .int .u8 x_1, .int .i64 (IntKind.i64.wrap x_1), .int .i64 ((IntKind.i64.wrap x_1).tmod (3 : Int)), .pointer (some ⟨i, 0 + (1 : Int).toNat * 1, none⟩), .int .u8 x_2, .int .u8 (x_2.tmod (2 : Int)), .bool ((x_2.tmod (2 : Int)) == (1 : Int)), .pointer (some ⟨i, 0 + (2 : Int).toNat * 1, none⟩), .int .u8 x, .agg g_1, .tuple u, .agg g_3, .bool b_1, .pointer (some ⟨i_1, 0, none⟩), .int .i64 x_3, .pointer (some ⟨p3, 0, none⟩), .int .i64 x_4, .bool (decide (x_3 < x_4)), .bool false, .pointer (some ⟨i_1, 0, none⟩), .int .i64 x_5, .bool (decide (x_5 < (1 : Int))), .bool (decide (x_5 < (1 : Int))), .bool false, .pointer (some ⟨i_1, 0, none⟩), .int .i64 x_6, .bool (decide (x_6 > (3 : Int))), .bool (decide (x_6 > (3 : Int))), .bool false, .bool b_1, .pointer (some ⟨i_1, 0, none⟩), .int .i64 x_7, .bool (x_7 == (3 : Int)), .bool false, undef, undef, undef, undef, .bool false, .bool (!(b_1 == false)), .bool (!(b_1 == false)), .bool false, .pointer (some ⟨i_1, 0, none⟩), .int .i64 x_12, .bool (x_12 == (1 : Int)), .bool false, undef, undef, undef, undef, undef, undef, undef, undef, undef, undef, undef, undef, undef, undef, undef, undef, .bool false, .bool false, (D.getD 82 undef), (D.getD 83 undef), (D.getD 84 undef), (D.getD 85 undef), (D.getD 86 undef), (D.getD 87 undef), (D.getD 88 undef), (D.getD 89 undef), (D.getD 90 undef), (D.getD 91 undef), (D.getD 92 undef), (D.getD 93 undef), (D.getD 94 undef), (D.getD 95 undef), (D.getD 96 undef), (D.getD 97 undef), (D.getD 98 undef), (D.getD 99 undef), (D.getD 100 undef), (D.getD 101 undef), (D.getD 102 undef), (D.getD 103 undef), (D.getD 104 undef), (D.getD 105 undef), (D.getD 106 undef), (D.getD 107 undef), (D.getD 108 undef), (D.getD 109 undef), (D.getD 110 undef), (D.getD 111 undef), (D.getD 112 undef), (D.getD 113 undef), (D.getD 114 undef), (D.getD 115 undef), (D.getD 116 undef)] H_7
   else none
   else none
   else none
   else none
   else none
   else none
   else none
   else none
   else none
   else none
   else
   cB (C k 28 [] H) fun b_2 H_8 =>
   some (.bool b_2, H_8)) := by kernel_rfl
theorem f7.K1_eq (k : Nat) (n1 : Nat) (p3 : Nat) (p6 : Nat) (a11 : Option Addr) (l11 : Nat) (c11 : Nat) (x12 : Int) (x13 : Int) (D : List Value) (H : AHeap) : f7.K1 k n1 p3 p6 a11 l11 c11 x12 x13 D H =
  (bSl (ldSl H p6 (2)) fun a l c =>
   f7.L2 k n1 k p3 p6 a11 l11 c11 x12 x13 a l c (l : Int) 0 [(D.getD 0 undef), (D.getD 1 undef), (D.getD 2 undef), (D.getD 3 undef), (D.getD 4 undef), (D.getD 5 undef), (D.getD 6 undef), (D.getD 7 undef), (D.getD 8 undef), (D.getD 9 undef), (D.getD 10 undef), (D.getD 11 undef), (D.getD 12 undef), (D.getD 13 undef), (D.getD 14 undef), (D.getD 15 undef), (D.getD 16 undef), (D.getD 17 undef), (D.getD 18 undef), (D.getD 19 undef), (D.getD 20 undef), (D.getD 21 undef), (D.getD 22 undef), (D.getD 23 undef), (D.getD 24 undef), (D.getD 25 undef), (D.getD 26 undef), (D.getD 27 undef), (D.getD 28 undef), (D.getD 29 undef), (D.getD 30 undef), (D.getD 31 undef), (D.getD 32 undef), (D.getD 33 undef), (D.getD 34 undef), (D.getD 35 undef), (D.getD 36 undef), (D.getD 37 undef), (D.getD 38 undef), (D.getD 39 undef), (D.getD 40 undef), (D.getD 41 undef), (D.getD 42 undef), (D.getD 43 undef), (D.getD 44 undef), (D.getD 45 undef), (D.getD 46 undef), (D.getD 47 undef), (D.getD 48 undef), (D.getD 49 undef), (D.getD 50 undef), (D.getD 51 undef), (D.getD 52 undef), (D.getD 53 undef), (D.getD 54 undef), (D.getD 55 undef), (D.getD 56 undef), (D.getD 57 undef), (D.getD 58 undef), (D.getD 59 undef), (D.getD 60 undef), (D.getD 61 undef), (D.getD 62 undef), (D.getD 63 undef), (D.getD 64 undef), (D.getD 65 undef), (D.getD 66 undef), (D.getD 67 undef), (D.getD 68 undef), (D.getD 69 undef), (D.getD 70 undef), (D.getD 71 undef), (D.getD 72 undef), (D.getD 73 undef), (D.getD 74 undef), (D.getD 75 undef), (D.getD 76 undef), (D.getD 77 undef), (D.getD 78 undef), (D.getD 79 undef), (D.getD 80 undef), .pointer (some ⟨p6, 2, none⟩), (D.getD 85 undef), (D.getD 86 undef), (D.getD 87 undef), (D.getD 88 undef), (D.getD 89 undef), (D.getD 90 undef), (D.getD 91 undef), (D.getD 92 undef), (D.getD 93 undef), (D.getD 94 undef), (D.getD 95 undef), (D.getD 96 undef), (D.getD 97 undef), (D.getD 98 undef), (D.getD 99 undef), (D.getD 100 undef), (D.getD 101 undef), (D.getD 102 undef), (D.getD 103 undef), (D.getD 104 undef), (D.getD 105 undef), (D.getD 106 undef), (D.getD 107 undef), (D.getD 108 undef), (D.getD 109 undef), (D.getD 110 undef), (D.getD 111 undef), (D.getD 112 undef), (D.getD 113 undef), (D.getD 114 undef), (D.getD 115 undef)] H) := by
  unfold f7.K1
  rw [gateC_eq]
  kernel_rfl
theorem f7.L2_z (k : Nat) (n1 : Nat) (p3 : Nat) (p6 : Nat) (a11 : Option Addr) (l11 : Nat) (c11 : Nat) (x12 : Int) (x13 : Int) (a88 : Option Addr) (l88 : Nat) (c88 : Nat) (x89 : Int) (x90 : Int) (D : List Value) (H : AHeap) : f7.L2 k n1 0 p3 p6 a11 l11 c11 x12 x13 a88 l88 c88 x89 x90 D H = none := by kernel_rfl
theorem f7.L2_s (k : Nat) (n1 : Nat) (n2 : Nat) (p3 : Nat) (p6 : Nat) (a11 : Option Addr) (l11 : Nat) (c11 : Nat) (x12 : Int) (x13 : Int) (a88 : Option Addr) (l88 : Nat) (c88 : Nat) (x89 : Int) (x90 : Int) (D : List Value) (H : AHeap) : f7.L2 k n1 (n2 + 1) p3 p6 a11 l11 c11 x12 x13 a88 l88 c88 x89 x90 D H =
  (bif (decide (x90 < x89)) then
   a88.bind fun q =>
   if 0 ≤ x90 ∧ x90 < (l88 : Int) then
   (ldI .i64 H q.block (q.off + x90.toNat * 1)).bind fun x =>
   bif (decide (x90 > (0 : Int))) then
   bSl (ldSl H p6 (2)) fun a l c =>
   a.bind fun q_1 =>
   if 0 ≤ (IntKind.i64.wrap (x90 - (1 : Int))) ∧ (IntKind.i64.wrap (x90 - (1 : Int))) < (l : Int) then
   (ldI .i64 H q_1.block (q_1.off + (IntKind.i64.wrap (x90 - (1 : Int))).toNat * 1)).bind fun x_1 =>
   bif (decide (x_1 ≥ x)) then
   some (.bool false, H)
   else
   (ldI .i64 H p3 (0)).bind fun x_2 =>
   bif (decide (x_2 ≥ (2 : Int))) then
   bSl (ldSl H p3 (2)) fun a_1 l_1 c_1 =>
   cB (C k 29 [.slice a_1 l_1 c_1, .int .i64 x] H) fun b H_1 =>
   bif (!b) then
   some (.bool false, H_1)
   else
   f7.L2 k n1 n2 p3 p6 a11 l11 c11 x12 x13 a88 l88 c88 x89 (IntKind.i64.wrap (x90 + (1 : Int))) [(D.getD 0 undef), (D.getD 1 undef), (D.getD 2 undef), (D.getD 3 undef), (D.getD 4 undef), .int .i64 x90, .int .i64 x, (D.getD 7 undef), (D.getD 8 undef), (D.getD 9 undef), (D.getD 10 undef), (D.getD 11 undef), (D.getD 12 undef), (D.getD 13 undef), (D.getD 14 undef), (D.getD 15 undef), (D.getD 16 undef), (D.getD 17 undef), (D.getD 18 undef), (D.getD 19 undef), (D.getD 20 undef), (D.getD 21 undef), (D.getD 22 undef), (D.getD 23 undef), (D.getD 24 undef), (D.getD 25 undef), (D.getD 26 undef), (D.getD 27 undef), (D.getD 28 undef), (D.getD 29 undef), (D.getD 30 undef), (D.getD 31 undef), (D.getD 32 undef), (D.getD 33 undef), (D.getD 34 undef), (D.getD 35 undef), (D.getD 36 undef), (D.getD 37 undef), (D.getD 38 undef), (D.getD 39 undef), (D.getD 40 undef), (D.getD 41 undef), (D.getD 42 undef), (D.getD 43 undef), (D.getD 44 undef), (D.getD 45 undef), (D.getD 46 undef), (D.getD 47 undef), (D.getD 48 undef), (D.getD 49 undef), (D.getD 50 undef), (D.getD 51 undef), (D.getD 52 undef), (D.getD 53 undef), (D.getD 54 undef), (D.getD 55 undef), (D.getD 56 undef), (D.getD 57 undef), (D.getD 58 undef), (D.getD 59 undef), (D.getD 60 undef), (D.getD 61 undef), (D.getD 62 undef), (D.getD 63 undef), (D.getD 64 undef), (D.getD 65 undef), (D.getD 66 undef), (D.getD 67 undef), (D.getD 68 undef), (D.getD 69 undef), (D.getD 70 undef), (D.getD 71 undef), (D.getD 72 undef), (D.getD 73 undef), (D.getD 74 undef), (D.getD 75 undef), (D.getD 76 undef), (D.getD 77 undef), (D.getD 78 undef), (D.getD 79 undef), (D.getD 80 undef), (D.getD 81 undef), .bool (decide (x90 < x89)), .int .i64 x90, .pointer (some ⟨q.block, q.off + x90.toNat * 1, none⟩), .int .i64 x, .int .i64 x90, .bool (decide (x90 > (0 : Int))), .bool true, .pointer (some ⟨p6, 2, none⟩), .slice a l c, .int .i64 x90, .int .i64 (IntKind.i64.wrap (x90 - (1 : Int))), .pointer (some ⟨q_1.block, q_1.off + (IntKind.i64.wrap (x90 - (1 : Int))).toNat * 1, none⟩), .int .i64 x_1, .int .i64 x, .bool (decide (x_1 ≥ x)), .bool (decide (x_1 ≥ x)), .bool false, .pointer (some ⟨p3, 0, none⟩), .int .i64 x_2, .bool (decide (x_2 ≥ (2 : Int))), .bool true, .pointer (some ⟨p3, 2, none⟩), .slice a_1 l_1 c_1, .int .i64 x, .bool b, .bool (!b), .bool (!b), .bool (!b), .int .i64 (IntKind.i64.wrap (x90 + (1 : Int))), (D.getD 111 undef), (D.getD 112 undef)] H_1
   else
   f7.L2 k n1 n2 p3 p6 a11 l11 c11 x12 x13 a88 l88 c88 x89 (IntKind.i64.wrap (x90 + (1 : Int))) [(D.getD 0 undef), (D.getD 1 undef), (D.getD 2 undef), (D.getD 3 undef), (D.getD 4 undef), .int .i64 x90, .int .i64 x, (D.getD 7 undef), (D.getD 8 undef), (D.getD 9 undef), (D.getD 10 undef), (D.getD 11 undef), (D.getD 12 undef), (D.getD 13 undef), (D.getD 14 undef), (D.getD 15 undef), (D.getD 16 undef), (D.getD 17 undef), (D.getD 18 undef), (D.getD 19 undef), (D.getD 20 undef), (D.getD 21 undef), (D.getD 22 undef), (D.getD 23 undef), (D.getD 24 undef), (D.getD 25 undef), (D.getD 26 undef), (D.getD 27 undef), (D.getD 28 undef), (D.getD 29 undef), (D.getD 30 undef), (D.getD 31 undef), (D.getD 32 undef), (D.getD 33 undef), (D.getD 34 undef), (D.getD 35 undef), (D.getD 36 undef), (D.getD 37 undef), (D.getD 38 undef), (D.getD 39 undef), (D.getD 40 undef), (D.getD 41 undef), (D.getD 42 undef), (D.getD 43 undef), (D.getD 44 undef), (D.getD 45 undef), (D.getD 46 undef), (D.getD 47 undef), (D.getD 48 undef), (D.getD 49 undef), (D.getD 50 undef), (D.getD 51 undef), (D.getD 52 undef), (D.getD 53 undef), (D.getD 54 undef), (D.getD 55 undef), (D.getD 56 undef), (D.getD 57 undef), (D.getD 58 undef), (D.getD 59 undef), (D.getD 60 undef), (D.getD 61 undef), (D.getD 62 undef), (D.getD 63 undef), (D.getD 64 undef), (D.getD 65 undef), (D.getD 66 undef), (D.getD 67 undef), (D.getD 68 undef), (D.getD 69 undef), (D.getD 70 undef), (D.getD 71 undef), (D.getD 72 undef), (D.getD 73 undef), (D.getD 74 undef), (D.getD 75 undef), (D.getD 76 undef), (D.getD 77 undef), (D.getD 78 undef), (D.getD 79 undef), (D.getD 80 undef), (D.getD 81 undef), .bool (decide (x90 < x89)), .int .i64 x90, .pointer (some ⟨q.block, q.off + x90.toNat * 1, none⟩), .int .i64 x, .int .i64 x90, .bool (decide (x90 > (0 : Int))), .bool true, .pointer (some ⟨p6, 2, none⟩), .slice a l c, .int .i64 x90, .int .i64 (IntKind.i64.wrap (x90 - (1 : Int))), .pointer (some ⟨q_1.block, q_1.off + (IntKind.i64.wrap (x90 - (1 : Int))).toNat * 1, none⟩), .int .i64 x_1, .int .i64 x, .bool (decide (x_1 ≥ x)), .bool (decide (x_1 ≥ x)), .bool false, .pointer (some ⟨p3, 0, none⟩), .int .i64 x_2, .bool (decide (x_2 ≥ (2 : Int))), .bool false, undef, undef, undef, undef, undef, .bool false, .bool false, .int .i64 (IntKind.i64.wrap (x90 + (1 : Int))), (D.getD 111 undef), (D.getD 112 undef)] H
   else none
   else
   (ldI .i64 H p3 (0)).bind fun x_3 =>
   bif (decide (x_3 ≥ (2 : Int))) then
   bSl (ldSl H p3 (2)) fun a_2 l_2 c_2 =>
   cB (C k 29 [.slice a_2 l_2 c_2, .int .i64 x] H) fun b_1 H_2 =>
   bif (!b_1) then
   some (.bool false, H_2)
   else
   f7.L2 k n1 n2 p3 p6 a11 l11 c11 x12 x13 a88 l88 c88 x89 (IntKind.i64.wrap (x90 + (1 : Int))) [(D.getD 0 undef), (D.getD 1 undef), (D.getD 2 undef), (D.getD 3 undef), (D.getD 4 undef), .int .i64 x90, .int .i64 x, (D.getD 7 undef), (D.getD 8 undef), (D.getD 9 undef), (D.getD 10 undef), (D.getD 11 undef), (D.getD 12 undef), (D.getD 13 undef), (D.getD 14 undef), (D.getD 15 undef), (D.getD 16 undef), (D.getD 17 undef), (D.getD 18 undef), (D.getD 19 undef), (D.getD 20 undef), (D.getD 21 undef), (D.getD 22 undef), (D.getD 23 undef), (D.getD 24 undef), (D.getD 25 undef), (D.getD 26 undef), (D.getD 27 undef), (D.getD 28 undef), (D.getD 29 undef), (D.getD 30 undef), (D.getD 31 undef), (D.getD 32 undef), (D.getD 33 undef), (D.getD 34 undef), (D.getD 35 undef), (D.getD 36 undef), (D.getD 37 undef), (D.getD 38 undef), (D.getD 39 undef), (D.getD 40 undef), (D.getD 41 undef), (D.getD 42 undef), (D.getD 43 undef), (D.getD 44 undef), (D.getD 45 undef), (D.getD 46 undef), (D.getD 47 undef), (D.getD 48 undef), (D.getD 49 undef), (D.getD 50 undef), (D.getD 51 undef), (D.getD 52 undef), (D.getD 53 undef), (D.getD 54 undef), (D.getD 55 undef), (D.getD 56 undef), (D.getD 57 undef), (D.getD 58 undef), (D.getD 59 undef), (D.getD 60 undef), (D.getD 61 undef), (D.getD 62 undef), (D.getD 63 undef), (D.getD 64 undef), (D.getD 65 undef), (D.getD 66 undef), (D.getD 67 undef), (D.getD 68 undef), (D.getD 69 undef), (D.getD 70 undef), (D.getD 71 undef), (D.getD 72 undef), (D.getD 73 undef), (D.getD 74 undef), (D.getD 75 undef), (D.getD 76 undef), (D.getD 77 undef), (D.getD 78 undef), (D.getD 79 undef), (D.getD 80 undef), (D.getD 81 undef), .bool (decide (x90 < x89)), .int .i64 x90, .pointer (some ⟨q.block, q.off + x90.toNat * 1, none⟩), .int .i64 x, .int .i64 x90, .bool (decide (x90 > (0 : Int))), .bool false, undef, undef, undef, undef, undef, undef, undef, undef, .bool false, .bool false, .pointer (some ⟨p3, 0, none⟩), .int .i64 x_3, .bool (decide (x_3 ≥ (2 : Int))), .bool true, .pointer (some ⟨p3, 2, none⟩), .slice a_2 l_2 c_2, .int .i64 x, .bool b_1, .bool (!b_1), .bool (!b_1), .bool (!b_1), .int .i64 (IntKind.i64.wrap (x90 + (1 : Int))), (D.getD 111 undef), (D.getD 112 undef)] H_2
   else
   f7.L2 k n1 n2 p3 p6 a11 l11 c11 x12 x13 a88 l88 c88 x89 (IntKind.i64.wrap (x90 + (1 : Int))) [(D.getD 0 undef), (D.getD 1 undef), (D.getD 2 undef), (D.getD 3 undef), (D.getD 4 undef), .int .i64 x90, .int .i64 x, (D.getD 7 undef), (D.getD 8 undef), (D.getD 9 undef), (D.getD 10 undef), (D.getD 11 undef), (D.getD 12 undef), (D.getD 13 undef), (D.getD 14 undef), (D.getD 15 undef), (D.getD 16 undef), (D.getD 17 undef), (D.getD 18 undef), (D.getD 19 undef), (D.getD 20 undef), (D.getD 21 undef), (D.getD 22 undef), (D.getD 23 undef), (D.getD 24 undef), (D.getD 25 undef), (D.getD 26 undef), (D.getD 27 undef), (D.getD 28 undef), (D.getD 29 undef), (D.getD 30 undef), (D.getD 31 undef), (D.getD 32 undef), (D.getD 33 undef), (D.getD 34 undef), (D.getD 35 undef), (D.getD 36 undef), (D.getD 37 undef), (D.getD 38 undef), (D.getD 39 undef), (D.getD 40 undef), (D.getD 41 undef), (D.getD 42 undef), (D.getD 43 undef), (D.getD 44 undef), (D.getD 45 undef), (D.getD 46 undef), (D.getD 47 undef), (D.getD 48 undef), (D.getD 49 undef), (D.getD 50 undef), (D.getD 51 undef), (D.getD 52 undef), (D.getD 53 undef), (D.getD 54 undef), (D.getD 55 undef), (D.getD 56 undef), (D.getD 57 undef), (D.getD 58 undef), (D.getD 59 undef), (D.getD 60 undef), (D.getD 61 undef), (D.getD 62 undef), (D.getD 63 undef), (D.getD 64 undef), (D.getD 65 undef), (D.getD 66 undef), (D.getD 67 undef), (D.getD 68 undef), (D.getD 69 undef), (D.getD 70 undef), (D.getD 71 undef), (D.getD 72 undef), (D.getD 73 undef), (D.getD 74 undef), (D.getD 75 undef), (D.getD 76 undef), (D.getD 77 undef), (D.getD 78 undef), (D.getD 79 undef), (D.getD 80 undef), (D.getD 81 undef), .bool (decide (x90 < x89)), .int .i64 x90, .pointer (some ⟨q.block, q.off + x90.toNat * 1, none⟩), .int .i64 x, .int .i64 x90, .bool (decide (x90 > (0 : Int))), .bool false, undef, undef, undef, undef, undef, undef, undef, undef, .bool false, .bool false, .pointer (some ⟨p3, 0, none⟩), .int .i64 x_3, .bool (decide (x_3 ≥ (2 : Int))), .bool false, undef, undef, undef, undef, undef, .bool false, .bool false, .int .i64 (IntKind.i64.wrap (x90 + (1 : Int))), (D.getD 111 undef), (D.getD 112 undef)] H
   else none
   else
   (AHeap.row H p6 (0) 3).bind fun g =>
   if notTup (.agg (g : List Value).toArray) = true ∧ (g).length = 3 then
   (AHeap.wr H p3 (0) g).bind fun H_3 =>
   f7.L1 k n1 p3 a11 l11 c11 x12 (IntKind.i64.wrap (x13 + (1 : Int))) [(D.getD 0 undef), (D.getD 1 undef), (D.getD 2 undef), (D.getD 3 undef), .pointer (some ⟨p6, 0, none⟩), (D.getD 4 undef), (D.getD 5 undef), (D.getD 6 undef), (D.getD 7 undef), (D.getD 8 undef), (D.getD 9 undef), (D.getD 10 undef), (D.getD 11 undef), (D.getD 12 undef), (D.getD 13 undef), (D.getD 14 undef), (D.getD 15 undef), (D.getD 16 undef), (D.getD 17 undef), (D.getD 18 undef), (D.getD 19 undef), (D.getD 20 undef), (D.getD 21 undef), (D.getD 22 undef), (D.getD 23 undef), (D.getD 24 undef), (D.getD 25 undef), (D.getD 26 undef), (D.getD 27 undef), (D.getD 28 undef), (D.getD 29 undef), (D.getD 30 undef), (D.getD 31 undef), (D.getD 32 undef), (D.getD 33 undef), (D.getD 34 undef), (D.getD 35 undef), (D.getD 36 undef), (D.getD 37 undef), (D.getD 38 undef), (D.getD 39 undef), (D.getD 40 undef), (D.getD 41 undef), (D.getD 42 undef), (D.getD 43 undef), (D.getD 44 undef), (D.getD 45 undef), (D.getD 46 undef), (D.getD 47 undef), (D.getD 48 undef), (D.getD 49 undef), (D.getD 50 undef), (D.getD 51 undef), (D.getD 52 undef), (D.getD 53 undef), (D.getD 54 undef), (D.getD 55 undef), (D.getD 56 undef), (D.getD 57 undef), (D.getD 58 undef), (D.getD 59 undef), (D.getD 60 undef), (D.getD 61 undef), (D.getD 62 undef), (D.getD 63 undef), (D.getD 64 undef), (D.getD 65 undef), (D.getD 66 undef), (D.getD 67 undef), (D.getD 68 undef), (D.getD 69 undef), (D.getD 70 undef), (D.getD 71 undef), (D.getD 72 undef), (D.getD 73 undef), (D.getD 74 undef), (D.getD 75 undef), (D.getD 76 undef), (D.getD 77 undef), (D.getD 78 undef), (D.getD 79 undef), (D.getD 80 undef), (D.getD 81 undef), .slice a88 l88 c88, .int .i64 x89, .int .i64 x90, .bool (decide (x90 < x89)), (D.getD 83 undef), (D.getD 84 undef), (D.getD 85 undef), (D.getD 86 undef), (D.getD 87 undef), (D.getD 88 undef), (D.getD 89 undef), (D.getD 90 undef), (D.getD 91 undef), (D.getD 92 undef), (D.getD 93 undef), (D.getD 94 undef), (D.getD 95 undef), (D.getD 96 undef), (D.getD 97 undef), (D.getD 98 undef), (D.getD 99 undef), (D.getD 100 undef), (D.getD 101 undef), (D.getD 102 undef), (D.getD 103 undef), (D.getD 104 undef), (D.getD 105 undef), (D.getD 106 undef), (D.getD 107 undef), (D.getD 108 undef), (D.getD 109 undef), (D.getD 110 undef), .agg (g : List Value).toArray, .int .i64 (IntKind.i64.wrap (x13 + (1 : Int)))] H_3
   else none) := by kernel_rfl
theorem f7_eq (k : Nat) (a0 : Option Addr) (l0 : Nat) (c0 : Nat) (H : AHeap) : C (k + 1) 7 [.slice a0 l0 c0] H =
  (alK none H ⟨[.int .i64 0, .int .i64 0, .slice none 0 0], 0, .rw, 0⟩ fun i H_1 =>
   (AHeap.wr H_1 i (0) [.int .i64 0, .int .i64 0, .slice none 0 0]).bind fun H_2 =>
   f7.L1 k k i a0 l0 c0 (l0 : Int) 0 [.slice a0 l0 c0, .bool false, undef, undef, undef, undef, undef, undef, .agg #[.int .i64 0, .int .i64 0, .slice none 0 0], undef, undef, undef, undef, undef, undef, undef, undef, undef, undef, undef, undef, undef, undef, undef, undef, undef, undef, undef, undef, undef, undef, undef, undef, undef, undef, undef, undef, undef, undef, undef, undef, undef, undef, undef, undef, undef, undef, undef, undef, undef, undef, undef, undef, undef, undef, undef, undef, undef, undef, undef, undef, undef, undef, undef, undef, undef, undef, undef, undef, undef, undef, undef, undef, undef, undef, undef, undef, undef, undef, undef, undef, undef, undef, undef, undef, undef, undef, undef, undef, undef, undef, undef, undef, undef, undef, undef, undef, undef, undef, undef, undef, undef, undef, undef, undef, undef, undef, undef, undef, undef, undef, undef, undef, undef, undef, undef, undef] H_2) := by kernel_rfl

/- f8 "interleave/interleavelaw28.LocksetExcludes"  names: 0:a 1:b 2:a 3:b 5:want -/
theorem f8_eq (k : Nat) (a0_0 : Option Addr) (l0_0 : Nat) (c0_0 : Nat) (a0_1 : Option Addr) (l0_1 : Nat) (c0_1 : Nat) (a1_0 : Option Addr) (l1_0 : Nat) (c1_0 : Nat) (a1_1 : Option Addr) (l1_1 : Nat) (c1_1 : Nat) (H : AHeap) : C (k + 1) 8 [.agg #[.slice a0_0 l0_0 c0_0, .slice a0_1 l0_1 c0_1], .agg #[.slice a1_0 l1_0 c1_0, .slice a1_1 l1_1 c1_1]] H =
  (alK none H ⟨[.slice a0_0 l0_0 c0_0, .slice a0_1 l0_1 c0_1], 0, .rw, 0⟩ fun i H_1 =>
   alK none H_1 ⟨[.slice a1_0 l1_0 c1_0, .slice a1_1 l1_1 c1_1], 0, .rw, 0⟩ fun i_1 H_2 =>
   bSl (ldSl H_2 i (0)) fun a l c =>
   bSl (ldSl H_2 i (1)) fun a_1 l_1 c_1 =>
   bSl (ldSl H_2 i_1 (0)) fun a_2 l_2 c_2 =>
   bSl (ldSl H_2 i_1 (1)) fun a_3 l_3 c_3 =>
   bif (decide ((IntKind.i64.wrap ((IntKind.i64.wrap ((IntKind.i64.wrap ((l : Int) + (l_1 : Int))) + (l_2 : Int))) + (l_3 : Int))) > (100 : Int))) then
   cB (C k 28 [] H_2) fun b H_3 =>
   some (.bool b, H_3)
   else
   (AHeap.row H_2 i (0) 2).bind fun g =>
   (AHeap.row H_2 i_1 (0) 2).bind fun g_1 =>
   cB (C k 30 [.agg (g : List Value).toArray, .agg (g_1 : List Value).toArray] H_2) fun b_1 H_4 =>
   (AHeap.row H_4 i (0) 2).bind fun g_2 =>
   (AHeap.row H_4 i_1 (0) 2).bind fun g_3 =>
   cB (C k 31 [.agg (g_2 : List Value).toArray, .agg (g_3 : List Value).toArray] H_4) fun b_2 H_5 =>
   bif (b_2 == b_1) then
   (AHeap.row H_5 i_1 (0) 2).bind fun g_4 =>
   (AHeap.row H_5 i (0) 2).bind fun g_5 =>
   cB (C k 31 [.agg (g_4 : List Value).toArray, .agg (g_5 : List Value).toArray] H_5) fun b_3 H_6 =>
   bif (b_3 == b_1) then
   cB (C k 28 [] H_6) fun b_4 H_7 =>
   some (.bool b_4, H_7)
   else
   some (.bool false, H_6)
   else
   some (.bool false, H_5)) := by kernel_rfl

end Go.Proofs.MxF
end

section
set_option linter.unusedSimpArgs false
/- Lists of numbers: is one among them; which locks exclude which. -/
set_option linter.unusedVariables false
namespace Go.Proofs.MxF
open Go Go.Mx Go.Proofs

theorem wrapS {i l : Nat} (h : i < l) (hl : l ≤ maxLen) : IntKind.i64.wrap ((i : Int) + 1) = ((i + 1 : Nat) : Int) := by
  unfold maxLen at hl
  rw [IntWalk.i64_in _ (by omega)]; omega
theorem drop_cons {α : Type} {xs : List α} {i : Nat} {x : α} (h : xs[i]? = some x) : xs.drop i = x :: xs.drop (i + 1) := by
  obtain ⟨hi, e⟩ := List.getElem?_eq_some_iff.1 h
  rw [List.drop_eq_getElem_cons hi, e]
/-- reading entry i -/
theorem Ints.at {H : AHeap} {a : Option Addr} {l : Nat} {xs : List Int} (h : Ints H a l xs) {i : Nat} (hi : i < l) :
    ∃ q x, xs[i]? = some x ∧ a = some q ∧ ldI .i64 H q.block (q.off + (i : Int).toNat * 1) = some x := by
  have hx : i < xs.length := by have := h.len; omega
  obtain ⟨q, e, hq⟩ := h.ld (List.getElem?_eq_getElem hx)
  exact ⟨q, xs[i], List.getElem?_eq_getElem hx, e, by rw [Nat.mul_one]; exact hq⟩
def hasI (xs : List Int) (v : Int) : Bool := xs.any fun x => x == v
theorem hasI_cons (x : Int) (xs : List Int) (v : Int) : hasI (x :: xs) v = ((x == v) || hasI xs v) := rfl
theorem hasI_at {xs : List Int} {i : Nat} {x v : Int} (h : xs[i]? = some x) : hasI (xs.drop i) v = ((x == v) || hasI (xs.drop (i + 1)) v) := by
  rw [drop_cons h]; rfl
theorem hasI_end {xs : List Int} {i : Nat} {v : Int} (h : xs.length ≤ i) : hasI (xs.drop i) v = false := by
  rw [List.drop_eq_nil_of_le h]; rfl

theorem f87_loop {k l c : Nat} {a : Option Addr} {xs : List Int} {v : Int} {H : AHeap} (h : Ints H a l xs) (hl : l ≤ maxLen) : ∀ (m i n : Nat) (D : List Value), i + m = l → m < n →
    Ok (f87.L1 k n a l c v (l : Int) (i : Int) D H) fun r => ∃ x : Int, r = (.int .i64 x, H) ∧ decide (x ≥ 0) = hasI (xs.drop i) v := by
  intro m
  induction m with
  | zero =>
    intro i n D hm hn
    obtain ⟨n, rfl⟩ : ∃ j, n = j + 1 := ⟨n - 1, by omega⟩
    rw [f87.L1_s]
    refine ok_biff (by simp only [decide_eq_false_iff_not]; omega) (Ok.ret ⟨_, rfl, ?_⟩)
    rw [hasI_end (by have := h.len; omega)]; rfl
  | succ m ih =>
    intro i n D hm hn
    obtain ⟨n, rfl⟩ : ∃ j, n = j + 1 := ⟨n - 1, by omega⟩
    rw [f87.L1_s]
    obtain ⟨q, x, hx, e, hq⟩ := Ints.at h (i := i) (by omega)
    refine ok_bift (by simp only [decide_eq_true_eq]; omega) (ok_bind e (ok_if (by omega) (ok_bind hq ?_)))
    rw [hasI_at hx, wrapS (l := l) (by omega) hl]
    refine ok_bif (fun hb => Ok.ret ⟨_, rfl, ?_⟩) (fun hb => ?_)
    · rw [beq_iff_eq] at hb; subst hb; rw [beq_self_eq_true]; simp
    · have : (x == v) = false := by rw [Bool.beq_comm] at hb; exact hb
      rw [this, Bool.false_or]
      exact ih (i + 1) n _ (by omega) (by omega)
theorem f63_spec {k l c : Nat} {a : Option Addr} {xs : List Int} {H : AHeap} (h : Ints H a l xs) (hl : l ≤ maxLen) (hk : l + 3 ≤ k) (v : Int) :
    C k 63 [.slice a l c, .int .i64 v] H = some (.bool (hasI xs v), H) := by
  obtain ⟨k, rfl⟩ : ∃ j, k = j + 1 + 1 := ⟨k - 2, by omega⟩
  rw [f63_eq, f87_eq]
  apply eq_of_ok
  obtain ⟨r, e, x, e1, e2⟩ := f87_loop (k := k) (c := c) (v := v) h hl l 0 k [.int .i64 0, undef, .slice a l c, undef, undef, undef, undef, undef, undef, undef, undef, undef] (by omega) (by omega)
  subst e1
  refine ok_cI0 (n := x) e (Ok.ret ?_)
  rw [e2]; rfl

theorem f29_loop {k l c : Nat} {a : Option Addr} {xs : List Int} {v : Int} {H : AHeap} (h : Ints H a l xs) (hl : l ≤ maxLen) : ∀ (m i n : Nat) (D : List Value), i + m = l → m < n →
    Ok (f29.L1 k n v a l c (l : Int) (i : Int) D H) fun r => r = (.bool (hasI (xs.drop i) v), H) := by
  intro m
  induction m with
  | zero =>
    intro i n D hm hn
    obtain ⟨n, rfl⟩ : ∃ j, n = j + 1 := ⟨n - 1, by omega⟩
    rw [f29.L1_s]
    refine ok_biff (by simp only [decide_eq_false_iff_not]; omega) (Ok.ret ?_)
    rw [hasI_end (by have := h.len; omega)]
  | succ m ih =>
    intro i n D hm hn
    obtain ⟨n, rfl⟩ : ∃ j, n = j + 1 := ⟨n - 1, by omega⟩
    rw [f29.L1_s]
    obtain ⟨q, x, hx, e, hq⟩ := Ints.at h (i := i) (by omega)
    refine ok_bift (by simp only [decide_eq_true_eq]; omega) (ok_bind e (ok_if (by omega) (ok_bind hq ?_)))
    rw [hasI_at hx, wrapS (l := l) (by omega) hl]
    refine ok_bif (fun hb => Ok.ret ?_) (fun hb => ?_)
    · rw [hb]; rfl
    · rw [hb, Bool.false_or]
      exact ih (i + 1) n _ (by omega) (by omega)
theorem f29_spec {k l c : Nat} {a : Option Addr} {xs : List Int} {H : AHeap} (h : Ints H a l xs) (hl : l ≤ maxLen) (hk : l + 2 ≤ k) (v : Int) :
    C k 29 [.slice a l c, .int .i64 v] H = some (.bool (hasI xs v), H) := by
  obtain ⟨k, rfl⟩ : ∃ j, k = j + 1 := ⟨k - 1, by omega⟩
  rw [f29_eq]
  exact eq_of_ok (f29_loop (k := k) (c := c) (v := v) h hl l 0 k _ (by omega) (by omega))

/-- a Held in a box -/
def HeldAt (H : AHeap) (p : Nat) (a : Option Addr) (l c : Nat) (a' : Option Addr) (l' c' : Nat) : Prop := ∃ e v, At H p ⟨[.slice a l c, .slice a' l' c'], e, .rw, v⟩
theorem HeldAt.ld0 {H : AHeap} {p : Nat} {a : Option Addr} {l c : Nat} {a' : Option Addr} {l' c' : Nat} (h : HeldAt H p a l c a' l' c') : ldSl H p 0 = some (a, l, c) := by
  obtain ⟨e, v, h⟩ := h; exact ldSl_at h (by simp) rfl
theorem HeldAt.ld1 {H : AHeap} {p : Nat} {a : Option Addr} {l c : Nat} {a' : Option Addr} {l' c' : Nat} (h : HeldAt H p a l c a' l' c') : ldSl H p 1 = some (a', l', c') := by
  obtain ⟨e, v, h⟩ := h; exact ldSl_at h (by simp) rfl
theorem HeldAt.row {H : AHeap} {p : Nat} {a : Option Addr} {l c : Nat} {a' : Option Addr} {l' c' : Nat} (h : HeldAt H p a l c a' l' c') : H.row p 0 2 = some [.slice a l c, .slice a' l' c'] := by
  obtain ⟨e, v, h⟩ := h
  rw [row_at h (by simp) (by simp)]; rfl
theorem HeldAt.agree {H H' : AHeap} {p : Nat} {a : Option Addr} {l c : Nat} {a' : Option Addr} {l' c' : Nat} (h : HeldAt H p a l c a' l' c') (A : Agree H H') : HeldAt H' p a l c a' l' c' := by
  obtain ⟨e, v, h⟩ := h; exact ⟨e, v, h.agree A⟩

theorem f62_spec {k : Nat} {H : AHeap} {p : Nat} {a : Option Addr} {l c : Nat} {a' : Option Addr} {l' c' : Nat} {xs ys : List Int} (hp : HeldAt H p a l c a' l' c') (h : Ints H a l xs) (h' : Ints H a' l' ys) (hl : l ≤ maxLen) (hl' : l' ≤ maxLen)
    (hk : l + l' + 4 ≤ k) (v : Int) : C k 62 [.int .i64 v, .pointer (some ⟨p, 0, none⟩)] H = some (.bool (hasI xs v || hasI ys v), H) := by
  obtain ⟨k, rfl⟩ : ∃ j, k = j + 1 := ⟨k - 1, by omega⟩
  rw [f62_eq]
  apply eq_of_ok
  refine ok_bSl hp.ld0 (ok_cB0 (f63_spec h hl (by omega) v) (ok_bif (fun hb => Ok.ret ?_) (fun hb => ok_bSl hp.ld1 (ok_cB0 (f63_spec h' hl' (by omega) v) (Ok.ret ?_)))))
  · rw [hb]; rfl
  · rw [hb]; rfl

theorem f86_loop {k l c : Nat} {a : Option Addr} {zs : List Int} {H : AHeap} (h : Ints H a l zs) (hl : l ≤ maxLen) {p : Nat} {a1 : Option Addr} {l1 c1 : Nat} {a2 : Option Addr} {l2 c2 : Nat} {xs ys : List Int} (hp : HeldAt H p a1 l1 c1 a2 l2 c2)
    (h1 : Ints H a1 l1 xs) (h2 : Ints H a2 l2 ys) (hl1 : l1 ≤ maxLen) (hl2 : l2 ≤ maxLen) (hk : l1 + l2 + 4 ≤ k) : ∀ (m i n : Nat) (D : List Value), i + m = l → m < n →
    Ok (f86x62.L1 k n a l c p (l : Int) (i : Int) D H) fun r => ∃ x : Int, r = (.int .i64 x, H) ∧ decide (x ≥ 0) = (zs.drop i).any fun v => hasI xs v || hasI ys v := by
  intro m
  induction m with
  | zero =>
    intro i n D hm hn
    obtain ⟨n, rfl⟩ : ∃ j, n = j + 1 := ⟨n - 1, by omega⟩
    rw [f86x62.L1_s]
    refine ok_biff (by simp only [decide_eq_false_iff_not]; omega) (Ok.ret ⟨_, rfl, ?_⟩)
    rw [List.drop_eq_nil_of_le (by have := h.len; omega)]; rfl
  | succ m ih =>
    intro i n D hm hn
    obtain ⟨n, rfl⟩ : ∃ j, n = j + 1 := ⟨n - 1, by omega⟩
    rw [f86x62.L1_s]
    obtain ⟨q, x, hx, e, hq⟩ := Ints.at h (i := i) (by omega)
    refine ok_bift (by simp only [decide_eq_true_eq]; omega) (ok_bind e (ok_if (by omega) (ok_bind hq ?_)))
    rw [drop_cons hx, wrapS (l := l) (by omega) hl, List.any_cons]
    refine ok_cB0 (f62_spec hp h1 h2 hl1 hl2 (by omega) x) (ok_bif (fun hb => Ok.ret ⟨_, rfl, ?_⟩) (fun hb => ?_))
    · rw [hb]; simp
    · rw [hb, Bool.false_or]
      exact ih (i + 1) n _ (by omega) (by omega)
def shares (xs ys zs : List Int) : Bool := xs.any fun v => hasI ys v || hasI zs v
theorem f60_spec {k l c : Nat} {a : Option Addr} {zs : List Int} {H : AHeap} (h : Ints H a l zs) (hl : l ≤ maxLen) {a0 : Option Addr} {l0 c0 : Nat} {a1 : Option Addr} {l1 c1 : Nat} {a2 : Option Addr} {l2 c2 : Nat} {xs ys : List Int}
    (h1 : Ints H a1 l1 xs) (h2 : Ints H a2 l2 ys) (hl1 : l1 ≤ maxLen) (hl2 : l2 ≤ maxLen) (hk : l + l1 + l2 + 10 ≤ k) :
    ∃ H', C k 60 [.agg #[.slice a l c, .slice a0 l0 c0], .agg #[.slice a1 l1 c1, .slice a2 l2 c2]] H = some (.bool (shares zs xs ys), H') ∧ Agree H H' := by
  obtain ⟨k, rfl⟩ : ∃ j, k = j + 1 + 1 + 1 := ⟨k - 3, by omega⟩
  rw [f60_eq]
  refine call_of_ok (ok_al fun i H1 hi n1 A1 B1 => ok_al fun i' H2 hi' n2 A2 B2 => ?_)
  have A02 := A1.trans A2
  refine ok_bSl (ldSl_at (B1.agree A2) (by simp) rfl) ?_
  rw [f61_eq, f86x62_eq]
  obtain ⟨r, e, x, e1, e2⟩ := f86_loop (k := k) (c := c) (h.agree A02) hl (p := i') (c1 := c1) (c2 := c2) ⟨_, _, B2⟩ (h1.agree A02) (h2.agree A02) hl1 hl2 (by omega) l 0 k [.int .i64 0, undef, .slice a l c, undef, undef, undef, undef, undef, undef, undef, undef, undef] (by omega) (by omega)
  subst e1
  refine ok_cB0 (n := decide (x ≥ 0)) (eq_of_ok (ok_cI0 (n := x) e (Ok.ret rfl))) (Ok.ret ⟨?_, A02⟩)
  rw [e2]; rfl

theorem f31_spec {k : Nat} {H : AHeap} {a1 : Option Addr} {l1 c1 : Nat} {a2 : Option Addr} {l2 c2 : Nat} {a3 : Option Addr} {l3 c3 : Nat} {a4 : Option Addr} {l4 c4 : Nat} {x1 x2 x3 x4 : List Int}
    (h1 : Ints H a1 l1 x1) (h2 : Ints H a2 l2 x2) (h3 : Ints H a3 l3 x3) (h4 : Ints H a4 l4 x4) (hl1 : l1 ≤ maxLen) (hl2 : l2 ≤ maxLen) (hl3 : l3 ≤ maxLen) (hl4 : l4 ≤ maxLen) (hk : l1 + l2 + l3 + l4 + 20 ≤ k) :
    ∃ H', C k 31 [.agg #[.slice a1 l1 c1, .slice a2 l2 c2], .agg #[.slice a3 l3 c3, .slice a4 l4 c4]] H = some (.bool (shares x1 x3 x4 || shares x3 x1 x2), H') ∧ Agree H H' := by
  obtain ⟨k, rfl⟩ : ∃ j, k = j + 1 := ⟨k - 1, by omega⟩
  rw [f31_eq]
  refine call_of_ok (ok_al fun i H1 hi n1 A1 B1 => ok_al fun i' H2 hi' n2 A2 B2 => ?_)
  have A02 := A1.trans A2
  have P1 : HeldAt H2 i a1 l1 c1 a2 l2 c2 := ⟨_, _, B1.agree A2⟩
  have P2 : HeldAt H2 i' a3 l3 c3 a4 l4 c4 := ⟨_, _, B2⟩
  refine ok_bind P1.row (ok_bind P2.row (ok_cB (f60_spec (h1.agree A02) hl1 (h3.agree A02) (h4.agree A02) hl3 hl4 (by omega)) fun H3 A3 => ok_bif (fun hb => Ok.ret ⟨?_, A02.trans A3⟩) (fun hb => ?_)))
  · rw [hb]; rfl
  · have A03 := A02.trans A3
    refine ok_bind (P2.agree A3).row (ok_bind (P1.agree A3).row (ok_cB (f60_spec (h3.agree A03) hl3 (h1.agree A03) (h2.agree A03) hl1 hl2 (by omega)) fun H4 A4 => Ok.ret ⟨?_, A03.trans A4⟩))
    rw [hb]; rfl
end Go.Proofs.MxF
end

section
set_option linter.unusedSimpArgs false
/- LocksetExcludes. -/
set_option linter.unusedVariables false
namespace Go.Proofs.MxF
open Go Go.Mx Go.Proofs

theorem awake28 {k : Nat} (hk : 1 ≤ k) (H : AHeap) : C k 28 [] H = some (.bool true, H) := by
  obtain ⟨k, rfl⟩ : ∃ j, k = j + 1 := ⟨k - 1, by omega⟩
  rfl
def refEx (x1 x2 x3 x4 : List Int) : Bool := x1.any (fun v => hasI x3 v || hasI x4 v) || x3.any fun v => hasI x2 v
theorem hasI_iff {xs : List Int} {v : Int} : hasI xs v = true ↔ v ∈ xs := by
  unfold hasI
  rw [List.any_eq_true]
  constructor
  · rintro ⟨x, hx, e⟩; rw [beq_iff_eq] at e; subst e; exact hx
  · intro h; exact ⟨v, h, by simp⟩
theorem ex_eq (x1 x2 x3 x4 : List Int) : (shares x1 x3 x4 || shares x3 x1 x2) = refEx x1 x2 x3 x4 := by
  rw [Bool.eq_iff_iff]
  unfold shares refEx
  simp only [Bool.or_eq_true, List.any_eq_true, hasI_iff]
  constructor
  · rintro (h | ⟨v, hv, h | h⟩)
    · exact .inl h
    · exact .inl ⟨v, h, .inl hv⟩
    · exact .inr ⟨v, hv, h⟩
  · rintro (h | ⟨v, hv, h⟩)
    · exact .inl h
    · exact .inr ⟨v, hv, .inr h⟩

section
variable {k : Nat} {a1 : Option Addr} {l1 c1 : Nat} {a2 : Option Addr} {l2 c2 : Nat} {a3 : Option Addr} {l3 c3 : Nat} {a4 : Option Addr} {l4 c4 : Nat} {x1 x2 x3 x4 : List Int} {H : AHeap}
theorem f30_l2 (h2 : Ints H a2 l2 x2) (h3 : Ints H a3 l3 x3) (hl2 : l2 ≤ maxLen) (hl3 : l3 ≤ maxLen) (hk : l2 + l3 + 20 ≤ k) {p : Nat} (hp : HeldAt H p a1 l1 c1 a2 l2 c2) : ∀ (m i n : Nat) (D : List Value), i + m = l3 → m < n →
    Ok (f30.L2 k n p a3 l3 c3 (l3 : Int) (i : Int) D H) fun r => r = (.bool ((x3.drop i).any fun v => hasI x2 v), H) := by
  intro m
  induction m with
  | zero =>
    intro i n D hm hn
    obtain ⟨n, rfl⟩ : ∃ j, n = j + 1 := ⟨n - 1, by omega⟩
    rw [f30.L2_s]
    refine ok_biff (by simp only [decide_eq_false_iff_not]; omega) (Ok.ret ?_)
    rw [List.drop_eq_nil_of_le (by have := h3.len; omega)]; rfl
  | succ m ih =>
    intro i n D hm hn
    obtain ⟨n, rfl⟩ : ∃ j, n = j + 1 := ⟨n - 1, by omega⟩
    rw [f30.L2_s]
    obtain ⟨q, x, hx, e, hq⟩ := Ints.at h3 (i := i) (by omega)
    refine ok_bift (by simp only [decide_eq_true_eq]; omega) (ok_bind e (ok_if (by omega) (ok_bind hq ?_)))
    rw [drop_cons hx, wrapS (l := l3) (by omega) hl3, List.any_cons]
    refine ok_bSl hp.ld1 (ok_cB0 (f29_spec h2 hl2 (by omega) x) (ok_bif (fun hb => Ok.ret ?_) (fun hb => ?_)))
    · rw [hb]; rfl
    · rw [hb, Bool.false_or]
      exact ih (i + 1) n _ (by omega) (by omega)
theorem f30_l1 (h1 : Ints H a1 l1 x1) (h2 : Ints H a2 l2 x2) (h3 : Ints H a3 l3 x3) (h4 : Ints H a4 l4 x4) (hl1 : l1 ≤ maxLen) (hl2 : l2 ≤ maxLen) (hl3 : l3 ≤ maxLen) (hl4 : l4 ≤ maxLen) (hk : l1 + l2 + l3 + l4 + 20 ≤ k)
    {p p' : Nat} (hp : HeldAt H p a1 l1 c1 a2 l2 c2) (hp' : HeldAt H p' a3 l3 c3 a4 l4 c4) : ∀ (m i n : Nat) (D : List Value), i + m = l1 → m < n →
    Ok (f30.L1 k n p p' a1 l1 c1 (l1 : Int) (i : Int) D H) fun r => r = (.bool ((x1.drop i).any (fun v => hasI x3 v || hasI x4 v) || x3.any fun v => hasI x2 v), H) := by
  intro m
  induction m with
  | zero =>
    intro i n D hm hn
    obtain ⟨n, rfl⟩ : ∃ j, n = j + 1 := ⟨n - 1, by omega⟩
    rw [f30.L1_s]
    refine ok_biff (by simp only [decide_eq_false_iff_not]; omega) (ok_bSl hp'.ld0 ?_)
    rw [List.drop_eq_nil_of_le (by have := h1.len; omega)]
    exact f30_l2 (a1 := a1) (l1 := l1) (c1 := c1) (c2 := c2) h2 h3 hl2 hl3 (by omega) hp l3 0 k _ (by omega) (by omega)
  | succ m ih =>
    intro i n D hm hn
    obtain ⟨n, rfl⟩ : ∃ j, n = j + 1 := ⟨n - 1, by omega⟩
    rw [f30.L1_s]
    obtain ⟨q, x, hx, e, hq⟩ := Ints.at h1 (i := i) (by omega)
    refine ok_bift (by simp only [decide_eq_true_eq]; omega) (ok_bind e (ok_if (by omega) (ok_bind hq ?_)))
    rw [drop_cons hx, wrapS (l := l1) (by omega) hl1, List.any_cons]
    refine ok_bSl hp'.ld0 (ok_cB0 (f29_spec h3 hl3 (by omega) x) (ok_bif (fun hb => Ok.ret ?_) (fun hb => ?_)))
    · rw [hb]; rfl
    · rw [hb, Bool.false_or]
      refine ok_bSl hp'.ld1 (ok_cB0 (f29_spec h4 hl4 (by omega) x) (ok_bif (fun hb => Ok.ret ?_) (fun hb => ?_)))
      · rw [hb]; rfl
      · rw [hb, Bool.false_or]
        exact ih (i + 1) n _ (by omega) (by omega)
theorem f30_spec (h1 : Ints H a1 l1 x1) (h2 : Ints H a2 l2 x2) (h3 : Ints H a3 l3 x3) (h4 : Ints H a4 l4 x4) (hl1 : l1 ≤ maxLen) (hl2 : l2 ≤ maxLen) (hl3 : l3 ≤ maxLen) (hl4 : l4 ≤ maxLen) (hk : l1 + l2 + l3 + l4 + 25 ≤ k) :
    ∃ H', C k 30 [.agg #[.slice a1 l1 c1, .slice a2 l2 c2], .agg #[.slice a3 l3 c3, .slice a4 l4 c4]] H = some (.bool (refEx x1 x2 x3 x4), H') ∧ Agree H H' := by
  obtain ⟨k, rfl⟩ : ∃ j, k = j + 1 := ⟨k - 1, by omega⟩
  rw [f30_eq]
  refine call_of_ok (ok_al fun i H1 hi n1 A1 B1 => ok_al fun i' H2 hi' n2 A2 B2 => ?_)
  have A02 := A1.trans A2
  have P1 : HeldAt H2 i a1 l1 c1 a2 l2 c2 := ⟨_, _, B1.agree A2⟩
  have P2 : HeldAt H2 i' a3 l3 c3 a4 l4 c4 := ⟨_, _, B2⟩
  refine ok_bSl P1.ld0 ?_
  have key := fun D => f30_l1 (k := k) (h1.agree A02) (h2.agree A02) (h3.agree A02) (h4.agree A02) hl1 hl2 hl3 hl4 (by omega) P1 P2 l1 0 k D (by omega) (by omega)
  obtain ⟨r, e, h⟩ := key _
  exact ⟨r, e, by rw [h]; rfl, by rw [h]; exact A02⟩
theorem f8_any (h1 : Ints H a1 l1 x1) (h2 : Ints H a2 l2 x2) (h3 : Ints H a3 l3 x3) (h4 : Ints H a4 l4 x4) (hl1 : l1 ≤ maxLen) (hl2 : l2 ≤ maxLen) (hl3 : l3 ≤ maxLen) (hl4 : l4 ≤ maxLen) :
    ∃ k H', C k 8 [.agg #[.slice a1 l1 c1, .slice a2 l2 c2], .agg #[.slice a3 l3 c3, .slice a4 l4 c4]] H = some (.bool true, H') := by
  have hk : ∃ H', C (l1 + l2 + l3 + l4 + 100 + 1) 8 [.agg #[.slice a1 l1 c1, .slice a2 l2 c2], .agg #[.slice a3 l3 c3, .slice a4 l4 c4]] H = some (.bool true, H') ∧ True := by
    rw [f8_eq]
    refine call_of_ok (ok_al fun i H1 hi n1 A1 B1 => ok_al fun i' H2 hi' n2 A2 B2 => ?_)
    have A02 := A1.trans A2
    have P1 : HeldAt H2 i a1 l1 c1 a2 l2 c2 := ⟨_, _, B1.agree A2⟩
    have P2 : HeldAt H2 i' a3 l3 c3 a4 l4 c4 := ⟨_, _, B2⟩
    refine ok_bSl P1.ld0 (ok_bSl P1.ld1 (ok_bSl P2.ld0 (ok_bSl P2.ld1 ?_)))
    refine ok_bif (fun _ => ok_cB0 (awake28 (by omega) H2) (Ok.ret ⟨rfl, trivial⟩)) (fun _ => ?_)
    refine ok_bind P1.row (ok_bind P2.row (ok_cB (f30_spec (h1.agree A02) (h2.agree A02) (h3.agree A02) (h4.agree A02) hl1 hl2 hl3 hl4 (by omega)) fun H3 A3 => ?_))
    have A03 := A02.trans A3
    refine ok_bind (P1.agree A3).row (ok_bind (P2.agree A3).row (ok_cB (f31_spec (h1.agree A03) (h2.agree A03) (h3.agree A03) (h4.agree A03) hl1 hl2 hl3 hl4 (by omega)) fun H4 A4 => ?_))
    have A04 := A03.trans A4
    have A34 := A3.trans A4
    refine ok_bift (by rw [ex_eq]; simp) ?_
    refine ok_bind (P2.agree A34).row (ok_bind (P1.agree A34).row (ok_cB (f31_spec (h3.agree A04) (h4.agree A04) (h1.agree A04) (h2.agree A04) hl3 hl4 hl1 hl2 (by omega)) fun H5 A5 => ?_))
    refine ok_bift (by rw [Bool.or_comm, ex_eq]; simp) ?_
    exact ok_cB0 (awake28 (by omega) H5) (Ok.ret ⟨rfl, trivial⟩)
  obtain ⟨H', e, _⟩ := hk
  exact ⟨_, H', e⟩
end
end Go.Proofs.MxF
end

section
set_option linter.unusedSimpArgs false
/- Functions of the program as the machine comes to them: printed by a program of this workplace (px.py); the kernel checks each line. -/
set_option linter.unusedVariables false
namespace Go.Proofs.MxF
open Go Go.Mx Go.Proofs

/- f86x85 "slices.IndexFunc[[]int,int]"  names: 0:s 1:f 2:s 3:f 5:i -/
noncomputable def f86x85.Q0 (k : Nat)  : Kont (Value × AHeap) := retQ Try.prog Try.f86
noncomputable def f86x85.Q1 (k : Nat)  : Kont (Value × AHeap) := seqQ (gateC (Sub (bodyOf Try.f86) [1, 0]) (Sub (bodyOf Try.f86) [1, 1]) k (run Try.prog (C k) k (Sub (bodyOf Try.f86) [1, 1]) (f86x85.Q0 k ))) (f86x85.Q0 k )
noncomputable def f86x85.Q2 (k : Nat)  : Kont (Value × AHeap) := blkQ 0 (f86x85.Q1 k )
noncomputable def f86x85.L1 (k : Nat) (n1 : Nat) (a0 : Option Addr) (l0 : Nat) (c0 : Nat) (p1_0 : Nat) (x7 : Int) (x8 : Int) (D : List Value) (H : AHeap) : Option (Value × AHeap) :=
  iter (run Try.prog (C k) k (Sub (bodyOf Try.f86) [1, 0, 1, 0, 0])) (f86x85.Q2 k ) n1 [.slice a0 l0 c0, .func (.func 85) #[] #[.pointer (some ⟨p1_0, 0, none⟩)], undef, undef, (D.getD 0 undef), (D.getD 1 undef), (D.getD 2 undef), .int .i64 x7, .int .i64 x8, (D.getD 3 undef), (D.getD 4 undef), (D.getD 5 undef), (D.getD 6 undef), (D.getD 7 undef), (D.getD 8 undef), (D.getD 9 undef), (D.getD 10 undef), undef, (D.getD 11 undef)] H
theorem f86x85.L1_z (k : Nat)  (a0 : Option Addr) (l0 : Nat) (c0 : Nat) (p1_0 : Nat) (x7 : Int) (x8 : Int) (D : List Value) (H : AHeap) : f86x85.L1 k 0 a0 l0 c0 p1_0 x7 x8 D H = none := by kernel_rfl
theorem f86x85.L1_s (k : Nat) (n1 : Nat) (a0 : Option Addr) (l0 : Nat) (c0 : Nat) (p1_0 : Nat) (x7 : Int) (x8 : Int) (D : List Value) (H : AHeap) : f86x85.L1 k (n1 + 1) a0 l0 c0 p1_0 x7 x8 D H =
  (bif (decide (x8 < x7)) then
   a0.bind fun q =>
   if 0 ≤ x8 ∧ x8 < (l0 : Int) then
   (ldI .i64 H q.block (q.off + x8.toNat * 1)).bind fun x =>
   cB (C k 85 [.int .i64 x, .pointer (some ⟨p1_0, 0, none⟩)] H) fun b H_1 =>
   bif b then
   some (.int .i64 x8, H_1)
   else
   f86x85.L1 k n1 a0 l0 c0 p1_0 x7 (IntKind.i64.wrap (x8 + (1 : Int))) [(D.getD 0 undef), .int .i64 x8, (D.getD 2 undef), .bool (decide (x8 < x7)), .int .i64 x8, .func (.func 85) #[] #[.pointer (some ⟨p1_0, 0, none⟩)], .slice a0 l0 c0, .int .i64 x8, .pointer (some ⟨q.block, q.off + x8.toNat * 1, none⟩), .int .i64 x, .bool b, .int .i64 (IntKind.i64.wrap (x8 + (1 : Int)))] H_1
   else none
   else
   some (.int .i64 (-1), H)) := by kernel_rfl
theorem f86x85_eq (k : Nat) (a0 : Option Addr) (l0 : Nat) (c0 : Nat) (pc0 : Nat) (H : AHeap) : C (k + 1) 86 [.slice a0 l0 c0, .func (.func 85) #[] #[.pointer (some ⟨pc0, 0, none⟩)]] H =
  (f86x85.L1 k k a0 l0 c0 pc0 (l0 : Int) 0 [.int .i64 0, undef, .slice a0 l0 c0, undef, undef, undef, undef, undef, undef, undef, undef, undef] H) := by kernel_rfl

end Go.Proofs.MxF
end

section
set_option linter.unusedSimpArgs false
/- Functions of the program as the machine comes to them: printed by a program of this workplace (px.py); the kernel checks each line. -/
set_option linter.unusedVariables false
namespace Go.Proofs.MxF
open Go Go.Mx Go.Proofs

/- f5 "interleave/interleavelaw28.LocksetSteps"  names:  -/
noncomputable def f5.Q0 (k : Nat)  : Kont (Value × AHeap) := retQ Try.prog Try.f5
noncomputable def f5.Q1 (k : Nat)  : Kont (Value × AHeap) := seqQ (gateC (Sub (bodyOf Try.f5) [1, 1, 0]) (Sub (bodyOf Try.f5) [1, 1, 1]) k (run Try.prog (C k) k (Sub (bodyOf Try.f5) [1, 1, 1]) (f5.Q0 k ))) (f5.Q0 k )
noncomputable def f5.Q2 (k : Nat)  : Kont (Value × AHeap) := blkQ 0 (f5.Q1 k )
noncomputable def f5.L1 (k : Nat) (n1 : Nat) (p3 : Nat) (p4 : Nat) (a14 : Option Addr) (l14 : Nat) (c14 : Nat) (x15 : Int) (x16 : Int) (D : List Value) (H : AHeap) : Option (Value × AHeap) :=
  iter (run Try.prog (C k) k (Sub (bodyOf Try.f5) [1, 1, 0, 1, 0, 0])) (f5.Q2 k ) n1 [(D.getD 0 undef), undef, (D.getD 1 undef), .pointer (some ⟨p3, 0, none⟩), .pointer (some ⟨p4, 0, none⟩), (D.getD 2 undef), (D.getD 3 undef), (D.getD 4 undef), (D.getD 5 undef), (D.getD 6 undef), (D.getD 7 undef), (D.getD 8 undef), (D.getD 9 undef), (D.getD 10 undef), .slice a14 l14 c14, .int .i64 x15, .int .i64 x16, (D.getD 11 undef), (D.getD 12 undef), (D.getD 13 undef), (D.getD 14 undef), (D.getD 15 undef), (D.getD 16 undef), (D.getD 17 undef), (D.getD 18 undef), (D.getD 19 undef), (D.getD 20 undef), (D.getD 21 undef), (D.getD 22 undef), (D.getD 23 undef), (D.getD 24 undef), (D.getD 25 undef), (D.getD 26 undef), (D.getD 27 undef), (D.getD 28 undef), (D.getD 29 undef), (D.getD 30 undef), (D.getD 31 undef), (D.getD 32 undef), (D.getD 33 undef), (D.getD 34 undef), (D.getD 35 undef), (D.getD 36 undef), (D.getD 37 undef), (D.getD 38 undef), (D.getD 39 undef), (D.getD 40 undef), (D.getD 41 undef), (D.getD 42 undef), (D.getD 43 undef), (D.getD 44 undef), (D.getD 45 undef), (D.getD 46 undef), (D.getD 47 undef), (D.getD 48 undef), (D.getD 49 undef), (D.getD 50 undef), (D.getD 51 undef), (D.getD 52 undef), (D.getD 53 undef), (D.getD 54 undef), (D.getD 55 undef), (D.getD 56 undef), (D.getD 57 undef), (D.getD 58 undef), (D.getD 59 undef), (D.getD 60 undef), (D.getD 61 undef), (D.getD 62 undef), (D.getD 63 undef), (D.getD 64 undef), (D.getD 65 undef), (D.getD 66 undef), (D.getD 67 undef), (D.getD 68 undef), (D.getD 69 undef), (D.getD 70 undef), (D.getD 71 undef), (D.getD 72 undef), (D.getD 73 undef), (D.getD 74 undef), (D.getD 75 undef), undef] H
theorem f5.L1_z (k : Nat)  (p3 : Nat) (p4 : Nat) (a14 : Option Addr) (l14 : Nat) (c14 : Nat) (x15 : Int) (x16 : Int) (D : List Value) (H : AHeap) : f5.L1 k 0 p3 p4 a14 l14 c14 x15 x16 D H = none := by kernel_rfl
theorem f5.L1_s (k : Nat) (n1 : Nat) (p3 : Nat) (p4 : Nat) (a14 : Option Addr) (l14 : Nat) (c14 : Nat) (x15 : Int) (x16 : Int) (D : List Value) (H : AHeap) : f5.L1 k (n1 + 1) p3 p4 a14 l14 c14 x15 x16 D H =
  (bif (decide (x16 < x15)) then
   a14.bind fun q =>
   if 0 ≤ x16 ∧ x16 < (l14 : Int) then
   (AHeap.row H q.block (q.off + x16.toNat * 3) 3).bind fun g =>
   alK none H ⟨[.int .u8 0, .int .u8 0, .int .u8 0], 0, .rw, 0⟩ fun i H_1 =>
   if notTup (.agg (g : List Value).toArray) = true ∧ (g).length = 3 then
   (AHeap.wr H_1 i (0) g).bind fun H_2 =>
   bif (decide (x16 ≥ (60 : Int))) then
   cB (C k 28 [] H_2) fun b H_3 =>
   some (.bool b, H_3)
   else
   if 0 ≤ (2 : Int) ∧ (2 : Int) < ((3 : Nat) : Int) then
   (ldI .u8 H_2 i (0 + (2 : Int).toNat * 1)).bind fun x =>
   cG (C k 23 [.int .u8 x] H_2) fun g_1 H_4 =>
   alK none H_4 ⟨[.slice none 0 0, .slice none 0 0], 0, .rw, 0⟩ fun i_1 H_5 =>
   if notTup (.agg g_1) = true ∧ (g_1.toList).length = 2 then
   (AHeap.wr H_5 i_1 (0) g_1.toList).bind fun H_6 =>
   (AHeap.row H_6 p3 (0) 3).bind fun g_2 =>
   if 0 ≤ (0 : Int) ∧ (0 : Int) < ((3 : Nat) : Int) then
   (ldI .u8 H_6 i (0 + (0 : Int).toNat * 1)).bind fun x_1 =>
   if 0 ≤ (1 : Int) ∧ (1 : Int) < ((3 : Nat) : Int) then
   (ldI .u8 H_6 i (0 + (1 : Int).toNat * 1)).bind fun x_2 =>
   (AHeap.row H_6 i_1 (0) 2).bind fun g_3 =>
   cT (C k 24 [.agg (g_2 : List Value).toArray, .int .i64 ((IntKind.i64.wrap x_1).tmod (3 : Int)), .bool ((x_2.tmod (2 : Int)) == (1 : Int)), .agg (g_3 : List Value).toArray] H_6) fun u H_7 =>
   exG (u.toList[0]?) fun g_4 =>
   exB (u.toList[1]?) fun b_1 =>
   alK none H_7 ⟨[.int .i64 0, .int .i64 0, .slice none 0 0], 0, .rw, 0⟩ fun i_2 H_8 =>
   if notTup (.agg g_4) = true ∧ (g_4.toList).length = 3 then
   (AHeap.wr H_8 i_2 (0) g_4.toList).bind fun H_9 =>
   (AHeap.row H_9 p4 (0) 3).bind fun g_5 =>
   if 0 ≤ (0 : Int) ∧ (0 : Int) < ((3 : Nat) : Int) then
   (ldI .u8 H_9 i (0 + (0 : Int).toNat * 1)).bind fun x_3 =>
   if 0 ≤ (1 : Int) ∧ (1 : Int) < ((3 : Nat) : Int) then
   (ldI .u8 H_9 i (0 + (1 : Int).toNat * 1)).bind fun x_4 =>
   (AHeap.row H_9 i_1 (0) 2).bind fun g_6 =>
   cT (C k 25 [.agg (g_5 : List Value).toArray, .int .i64 ((IntKind.i64.wrap x_3).tmod (3 : Int)), .bool ((x_4.tmod (2 : Int)) == (1 : Int)), .agg (g_6 : List Value).toArray] H_9) fun u_1 H_10 =>
   exG (u_1.toList[0]?) fun g_7 =>
   exB (u_1.toList[1]?) fun b_2 =>
   alK none H_10 ⟨[.int .i64 0, .int .i64 0, .slice none 0 0], 0, .rw, 0⟩ fun i_3 H_11 =>
   if notTup (.agg g_7) = true ∧ (g_7.toList).length = 3 then
   (AHeap.wr H_11 i_3 (0) g_7.toList).bind fun H_12 =>
   bif (!(b_1 == b_2)) then
   some (.bool false, (H_12.bump 25))
   else
   bif sameB H_12 (H_12.bump 25) i_2 then
   (AHeap.row (H_12.bump 25) i_2 (0) 3).bind fun g_8 =>
   bif sameB H_12 (H_12.bump 25) i_3 then
   (AHeap.row (H_12.bump 25) i_3 (0) 3).bind fun g_9 =>
   cB (C k 26 [.agg (g_8 : List Value).toArray, .agg (g_9 : List Value).toArray] (H_12.bump 25)) fun b_3 H_13 =>
   bif (!b_3) then
   some (.bool false, H_13)
   else
   bif sameB H_12 H_13 p3 then
   (AHeap.row H_13 p3 (0) 3).bind fun g_10 =>
   bif sameB H_12 H_13 p4 then
   (AHeap.row H_13 p4 (0) 3).bind fun g_11 =>
   cB (C k 26 [.agg (g_10 : List Value).toArray, .agg (g_11 : List Value).toArray] H_13) fun b_4 H_14 =>
   bif (!b_4) then
   some (.bool false, H_14)
   else
   if 0 ≤ (2 : Int) ∧ (2 : Int) < ((3 : Nat) : Int) then
   bif sameB H_12 H_14 i then
   (ldI .u8 H_14 i (0 + (2 : Int).toNat * 1)).bind fun x_5 =>
   cG (C k 23 [.int .u8 x_5] H_14) fun g_12 H_15 =>
   bif sameB H_12 H_15 i_1 then
   (AHeap.row H_15 i_1 (0) 2).bind fun g_13 =>
   buildSK Try.prog 49 1 [(0, .agg (g_13 : List Value).toArray)] fun g_14 z =>
   alK (some (H_12.next + 17)) H_15 ⟨g_14, z, .rw, 0⟩ fun i_4 H_16 =>
   buildSK Try.prog 49 1 [(0, .agg g_12)] fun g_15 z_1 =>
   alK (some (H_12.next + 21)) H_16 ⟨g_15, z_1, .rw, 0⟩ fun i_5 H_17 =>
   cB (C k 27 [.slice (some ⟨i_4, 0, none⟩) 1 1, .slice (some ⟨i_5, 0, none⟩) 1 1] H_17) fun b_5 H_18 =>
   bif (!b_5) then
   some (.bool false, H_18)
   else
   bif sameB H_18 (H_18.bump 4) i_2 then
   (AHeap.row (H_18.bump 4) i_2 (0) 3).bind fun g_16 =>
   if notTup (.agg (g_16 : List Value).toArray) = true ∧ (g_16).length = 3 then
   (AHeap.wr (H_18.bump 4) p3 (0) g_16).bind fun H_19 =>
   bif sameB H_18 H_19 i_3 then
   (AHeap.row H_19 i_3 (0) 3).bind fun g_17 =>
   if notTup (.agg (g_17 : List Value).toArray) = true ∧ (g_17).length = 3 then
   (AHeap.wr H_19 p4 (0) g_17).bind fun H_20 =>
   f5.L1 k n1 p3 p4 a14 l14 c14 x15 (IntKind.i64.wrap (x16 + (1 : Int))) [(D.getD 0 undef), (D.getD 1 undef), .int .i64 x16, .pointer (some ⟨i, 0, none⟩), .pointer (some ⟨i_1, 0, none⟩), .pointer (some ⟨i_2, 0, none⟩), .bool b_1, .pointer (some ⟨i_3, 0, none⟩), .bool b_2, (D.getD 9 undef), (D.getD 10 undef), .bool (decide (x16 < x15)), .int .i64 x16, .pointer (some ⟨q.block, q.off + x16.toNat * 3, none⟩), .agg (g : List Value).toArray, .int .i64 x16, .bool (decide (x16 ≥ (60 : Int))), .pointer (some ⟨i, 0 + (2 : Int).toNat * 1, none⟩), .int .u8 x, .agg g_1, .tuple u, .agg (g_2 : List Value).toArray, .pointer (some ⟨i, 0 + (0 : Int).toNat * 1, none⟩), .int .u8 x_1, .int .i64 (IntKind.i64.wrap x_1), .int .i64 ((IntKind.i64.wrap x_1).tmod (3 : Int)), .pointer (some ⟨i, 0 + (1 : Int).toNat * 1, none⟩), .int .u8 x_2, .int .u8 (x_2.tmod (2 : Int)), .bool ((x_2.tmod (2 : Int)) == (1 : Int)), .agg (g_3 : List Value).toArray, .tuple u, .agg g_4, .bool b_1, .tuple u_1, .agg (g_5 : List Value).toArray, .pointer (some ⟨i, 0 + (0 : Int).toNat * 1, none⟩), .int .u8 x_3, .int .i64 (IntKind.i64.wrap x_3), .int .i64 ((IntKind.i64.wrap x_3).tmod (3 : Int)), .pointer (some ⟨i, 0 + (1 : Int).toNat * 1, none⟩), .int .u8 x_4, .int .u8 (x_4.tmod (2 : Int)), .bool ((x_4.tmod (2 : Int)) == (1 : Int)), .agg (g_6 : List Value).toArray, .tuple u_1, .agg g_7, .bool b_2, .bool b_1, .bool b_2, .bool (!(b_1 == b_2)), .bool false, .agg (g_8 : List Value).toArray, .agg (g_9 : List Value).toArray, .bool b_3, .bool (!b_3), .bool (!b_3), .bool false, .agg (g_10 : List Value).toArray, .agg (g_11 : List Value).toArray, .bool b_4, .bool (!b_4), .bool (!b_4), .bool false, .agg (g_13 : List Value).toArray, .slice (some ⟨i_4, 0, none⟩) 1 1, .pointer (some ⟨i, 0 + (2 : Int).toNat * 1, none⟩), .int .u8 x_5, .agg g_12, .slice (some ⟨i_5, 0, none⟩) 1 1, .bool b_5, .bool (!b_5), .bool (!b_5), .agg (g_16 : List Value).toArray, .agg (g_17 : List Value).toArray, .int .i64 (IntKind.i64.wrap (x16 + (1 : Int)))] H_20
   else none
   else none
   else none
   else none
   else none
   else none
   else none
   else none
   else none
   else none
   else none
   else none
   else none
   else none
   else none
   else none
   else none
   else none
   else none
   else none
   else none
   else
   cB (C k 28 [] H) fun b_6 H_21 =>
   some (.bool b_6, H_21)) := by kernel_rfl
theorem f5_eq (k : Nat) (a0 : Option Addr) (l0 : Nat) (c0 : Nat) (H : AHeap) : C (k + 1) 5 [.slice a0 l0 c0] H =
  (alK none H ⟨[.int .i64 0, .int .i64 0, .slice none 0 0], 0, .rw, 0⟩ fun i H_1 =>
   alK none H_1 ⟨[.int .i64 0, .int .i64 0, .slice none 0 0], 0, .rw, 0⟩ fun i_1 H_2 =>
   (AHeap.wr H_2 i (0) [.int .i64 0, .int .i64 0, .slice none 0 0]).bind fun H_3 =>
   (AHeap.wr H_3 i_1 (0) [.int .i64 0, .int .i64 0, .slice none 0 0]).bind fun H_4 =>
   f5.L1 k k i i_1 a0 l0 c0 (l0 : Int) 0 [.slice a0 l0 c0, .bool false, undef, undef, undef, undef, undef, undef, undef, .agg #[.int .i64 0, .int .i64 0, .slice none 0 0], .agg #[.int .i64 0, .int .i64 0, .slice none 0 0], undef, undef, undef, undef, undef, undef, undef, undef, undef, undef, undef, undef, undef, undef, undef, undef, undef, undef, undef, undef, undef, undef, undef, undef, undef, undef, undef, undef, undef, undef, undef, undef, undef, undef, undef, undef, undef, undef, undef, undef, undef, undef, undef, undef, undef, undef, undef, undef, undef, undef, undef, undef, undef, undef, undef, undef, undef, undef, undef, undef, undef, undef, undef, undef, undef] H_4) := by kernel_rfl

end Go.Proofs.MxF
end
