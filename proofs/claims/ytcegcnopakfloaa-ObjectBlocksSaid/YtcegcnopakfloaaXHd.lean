/- Texts of this claim, laid together: Lp Sp L1 L2 K1 K2 K3 K4 T1. -/
import Derived.Test.YtcegcnopakfloaaXHc
import Derived.IntWalk
section
set_option linter.unusedSimpArgs false
/- Functions of the program as the machine comes to them: printed by a program of this workplace (px.py); the kernel checks each line. -/
set_option linter.unusedVariables false
namespace Go.Proofs.MxF
open Go Go.Mx Go.Proofs

/- f63 "slices.Contains[[]int,int]"  names: 0:s 1:v 2:s 3:v -/
theorem f63_eq (k : Nat) (a0 : Option Addr) (l0 : Nat) (c0 : Nat) (x1 : Int) (H : AHeap) : C (k + 1) 63 [.slice a0 l0 c0, .int .i64 x1] H =
  (cI .i64 (C k 87 [.slice a0 l0 c0, .int .i64 x1] H) fun x H_1 =>
   some (.bool (decide (x ≥ (0 : Int))), H_1)) := by kernel_rfl

/- f84 "slices.Compact[[]int,int]"  names: 0:s 1:s 3:k 4:s2 5:k2 -/
noncomputable def f84.Q0 (k : Nat)  : Kont (Value × AHeap) := retQ Try.prog Try.f84
noncomputable def f84.Q1 (k : Nat)  : Kont (Value × AHeap) := seqQ (gateC (Sub (bodyOf Try.f84) [1, 1, 0]) (Sub (bodyOf Try.f84) [1, 1, 1]) k (run Try.prog (C k) k (Sub (bodyOf Try.f84) [1, 1, 1]) (f84.Q0 k ))) (f84.Q0 k )
noncomputable def f84.Q2 (k : Nat)  : Kont (Value × AHeap) := blkQ 0 (f84.Q1 k )
noncomputable def f84.Q3 (k : Nat) (n1 : Nat) : Kont (Value × AHeap) := seqQ (iter (run Try.prog (C k) k (Sub (bodyOf Try.f84) [1, 1, 0, 1, 0, 0])) (f84.Q2 k ) n1) (f84.Q2 k )
noncomputable def f84.Q4 (k : Nat) (n1 : Nat) : Kont (Value × AHeap) := seqQ (gateC (Sub (bodyOf Try.f84) [1, 1, 0, 1, 0, 0, 1, 0]) (Sub (bodyOf Try.f84) [1, 1, 0, 1, 0, 0, 1, 1]) k (run Try.prog (C k) k (Sub (bodyOf Try.f84) [1, 1, 0, 1, 0, 0, 1, 1]) (f84.Q3 k n1))) (f84.Q3 k n1)
noncomputable def f84.Q5 (k : Nat) (n1 : Nat) : Kont (Value × AHeap) := blkQ 1 (f84.Q4 k n1)
noncomputable def f84.Q6 (k : Nat) (n1 : Nat) : Kont (Value × AHeap) := seqQ (gateC (Sub (bodyOf Try.f84) [1, 1, 0, 1, 0, 0, 1, 0, 0, 1, 0, 1, 0]) (Sub (bodyOf Try.f84) [1, 1, 0, 1, 0, 0, 1, 0, 0, 1, 0, 1, 1]) k (run Try.prog (C k) k (Sub (bodyOf Try.f84) [1, 1, 0, 1, 0, 0, 1, 0, 0, 1, 0, 1, 1]) (f84.Q5 k n1))) (f84.Q5 k n1)
noncomputable def f84.Q7 (k : Nat) (n1 : Nat) : Kont (Value × AHeap) := blkQ 2 (f84.Q6 k n1)
noncomputable def f84.L1 (k : Nat) (n1 : Nat) (a0 : Option Addr) (l0 : Nat) (c0 : Nat) (x3 : Int) (D : List Value) (H : AHeap) : Option (Value × AHeap) :=
  iter (run Try.prog (C k) k (Sub (bodyOf Try.f84) [1, 1, 0, 1, 0, 0])) (f84.Q2 k ) n1 [.slice a0 l0 c0, undef, (D.getD 0 undef), .int .i64 x3, undef, undef, (D.getD 1 undef), (D.getD 2 undef), (D.getD 3 undef), undef, (D.getD 4 undef), (D.getD 5 undef), (D.getD 6 undef), (D.getD 7 undef), (D.getD 8 undef), (D.getD 9 undef), (D.getD 10 undef), (D.getD 11 undef), (D.getD 12 undef), (D.getD 13 undef), (D.getD 14 undef), (D.getD 15 undef), (D.getD 16 undef), (D.getD 17 undef), (D.getD 18 undef), (D.getD 19 undef), undef, undef, undef, undef, undef, undef, undef, undef, undef, undef, undef, undef, undef, undef, undef, undef, undef, undef, undef, undef, undef, undef, undef, undef, undef, undef, undef, undef, undef, undef, undef, undef, undef, undef, undef] H
noncomputable def f84.L2 (k : Nat) (n1 : Nat) (n2 : Nat) (a0 : Option Addr) (l0 : Nat) (c0 : Nat) (x3 : Int) (a4 : Option Addr) (l4 : Nat) (c4 : Nat) (x5 : Int) (D : List Value) (H : AHeap) : Option (Value × AHeap) :=
  iter (run Try.prog (C k) k (Sub (bodyOf Try.f84) [1, 1, 0, 1, 0, 0, 1, 0, 0, 1, 0, 1, 0, 1, 0, 0])) (f84.Q7 k n1) n2 [.slice a0 l0 c0, undef, (D.getD 0 undef), .int .i64 x3, .slice a4 l4 c4, .int .i64 x5, (D.getD 1 undef), (D.getD 2 undef), (D.getD 3 undef), undef, (D.getD 4 undef), (D.getD 5 undef), (D.getD 6 undef), (D.getD 7 undef), (D.getD 8 undef), (D.getD 9 undef), (D.getD 10 undef), (D.getD 11 undef), (D.getD 12 undef), (D.getD 13 undef), (D.getD 14 undef), (D.getD 15 undef), (D.getD 16 undef), (D.getD 17 undef), (D.getD 18 undef), (D.getD 19 undef), (D.getD 20 undef), (D.getD 21 undef), (D.getD 22 undef), (D.getD 23 undef), (D.getD 24 undef), (D.getD 25 undef), (D.getD 26 undef), (D.getD 27 undef), (D.getD 28 undef), (D.getD 29 undef), (D.getD 30 undef), (D.getD 31 undef), (D.getD 32 undef), (D.getD 33 undef), (D.getD 34 undef), (D.getD 35 undef), (D.getD 36 undef), (D.getD 37 undef), (D.getD 38 undef), (D.getD 39 undef), (D.getD 40 undef), (D.getD 41 undef), (D.getD 42 undef), (D.getD 43 undef), (D.getD 44 undef), (D.getD 45 undef), (D.getD 46 undef), (D.getD 47 undef), undef, undef, undef, undef, undef, undef, undef] H
theorem f84.L1_z (k : Nat)  (a0 : Option Addr) (l0 : Nat) (c0 : Nat) (x3 : Int) (D : List Value) (H : AHeap) : f84.L1 k 0 a0 l0 c0 x3 D H = none := by kernel_rfl
theorem f84.L1_s (k : Nat) (n1 : Nat) (a0 : Option Addr) (l0 : Nat) (c0 : Nat) (x3 : Int) (D : List Value) (H : AHeap) : f84.L1 k (n1 + 1) a0 l0 c0 x3 D H =
  (bif (decide (x3 < (l0 : Int))) then
   a0.bind fun q =>
   if 0 ≤ x3 ∧ x3 < (l0 : Int) then
   bif sameB H (H.bump 10) q.block then
   (ldI .i64 (H.bump 10) q.block (q.off + x3.toNat * 1)).bind fun x =>
   a0.bind fun q_1 =>
   if 0 ≤ (IntKind.i64.wrap (x3 - (1 : Int))) ∧ (IntKind.i64.wrap (x3 - (1 : Int))) < (l0 : Int) then
   bif sameB H (H.bump 10) q_1.block then
   (ldI .i64 (H.bump 10) q_1.block (q_1.off + (IntKind.i64.wrap (x3 - (1 : Int))).toNat * 1)).bind fun x_1 =>
   bif (x == x_1) then
   bSl (cutSl 1 a0 l0 c0 (some x3) none none) fun a l c =>
   f84.L2 k n1 k a0 l0 c0 x3 a l c 1 [(D.getD 0 undef), (D.getD 1 undef), (D.getD 2 undef), (D.getD 3 undef), .int .i64 x3, .slice a0 l0 c0, .int .i64 (l0 : Int), .bool (decide (x3 < (l0 : Int))), (D.getD 8 undef), (D.getD 9 undef), .slice a0 l0 c0, .int .i64 x3, .pointer (some ⟨q.block, q.off + x3.toNat * 1, none⟩), .int .i64 x, .slice a0 l0 c0, .int .i64 x3, .int .i64 (IntKind.i64.wrap (x3 - (1 : Int))), .pointer (some ⟨q_1.block, q_1.off + (IntKind.i64.wrap (x3 - (1 : Int))).toNat * 1, none⟩), .int .i64 x_1, .bool (x == x_1), .slice a0 l0 c0, .int .i64 x3, .slice a l c, undef, undef, undef, undef, undef, undef, undef, undef, undef, undef, undef, undef, undef, undef, undef, undef, undef, undef, undef, undef, undef, undef, undef, undef, undef] (H.bump 10)
   else
   f84.L1 k n1 a0 l0 c0 (IntKind.i64.wrap (x3 + (1 : Int))) [(D.getD 0 undef), (D.getD 1 undef), (D.getD 2 undef), (D.getD 3 undef), .int .i64 x3, .slice a0 l0 c0, .int .i64 (l0 : Int), .bool (decide (x3 < (l0 : Int))), .int .i64 x3, .int .i64 (IntKind.i64.wrap (x3 + (1 : Int))), .slice a0 l0 c0, .int .i64 x3, .pointer (some ⟨q.block, q.off + x3.toNat * 1, none⟩), .int .i64 x, .slice a0 l0 c0, .int .i64 x3, .int .i64 (IntKind.i64.wrap (x3 - (1 : Int))), .pointer (some ⟨q_1.block, q_1.off + (IntKind.i64.wrap (x3 - (1 : Int))).toNat * 1, none⟩), .int .i64 x_1, .bool (x == x_1)] (H.bump 10)
   else none
   else none
   else none
   else none
   else
   some (.slice a0 l0 c0, H)) := by kernel_rfl
theorem f84.L2_z (k : Nat) (n1 : Nat) (a0 : Option Addr) (l0 : Nat) (c0 : Nat) (x3 : Int) (a4 : Option Addr) (l4 : Nat) (c4 : Nat) (x5 : Int) (D : List Value) (H : AHeap) : f84.L2 k n1 0 a0 l0 c0 x3 a4 l4 c4 x5 D H = none := by kernel_rfl
theorem f84.L2_s (k : Nat) (n1 : Nat) (n2 : Nat) (a0 : Option Addr) (l0 : Nat) (c0 : Nat) (x3 : Int) (a4 : Option Addr) (l4 : Nat) (c4 : Nat) (x5 : Int) (D : List Value) (H : AHeap) : f84.L2 k n1 (n2 + 1) a0 l0 c0 x3 a4 l4 c4 x5 D H =
  (bif (decide (x5 < (l4 : Int))) then
   a4.bind fun q =>
   if 0 ≤ x5 ∧ x5 < (l4 : Int) then
   bif sameB H (H.bump 10) q.block then
   (ldI .i64 (H.bump 10) q.block (q.off + x5.toNat * 1)).bind fun x =>
   a4.bind fun q_1 =>
   if 0 ≤ (IntKind.i64.wrap (x5 - (1 : Int))) ∧ (IntKind.i64.wrap (x5 - (1 : Int))) < (l4 : Int) then
   bif sameB H (H.bump 10) q_1.block then
   (ldI .i64 (H.bump 10) q_1.block (q_1.off + (IntKind.i64.wrap (x5 - (1 : Int))).toNat * 1)).bind fun x_1 =>
   bif (x != x_1) then
   a4.bind fun q_2 =>
   if 0 ≤ x5 ∧ x5 < (l4 : Int) then
   (ldI .i64 (H.bump 10) q_2.block (q_2.off + x5.toNat * 1)).bind fun x_2 =>
   a0.bind fun q_3 =>
   if 0 ≤ x3 ∧ x3 < (l0 : Int) then
   (AHeap.wr (H.bump 10) q_3.block (q_3.off + x3.toNat * 1) [.int .i64 x_2]).bind fun H_1 =>
   f84.L2 k n1 n2 a0 l0 c0 (IntKind.i64.wrap (x3 + (1 : Int))) a4 l4 c4 (IntKind.i64.wrap (x5 + (1 : Int))) [(D.getD 0 undef), (D.getD 1 undef), (D.getD 2 undef), (D.getD 3 undef), (D.getD 4 undef), (D.getD 5 undef), (D.getD 6 undef), (D.getD 7 undef), (D.getD 8 undef), (D.getD 9 undef), (D.getD 10 undef), (D.getD 11 undef), (D.getD 12 undef), (D.getD 13 undef), (D.getD 14 undef), (D.getD 15 undef), (D.getD 16 undef), (D.getD 17 undef), (D.getD 18 undef), (D.getD 19 undef), (D.getD 20 undef), (D.getD 21 undef), (D.getD 22 undef), .int .i64 x5, .slice a4 l4 c4, .int .i64 (l4 : Int), .bool (decide (x5 < (l4 : Int))), .int .i64 x5, .int .i64 (IntKind.i64.wrap (x5 + (1 : Int))), .slice a4 l4 c4, .int .i64 x5, .pointer (some ⟨q.block, q.off + x5.toNat * 1, none⟩), .int .i64 x, .slice a4 l4 c4, .int .i64 x5, .int .i64 (IntKind.i64.wrap (x5 - (1 : Int))), .pointer (some ⟨q_1.block, q_1.off + (IntKind.i64.wrap (x5 - (1 : Int))).toNat * 1, none⟩), .int .i64 x_1, .bool (x != x_1), .slice a0 l0 c0, .int .i64 x3, .slice a4 l4 c4, .int .i64 x5, .pointer (some ⟨q_2.block, q_2.off + x5.toNat * 1, none⟩), .int .i64 x_2, .pointer (some ⟨q_3.block, q_3.off + x3.toNat * 1, none⟩), .int .i64 x3, .int .i64 (IntKind.i64.wrap (x3 + (1 : Int)))] H_1
   else none
   else none
   else
   f84.L2 k n1 n2 a0 l0 c0 x3 a4 l4 c4 (IntKind.i64.wrap (x5 + (1 : Int))) [(D.getD 0 undef), (D.getD 1 undef), (D.getD 2 undef), (D.getD 3 undef), (D.getD 4 undef), (D.getD 5 undef), (D.getD 6 undef), (D.getD 7 undef), (D.getD 8 undef), (D.getD 9 undef), (D.getD 10 undef), (D.getD 11 undef), (D.getD 12 undef), (D.getD 13 undef), (D.getD 14 undef), (D.getD 15 undef), (D.getD 16 undef), (D.getD 17 undef), (D.getD 18 undef), (D.getD 19 undef), (D.getD 20 undef), (D.getD 21 undef), (D.getD 22 undef), .int .i64 x5, .slice a4 l4 c4, .int .i64 (l4 : Int), .bool (decide (x5 < (l4 : Int))), .int .i64 x5, .int .i64 (IntKind.i64.wrap (x5 + (1 : Int))), .slice a4 l4 c4, .int .i64 x5, .pointer (some ⟨q.block, q.off + x5.toNat * 1, none⟩), .int .i64 x, .slice a4 l4 c4, .int .i64 x5, .int .i64 (IntKind.i64.wrap (x5 - (1 : Int))), .pointer (some ⟨q_1.block, q_1.off + (IntKind.i64.wrap (x5 - (1 : Int))).toNat * 1, none⟩), .int .i64 x_1, .bool (x != x_1), (D.getD 39 undef), (D.getD 40 undef), (D.getD 41 undef), (D.getD 42 undef), (D.getD 43 undef), (D.getD 44 undef), (D.getD 45 undef), (D.getD 46 undef), (D.getD 47 undef)] (H.bump 10)
   else none
   else none
   else none
   else none
   else
   bSl (cutSl 1 a0 l0 c0 (some x3) none none) fun a l c =>
   (clearV Try.prog [26] H (.slice a l c)).bind fun H_2 =>
   bSl (cutSl 1 a0 l0 c0 none (some x3) none) fun a_1 l_1 c_1 =>
   some (.slice a_1 l_1 c_1, H_2)) := by kernel_rfl
theorem f84_eq (k : Nat) (a0 : Option Addr) (l0 : Nat) (c0 : Nat) (H : AHeap) : C (k + 1) 84 [.slice a0 l0 c0] H =
  (bif (decide ((l0 : Int) < (2 : Int))) then
   some (.slice a0 l0 c0, H)
   else
   f84.L1 k k a0 l0 c0 1 [.slice none 0 0, .slice a0 l0 c0, .int .i64 (l0 : Int), .bool (decide ((l0 : Int) < (2 : Int))), undef, undef, undef, undef, undef, undef, undef, undef, undef, undef, undef, undef, undef, undef, undef, undef] H) := by kernel_rfl

/- f87 "slices.Index[[]int,int]"  names: 0:s 1:v 2:s 3:v 5:i -/
noncomputable def f87.Q0 (k : Nat)  : Kont (Value × AHeap) := retQ Try.prog Try.f87
noncomputable def f87.Q1 (k : Nat)  : Kont (Value × AHeap) := seqQ (gateC (Sub (bodyOf Try.f87) [1, 0]) (Sub (bodyOf Try.f87) [1, 1]) k (run Try.prog (C k) k (Sub (bodyOf Try.f87) [1, 1]) (f87.Q0 k ))) (f87.Q0 k )
noncomputable def f87.Q2 (k : Nat)  : Kont (Value × AHeap) := blkQ 0 (f87.Q1 k )
noncomputable def f87.L1 (k : Nat) (n1 : Nat) (a0 : Option Addr) (l0 : Nat) (c0 : Nat) (x1 : Int) (x7 : Int) (x8 : Int) (D : List Value) (H : AHeap) : Option (Value × AHeap) :=
  iter (run Try.prog (C k) k (Sub (bodyOf Try.f87) [1, 0, 1, 0, 0])) (f87.Q2 k ) n1 [.slice a0 l0 c0, .int .i64 x1, undef, undef, (D.getD 0 undef), (D.getD 1 undef), (D.getD 2 undef), .int .i64 x7, .int .i64 x8, (D.getD 3 undef), (D.getD 4 undef), (D.getD 5 undef), (D.getD 6 undef), (D.getD 7 undef), (D.getD 8 undef), (D.getD 9 undef), (D.getD 10 undef), undef, (D.getD 11 undef)] H
theorem f87.L1_z (k : Nat)  (a0 : Option Addr) (l0 : Nat) (c0 : Nat) (x1 : Int) (x7 : Int) (x8 : Int) (D : List Value) (H : AHeap) : f87.L1 k 0 a0 l0 c0 x1 x7 x8 D H = none := by kernel_rfl
theorem f87.L1_s (k : Nat) (n1 : Nat) (a0 : Option Addr) (l0 : Nat) (c0 : Nat) (x1 : Int) (x7 : Int) (x8 : Int) (D : List Value) (H : AHeap) : f87.L1 k (n1 + 1) a0 l0 c0 x1 x7 x8 D H =
  (bif (decide (x8 < x7)) then
   a0.bind fun q =>
   if 0 ≤ x8 ∧ x8 < (l0 : Int) then
   (ldI .i64 H q.block (q.off + x8.toNat * 1)).bind fun x =>
   bif (x1 == x) then
   some (.int .i64 x8, H)
   else
   f87.L1 k n1 a0 l0 c0 x1 x7 (IntKind.i64.wrap (x8 + (1 : Int))) [(D.getD 0 undef), .int .i64 x8, (D.getD 2 undef), .bool (decide (x8 < x7)), .int .i64 x8, .int .i64 x1, .slice a0 l0 c0, .int .i64 x8, .pointer (some ⟨q.block, q.off + x8.toNat * 1, none⟩), .int .i64 x, .bool (x1 == x), .int .i64 (IntKind.i64.wrap (x8 + (1 : Int)))] H
   else none
   else
   some (.int .i64 (-1), H)) := by kernel_rfl
theorem f87_eq (k : Nat) (a0 : Option Addr) (l0 : Nat) (c0 : Nat) (x1 : Int) (H : AHeap) : C (k + 1) 87 [.slice a0 l0 c0, .int .i64 x1] H =
  (f87.L1 k k a0 l0 c0 x1 (l0 : Int) 0 [.int .i64 0, undef, .slice a0 l0 c0, undef, undef, undef, undef, undef, undef, undef, undef, undef] H) := by kernel_rfl


end Go.Proofs.MxF
end

section
set_option linter.unusedSimpArgs false
/- Functions of the program as the machine comes to them: printed by a program of this workplace (px.py); the kernel checks each line. -/
set_option linter.unusedVariables false
namespace Go.Proofs.MxF
open Go Go.Mx Go.Proofs

/- f83 "slices.Sort[[]int,int]"  names: 0:x 1:x 2:n -/
theorem f83_eq (k : Nat) (a0 : Option Addr) (l0 : Nat) (c0 : Nat) (H : AHeap) : C (k + 1) 83 [.slice a0 l0 c0] H =
  (cI .i64 (C k 97 [.int .u64 (IntKind.u64.wrap (l0 : Int))] H) fun x H_1 =>
   cT (C k 96 [.slice a0 l0 c0, .int .i64 0, .int .i64 (l0 : Int), .int .i64 x] H_1) fun u H_2 =>
   some (.tuple #[], H_2)) := by kernel_rfl

/- f96 "slices.pdqsortOrdered[int]"  names:  -/
noncomputable def f96.Q0 (k : Nat)  : Kont (Value × AHeap) := retQ Try.prog Try.f96
noncomputable def f96.Q1 (k : Nat)  : Kont (Value × AHeap) := blkQ 0 (f96.Q0 k )
noncomputable def f96.Q2 (k : Nat) (n1 : Nat) : Kont (Value × AHeap) := seqQ (iter (run Try.prog (C k) k (Sub (bodyOf Try.f96) [1, 1, 0, 0])) (f96.Q1 k ) n1) (f96.Q1 k )
noncomputable def f96.Q3 (k : Nat) (n1 : Nat) : Kont (Value × AHeap) := blkQ 1 (f96.Q2 k n1)
noncomputable def f96.Q4 (k : Nat) (n1 : Nat) : Kont (Value × AHeap) := seqQ (gateC (Sub (bodyOf Try.f96) [1, 1, 0, 0, 0, 1, 1, 1, 1, 1, 1, 1, 0]) (Sub (bodyOf Try.f96) [1, 1, 0, 0, 0, 1, 1, 1, 1, 1, 1, 1, 1]) k (run Try.prog (C k) k (Sub (bodyOf Try.f96) [1, 1, 0, 0, 0, 1, 1, 1, 1, 1, 1, 1, 1]) (f96.Q3 k n1))) (f96.Q3 k n1)
noncomputable def f96.L1 (k : Nat) (n1 : Nat) (a0 : Option Addr) (l0 : Nat) (c0 : Nat) (x1 : Int) (x2 : Int) (x3 : Int) (b8 : Bool) (b9 : Bool) (D : List Value) (H : AHeap) : Option (Value × AHeap) :=
  iter (run Try.prog (C k) k (Sub (bodyOf Try.f96) [1, 1, 0, 0])) (f96.Q1 k ) n1 [.slice a0 l0 c0, .int .i64 x1, .int .i64 x2, .int .i64 x3, undef, undef, undef, undef, .bool b8, .bool b9, (D.getD 0 undef), (D.getD 1 undef), (D.getD 2 undef), (D.getD 3 undef), (D.getD 4 undef), (D.getD 5 undef), (D.getD 6 undef), (D.getD 7 undef), (D.getD 8 undef), (D.getD 9 undef), (D.getD 10 undef), (D.getD 11 undef), (D.getD 12 undef), (D.getD 13 undef), undef, undef, undef, undef, (D.getD 14 undef), (D.getD 15 undef), undef, undef, undef, undef, (D.getD 16 undef), (D.getD 17 undef), (D.getD 18 undef), (D.getD 19 undef), (D.getD 20 undef), (D.getD 21 undef), (D.getD 22 undef), (D.getD 23 undef), (D.getD 24 undef), (D.getD 25 undef), (D.getD 26 undef), (D.getD 27 undef), (D.getD 28 undef), (D.getD 29 undef), (D.getD 30 undef), (D.getD 31 undef), (D.getD 32 undef), (D.getD 33 undef), (D.getD 34 undef), (D.getD 35 undef), (D.getD 36 undef), (D.getD 37 undef), (D.getD 38 undef), (D.getD 39 undef), (D.getD 40 undef), (D.getD 41 undef), (D.getD 42 undef), (D.getD 43 undef), (D.getD 44 undef), (D.getD 45 undef), (D.getD 46 undef), (D.getD 47 undef), (D.getD 48 undef), (D.getD 49 undef), (D.getD 50 undef), (D.getD 51 undef), (D.getD 52 undef), (D.getD 53 undef), (D.getD 54 undef), (D.getD 55 undef), (D.getD 56 undef), (D.getD 57 undef), (D.getD 58 undef), (D.getD 59 undef), (D.getD 60 undef), (D.getD 61 undef), (D.getD 62 undef), (D.getD 63 undef), (D.getD 64 undef), (D.getD 65 undef), (D.getD 66 undef), (D.getD 67 undef), (D.getD 68 undef), (D.getD 69 undef), (D.getD 70 undef), (D.getD 71 undef), (D.getD 72 undef), (D.getD 73 undef), (D.getD 74 undef), (D.getD 75 undef), (D.getD 76 undef), (D.getD 77 undef), (D.getD 78 undef), (D.getD 79 undef), (D.getD 80 undef), (D.getD 81 undef), (D.getD 82 undef), (D.getD 83 undef), (D.getD 84 undef), (D.getD 85 undef), (D.getD 86 undef), (D.getD 87 undef), (D.getD 88 undef), (D.getD 89 undef), (D.getD 90 undef), (D.getD 91 undef), (D.getD 92 undef), (D.getD 93 undef), (D.getD 94 undef), (D.getD 95 undef), (D.getD 96 undef), (D.getD 97 undef), (D.getD 98 undef), (D.getD 99 undef), (D.getD 100 undef), (D.getD 101 undef), (D.getD 102 undef), (D.getD 103 undef), (D.getD 104 undef), (D.getD 105 undef), (D.getD 106 undef), (D.getD 107 undef), (D.getD 108 undef), (D.getD 109 undef), (D.getD 110 undef), (D.getD 111 undef), (D.getD 112 undef), (D.getD 113 undef), (D.getD 114 undef), (D.getD 115 undef)] H
noncomputable def f96.K1 (k : Nat) (n1 : Nat) (a0 : Option Addr) (l0 : Nat) (c0 : Nat) (x1 : Int) (x2 : Int) (x3 : Int) (b8 : Bool) (b9 : Bool) (x10 : Int) (D : List Value) (H : AHeap) : Option (Value × AHeap) :=
  gateC (Sub (bodyOf Try.f96) [1, 1, 0, 0, 0, 1, 1, 1, 0]) (Sub (bodyOf Try.f96) [1, 1, 0, 0, 0, 1, 1, 1, 1]) k (run Try.prog (C k) k (Sub (bodyOf Try.f96) [1, 1, 0, 0, 0, 1, 1, 1, 1]) (f96.Q3 k n1)) [.slice a0 l0 c0, .int .i64 x1, .int .i64 x2, .int .i64 x3, undef, undef, undef, undef, .bool b8, .bool b9, .int .i64 x10, (D.getD 0 undef), (D.getD 1 undef), (D.getD 2 undef), (D.getD 3 undef), (D.getD 4 undef), (D.getD 5 undef), (D.getD 6 undef), (D.getD 7 undef), (D.getD 8 undef), (D.getD 9 undef), (D.getD 10 undef), (D.getD 11 undef), (D.getD 12 undef), undef, undef, undef, undef, (D.getD 13 undef), (D.getD 14 undef), undef, undef, undef, undef, (D.getD 15 undef), (D.getD 16 undef), (D.getD 17 undef), (D.getD 18 undef), (D.getD 19 undef), (D.getD 20 undef), (D.getD 21 undef), (D.getD 22 undef), (D.getD 23 undef), (D.getD 24 undef), (D.getD 25 undef), (D.getD 26 undef), (D.getD 27 undef), (D.getD 28 undef), (D.getD 29 undef), (D.getD 30 undef), (D.getD 31 undef), (D.getD 32 undef), (D.getD 33 undef), (D.getD 34 undef), (D.getD 35 undef), (D.getD 36 undef), (D.getD 37 undef), (D.getD 38 undef), (D.getD 39 undef), (D.getD 40 undef), (D.getD 41 undef), (D.getD 42 undef), (D.getD 43 undef), (D.getD 44 undef), (D.getD 45 undef), (D.getD 46 undef), (D.getD 47 undef), (D.getD 48 undef), (D.getD 49 undef), (D.getD 50 undef), (D.getD 51 undef), (D.getD 52 undef), (D.getD 53 undef), (D.getD 54 undef), (D.getD 55 undef), (D.getD 56 undef), (D.getD 57 undef), (D.getD 58 undef), (D.getD 59 undef), (D.getD 60 undef), (D.getD 61 undef), (D.getD 62 undef), (D.getD 63 undef), (D.getD 64 undef), (D.getD 65 undef), (D.getD 66 undef), (D.getD 67 undef), (D.getD 68 undef), (D.getD 69 undef), (D.getD 70 undef), (D.getD 71 undef), (D.getD 72 undef), (D.getD 73 undef), (D.getD 74 undef), (D.getD 75 undef), (D.getD 76 undef), (D.getD 77 undef), (D.getD 78 undef), (D.getD 79 undef), (D.getD 80 undef), (D.getD 81 undef), (D.getD 82 undef), (D.getD 83 undef), (D.getD 84 undef), (D.getD 85 undef), (D.getD 86 undef), (D.getD 87 undef), (D.getD 88 undef), (D.getD 89 undef), (D.getD 90 undef), (D.getD 91 undef), (D.getD 92 undef), (D.getD 93 undef), (D.getD 94 undef), (D.getD 95 undef), (D.getD 96 undef), (D.getD 97 undef), (D.getD 98 undef), (D.getD 99 undef), (D.getD 100 undef), (D.getD 101 undef), (D.getD 102 undef), (D.getD 103 undef), (D.getD 104 undef), (D.getD 105 undef), (D.getD 106 undef), (D.getD 107 undef), (D.getD 108 undef), (D.getD 109 undef), (D.getD 110 undef), (D.getD 111 undef), (D.getD 112 undef), (D.getD 113 undef), (D.getD 114 undef)] H
noncomputable def f96.K2 (k : Nat) (n1 : Nat) (a0 : Option Addr) (l0 : Nat) (c0 : Nat) (x1 : Int) (x2 : Int) (x3 : Int) (b8 : Bool) (b9 : Bool) (x10 : Int) (x11 : Int) (x12 : Int) (D : List Value) (H : AHeap) : Option (Value × AHeap) :=
  gateC (Sub (bodyOf Try.f96) [1, 1, 0, 0, 0, 1, 1, 1, 1, 1, 0]) (Sub (bodyOf Try.f96) [1, 1, 0, 0, 0, 1, 1, 1, 1, 1, 1]) k (run Try.prog (C k) k (Sub (bodyOf Try.f96) [1, 1, 0, 0, 0, 1, 1, 1, 1, 1, 1]) (f96.Q3 k n1)) [.slice a0 l0 c0, .int .i64 x1, .int .i64 x2, .int .i64 x3, undef, undef, undef, undef, .bool b8, .bool b9, .int .i64 x10, .int .i64 x11, .int .i64 x12, (D.getD 0 undef), (D.getD 1 undef), (D.getD 2 undef), (D.getD 3 undef), (D.getD 4 undef), (D.getD 5 undef), (D.getD 6 undef), (D.getD 7 undef), (D.getD 8 undef), (D.getD 9 undef), (D.getD 10 undef), undef, undef, undef, undef, (D.getD 11 undef), (D.getD 12 undef), undef, undef, undef, undef, (D.getD 13 undef), (D.getD 14 undef), (D.getD 15 undef), (D.getD 16 undef), (D.getD 17 undef), (D.getD 18 undef), (D.getD 19 undef), (D.getD 20 undef), (D.getD 21 undef), (D.getD 22 undef), (D.getD 23 undef), (D.getD 24 undef), (D.getD 25 undef), (D.getD 26 undef), (D.getD 27 undef), (D.getD 28 undef), (D.getD 29 undef), (D.getD 30 undef), (D.getD 31 undef), (D.getD 32 undef), (D.getD 33 undef), (D.getD 34 undef), (D.getD 35 undef), (D.getD 36 undef), (D.getD 37 undef), (D.getD 38 undef), (D.getD 39 undef), (D.getD 40 undef), (D.getD 41 undef), (D.getD 42 undef), (D.getD 43 undef), (D.getD 44 undef), (D.getD 45 undef), (D.getD 46 undef), (D.getD 47 undef), (D.getD 48 undef), (D.getD 49 undef), (D.getD 50 undef), (D.getD 51 undef), (D.getD 52 undef), (D.getD 53 undef), (D.getD 54 undef), (D.getD 55 undef), (D.getD 56 undef), (D.getD 57 undef), (D.getD 58 undef), (D.getD 59 undef), (D.getD 60 undef), (D.getD 61 undef), (D.getD 62 undef), (D.getD 63 undef), (D.getD 64 undef), (D.getD 65 undef), (D.getD 66 undef), (D.getD 67 undef), (D.getD 68 undef), (D.getD 69 undef), (D.getD 70 undef), (D.getD 71 undef), (D.getD 72 undef), (D.getD 73 undef), (D.getD 74 undef), (D.getD 75 undef), (D.getD 76 undef), (D.getD 77 undef), (D.getD 78 undef), (D.getD 79 undef), (D.getD 80 undef), (D.getD 81 undef), (D.getD 82 undef), (D.getD 83 undef), (D.getD 84 undef), (D.getD 85 undef), (D.getD 86 undef), (D.getD 87 undef), (D.getD 88 undef), (D.getD 89 undef), (D.getD 90 undef), (D.getD 91 undef), (D.getD 92 undef), (D.getD 93 undef), (D.getD 94 undef), (D.getD 95 undef), (D.getD 96 undef), (D.getD 97 undef), (D.getD 98 undef), (D.getD 99 undef), (D.getD 100 undef), (D.getD 101 undef), (D.getD 102 undef), (D.getD 103 undef), (D.getD 104 undef), (D.getD 105 undef), (D.getD 106 undef), (D.getD 107 undef), (D.getD 108 undef), (D.getD 109 undef), (D.getD 110 undef), (D.getD 111 undef), (D.getD 112 undef)] H
noncomputable def f96.K3 (k : Nat) (n1 : Nat) (a0 : Option Addr) (l0 : Nat) (c0 : Nat) (x1 : Int) (x2 : Int) (x3 : Int) (b8 : Bool) (b9 : Bool) (x10 : Int) (x11 : Int) (D : List Value) (H : AHeap) : Option (Value × AHeap) :=
  gateC (Sub (bodyOf Try.f96) [1, 1, 0, 0, 0, 1, 1, 1, 1, 1, 1, 0]) (Sub (bodyOf Try.f96) [1, 1, 0, 0, 0, 1, 1, 1, 1, 1, 1, 1]) k (run Try.prog (C k) k (Sub (bodyOf Try.f96) [1, 1, 0, 0, 0, 1, 1, 1, 1, 1, 1, 1]) (f96.Q3 k n1)) [.slice a0 l0 c0, .int .i64 x1, .int .i64 x2, .int .i64 x3, undef, undef, undef, undef, .bool b8, .bool b9, .int .i64 x10, .int .i64 x11, (D.getD 0 undef), (D.getD 1 undef), (D.getD 2 undef), (D.getD 3 undef), (D.getD 4 undef), (D.getD 5 undef), (D.getD 6 undef), (D.getD 7 undef), (D.getD 8 undef), (D.getD 9 undef), (D.getD 10 undef), (D.getD 11 undef), undef, undef, undef, undef, (D.getD 12 undef), (D.getD 13 undef), undef, undef, undef, undef, (D.getD 14 undef), (D.getD 15 undef), (D.getD 16 undef), (D.getD 17 undef), (D.getD 18 undef), (D.getD 19 undef), (D.getD 20 undef), (D.getD 21 undef), (D.getD 22 undef), (D.getD 23 undef), (D.getD 24 undef), (D.getD 25 undef), (D.getD 26 undef), (D.getD 27 undef), (D.getD 28 undef), (D.getD 29 undef), (D.getD 30 undef), (D.getD 31 undef), (D.getD 32 undef), (D.getD 33 undef), (D.getD 34 undef), (D.getD 35 undef), (D.getD 36 undef), (D.getD 37 undef), (D.getD 38 undef), (D.getD 39 undef), (D.getD 40 undef), (D.getD 41 undef), (D.getD 42 undef), (D.getD 43 undef), (D.getD 44 undef), (D.getD 45 undef), (D.getD 46 undef), (D.getD 47 undef), (D.getD 48 undef), (D.getD 49 undef), (D.getD 50 undef), (D.getD 51 undef), (D.getD 52 undef), (D.getD 53 undef), (D.getD 54 undef), (D.getD 55 undef), (D.getD 56 undef), (D.getD 57 undef), (D.getD 58 undef), (D.getD 59 undef), (D.getD 60 undef), (D.getD 61 undef), (D.getD 62 undef), (D.getD 63 undef), (D.getD 64 undef), (D.getD 65 undef), (D.getD 66 undef), (D.getD 67 undef), (D.getD 68 undef), (D.getD 69 undef), (D.getD 70 undef), (D.getD 71 undef), (D.getD 72 undef), (D.getD 73 undef), (D.getD 74 undef), (D.getD 75 undef), (D.getD 76 undef), (D.getD 77 undef), (D.getD 78 undef), (D.getD 79 undef), (D.getD 80 undef), (D.getD 81 undef), (D.getD 82 undef), (D.getD 83 undef), (D.getD 84 undef), (D.getD 85 undef), (D.getD 86 undef), (D.getD 87 undef), (D.getD 88 undef), (D.getD 89 undef), (D.getD 90 undef), (D.getD 91 undef), (D.getD 92 undef), (D.getD 93 undef), (D.getD 94 undef), (D.getD 95 undef), (D.getD 96 undef), (D.getD 97 undef), (D.getD 98 undef), (D.getD 99 undef), (D.getD 100 undef), (D.getD 101 undef), (D.getD 102 undef), (D.getD 103 undef), (D.getD 104 undef), (D.getD 105 undef), (D.getD 106 undef), (D.getD 107 undef), (D.getD 108 undef), (D.getD 109 undef), (D.getD 110 undef), (D.getD 111 undef), (D.getD 112 undef), (D.getD 113 undef)] H
noncomputable def f96.K4 (k : Nat) (n1 : Nat) (a0 : Option Addr) (l0 : Nat) (c0 : Nat) (x1 : Int) (x2 : Int) (x3 : Int) (b8 : Bool) (b9 : Bool) (x10 : Int) (x11 : Int) (b87 : Bool) (D : List Value) (H : AHeap) : Option (Value × AHeap) :=
  gateC (Sub (bodyOf Try.f96) [1, 1, 0, 0, 0, 1, 1, 1, 1, 1, 1, 1, 0, 0]) (Sub (bodyOf Try.f96) [1, 1, 0, 0, 0, 1, 1, 1, 1, 1, 1, 1, 0, 1]) k (run Try.prog (C k) k (Sub (bodyOf Try.f96) [1, 1, 0, 0, 0, 1, 1, 1, 1, 1, 1, 1, 0, 1]) (f96.Q4 k n1)) [.slice a0 l0 c0, .int .i64 x1, .int .i64 x2, .int .i64 x3, undef, undef, undef, undef, .bool b8, .bool b9, .int .i64 x10, .int .i64 x11, (D.getD 0 undef), (D.getD 1 undef), (D.getD 2 undef), (D.getD 3 undef), (D.getD 4 undef), (D.getD 5 undef), (D.getD 6 undef), (D.getD 7 undef), (D.getD 8 undef), (D.getD 9 undef), (D.getD 10 undef), (D.getD 11 undef), undef, undef, undef, undef, (D.getD 12 undef), (D.getD 13 undef), undef, undef, undef, undef, (D.getD 14 undef), (D.getD 15 undef), (D.getD 16 undef), (D.getD 17 undef), (D.getD 18 undef), (D.getD 19 undef), (D.getD 20 undef), (D.getD 21 undef), (D.getD 22 undef), (D.getD 23 undef), (D.getD 24 undef), (D.getD 25 undef), (D.getD 26 undef), (D.getD 27 undef), (D.getD 28 undef), (D.getD 29 undef), (D.getD 30 undef), (D.getD 31 undef), (D.getD 32 undef), (D.getD 33 undef), (D.getD 34 undef), (D.getD 35 undef), (D.getD 36 undef), (D.getD 37 undef), (D.getD 38 undef), (D.getD 39 undef), (D.getD 40 undef), (D.getD 41 undef), (D.getD 42 undef), (D.getD 43 undef), (D.getD 44 undef), (D.getD 45 undef), (D.getD 46 undef), (D.getD 47 undef), (D.getD 48 undef), (D.getD 49 undef), (D.getD 50 undef), (D.getD 51 undef), (D.getD 52 undef), (D.getD 53 undef), (D.getD 54 undef), (D.getD 55 undef), (D.getD 56 undef), (D.getD 57 undef), (D.getD 58 undef), (D.getD 59 undef), (D.getD 60 undef), (D.getD 61 undef), (D.getD 62 undef), (D.getD 63 undef), (D.getD 64 undef), (D.getD 65 undef), (D.getD 66 undef), .bool b87, (D.getD 67 undef), (D.getD 68 undef), (D.getD 69 undef), (D.getD 70 undef), (D.getD 71 undef), (D.getD 72 undef), (D.getD 73 undef), (D.getD 74 undef), (D.getD 75 undef), (D.getD 76 undef), (D.getD 77 undef), (D.getD 78 undef), (D.getD 79 undef), (D.getD 80 undef), (D.getD 81 undef), (D.getD 82 undef), (D.getD 83 undef), (D.getD 84 undef), (D.getD 85 undef), (D.getD 86 undef), (D.getD 87 undef), (D.getD 88 undef), (D.getD 89 undef), (D.getD 90 undef), (D.getD 91 undef), (D.getD 92 undef), (D.getD 93 undef), (D.getD 94 undef), (D.getD 95 undef), (D.getD 96 undef), (D.getD 97 undef), (D.getD 98 undef), (D.getD 99 undef), (D.getD 100 undef), (D.getD 101 undef), (D.getD 102 undef), (D.getD 103 undef), (D.getD 104 undef), (D.getD 105 undef), (D.getD 106 undef), (D.getD 107 undef), (D.getD 108 undef), (D.getD 109 undef), (D.getD 110 undef), (D.getD 111 undef), (D.getD 112 undef)] H
noncomputable def f96.K5 (k : Nat) (n1 : Nat) (a0 : Option Addr) (l0 : Nat) (c0 : Nat) (x1 : Int) (x2 : Int) (x3 : Int) (x10 : Int) (x11 : Int) (D : List Value) (H : AHeap) : Option (Value × AHeap) :=
  gateC (Sub (bodyOf Try.f96) [1, 1, 0, 0, 0, 1, 1, 1, 1, 1, 1, 1, 0]) (Sub (bodyOf Try.f96) [1, 1, 0, 0, 0, 1, 1, 1, 1, 1, 1, 1, 1]) k (run Try.prog (C k) k (Sub (bodyOf Try.f96) [1, 1, 0, 0, 0, 1, 1, 1, 1, 1, 1, 1, 1]) (f96.Q3 k n1)) [.slice a0 l0 c0, .int .i64 x1, .int .i64 x2, .int .i64 x3, undef, undef, undef, undef, (D.getD 0 undef), (D.getD 1 undef), .int .i64 x10, .int .i64 x11, (D.getD 2 undef), (D.getD 3 undef), (D.getD 4 undef), (D.getD 5 undef), (D.getD 6 undef), (D.getD 7 undef), (D.getD 8 undef), (D.getD 9 undef), (D.getD 10 undef), (D.getD 11 undef), (D.getD 12 undef), (D.getD 13 undef), undef, undef, undef, undef, (D.getD 14 undef), (D.getD 15 undef), undef, undef, undef, undef, (D.getD 16 undef), (D.getD 17 undef), (D.getD 18 undef), (D.getD 19 undef), (D.getD 20 undef), (D.getD 21 undef), (D.getD 22 undef), (D.getD 23 undef), (D.getD 24 undef), (D.getD 25 undef), (D.getD 26 undef), (D.getD 27 undef), (D.getD 28 undef), (D.getD 29 undef), (D.getD 30 undef), (D.getD 31 undef), (D.getD 32 undef), (D.getD 33 undef), (D.getD 34 undef), (D.getD 35 undef), (D.getD 36 undef), (D.getD 37 undef), (D.getD 38 undef), (D.getD 39 undef), (D.getD 40 undef), (D.getD 41 undef), (D.getD 42 undef), (D.getD 43 undef), (D.getD 44 undef), (D.getD 45 undef), (D.getD 46 undef), (D.getD 47 undef), (D.getD 48 undef), (D.getD 49 undef), (D.getD 50 undef), (D.getD 51 undef), (D.getD 52 undef), (D.getD 53 undef), (D.getD 54 undef), (D.getD 55 undef), (D.getD 56 undef), (D.getD 57 undef), (D.getD 58 undef), (D.getD 59 undef), (D.getD 60 undef), (D.getD 61 undef), (D.getD 62 undef), (D.getD 63 undef), (D.getD 64 undef), (D.getD 65 undef), (D.getD 66 undef), (D.getD 67 undef), (D.getD 68 undef), (D.getD 69 undef), (D.getD 70 undef), (D.getD 71 undef), (D.getD 72 undef), (D.getD 73 undef), (D.getD 74 undef), (D.getD 75 undef), (D.getD 76 undef), (D.getD 77 undef), (D.getD 78 undef), (D.getD 79 undef), (D.getD 80 undef), (D.getD 81 undef), (D.getD 82 undef), (D.getD 83 undef), (D.getD 84 undef), (D.getD 85 undef), (D.getD 86 undef), (D.getD 87 undef), (D.getD 88 undef), (D.getD 89 undef), (D.getD 90 undef), (D.getD 91 undef), (D.getD 92 undef), (D.getD 93 undef), (D.getD 94 undef), (D.getD 95 undef), (D.getD 96 undef), (D.getD 97 undef), (D.getD 98 undef), (D.getD 99 undef), (D.getD 100 undef), (D.getD 101 undef), (D.getD 102 undef), (D.getD 103 undef), (D.getD 104 undef), (D.getD 105 undef), (D.getD 106 undef), (D.getD 107 undef), (D.getD 108 undef), (D.getD 109 undef), (D.getD 110 undef), (D.getD 111 undef), (D.getD 112 undef), (D.getD 113 undef), (D.getD 114 undef), (D.getD 115 undef)] H
theorem f96.L1_z (k : Nat)  (a0 : Option Addr) (l0 : Nat) (c0 : Nat) (x1 : Int) (x2 : Int) (x3 : Int) (b8 : Bool) (b9 : Bool) (D : List Value) (H : AHeap) : f96.L1 k 0 a0 l0 c0 x1 x2 x3 b8 b9 D H = none := by kernel_rfl
theorem f96.L1_s (k : Nat) (n1 : Nat) (a0 : Option Addr) (l0 : Nat) (c0 : Nat) (x1 : Int) (x2 : Int) (x3 : Int) (b8 : Bool) (b9 : Bool) (D : List Value) (H : AHeap) : f96.L1 k (n1 + 1) a0 l0 c0 x1 x2 x3 b8 b9 D H =
  (bif (decide ((IntKind.i64.wrap (x2 - x1)) ≤ (12 : Int))) then
   cT (C k 98 [.slice a0 l0 c0, .int .i64 x1, .int .i64 x2] H) fun u H_1 =>
   some (.tuple #[], H_1)
   else
   bif (x3 == (0 : Int)) then
   cT (C k 99 [.slice a0 l0 c0, .int .i64 x1, .int .i64 x2] H) fun u_1 H_2 =>
   some (.tuple #[], H_2)
   else
   bif (!b8) then
   cT (C k 100 [.slice a0 l0 c0, .int .i64 x1, .int .i64 x2] H) fun u_2 H_3 =>
   f96.K1 k n1 a0 l0 c0 x1 x2 (IntKind.i64.wrap (x3 - (1 : Int))) b8 b9 (IntKind.i64.wrap (x2 - x1)) [(D.getD 1 undef), (D.getD 2 undef), (D.getD 3 undef), (D.getD 4 undef), (D.getD 5 undef), (D.getD 6 undef), (D.getD 7 undef), (D.getD 8 undef), .int .i64 x2, .int .i64 x1, .int .i64 (IntKind.i64.wrap (x2 - x1)), .int .i64 (IntKind.i64.wrap (x2 - x1)), .bool (decide ((IntKind.i64.wrap (x2 - x1)) ≤ (12 : Int))), .int .i64 x3, .bool (x3 == (0 : Int)), .bool b8, .bool (!b8), .slice a0 l0 c0, .int .i64 x1, .int .i64 x2, .tuple u_2, .int .i64 x3, .int .i64 (IntKind.i64.wrap (x3 - (1 : Int))), (D.getD 24 undef), (D.getD 25 undef), (D.getD 26 undef), (D.getD 27 undef), (D.getD 28 undef), (D.getD 29 undef), (D.getD 30 undef), (D.getD 31 undef), (D.getD 32 undef), (D.getD 33 undef), (D.getD 34 undef), (D.getD 35 undef), (D.getD 36 undef), (D.getD 37 undef), (D.getD 38 undef), (D.getD 39 undef), (D.getD 40 undef), (D.getD 41 undef), (D.getD 42 undef), (D.getD 43 undef), (D.getD 44 undef), (D.getD 45 undef), (D.getD 46 undef), (D.getD 47 undef), (D.getD 48 undef), (D.getD 49 undef), (D.getD 50 undef), (D.getD 51 undef), (D.getD 52 undef), (D.getD 53 undef), (D.getD 54 undef), (D.getD 55 undef), (D.getD 56 undef), (D.getD 57 undef), (D.getD 58 undef), (D.getD 59 undef), (D.getD 60 undef), (D.getD 61 undef), (D.getD 62 undef), (D.getD 63 undef), (D.getD 64 undef), (D.getD 65 undef), (D.getD 66 undef), (D.getD 67 undef), (D.getD 68 undef), (D.getD 69 undef), (D.getD 70 undef), (D.getD 71 undef), (D.getD 72 undef), (D.getD 73 undef), (D.getD 74 undef), (D.getD 75 undef), (D.getD 76 undef), (D.getD 77 undef), (D.getD 78 undef), (D.getD 79 undef), (D.getD 80 undef), (D.getD 81 undef), (D.getD 82 undef), (D.getD 83 undef), (D.getD 84 undef), (D.getD 85 undef), (D.getD 86 undef), (D.getD 87 undef), (D.getD 88 undef), (D.getD 89 undef), (D.getD 90 undef), (D.getD 91 undef), (D.getD 92 undef), (D.getD 93 undef), (D.getD 94 undef), (D.getD 95 undef), (D.getD 96 undef), (D.getD 97 undef), (D.getD 98 undef), (D.getD 99 undef), (D.getD 100 undef), (D.getD 101 undef), (D.getD 102 undef), (D.getD 103 undef), (D.getD 104 undef), (D.getD 105 undef), (D.getD 106 undef), (D.getD 107 undef), (D.getD 108 undef), (D.getD 109 undef), (D.getD 110 undef), (D.getD 111 undef), (D.getD 112 undef), (D.getD 113 undef), (D.getD 114 undef), (D.getD 115 undef)] H_3
   else
   f96.K1 k n1 a0 l0 c0 x1 x2 x3 b8 b9 (IntKind.i64.wrap (x2 - x1)) [(D.getD 1 undef), (D.getD 2 undef), (D.getD 3 undef), (D.getD 4 undef), (D.getD 5 undef), (D.getD 6 undef), (D.getD 7 undef), (D.getD 8 undef), .int .i64 x2, .int .i64 x1, .int .i64 (IntKind.i64.wrap (x2 - x1)), .int .i64 (IntKind.i64.wrap (x2 - x1)), .bool (decide ((IntKind.i64.wrap (x2 - x1)) ≤ (12 : Int))), .int .i64 x3, .bool (x3 == (0 : Int)), .bool b8, .bool (!b8), (D.getD 18 undef), (D.getD 19 undef), (D.getD 20 undef), (D.getD 21 undef), (D.getD 22 undef), (D.getD 23 undef), (D.getD 24 undef), (D.getD 25 undef), (D.getD 26 undef), (D.getD 27 undef), (D.getD 28 undef), (D.getD 29 undef), (D.getD 30 undef), (D.getD 31 undef), (D.getD 32 undef), (D.getD 33 undef), (D.getD 34 undef), (D.getD 35 undef), (D.getD 36 undef), (D.getD 37 undef), (D.getD 38 undef), (D.getD 39 undef), (D.getD 40 undef), (D.getD 41 undef), (D.getD 42 undef), (D.getD 43 undef), (D.getD 44 undef), (D.getD 45 undef), (D.getD 46 undef), (D.getD 47 undef), (D.getD 48 undef), (D.getD 49 undef), (D.getD 50 undef), (D.getD 51 undef), (D.getD 52 undef), (D.getD 53 undef), (D.getD 54 undef), (D.getD 55 undef), (D.getD 56 undef), (D.getD 57 undef), (D.getD 58 undef), (D.getD 59 undef), (D.getD 60 undef), (D.getD 61 undef), (D.getD 62 undef), (D.getD 63 undef), (D.getD 64 undef), (D.getD 65 undef), (D.getD 66 undef), (D.getD 67 undef), (D.getD 68 undef), (D.getD 69 undef), (D.getD 70 undef), (D.getD 71 undef), (D.getD 72 undef), (D.getD 73 undef), (D.getD 74 undef), (D.getD 75 undef), (D.getD 76 undef), (D.getD 77 undef), (D.getD 78 undef), (D.getD 79 undef), (D.getD 80 undef), (D.getD 81 undef), (D.getD 82 undef), (D.getD 83 undef), (D.getD 84 undef), (D.getD 85 undef), (D.getD 86 undef), (D.getD 87 undef), (D.getD 88 undef), (D.getD 89 undef), (D.getD 90 undef), (D.getD 91 undef), (D.getD 92 undef), (D.getD 93 undef), (D.getD 94 undef), (D.getD 95 undef), (D.getD 96 undef), (D.getD 97 undef), (D.getD 98 undef), (D.getD 99 undef), (D.getD 100 undef), (D.getD 101 undef), (D.getD 102 undef), (D.getD 103 undef), (D.getD 104 undef), (D.getD 105 undef), (D.getD 106 undef), (D.getD 107 undef), (D.getD 108 undef), (D.getD 109 undef), (D.getD 110 undef), (D.getD 111 undef), (D.getD 112 undef), (D.getD 113 undef), (D.getD 114 undef), (D.getD 115 undef)] H) := by kernel_rfl
theorem f96.K1_eq (k : Nat) (n1 : Nat) (a0 : Option Addr) (l0 : Nat) (c0 : Nat) (x1 : Int) (x2 : Int) (x3 : Int) (b8 : Bool) (b9 : Bool) (x10 : Int) (D : List Value) (H : AHeap) : f96.K1 k n1 a0 l0 c0 x1 x2 x3 b8 b9 x10 D H =
  (cT (C k 101 [.slice a0 l0 c0, .int .i64 x1, .int .i64 x2] H) fun u H_1 =>
   exI .i64 (u.toList[0]?) fun x =>
   exI .i64 (u.toList[1]?) fun x_1 =>
   bif (x_1 == (2 : Int)) then
   cT (C k 102 [.slice a0 l0 c0, .int .i64 x1, .int .i64 x2] H_1) fun u_1 H_2 =>
   f96.K2 k n1 a0 l0 c0 x1 x2 x3 b8 b9 x10 (IntKind.i64.wrap ((IntKind.i64.wrap (x2 - (1 : Int))) - (IntKind.i64.wrap (x - x1)))) 1 [(D.getD 2 undef), (D.getD 3 undef), (D.getD 4 undef), (D.getD 5 undef), (D.getD 6 undef), (D.getD 7 undef), (D.getD 8 undef), (D.getD 9 undef), (D.getD 10 undef), (D.getD 11 undef), (D.getD 12 undef), (D.getD 13 undef), (D.getD 14 undef), (D.getD 15 undef), (D.getD 16 undef), (D.getD 17 undef), (D.getD 18 undef), (D.getD 19 undef), (D.getD 20 undef), (D.getD 21 undef), (D.getD 22 undef), .tuple u, .slice a0 l0 c0, .int .i64 x1, .int .i64 x2, .tuple u, .int .i64 x, .int .i64 x_1, .int .i64 x_1, .bool (x_1 == (2 : Int)), .slice a0 l0 c0, .int .i64 x1, .int .i64 x2, .tuple u_1, .int .i64 x2, .int .i64 (IntKind.i64.wrap (x2 - (1 : Int))), .int .i64 x, .int .i64 x1, .int .i64 (IntKind.i64.wrap (x - x1)), .int .i64 (IntKind.i64.wrap ((IntKind.i64.wrap (x2 - (1 : Int))) - (IntKind.i64.wrap (x - x1)))), (D.getD 42 undef), (D.getD 43 undef), (D.getD 44 undef), (D.getD 45 undef), (D.getD 46 undef), (D.getD 47 undef), (D.getD 48 undef), (D.getD 49 undef), (D.getD 50 undef), (D.getD 51 undef), (D.getD 52 undef), (D.getD 53 undef), (D.getD 54 undef), (D.getD 55 undef), (D.getD 56 undef), (D.getD 57 undef), (D.getD 58 undef), (D.getD 59 undef), (D.getD 60 undef), (D.getD 61 undef), (D.getD 62 undef), (D.getD 63 undef), (D.getD 64 undef), (D.getD 65 undef), (D.getD 66 undef), (D.getD 67 undef), (D.getD 68 undef), (D.getD 69 undef), (D.getD 70 undef), (D.getD 71 undef), (D.getD 72 undef), (D.getD 73 undef), (D.getD 74 undef), (D.getD 75 undef), (D.getD 76 undef), (D.getD 77 undef), (D.getD 78 undef), (D.getD 79 undef), (D.getD 80 undef), (D.getD 81 undef), (D.getD 82 undef), (D.getD 83 undef), (D.getD 84 undef), (D.getD 85 undef), (D.getD 86 undef), (D.getD 87 undef), (D.getD 88 undef), (D.getD 89 undef), (D.getD 90 undef), (D.getD 91 undef), (D.getD 92 undef), (D.getD 93 undef), (D.getD 94 undef), (D.getD 95 undef), (D.getD 96 undef), (D.getD 97 undef), (D.getD 98 undef), (D.getD 99 undef), (D.getD 100 undef), (D.getD 101 undef), (D.getD 102 undef), (D.getD 103 undef), (D.getD 104 undef), (D.getD 105 undef), (D.getD 106 undef), (D.getD 107 undef), (D.getD 108 undef), (D.getD 109 undef), (D.getD 110 undef), (D.getD 111 undef), (D.getD 112 undef), (D.getD 113 undef), (D.getD 114 undef)] H_2
   else
   f96.K2 k n1 a0 l0 c0 x1 x2 x3 b8 b9 x10 x x_1 [(D.getD 2 undef), (D.getD 3 undef), (D.getD 4 undef), (D.getD 5 undef), (D.getD 6 undef), (D.getD 7 undef), (D.getD 8 undef), (D.getD 9 undef), (D.getD 10 undef), (D.getD 11 undef), (D.getD 12 undef), (D.getD 13 undef), (D.getD 14 undef), (D.getD 15 undef), (D.getD 16 undef), (D.getD 17 undef), (D.getD 18 undef), (D.getD 19 undef), (D.getD 20 undef), (D.getD 21 undef), (D.getD 22 undef), .tuple u, .slice a0 l0 c0, .int .i64 x1, .int .i64 x2, .tuple u, .int .i64 x, .int .i64 x_1, .int .i64 x_1, .bool (x_1 == (2 : Int)), (D.getD 32 undef), (D.getD 33 undef), (D.getD 34 undef), (D.getD 35 undef), (D.getD 36 undef), (D.getD 37 undef), (D.getD 38 undef), (D.getD 39 undef), (D.getD 40 undef), (D.getD 41 undef), (D.getD 42 undef), (D.getD 43 undef), (D.getD 44 undef), (D.getD 45 undef), (D.getD 46 undef), (D.getD 47 undef), (D.getD 48 undef), (D.getD 49 undef), (D.getD 50 undef), (D.getD 51 undef), (D.getD 52 undef), (D.getD 53 undef), (D.getD 54 undef), (D.getD 55 undef), (D.getD 56 undef), (D.getD 57 undef), (D.getD 58 undef), (D.getD 59 undef), (D.getD 60 undef), (D.getD 61 undef), (D.getD 62 undef), (D.getD 63 undef), (D.getD 64 undef), (D.getD 65 undef), (D.getD 66 undef), (D.getD 67 undef), (D.getD 68 undef), (D.getD 69 undef), (D.getD 70 undef), (D.getD 71 undef), (D.getD 72 undef), (D.getD 73 undef), (D.getD 74 undef), (D.getD 75 undef), (D.getD 76 undef), (D.getD 77 undef), (D.getD 78 undef), (D.getD 79 undef), (D.getD 80 undef), (D.getD 81 undef), (D.getD 82 undef), (D.getD 83 undef), (D.getD 84 undef), (D.getD 85 undef), (D.getD 86 undef), (D.getD 87 undef), (D.getD 88 undef), (D.getD 89 undef), (D.getD 90 undef), (D.getD 91 undef), (D.getD 92 undef), (D.getD 93 undef), (D.getD 94 undef), (D.getD 95 undef), (D.getD 96 undef), (D.getD 97 undef), (D.getD 98 undef), (D.getD 99 undef), (D.getD 100 undef), (D.getD 101 undef), (D.getD 102 undef), (D.getD 103 undef), (D.getD 104 undef), (D.getD 105 undef), (D.getD 106 undef), (D.getD 107 undef), (D.getD 108 undef), (D.getD 109 undef), (D.getD 110 undef), (D.getD 111 undef), (D.getD 112 undef), (D.getD 113 undef), (D.getD 114 undef)] H_1) := by
  unfold f96.K1
  rw [gateC_eq]
  kernel_rfl
theorem f96.K2_eq (k : Nat) (n1 : Nat) (a0 : Option Addr) (l0 : Nat) (c0 : Nat) (x1 : Int) (x2 : Int) (x3 : Int) (b8 : Bool) (b9 : Bool) (x10 : Int) (x11 : Int) (x12 : Int) (D : List Value) (H : AHeap) : f96.K2 k n1 a0 l0 c0 x1 x2 x3 b8 b9 x10 x11 x12 D H =
  (bif b8 then
   bif b9 then
   bif (x12 == (1 : Int)) then
   cB (C k 103 [.slice a0 l0 c0, .int .i64 x1, .int .i64 x2] H) fun b H_1 =>
   bif b then
   some (.tuple #[], H_1)
   else
   f96.K3 k n1 a0 l0 c0 x1 x2 x3 b8 b9 x10 x11 [.int .i64 x12, (D.getD 0 undef), (D.getD 1 undef), (D.getD 2 undef), (D.getD 3 undef), (D.getD 4 undef), (D.getD 5 undef), (D.getD 6 undef), (D.getD 7 undef), (D.getD 8 undef), (D.getD 9 undef), (D.getD 10 undef), (D.getD 11 undef), (D.getD 12 undef), (D.getD 13 undef), (D.getD 14 undef), (D.getD 15 undef), (D.getD 16 undef), (D.getD 17 undef), (D.getD 18 undef), (D.getD 19 undef), (D.getD 20 undef), (D.getD 21 undef), (D.getD 22 undef), (D.getD 23 undef), (D.getD 24 undef), (D.getD 25 undef), (D.getD 26 undef), (D.getD 27 undef), (D.getD 28 undef), (D.getD 29 undef), (D.getD 30 undef), (D.getD 31 undef), (D.getD 32 undef), (D.getD 33 undef), (D.getD 34 undef), (D.getD 35 undef), (D.getD 36 undef), (D.getD 37 undef), (D.getD 38 undef), (D.getD 39 undef), .bool b8, .bool true, .bool b9, .bool b9, .bool true, .int .i64 x12, .bool (x12 == (1 : Int)), .bool (x12 == (1 : Int)), .slice a0 l0 c0, .int .i64 x1, .int .i64 x2, .bool b, (D.getD 52 undef), (D.getD 53 undef), (D.getD 54 undef), (D.getD 55 undef), (D.getD 56 undef), (D.getD 57 undef), (D.getD 58 undef), (D.getD 59 undef), (D.getD 60 undef), (D.getD 61 undef), (D.getD 62 undef), (D.getD 63 undef), (D.getD 64 undef), (D.getD 65 undef), (D.getD 66 undef), (D.getD 67 undef), (D.getD 68 undef), (D.getD 69 undef), (D.getD 70 undef), (D.getD 71 undef), (D.getD 72 undef), (D.getD 73 undef), (D.getD 74 undef), (D.getD 75 undef), (D.getD 76 undef), (D.getD 77 undef), (D.getD 78 undef), (D.getD 79 undef), (D.getD 80 undef), (D.getD 81 undef), (D.getD 82 undef), (D.getD 83 undef), (D.getD 84 undef), (D.getD 85 undef), (D.getD 86 undef), (D.getD 87 undef), (D.getD 88 undef), (D.getD 89 undef), (D.getD 90 undef), (D.getD 91 undef), (D.getD 92 undef), (D.getD 93 undef), (D.getD 94 undef), (D.getD 95 undef), (D.getD 96 undef), (D.getD 97 undef), (D.getD 98 undef), (D.getD 99 undef), (D.getD 100 undef), (D.getD 101 undef), (D.getD 102 undef), (D.getD 103 undef), (D.getD 104 undef), (D.getD 105 undef), (D.getD 106 undef), (D.getD 107 undef), (D.getD 108 undef), (D.getD 109 undef), (D.getD 110 undef), (D.getD 111 undef), (D.getD 112 undef)] H_1
   else
   f96.K3 k n1 a0 l0 c0 x1 x2 x3 b8 b9 x10 x11 [.int .i64 x12, (D.getD 0 undef), (D.getD 1 undef), (D.getD 2 undef), (D.getD 3 undef), (D.getD 4 undef), (D.getD 5 undef), (D.getD 6 undef), (D.getD 7 undef), (D.getD 8 undef), (D.getD 9 undef), (D.getD 10 undef), (D.getD 11 undef), (D.getD 12 undef), (D.getD 13 undef), (D.getD 14 undef), (D.getD 15 undef), (D.getD 16 undef), (D.getD 17 undef), (D.getD 18 undef), (D.getD 19 undef), (D.getD 20 undef), (D.getD 21 undef), (D.getD 22 undef), (D.getD 23 undef), (D.getD 24 undef), (D.getD 25 undef), (D.getD 26 undef), (D.getD 27 undef), (D.getD 28 undef), (D.getD 29 undef), (D.getD 30 undef), (D.getD 31 undef), (D.getD 32 undef), (D.getD 33 undef), (D.getD 34 undef), (D.getD 35 undef), (D.getD 36 undef), (D.getD 37 undef), (D.getD 38 undef), (D.getD 39 undef), .bool b8, .bool true, .bool b9, .bool b9, .bool true, .int .i64 x12, .bool (x12 == (1 : Int)), .bool (x12 == (1 : Int)), (D.getD 48 undef), (D.getD 49 undef), (D.getD 50 undef), (D.getD 51 undef), (D.getD 52 undef), (D.getD 53 undef), (D.getD 54 undef), (D.getD 55 undef), (D.getD 56 undef), (D.getD 57 undef), (D.getD 58 undef), (D.getD 59 undef), (D.getD 60 undef), (D.getD 61 undef), (D.getD 62 undef), (D.getD 63 undef), (D.getD 64 undef), (D.getD 65 undef), (D.getD 66 undef), (D.getD 67 undef), (D.getD 68 undef), (D.getD 69 undef), (D.getD 70 undef), (D.getD 71 undef), (D.getD 72 undef), (D.getD 73 undef), (D.getD 74 undef), (D.getD 75 undef), (D.getD 76 undef), (D.getD 77 undef), (D.getD 78 undef), (D.getD 79 undef), (D.getD 80 undef), (D.getD 81 undef), (D.getD 82 undef), (D.getD 83 undef), (D.getD 84 undef), (D.getD 85 undef), (D.getD 86 undef), (D.getD 87 undef), (D.getD 88 undef), (D.getD 89 undef), (D.getD 90 undef), (D.getD 91 undef), (D.getD 92 undef), (D.getD 93 undef), (D.getD 94 undef), (D.getD 95 undef), (D.getD 96 undef), (D.getD 97 undef), (D.getD 98 undef), (D.getD 99 undef), (D.getD 100 undef), (D.getD 101 undef), (D.getD 102 undef), (D.getD 103 undef), (D.getD 104 undef), (D.getD 105 undef), (D.getD 106 undef), (D.getD 107 undef), (D.getD 108 undef), (D.getD 109 undef), (D.getD 110 undef), (D.getD 111 undef), (D.getD 112 undef)] H
   else
   f96.K3 k n1 a0 l0 c0 x1 x2 x3 b8 b9 x10 x11 [.int .i64 x12, (D.getD 0 undef), (D.getD 1 undef), (D.getD 2 undef), (D.getD 3 undef), (D.getD 4 undef), (D.getD 5 undef), (D.getD 6 undef), (D.getD 7 undef), (D.getD 8 undef), (D.getD 9 undef), (D.getD 10 undef), (D.getD 11 undef), (D.getD 12 undef), (D.getD 13 undef), (D.getD 14 undef), (D.getD 15 undef), (D.getD 16 undef), (D.getD 17 undef), (D.getD 18 undef), (D.getD 19 undef), (D.getD 20 undef), (D.getD 21 undef), (D.getD 22 undef), (D.getD 23 undef), (D.getD 24 undef), (D.getD 25 undef), (D.getD 26 undef), (D.getD 27 undef), (D.getD 28 undef), (D.getD 29 undef), (D.getD 30 undef), (D.getD 31 undef), (D.getD 32 undef), (D.getD 33 undef), (D.getD 34 undef), (D.getD 35 undef), (D.getD 36 undef), (D.getD 37 undef), (D.getD 38 undef), (D.getD 39 undef), .bool b8, .bool true, .bool b9, .bool b9, .bool false, undef, undef, .bool false, (D.getD 48 undef), (D.getD 49 undef), (D.getD 50 undef), (D.getD 51 undef), (D.getD 52 undef), (D.getD 53 undef), (D.getD 54 undef), (D.getD 55 undef), (D.getD 56 undef), (D.getD 57 undef), (D.getD 58 undef), (D.getD 59 undef), (D.getD 60 undef), (D.getD 61 undef), (D.getD 62 undef), (D.getD 63 undef), (D.getD 64 undef), (D.getD 65 undef), (D.getD 66 undef), (D.getD 67 undef), (D.getD 68 undef), (D.getD 69 undef), (D.getD 70 undef), (D.getD 71 undef), (D.getD 72 undef), (D.getD 73 undef), (D.getD 74 undef), (D.getD 75 undef), (D.getD 76 undef), (D.getD 77 undef), (D.getD 78 undef), (D.getD 79 undef), (D.getD 80 undef), (D.getD 81 undef), (D.getD 82 undef), (D.getD 83 undef), (D.getD 84 undef), (D.getD 85 undef), (D.getD 86 undef), (D.getD 87 undef), (D.getD 88 undef), (D.getD 89 undef), (D.getD 90 undef), (D.getD 91 undef), (D.getD 92 undef), (D.getD 93 undef), (D.getD 94 undef), (D.getD 95 undef), (D.getD 96 undef), (D.getD 97 undef), (D.getD 98 undef), (D.getD 99 undef), (D.getD 100 undef), (D.getD 101 undef), (D.getD 102 undef), (D.getD 103 undef), (D.getD 104 undef), (D.getD 105 undef), (D.getD 106 undef), (D.getD 107 undef), (D.getD 108 undef), (D.getD 109 undef), (D.getD 110 undef), (D.getD 111 undef), (D.getD 112 undef)] H
   else
   f96.K3 k n1 a0 l0 c0 x1 x2 x3 b8 b9 x10 x11 [.int .i64 x12, (D.getD 0 undef), (D.getD 1 undef), (D.getD 2 undef), (D.getD 3 undef), (D.getD 4 undef), (D.getD 5 undef), (D.getD 6 undef), (D.getD 7 undef), (D.getD 8 undef), (D.getD 9 undef), (D.getD 10 undef), (D.getD 11 undef), (D.getD 12 undef), (D.getD 13 undef), (D.getD 14 undef), (D.getD 15 undef), (D.getD 16 undef), (D.getD 17 undef), (D.getD 18 undef), (D.getD 19 undef), (D.getD 20 undef), (D.getD 21 undef), (D.getD 22 undef), (D.getD 23 undef), (D.getD 24 undef), (D.getD 25 undef), (D.getD 26 undef), (D.getD 27 undef), (D.getD 28 undef), (D.getD 29 undef), (D.getD 30 undef), (D.getD 31 undef), (D.getD 32 undef), (D.getD 33 undef), (D.getD 34 undef), (D.getD 35 undef), (D.getD 36 undef), (D.getD 37 undef), (D.getD 38 undef), (D.getD 39 undef), .bool b8, .bool false, undef, .bool false, .bool false, undef, undef, .bool false, (D.getD 48 undef), (D.getD 49 undef), (D.getD 50 undef), (D.getD 51 undef), (D.getD 52 undef), (D.getD 53 undef), (D.getD 54 undef), (D.getD 55 undef), (D.getD 56 undef), (D.getD 57 undef), (D.getD 58 undef), (D.getD 59 undef), (D.getD 60 undef), (D.getD 61 undef), (D.getD 62 undef), (D.getD 63 undef), (D.getD 64 undef), (D.getD 65 undef), (D.getD 66 undef), (D.getD 67 undef), (D.getD 68 undef), (D.getD 69 undef), (D.getD 70 undef), (D.getD 71 undef), (D.getD 72 undef), (D.getD 73 undef), (D.getD 74 undef), (D.getD 75 undef), (D.getD 76 undef), (D.getD 77 undef), (D.getD 78 undef), (D.getD 79 undef), (D.getD 80 undef), (D.getD 81 undef), (D.getD 82 undef), (D.getD 83 undef), (D.getD 84 undef), (D.getD 85 undef), (D.getD 86 undef), (D.getD 87 undef), (D.getD 88 undef), (D.getD 89 undef), (D.getD 90 undef), (D.getD 91 undef), (D.getD 92 undef), (D.getD 93 undef), (D.getD 94 undef), (D.getD 95 undef), (D.getD 96 undef), (D.getD 97 undef), (D.getD 98 undef), (D.getD 99 undef), (D.getD 100 undef), (D.getD 101 undef), (D.getD 102 undef), (D.getD 103 undef), (D.getD 104 undef), (D.getD 105 undef), (D.getD 106 undef), (D.getD 107 undef), (D.getD 108 undef), (D.getD 109 undef), (D.getD 110 undef), (D.getD 111 undef), (D.getD 112 undef)] H) := by
  unfold f96.K2
  rw [gateC_eq]
  kernel_rfl
theorem f96.K3_eq (k : Nat) (n1 : Nat) (a0 : Option Addr) (l0 : Nat) (c0 : Nat) (x1 : Int) (x2 : Int) (x3 : Int) (b8 : Bool) (b9 : Bool) (x10 : Int) (x11 : Int) (D : List Value) (H : AHeap) : f96.K3 k n1 a0 l0 c0 x1 x2 x3 b8 b9 x10 x11 D H =
  (bif (decide (x1 > (0 : Int))) then
   a0.bind fun q =>
   if 0 ≤ (IntKind.i64.wrap (x1 - (1 : Int))) ∧ (IntKind.i64.wrap (x1 - (1 : Int))) < (l0 : Int) then
   bif sameB H (H.bump 15) q.block then
   (ldI .i64 (H.bump 15) q.block (q.off + (IntKind.i64.wrap (x1 - (1 : Int))).toNat * 1)).bind fun x =>
   a0.bind fun q_1 =>
   if 0 ≤ x11 ∧ x11 < (l0 : Int) then
   bif sameB H (H.bump 15) q_1.block then
   (ldI .i64 (H.bump 15) q_1.block (q_1.off + x11.toNat * 1)).bind fun x_1 =>
   cB (C k 104 [.int .i64 x, .int .i64 x_1] (H.bump 15)) fun b H_1 =>
   f96.K4 k n1 a0 l0 c0 x1 x2 x3 b8 b9 x10 x11 (!b) [(D.getD 0 undef), (D.getD 1 undef), (D.getD 2 undef), (D.getD 3 undef), (D.getD 4 undef), (D.getD 5 undef), (D.getD 6 undef), (D.getD 7 undef), (D.getD 8 undef), (D.getD 9 undef), (D.getD 10 undef), (D.getD 11 undef), (D.getD 12 undef), (D.getD 13 undef), (D.getD 14 undef), (D.getD 15 undef), (D.getD 16 undef), (D.getD 17 undef), (D.getD 18 undef), (D.getD 19 undef), (D.getD 20 undef), (D.getD 21 undef), (D.getD 22 undef), (D.getD 23 undef), (D.getD 24 undef), (D.getD 25 undef), (D.getD 26 undef), (D.getD 27 undef), (D.getD 28 undef), (D.getD 29 undef), (D.getD 30 undef), (D.getD 31 undef), (D.getD 32 undef), (D.getD 33 undef), (D.getD 34 undef), (D.getD 35 undef), (D.getD 36 undef), (D.getD 37 undef), (D.getD 38 undef), (D.getD 39 undef), (D.getD 40 undef), (D.getD 41 undef), (D.getD 42 undef), (D.getD 43 undef), (D.getD 44 undef), (D.getD 45 undef), (D.getD 46 undef), (D.getD 47 undef), (D.getD 48 undef), (D.getD 49 undef), (D.getD 50 undef), (D.getD 51 undef), (D.getD 52 undef), .int .i64 x1, .bool (decide (x1 > (0 : Int))), .bool true, .slice a0 l0 c0, .int .i64 x1, .int .i64 (IntKind.i64.wrap (x1 - (1 : Int))), .pointer (some ⟨q.block, q.off + (IntKind.i64.wrap (x1 - (1 : Int))).toNat * 1, none⟩), .int .i64 x, .slice a0 l0 c0, .int .i64 x11, .pointer (some ⟨q_1.block, q_1.off + x11.toNat * 1, none⟩), .int .i64 x_1, .bool b, .bool (!b), (D.getD 68 undef), (D.getD 69 undef), (D.getD 70 undef), (D.getD 71 undef), (D.getD 72 undef), (D.getD 73 undef), (D.getD 74 undef), (D.getD 75 undef), (D.getD 76 undef), (D.getD 77 undef), (D.getD 78 undef), (D.getD 79 undef), (D.getD 80 undef), (D.getD 81 undef), (D.getD 82 undef), (D.getD 83 undef), (D.getD 84 undef), (D.getD 85 undef), (D.getD 86 undef), (D.getD 87 undef), (D.getD 88 undef), (D.getD 89 undef), (D.getD 90 undef), (D.getD 91 undef), (D.getD 92 undef), (D.getD 93 undef), (D.getD 94 undef), (D.getD 95 undef), (D.getD 96 undef), (D.getD 97 undef), (D.getD 98 undef), (D.getD 99 undef), (D.getD 100 undef), (D.getD 101 undef), (D.getD 102 undef), (D.getD 103 undef), (D.getD 104 undef), (D.getD 105 undef), (D.getD 106 undef), (D.getD 107 undef), (D.getD 108 undef), (D.getD 109 undef), (D.getD 110 undef), (D.getD 111 undef), (D.getD 112 undef), (D.getD 113 undef)] H_1
   else none
   else none
   else none
   else none
   else
   f96.K4 k n1 a0 l0 c0 x1 x2 x3 b8 b9 x10 x11 false [(D.getD 0 undef), (D.getD 1 undef), (D.getD 2 undef), (D.getD 3 undef), (D.getD 4 undef), (D.getD 5 undef), (D.getD 6 undef), (D.getD 7 undef), (D.getD 8 undef), (D.getD 9 undef), (D.getD 10 undef), (D.getD 11 undef), (D.getD 12 undef), (D.getD 13 undef), (D.getD 14 undef), (D.getD 15 undef), (D.getD 16 undef), (D.getD 17 undef), (D.getD 18 undef), (D.getD 19 undef), (D.getD 20 undef), (D.getD 21 undef), (D.getD 22 undef), (D.getD 23 undef), (D.getD 24 undef), (D.getD 25 undef), (D.getD 26 undef), (D.getD 27 undef), (D.getD 28 undef), (D.getD 29 undef), (D.getD 30 undef), (D.getD 31 undef), (D.getD 32 undef), (D.getD 33 undef), (D.getD 34 undef), (D.getD 35 undef), (D.getD 36 undef), (D.getD 37 undef), (D.getD 38 undef), (D.getD 39 undef), (D.getD 40 undef), (D.getD 41 undef), (D.getD 42 undef), (D.getD 43 undef), (D.getD 44 undef), (D.getD 45 undef), (D.getD 46 undef), (D.getD 47 undef), (D.getD 48 undef), (D.getD 49 undef), (D.getD 50 undef), (D.getD 51 undef), (D.getD 52 undef), .int .i64 x1, .bool (decide (x1 > (0 : Int))), .bool false, undef, undef, undef, undef, undef, undef, undef, undef, undef, undef, undef, (D.getD 68 undef), (D.getD 69 undef), (D.getD 70 undef), (D.getD 71 undef), (D.getD 72 undef), (D.getD 73 undef), (D.getD 74 undef), (D.getD 75 undef), (D.getD 76 undef), (D.getD 77 undef), (D.getD 78 undef), (D.getD 79 undef), (D.getD 80 undef), (D.getD 81 undef), (D.getD 82 undef), (D.getD 83 undef), (D.getD 84 undef), (D.getD 85 undef), (D.getD 86 undef), (D.getD 87 undef), (D.getD 88 undef), (D.getD 89 undef), (D.getD 90 undef), (D.getD 91 undef), (D.getD 92 undef), (D.getD 93 undef), (D.getD 94 undef), (D.getD 95 undef), (D.getD 96 undef), (D.getD 97 undef), (D.getD 98 undef), (D.getD 99 undef), (D.getD 100 undef), (D.getD 101 undef), (D.getD 102 undef), (D.getD 103 undef), (D.getD 104 undef), (D.getD 105 undef), (D.getD 106 undef), (D.getD 107 undef), (D.getD 108 undef), (D.getD 109 undef), (D.getD 110 undef), (D.getD 111 undef), (D.getD 112 undef), (D.getD 113 undef)] (H.bump 15)) := by
  unfold f96.K3
  rw [gateC_eq]
  kernel_rfl
theorem f96.K4_eq (k : Nat) (n1 : Nat) (a0 : Option Addr) (l0 : Nat) (c0 : Nat) (x1 : Int) (x2 : Int) (x3 : Int) (b8 : Bool) (b9 : Bool) (x10 : Int) (x11 : Int) (b87 : Bool) (D : List Value) (H : AHeap) : f96.K4 k n1 a0 l0 c0 x1 x2 x3 b8 b9 x10 x11 b87 D H =
  (bif b87 then
   cI .i64 (C k 105 [.slice a0 l0 c0, .int .i64 x1, .int .i64 x2, .int .i64 x11] H) fun x H_1 =>
   f96.L1 k n1 a0 l0 c0 x x2 x3 b8 b9 [.int .i64 x10, .int .i64 x11, (D.getD 0 undef), .int .i64 x, (D.getD 2 undef), (D.getD 3 undef), (D.getD 4 undef), (D.getD 5 undef), (D.getD 6 undef), (D.getD 7 undef), (D.getD 8 undef), (D.getD 9 undef), (D.getD 10 undef), (D.getD 11 undef), (D.getD 12 undef), (D.getD 13 undef), (D.getD 14 undef), (D.getD 15 undef), (D.getD 16 undef), (D.getD 17 undef), (D.getD 18 undef), (D.getD 19 undef), (D.getD 20 undef), (D.getD 21 undef), (D.getD 22 undef), (D.getD 23 undef), (D.getD 24 undef), (D.getD 25 undef), (D.getD 26 undef), (D.getD 27 undef), (D.getD 28 undef), (D.getD 29 undef), (D.getD 30 undef), (D.getD 31 undef), (D.getD 32 undef), (D.getD 33 undef), (D.getD 34 undef), (D.getD 35 undef), (D.getD 36 undef), (D.getD 37 undef), (D.getD 38 undef), (D.getD 39 undef), (D.getD 40 undef), (D.getD 41 undef), (D.getD 42 undef), (D.getD 43 undef), (D.getD 44 undef), (D.getD 45 undef), (D.getD 46 undef), (D.getD 47 undef), (D.getD 48 undef), (D.getD 49 undef), (D.getD 50 undef), (D.getD 51 undef), (D.getD 52 undef), (D.getD 53 undef), (D.getD 54 undef), (D.getD 55 undef), (D.getD 56 undef), (D.getD 57 undef), (D.getD 58 undef), (D.getD 59 undef), (D.getD 60 undef), (D.getD 61 undef), (D.getD 62 undef), (D.getD 63 undef), (D.getD 64 undef), (D.getD 65 undef), (D.getD 66 undef), .bool b87, .slice a0 l0 c0, .int .i64 x1, .int .i64 x2, .int .i64 x11, .int .i64 x, .int .i64 x, (D.getD 73 undef), (D.getD 74 undef), (D.getD 75 undef), (D.getD 76 undef), (D.getD 77 undef), (D.getD 78 undef), (D.getD 79 undef), (D.getD 80 undef), (D.getD 81 undef), (D.getD 82 undef), (D.getD 83 undef), (D.getD 84 undef), (D.getD 85 undef), (D.getD 86 undef), (D.getD 87 undef), (D.getD 88 undef), (D.getD 89 undef), (D.getD 90 undef), (D.getD 91 undef), (D.getD 92 undef), (D.getD 93 undef), (D.getD 94 undef), (D.getD 95 undef), (D.getD 96 undef), (D.getD 97 undef), (D.getD 98 undef), (D.getD 99 undef), (D.getD 100 undef), (D.getD 101 undef), (D.getD 102 undef), (D.getD 103 undef), (D.getD 104 undef), (D.getD 105 undef), (D.getD 106 undef), (D.getD 107 undef), (D.getD 108 undef), (D.getD 109 undef), (D.getD 110 undef), (D.getD 111 undef), (D.getD 112 undef)] H_1
   else
   f96.K5 k n1 a0 l0 c0 x1 x2 x3 x10 x11 [.bool b8, .bool b9, (D.getD 0 undef), (D.getD 1 undef), (D.getD 2 undef), (D.getD 3 undef), (D.getD 4 undef), (D.getD 5 undef), (D.getD 6 undef), (D.getD 7 undef), (D.getD 8 undef), (D.getD 9 undef), (D.getD 10 undef), (D.getD 11 undef), (D.getD 12 undef), (D.getD 13 undef), (D.getD 14 undef), (D.getD 15 undef), (D.getD 16 undef), (D.getD 17 undef), (D.getD 18 undef), (D.getD 19 undef), (D.getD 20 undef), (D.getD 21 undef), (D.getD 22 undef), (D.getD 23 undef), (D.getD 24 undef), (D.getD 25 undef), (D.getD 26 undef), (D.getD 27 undef), (D.getD 28 undef), (D.getD 29 undef), (D.getD 30 undef), (D.getD 31 undef), (D.getD 32 undef), (D.getD 33 undef), (D.getD 34 undef), (D.getD 35 undef), (D.getD 36 undef), (D.getD 37 undef), (D.getD 38 undef), (D.getD 39 undef), (D.getD 40 undef), (D.getD 41 undef), (D.getD 42 undef), (D.getD 43 undef), (D.getD 44 undef), (D.getD 45 undef), (D.getD 46 undef), (D.getD 47 undef), (D.getD 48 undef), (D.getD 49 undef), (D.getD 50 undef), (D.getD 51 undef), (D.getD 52 undef), (D.getD 53 undef), (D.getD 54 undef), (D.getD 55 undef), (D.getD 56 undef), (D.getD 57 undef), (D.getD 58 undef), (D.getD 59 undef), (D.getD 60 undef), (D.getD 61 undef), (D.getD 62 undef), (D.getD 63 undef), (D.getD 64 undef), (D.getD 65 undef), (D.getD 66 undef), .bool b87, (D.getD 67 undef), (D.getD 68 undef), (D.getD 69 undef), (D.getD 70 undef), (D.getD 71 undef), (D.getD 72 undef), (D.getD 73 undef), (D.getD 74 undef), (D.getD 75 undef), (D.getD 76 undef), (D.getD 77 undef), (D.getD 78 undef), (D.getD 79 undef), (D.getD 80 undef), (D.getD 81 undef), (D.getD 82 undef), (D.getD 83 undef), (D.getD 84 undef), (D.getD 85 undef), (D.getD 86 undef), (D.getD 87 undef), (D.getD 88 undef), (D.getD 89 undef), (D.getD 90 undef), (D.getD 91 undef), (D.getD 92 undef), (D.getD 93 undef), (D.getD 94 undef), (D.getD 95 undef), (D.getD 96 undef), (D.getD 97 undef), (D.getD 98 undef), (D.getD 99 undef), (D.getD 100 undef), (D.getD 101 undef), (D.getD 102 undef), (D.getD 103 undef), (D.getD 104 undef), (D.getD 105 undef), (D.getD 106 undef), (D.getD 107 undef), (D.getD 108 undef), (D.getD 109 undef), (D.getD 110 undef), (D.getD 111 undef), (D.getD 112 undef)] H) := by
  unfold f96.K4
  rw [gateC_eq]
  kernel_rfl
theorem f96.K5_eq (k : Nat) (n1 : Nat) (a0 : Option Addr) (l0 : Nat) (c0 : Nat) (x1 : Int) (x2 : Int) (x3 : Int) (x10 : Int) (x11 : Int) (D : List Value) (H : AHeap) : f96.K5 k n1 a0 l0 c0 x1 x2 x3 x10 x11 D H =
  (cT (C k 106 [.slice a0 l0 c0, .int .i64 x1, .int .i64 x2, .int .i64 x11] H) fun u H_1 =>
   exI .i64 (u.toList[0]?) fun x =>
   exB (u.toList[1]?) fun b =>
   bif (decide ((IntKind.i64.wrap (x - x1)) < (IntKind.i64.wrap (x2 - x)))) then
   cT (C k 96 [.slice a0 l0 c0, .int .i64 x1, .int .i64 x, .int .i64 x3] H_1) fun u_1 H_2 =>
   f96.L1 k n1 a0 l0 c0 (IntKind.i64.wrap (x + (1 : Int))) x2 x3 (decide ((IntKind.i64.wrap (x - x1)) ≥ (IntKind.i64.wrap (x10.tdiv (8 : Int))))) b [.int .i64 x10, .int .i64 x11, (D.getD 2 undef), (D.getD 3 undef), .int .i64 x, .bool b, .int .i64 (IntKind.i64.wrap (x - x1)), .int .i64 (IntKind.i64.wrap (x2 - x)), .int .i64 (IntKind.i64.wrap (x10.tdiv (8 : Int))), (D.getD 9 undef), (D.getD 10 undef), (D.getD 11 undef), (D.getD 12 undef), (D.getD 13 undef), (D.getD 14 undef), (D.getD 15 undef), (D.getD 16 undef), (D.getD 17 undef), (D.getD 18 undef), (D.getD 19 undef), (D.getD 20 undef), (D.getD 21 undef), (D.getD 22 undef), (D.getD 23 undef), (D.getD 24 undef), (D.getD 25 undef), (D.getD 26 undef), (D.getD 27 undef), (D.getD 28 undef), (D.getD 29 undef), (D.getD 30 undef), (D.getD 31 undef), (D.getD 32 undef), (D.getD 33 undef), (D.getD 34 undef), (D.getD 35 undef), (D.getD 36 undef), (D.getD 37 undef), (D.getD 38 undef), (D.getD 39 undef), (D.getD 40 undef), (D.getD 41 undef), (D.getD 42 undef), (D.getD 43 undef), (D.getD 44 undef), (D.getD 45 undef), (D.getD 46 undef), (D.getD 47 undef), (D.getD 48 undef), (D.getD 49 undef), (D.getD 50 undef), (D.getD 51 undef), (D.getD 52 undef), (D.getD 53 undef), (D.getD 54 undef), (D.getD 55 undef), (D.getD 56 undef), (D.getD 57 undef), (D.getD 58 undef), (D.getD 59 undef), (D.getD 60 undef), (D.getD 61 undef), (D.getD 62 undef), (D.getD 63 undef), (D.getD 64 undef), (D.getD 65 undef), (D.getD 66 undef), (D.getD 67 undef), (D.getD 68 undef), (D.getD 69 undef), (D.getD 70 undef), (D.getD 71 undef), (D.getD 72 undef), (D.getD 73 undef), (D.getD 74 undef), (D.getD 75 undef), .tuple u, .slice a0 l0 c0, .int .i64 x1, .int .i64 x2, .int .i64 x11, .tuple u, .int .i64 x, .bool b, .bool b, .int .i64 x, .int .i64 x1, .int .i64 (IntKind.i64.wrap (x - x1)), .int .i64 x2, .int .i64 x, .int .i64 (IntKind.i64.wrap (x2 - x)), .int .i64 x10, .int .i64 (IntKind.i64.wrap (x10.tdiv (8 : Int))), .int .i64 (IntKind.i64.wrap (x - x1)), .int .i64 (IntKind.i64.wrap (x2 - x)), .bool (decide ((IntKind.i64.wrap (x - x1)) < (IntKind.i64.wrap (x2 - x)))), .int .i64 (IntKind.i64.wrap (x - x1)), .int .i64 (IntKind.i64.wrap (x10.tdiv (8 : Int))), .bool (decide ((IntKind.i64.wrap (x - x1)) ≥ (IntKind.i64.wrap (x10.tdiv (8 : Int))))), .slice a0 l0 c0, .int .i64 x1, .int .i64 x, .int .i64 x3, .tuple u_1, .int .i64 x, .int .i64 (IntKind.i64.wrap (x + (1 : Int))), (D.getD 106 undef), (D.getD 107 undef), (D.getD 108 undef), (D.getD 109 undef), (D.getD 110 undef), (D.getD 111 undef), (D.getD 112 undef), (D.getD 113 undef), (D.getD 114 undef), (D.getD 115 undef)] H_2
   else
   cT (C k 96 [.slice a0 l0 c0, .int .i64 (IntKind.i64.wrap (x + (1 : Int))), .int .i64 x2, .int .i64 x3] H_1) fun u_2 H_3 =>
   f96.L1 k n1 a0 l0 c0 x1 x x3 (decide ((IntKind.i64.wrap (x2 - x)) ≥ (IntKind.i64.wrap (x10.tdiv (8 : Int))))) b [.int .i64 x10, .int .i64 x11, (D.getD 2 undef), (D.getD 3 undef), .int .i64 x, .bool b, .int .i64 (IntKind.i64.wrap (x - x1)), .int .i64 (IntKind.i64.wrap (x2 - x)), .int .i64 (IntKind.i64.wrap (x10.tdiv (8 : Int))), (D.getD 9 undef), (D.getD 10 undef), (D.getD 11 undef), (D.getD 12 undef), (D.getD 13 undef), (D.getD 14 undef), (D.getD 15 undef), (D.getD 16 undef), (D.getD 17 undef), (D.getD 18 undef), (D.getD 19 undef), (D.getD 20 undef), (D.getD 21 undef), (D.getD 22 undef), (D.getD 23 undef), (D.getD 24 undef), (D.getD 25 undef), (D.getD 26 undef), (D.getD 27 undef), (D.getD 28 undef), (D.getD 29 undef), (D.getD 30 undef), (D.getD 31 undef), (D.getD 32 undef), (D.getD 33 undef), (D.getD 34 undef), (D.getD 35 undef), (D.getD 36 undef), (D.getD 37 undef), (D.getD 38 undef), (D.getD 39 undef), (D.getD 40 undef), (D.getD 41 undef), (D.getD 42 undef), (D.getD 43 undef), (D.getD 44 undef), (D.getD 45 undef), (D.getD 46 undef), (D.getD 47 undef), (D.getD 48 undef), (D.getD 49 undef), (D.getD 50 undef), (D.getD 51 undef), (D.getD 52 undef), (D.getD 53 undef), (D.getD 54 undef), (D.getD 55 undef), (D.getD 56 undef), (D.getD 57 undef), (D.getD 58 undef), (D.getD 59 undef), (D.getD 60 undef), (D.getD 61 undef), (D.getD 62 undef), (D.getD 63 undef), (D.getD 64 undef), (D.getD 65 undef), (D.getD 66 undef), (D.getD 67 undef), (D.getD 68 undef), (D.getD 69 undef), (D.getD 70 undef), (D.getD 71 undef), (D.getD 72 undef), (D.getD 73 undef), (D.getD 74 undef), (D.getD 75 undef), .tuple u, .slice a0 l0 c0, .int .i64 x1, .int .i64 x2, .int .i64 x11, .tuple u, .int .i64 x, .bool b, .bool b, .int .i64 x, .int .i64 x1, .int .i64 (IntKind.i64.wrap (x - x1)), .int .i64 x2, .int .i64 x, .int .i64 (IntKind.i64.wrap (x2 - x)), .int .i64 x10, .int .i64 (IntKind.i64.wrap (x10.tdiv (8 : Int))), .int .i64 (IntKind.i64.wrap (x - x1)), .int .i64 (IntKind.i64.wrap (x2 - x)), .bool (decide ((IntKind.i64.wrap (x - x1)) < (IntKind.i64.wrap (x2 - x)))), (D.getD 96 undef), (D.getD 97 undef), (D.getD 98 undef), (D.getD 99 undef), (D.getD 100 undef), (D.getD 101 undef), (D.getD 102 undef), (D.getD 103 undef), (D.getD 104 undef), (D.getD 105 undef), .int .i64 (IntKind.i64.wrap (x2 - x)), .int .i64 (IntKind.i64.wrap (x10.tdiv (8 : Int))), .bool (decide ((IntKind.i64.wrap (x2 - x)) ≥ (IntKind.i64.wrap (x10.tdiv (8 : Int))))), .slice a0 l0 c0, .int .i64 x, .int .i64 (IntKind.i64.wrap (x + (1 : Int))), .int .i64 x2, .int .i64 x3, .tuple u_2, .int .i64 x] H_3) := by
  unfold f96.K5
  rw [gateC_eq]
  kernel_rfl
theorem f96_eq (k : Nat) (a0 : Option Addr) (l0 : Nat) (c0 : Nat) (x1 : Int) (x2 : Int) (x3 : Int) (H : AHeap) : C (k + 1) 96 [.slice a0 l0 c0, .int .i64 x1, .int .i64 x2, .int .i64 x3] H =
  (f96.L1 k k a0 l0 c0 x1 x2 x3 true true [undef, undef, undef, undef, undef, undef, undef, undef, undef, undef, undef, undef, undef, undef, undef, undef, undef, undef, undef, undef, undef, undef, undef, undef, undef, undef, undef, undef, undef, undef, undef, undef, undef, undef, undef, undef, undef, undef, undef, undef, undef, undef, undef, undef, undef, undef, undef, undef, undef, undef, undef, undef, undef, undef, undef, undef, undef, undef, undef, undef, undef, undef, undef, undef, undef, undef, undef, undef, undef, undef, undef, undef, undef, undef, undef, undef, undef, undef, undef, undef, undef, undef, undef, undef, undef, undef, undef, undef, undef, undef, undef, undef, undef, undef, undef, undef, undef, undef, undef, undef, undef, undef, undef, undef, undef, undef, undef, undef, undef, undef, undef, undef, undef, undef, undef, undef] H) := by kernel_rfl

/- f97 "math/bits.Len"  names: 0:x 1:x -/
theorem f97_eq (k : Nat) (x0 : Int) (H : AHeap) : C (k + 1) 97 [.int .u64 x0] H =
  (cI .i64 (C k 108 [.int .u64 x0] H) fun x H_1 =>
   some (.int .i64 x, H_1)) := by kernel_rfl

/- f98 "slices.insertionSortOrdered[int]"  names: 0:data 1:a 2:b 3:data 4:a 5:b 6:i 7:j -/
noncomputable def f98.Q0 (k : Nat)  : Kont (Value × AHeap) := retQ Try.prog Try.f98
noncomputable def f98.Q1 (k : Nat)  : Kont (Value × AHeap) := blkQ 0 (f98.Q0 k )
noncomputable def f98.Q2 (k : Nat) (n1 : Nat) : Kont (Value × AHeap) := seqQ (iter (run Try.prog (C k) k (Sub (bodyOf Try.f98) [1, 0, 0])) (f98.Q1 k ) n1) (f98.Q1 k )
noncomputable def f98.Q3 (k : Nat) (n1 : Nat) : Kont (Value × AHeap) := seqQ (gateC (Sub (bodyOf Try.f98) [1, 0, 0, 1, 0]) (Sub (bodyOf Try.f98) [1, 0, 0, 1, 1]) k (run Try.prog (C k) k (Sub (bodyOf Try.f98) [1, 0, 0, 1, 1]) (f98.Q2 k n1))) (f98.Q2 k n1)
noncomputable def f98.Q4 (k : Nat) (n1 : Nat) : Kont (Value × AHeap) := blkQ 1 (f98.Q3 k n1)
noncomputable def f98.Q5 (k : Nat) (n1 : Nat) : Kont (Value × AHeap) := blkQ 2 (f98.Q4 k n1)
noncomputable def f98.Q6 (k : Nat) (n1 : Nat) (n2 : Nat) : Kont (Value × AHeap) := seqQ (iter (run Try.prog (C k) k (Sub (bodyOf Try.f98) [1, 0, 0, 1, 0, 0, 1, 0, 0])) (f98.Q5 k n1) n2) (f98.Q5 k n1)
noncomputable def f98.L1 (k : Nat) (n1 : Nat) (a0 : Option Addr) (l0 : Nat) (c0 : Nat) (x1 : Int) (x2 : Int) (x6 : Int) (D : List Value) (H : AHeap) : Option (Value × AHeap) :=
  iter (run Try.prog (C k) k (Sub (bodyOf Try.f98) [1, 0, 0])) (f98.Q1 k ) n1 [.slice a0 l0 c0, .int .i64 x1, .int .i64 x2, undef, undef, undef, .int .i64 x6, (D.getD 0 undef), (D.getD 1 undef), (D.getD 2 undef), (D.getD 3 undef), (D.getD 4 undef), (D.getD 5 undef), (D.getD 6 undef), (D.getD 7 undef), (D.getD 8 undef), (D.getD 9 undef), (D.getD 10 undef), (D.getD 11 undef), (D.getD 12 undef), (D.getD 13 undef), (D.getD 14 undef), (D.getD 15 undef), (D.getD 16 undef), (D.getD 17 undef), (D.getD 18 undef), (D.getD 19 undef), (D.getD 20 undef), (D.getD 21 undef), (D.getD 22 undef), (D.getD 23 undef), (D.getD 24 undef), (D.getD 25 undef), (D.getD 26 undef), (D.getD 27 undef), (D.getD 28 undef), (D.getD 29 undef), (D.getD 30 undef), (D.getD 31 undef), (D.getD 32 undef), (D.getD 33 undef), (D.getD 34 undef), (D.getD 35 undef), (D.getD 36 undef), (D.getD 37 undef), (D.getD 38 undef), (D.getD 39 undef), (D.getD 40 undef), (D.getD 41 undef)] H
noncomputable def f98.L2 (k : Nat) (n1 : Nat) (n2 : Nat) (a0 : Option Addr) (l0 : Nat) (c0 : Nat) (x1 : Int) (x2 : Int) (x6 : Int) (x7 : Int) (D : List Value) (H : AHeap) : Option (Value × AHeap) :=
  iter (run Try.prog (C k) k (Sub (bodyOf Try.f98) [1, 0, 0, 1, 0, 0, 1, 0, 0])) (f98.Q5 k n1) n2 [.slice a0 l0 c0, .int .i64 x1, .int .i64 x2, undef, undef, undef, .int .i64 x6, .int .i64 x7, (D.getD 0 undef), (D.getD 1 undef), (D.getD 2 undef), (D.getD 3 undef), (D.getD 4 undef), (D.getD 5 undef), (D.getD 6 undef), (D.getD 7 undef), (D.getD 8 undef), (D.getD 9 undef), (D.getD 10 undef), (D.getD 11 undef), (D.getD 12 undef), (D.getD 13 undef), (D.getD 14 undef), (D.getD 15 undef), (D.getD 16 undef), (D.getD 17 undef), (D.getD 18 undef), (D.getD 19 undef), (D.getD 20 undef), (D.getD 21 undef), (D.getD 22 undef), (D.getD 23 undef), (D.getD 24 undef), (D.getD 25 undef), (D.getD 26 undef), (D.getD 27 undef), (D.getD 28 undef), (D.getD 29 undef), (D.getD 30 undef), (D.getD 31 undef), (D.getD 32 undef), (D.getD 33 undef), (D.getD 34 undef), (D.getD 35 undef), (D.getD 36 undef), (D.getD 37 undef), (D.getD 38 undef), (D.getD 39 undef), (D.getD 40 undef)] H
noncomputable def f98.K1 (k : Nat) (n1 : Nat) (n2 : Nat) (a0 : Option Addr) (l0 : Nat) (c0 : Nat) (x1 : Int) (x2 : Int) (x6 : Int) (x7 : Int) (D : List Value) (H : AHeap) : Option (Value × AHeap) :=
  gateC (Sub (bodyOf Try.f98) [1, 0, 0, 1, 0, 0, 1, 0, 0, 0]) (Sub (bodyOf Try.f98) [1, 0, 0, 1, 0, 0, 1, 0, 0, 1]) k (run Try.prog (C k) k (Sub (bodyOf Try.f98) [1, 0, 0, 1, 0, 0, 1, 0, 0, 1]) (f98.Q6 k n1 n2)) [.slice a0 l0 c0, .int .i64 x1, .int .i64 x2, undef, undef, undef, .int .i64 x6, .int .i64 x7, (D.getD 0 undef), (D.getD 1 undef), (D.getD 2 undef), (D.getD 3 undef), (D.getD 4 undef), (D.getD 5 undef), (D.getD 6 undef), (D.getD 7 undef), (D.getD 8 undef), (D.getD 9 undef), (D.getD 10 undef), (D.getD 11 undef), (D.getD 12 undef), (D.getD 13 undef), (D.getD 14 undef), (D.getD 15 undef), (D.getD 16 undef), (D.getD 17 undef), (D.getD 18 undef), (D.getD 19 undef), (D.getD 20 undef), (D.getD 21 undef), (D.getD 22 undef), (D.getD 23 undef), (D.getD 24 undef), (D.getD 25 undef), (D.getD 26 undef), (D.getD 27 undef), (D.getD 28 undef), (D.getD 29 undef), (D.getD 30 undef), (D.getD 31 undef), (D.getD 32 undef), (D.getD 33 undef), (D.getD 34 undef), (D.getD 35 undef), (D.getD 36 undef), (D.getD 37 undef), (D.getD 38 undef), (D.getD 39 undef), (D.getD 40 undef)] H
theorem f98.L1_z (k : Nat)  (a0 : Option Addr) (l0 : Nat) (c0 : Nat) (x1 : Int) (x2 : Int) (x6 : Int) (D : List Value) (H : AHeap) : f98.L1 k 0 a0 l0 c0 x1 x2 x6 D H = none := by kernel_rfl
theorem f98.L1_s (k : Nat) (n1 : Nat) (a0 : Option Addr) (l0 : Nat) (c0 : Nat) (x1 : Int) (x2 : Int) (x6 : Int) (D : List Value) (H : AHeap) : f98.L1 k (n1 + 1) a0 l0 c0 x1 x2 x6 D H =
  (bif (decide (x6 < x2)) then
   f98.L2 k n1 k a0 l0 c0 x1 x2 x6 x6 [(D.getD 1 undef), (D.getD 2 undef), .int .i64 x6, .int .i64 x2, .bool (decide (x6 < x2)), (D.getD 6 undef), (D.getD 7 undef), .int .i64 x6, (D.getD 9 undef), (D.getD 10 undef), (D.getD 11 undef), (D.getD 12 undef), (D.getD 13 undef), (D.getD 14 undef), (D.getD 15 undef), (D.getD 16 undef), (D.getD 17 undef), (D.getD 18 undef), (D.getD 19 undef), (D.getD 20 undef), (D.getD 21 undef), (D.getD 22 undef), (D.getD 23 undef), (D.getD 24 undef), (D.getD 25 undef), (D.getD 26 undef), (D.getD 27 undef), (D.getD 28 undef), (D.getD 29 undef), (D.getD 30 undef), (D.getD 31 undef), (D.getD 32 undef), (D.getD 33 undef), (D.getD 34 undef), (D.getD 35 undef), (D.getD 36 undef), (D.getD 37 undef), (D.getD 38 undef), (D.getD 39 undef), (D.getD 40 undef), (D.getD 41 undef)] H
   else
   some (.tuple #[], H)) := by kernel_rfl
theorem f98.L2_z (k : Nat) (n1 : Nat) (a0 : Option Addr) (l0 : Nat) (c0 : Nat) (x1 : Int) (x2 : Int) (x6 : Int) (x7 : Int) (D : List Value) (H : AHeap) : f98.L2 k n1 0 a0 l0 c0 x1 x2 x6 x7 D H = none := by kernel_rfl
theorem f98.L2_s (k : Nat) (n1 : Nat) (n2 : Nat) (a0 : Option Addr) (l0 : Nat) (c0 : Nat) (x1 : Int) (x2 : Int) (x6 : Int) (x7 : Int) (D : List Value) (H : AHeap) : f98.L2 k n1 (n2 + 1) a0 l0 c0 x1 x2 x6 x7 D H =
  (bif (decide (x7 > x1)) then
   a0.bind fun q =>
   if 0 ≤ x7 ∧ x7 < (l0 : Int) then
   bif sameB H (H.bump 15) q.block then
   (ldI .i64 (H.bump 15) q.block (q.off + x7.toNat * 1)).bind fun x =>
   a0.bind fun q_1 =>
   if 0 ≤ (IntKind.i64.wrap (x7 - (1 : Int))) ∧ (IntKind.i64.wrap (x7 - (1 : Int))) < (l0 : Int) then
   bif sameB H (H.bump 15) q_1.block then
   (ldI .i64 (H.bump 15) q_1.block (q_1.off + (IntKind.i64.wrap (x7 - (1 : Int))).toNat * 1)).bind fun x_1 =>
   cB (C k 104 [.int .i64 x, .int .i64 x_1] (H.bump 15)) fun b H_1 =>
   bif b then
   f98.K1 k n1 n2 a0 l0 c0 x1 x2 x6 x7 [(D.getD 0 undef), (D.getD 1 undef), (D.getD 2 undef), (D.getD 3 undef), (D.getD 4 undef), (D.getD 5 undef), (D.getD 6 undef), (D.getD 7 undef), .int .i64 x7, .int .i64 x1, .bool (decide (x7 > x1)), .bool true, .slice a0 l0 c0, .int .i64 x7, .pointer (some ⟨q.block, q.off + x7.toNat * 1, none⟩), .int .i64 x, .slice a0 l0 c0, .int .i64 x7, .int .i64 (IntKind.i64.wrap (x7 - (1 : Int))), .pointer (some ⟨q_1.block, q_1.off + (IntKind.i64.wrap (x7 - (1 : Int))).toNat * 1, none⟩), .int .i64 x_1, .bool b, .bool b, (D.getD 23 undef), (D.getD 24 undef), (D.getD 25 undef), (D.getD 26 undef), (D.getD 27 undef), (D.getD 28 undef), (D.getD 29 undef), (D.getD 30 undef), (D.getD 31 undef), (D.getD 32 undef), (D.getD 33 undef), (D.getD 34 undef), (D.getD 35 undef), (D.getD 36 undef), (D.getD 37 undef), (D.getD 38 undef), (D.getD 39 undef), (D.getD 40 undef)] H_1
   else
   f98.L1 k n1 a0 l0 c0 x1 x2 (IntKind.i64.wrap (x6 + (1 : Int))) [.int .i64 x7, (D.getD 0 undef), (D.getD 1 undef), (D.getD 2 undef), (D.getD 3 undef), (D.getD 4 undef), .int .i64 x6, .int .i64 (IntKind.i64.wrap (x6 + (1 : Int))), (D.getD 7 undef), .int .i64 x7, .int .i64 x1, .bool (decide (x7 > x1)), .bool true, .slice a0 l0 c0, .int .i64 x7, .pointer (some ⟨q.block, q.off + x7.toNat * 1, none⟩), .int .i64 x, .slice a0 l0 c0, .int .i64 x7, .int .i64 (IntKind.i64.wrap (x7 - (1 : Int))), .pointer (some ⟨q_1.block, q_1.off + (IntKind.i64.wrap (x7 - (1 : Int))).toNat * 1, none⟩), .int .i64 x_1, .bool b, .bool b, (D.getD 23 undef), (D.getD 24 undef), (D.getD 25 undef), (D.getD 26 undef), (D.getD 27 undef), (D.getD 28 undef), (D.getD 29 undef), (D.getD 30 undef), (D.getD 31 undef), (D.getD 32 undef), (D.getD 33 undef), (D.getD 34 undef), (D.getD 35 undef), (D.getD 36 undef), (D.getD 37 undef), (D.getD 38 undef), (D.getD 39 undef), (D.getD 40 undef)] H_1
   else none
   else none
   else none
   else none
   else
   f98.L1 k n1 a0 l0 c0 x1 x2 (IntKind.i64.wrap (x6 + (1 : Int))) [.int .i64 x7, (D.getD 0 undef), (D.getD 1 undef), (D.getD 2 undef), (D.getD 3 undef), (D.getD 4 undef), .int .i64 x6, .int .i64 (IntKind.i64.wrap (x6 + (1 : Int))), (D.getD 7 undef), .int .i64 x7, .int .i64 x1, .bool (decide (x7 > x1)), .bool false, undef, undef, undef, undef, undef, undef, undef, undef, undef, undef, .bool false, (D.getD 23 undef), (D.getD 24 undef), (D.getD 25 undef), (D.getD 26 undef), (D.getD 27 undef), (D.getD 28 undef), (D.getD 29 undef), (D.getD 30 undef), (D.getD 31 undef), (D.getD 32 undef), (D.getD 33 undef), (D.getD 34 undef), (D.getD 35 undef), (D.getD 36 undef), (D.getD 37 undef), (D.getD 38 undef), (D.getD 39 undef), (D.getD 40 undef)] (H.bump 15)) := by kernel_rfl
theorem f98.K1_eq (k : Nat) (n1 : Nat) (n2 : Nat) (a0 : Option Addr) (l0 : Nat) (c0 : Nat) (x1 : Int) (x2 : Int) (x6 : Int) (x7 : Int) (D : List Value) (H : AHeap) : f98.K1 k n1 n2 a0 l0 c0 x1 x2 x6 x7 D H =
  (a0.bind fun q =>
   if 0 ≤ (IntKind.i64.wrap (x7 - (1 : Int))) ∧ (IntKind.i64.wrap (x7 - (1 : Int))) < (l0 : Int) then
   bif sameB H (H.bump 18) q.block then
   (ldI .i64 (H.bump 18) q.block (q.off + (IntKind.i64.wrap (x7 - (1 : Int))).toNat * 1)).bind fun x =>
   a0.bind fun q_1 =>
   if 0 ≤ x7 ∧ x7 < (l0 : Int) then
   bif sameB H (H.bump 18) q_1.block then
   (ldI .i64 (H.bump 18) q_1.block (q_1.off + x7.toNat * 1)).bind fun x_1 =>
   a0.bind fun q_2 =>
   if 0 ≤ x7 ∧ x7 < (l0 : Int) then
   (AHeap.wr (H.bump 18) q_2.block (q_2.off + x7.toNat * 1) [.int .i64 x]).bind fun H_1 =>
   a0.bind fun q_3 =>
   if 0 ≤ (IntKind.i64.wrap (x7 - (1 : Int))) ∧ (IntKind.i64.wrap (x7 - (1 : Int))) < (l0 : Int) then
   (AHeap.wr H_1 q_3.block (q_3.off + (IntKind.i64.wrap (x7 - (1 : Int))).toNat * 1) [.int .i64 x_1]).bind fun H_2 =>
   f98.L2 k n1 n2 a0 l0 c0 x1 x2 x6 (IntKind.i64.wrap (x7 - (1 : Int))) [(D.getD 0 undef), (D.getD 1 undef), (D.getD 2 undef), (D.getD 3 undef), (D.getD 4 undef), (D.getD 5 undef), (D.getD 6 undef), (D.getD 7 undef), (D.getD 8 undef), (D.getD 9 undef), (D.getD 10 undef), (D.getD 11 undef), (D.getD 12 undef), (D.getD 13 undef), (D.getD 14 undef), (D.getD 15 undef), (D.getD 16 undef), (D.getD 17 undef), (D.getD 18 undef), (D.getD 19 undef), (D.getD 20 undef), (D.getD 21 undef), (D.getD 22 undef), .int .i64 x7, .int .i64 (IntKind.i64.wrap (x7 - (1 : Int))), .slice a0 l0 c0, .int .i64 x7, .slice a0 l0 c0, .int .i64 x7, .int .i64 (IntKind.i64.wrap (x7 - (1 : Int))), .slice a0 l0 c0, .int .i64 x7, .int .i64 (IntKind.i64.wrap (x7 - (1 : Int))), .pointer (some ⟨q.block, q.off + (IntKind.i64.wrap (x7 - (1 : Int))).toNat * 1, none⟩), .int .i64 x, .slice a0 l0 c0, .int .i64 x7, .pointer (some ⟨q_1.block, q_1.off + x7.toNat * 1, none⟩), .int .i64 x_1, .pointer (some ⟨q_2.block, q_2.off + x7.toNat * 1, none⟩), .pointer (some ⟨q_3.block, q_3.off + (IntKind.i64.wrap (x7 - (1 : Int))).toNat * 1, none⟩)] H_2
   else none
   else none
   else none
   else none
   else none
   else none) := by
  unfold f98.K1
  rw [gateC_eq]
  kernel_rfl
theorem f98_eq (k : Nat) (a0 : Option Addr) (l0 : Nat) (c0 : Nat) (x1 : Int) (x2 : Int) (H : AHeap) : C (k + 1) 98 [.slice a0 l0 c0, .int .i64 x1, .int .i64 x2] H =
  (f98.L1 k k a0 l0 c0 x1 x2 (IntKind.i64.wrap (x1 + (1 : Int))) [undef, .int .i64 x1, .int .i64 (IntKind.i64.wrap (x1 + (1 : Int))), undef, undef, undef, undef, undef, undef, undef, undef, undef, undef, undef, undef, undef, undef, undef, undef, undef, undef, undef, undef, undef, undef, undef, undef, undef, undef, undef, undef, undef, undef, undef, undef, undef, undef, undef, undef, undef, undef, undef] H) := by kernel_rfl

/- f104 "cmp.Less[int]"  names: 0:x 1:y 2:x 3:y -/
theorem f104_eq (k : Nat) (x0 : Int) (x1 : Int) (H : AHeap) : C (k + 1) 104 [.int .i64 x0, .int .i64 x1] H =
  (cB (C k 114 [.int .i64 x0] H) fun b H_1 =>
   bif b then
   cB (C k 114 [.int .i64 x1] H_1) fun b_1 H_2 =>
   bif (!b_1) then
   some (.bool true, H_2)
   else
   some (.bool (decide (x0 < x1)), H_2)
   else
   some (.bool (decide (x0 < x1)), H_1)) := by kernel_rfl

/- f114 "cmp.isNaN[int]"  names: 0:x 1:x -/
theorem f114_eq (k : Nat) (x0 : Int) (H : AHeap) : C (k + 1) 114 [.int .i64 x0] H =
  (some (.bool (x0 != x0), H)) := by kernel_rfl

end Go.Proofs.MxF
end

section
set_option linter.unusedSimpArgs false
/- Lists of numbers: is one among them; which locks exclude which. -/
set_option linter.unusedVariables false
namespace Go.Proofs.MxF
open Go Go.Mx Go.Proofs

theorem wrapS {i l : Nat} (h : i < l) (hl : l ≤ maxLen) : IntKind.i64.wrap ((i : Int) + 1) = ((i + 1 : Nat) : Int) := by
  unfold maxLen at hl
  rw [IntWalk.i64_in _ (by omega)]; omega
theorem drop_cons {α : Type} {xs : List α} {i : Nat} {x : α} (h : xs[i]? = some x) : xs.drop i = x :: xs.drop (i + 1) := by
  obtain ⟨hi, e⟩ := List.getElem?_eq_some_iff.1 h
  rw [List.drop_eq_getElem_cons hi, e]
/-- reading entry i -/
theorem Ints.at {H : AHeap} {a : Option Addr} {l : Nat} {xs : List Int} (h : Ints H a l xs) {i : Nat} (hi : i < l) :
    ∃ q x, xs[i]? = some x ∧ a = some q ∧ ldI .i64 H q.block (q.off + (i : Int).toNat * 1) = some x := by
  have hx : i < xs.length := by have := h.len; omega
  obtain ⟨q, e, hq⟩ := h.ld (List.getElem?_eq_getElem hx)
  exact ⟨q, xs[i], List.getElem?_eq_getElem hx, e, by rw [Nat.mul_one]; exact hq⟩
def hasI (xs : List Int) (v : Int) : Bool := xs.any fun x => x == v
theorem hasI_cons (x : Int) (xs : List Int) (v : Int) : hasI (x :: xs) v = ((x == v) || hasI xs v) := rfl
theorem hasI_at {xs : List Int} {i : Nat} {x v : Int} (h : xs[i]? = some x) : hasI (xs.drop i) v = ((x == v) || hasI (xs.drop (i + 1)) v) := by
  rw [drop_cons h]; rfl
theorem hasI_end {xs : List Int} {i : Nat} {v : Int} (h : xs.length ≤ i) : hasI (xs.drop i) v = false := by
  rw [List.drop_eq_nil_of_le h]; rfl

theorem f87_loop {k l c : Nat} {a : Option Addr} {xs : List Int} {v : Int} {H : AHeap} (h : Ints H a l xs) (hl : l ≤ maxLen) : ∀ (m i n : Nat) (D : List Value), i + m = l → m < n →
    Ok (f87.L1 k n a l c v (l : Int) (i : Int) D H) fun r => ∃ x : Int, r = (.int .i64 x, H) ∧ decide (x ≥ 0) = hasI (xs.drop i) v := by
  intro m
  induction m with
  | zero =>
    intro i n D hm hn
    obtain ⟨n, rfl⟩ : ∃ j, n = j + 1 := ⟨n - 1, by omega⟩
    rw [f87.L1_s]
    refine ok_biff (by simp only [decide_eq_false_iff_not]; omega) (Ok.ret ⟨_, rfl, ?_⟩)
    rw [hasI_end (by have := h.len; omega)]; rfl
  | succ m ih =>
    intro i n D hm hn
    obtain ⟨n, rfl⟩ : ∃ j, n = j + 1 := ⟨n - 1, by omega⟩
    rw [f87.L1_s]
    obtain ⟨q, x, hx, e, hq⟩ := Ints.at h (i := i) (by omega)
    refine ok_bift (by simp only [decide_eq_true_eq]; omega) (ok_bind e (ok_if (by omega) (ok_bind hq ?_)))
    rw [hasI_at hx, wrapS (l := l) (by omega) hl]
    refine ok_bif (fun hb => Ok.ret ⟨_, rfl, ?_⟩) (fun hb => ?_)
    · rw [beq_iff_eq] at hb; subst hb; rw [beq_self_eq_true]; simp
    · have : (x == v) = false := by rw [Bool.beq_comm] at hb; exact hb
      rw [this, Bool.false_or]
      exact ih (i + 1) n _ (by omega) (by omega)
theorem f63_spec {k l c : Nat} {a : Option Addr} {xs : List Int} {H : AHeap} (h : Ints H a l xs) (hl : l ≤ maxLen) (hk : l + 3 ≤ k) (v : Int) :
    C k 63 [.slice a l c, .int .i64 v] H = some (.bool (hasI xs v), H) := by
  obtain ⟨k, rfl⟩ : ∃ j, k = j + 1 + 1 := ⟨k - 2, by omega⟩
  rw [f63_eq, f87_eq]
  apply eq_of_ok
  obtain ⟨r, e, x, e1, e2⟩ := f87_loop (k := k) (c := c) (v := v) h hl l 0 k [.int .i64 0, undef, .slice a l c, undef, undef, undef, undef, undef, undef, undef, undef, undef] (by omega) (by omega)
  subst e1
  refine ok_cI0 (n := x) e (Ok.ret ?_)
  rw [e2]; rfl

end Go.Proofs.MxF
end

section
set_option linter.unusedSimpArgs false
/- Membership. -/
set_option linter.unusedVariables false
namespace Go.Proofs.MxF
open Go Go.Mx Go.Proofs
theorem hasI_iff {xs : List Int} {v : Int} : hasI xs v = true ↔ v ∈ xs := by
  unfold hasI
  rw [List.any_eq_true]
  constructor
  · rintro ⟨x, hx, e⟩; rw [beq_iff_eq] at e; subst e; exact hx
  · intro h; exact ⟨v, h, by simp⟩
end Go.Proofs.MxF
end

section
set_option linter.unusedSimpArgs false
/- Sorting a short list where it lies. -/
set_option linter.unusedVariables false
namespace Go.Mx
open Go Go.Proofs
theorem own_get {N : Nat} {H : AHeap} {a : Option Addr} {l c : Nat} {xs : List Int} (h : Own N 1 H a l c (ints xs)) {t : Nat} {x : Int} (ht : xs[t]? = some x) :
    ∃ q, a = some q ∧ ldI .i64 H q.block (q.off + t * 1) = some x ∧ (∀ H', Agree H H' → sameB H H' q.block = true) ∧ q.off = 0 ∧ q.spot = none := by
  have hl : t < xs.length := (List.getElem?_eq_some_iff.1 ht).1
  obtain ⟨q, e, hq⟩ := h.ints.ld ht
  rcases h.2.2 with ⟨e1, e2⟩ | ⟨i, b, e1, h0, h1, _⟩
  · rw [e1] at e; cases e
  · refine ⟨q, e, by rw [Nat.mul_one]; exact hq, ?_⟩
    rw [e1] at e; cases e
    exact ⟨fun H' A => sameB_agree h1 A, rfl, rfl⟩
end Go.Mx
namespace Go.Proofs.MxF
open Go Go.Mx Go.Proofs
theorem ints_set' (xs : List Int) (t : Nat) (v : Int) : (ints xs).set t (.int .i64 v) = ints (xs.set t v) := by
  unfold ints; rw [List.map_set]
theorem app26' (H : AHeap) (a a' : Option Addr) (l c l' c' : Nat) : apndV Try.prog [26, 26] H (.slice a l c) (.slice a' l' c') = (firstC H 1 l' (.slice a' l' c')).bind fun news => apndS 1 8 H a l c news l' := by kernel_rfl
theorem wrapP {j : Nat} (h : j + 1 ≤ maxLen) : IntKind.i64.wrap (((j + 1 : Nat) : Int) - 1) = (j : Int) := by
  unfold maxLen at h
  rw [IntWalk.i64_in _ (by omega)]; omega
theorem f104_spec {k : Nat} (hk : 2 ≤ k) (x y : Int) (H : AHeap) : C k 104 [.int .i64 x, .int .i64 y] H = some (.bool (decide (x < y)), H) := by
  obtain ⟨k, rfl⟩ : ∃ j, k = j + 1 + 1 := ⟨k - 2, by omega⟩
  rw [f104_eq]
  apply eq_of_ok
  refine ok_cB0 (n := x != x) (f114_eq k x H) (ok_biff (by simp) (Ok.ret rfl))
abbrev Srt (xs : List Int) : Prop := xs.Pairwise (· ≤ ·)
theorem srt_insert {A B : List Int} {v : Int} (h : Srt (A ++ B)) (h1 : ∀ x ∈ A, x ≤ v) (h2 : ∀ x ∈ B, v < x) : Srt (A ++ v :: B) := by
  rw [Srt, List.pairwise_append] at h ⊢
  refine ⟨h.1, List.pairwise_cons.2 ⟨fun x hx => Int.le_of_lt (h2 x hx), h.2.1⟩, fun x hx y hy => ?_⟩
  rcases List.mem_cons.1 hy with rfl | hy
  · exact h1 x hx
  · exact h.2.2 x hx y hy

theorem f98_l2 {k N : Nat} (hk : 2 ≤ k) {a : Option Addr} {l c i n1 : Nat} {P : List Int} {x2 : Int} (hl : l ≤ maxLen) {Q : Value × AHeap → Prop} : ∀ (m : Nat) (A B R : List Int) (v : Int) (H : AHeap) (D : List Value) (n2 : Nat),
    A.length = m → m < n2 → Own N 1 H a l c (ints (P ++ (A ++ v :: (B ++ R)))) → Srt (A ++ B) → (∀ b ∈ B, v < b) → P.length + A.length + B.length = i →
    (∀ zs H' D', Own N 1 H' a l c (ints (P ++ (zs ++ R))) → zs.length = A.length + 1 + B.length → Srt zs → zs.Perm (A ++ v :: B) → Keep a H H' → Ok (f98.L1 k n1 a l c (P.length : Int) x2 (IntKind.i64.wrap ((i : Int) + 1)) D' H') Q) →
    Ok (f98.L2 k n1 n2 a l c (P.length : Int) x2 (i : Int) ((P.length + m : Nat) : Int) D H) Q := by
  intro m
  induction m with
  | zero =>
    intro A B R v H D n2 hA hn h hs hv hi next
    obtain ⟨n2, rfl⟩ : ∃ j, n2 = j + 1 := ⟨n2 - 1, by omega⟩
    rw [f98.L2_s]
    obtain rfl := List.eq_nil_of_length_eq_zero hA
    refine ok_biff (by simp only [decide_eq_false_iff_not]; omega) (next (v :: B) (H.bump 15) _ (h.agree (agree_bump H 15)) (by simp; omega) (srt_insert (A := []) hs (by simp) hv) (List.Perm.refl _) (agree_bump H 15).keep)
  | succ m ih =>
    intro A B R v H D n2 hA hn h hs hv hi next
    obtain ⟨n2, rfl⟩ : ∃ j, n2 = j + 1 := ⟨n2 - 1, by omega⟩
    rw [f98.L2_s]
    obtain ⟨A', w, rfl⟩ : ∃ A' w, A = A' ++ [w] := ⟨A.dropLast, A.getLast (by intro e; subst e; cases hA), (List.dropLast_concat_getLast _).symm⟩
    have hm : A'.length = m := by simp at hA; exact hA
    have hlen := h.len
    simp only [List.length_append, List.length_cons, List.length_nil] at hlen
    have g1 : (P ++ (A' ++ [w] ++ v :: (B ++ R)))[P.length + (m + 1)]? = some v := by
      rw [List.getElem?_append_right (by omega), List.getElem?_append_right (by simp; omega)]
      simp [hm]
    have g0 : (P ++ (A' ++ [w] ++ v :: (B ++ R)))[P.length + m]? = some w := by
      rw [List.getElem?_append_right (by omega), List.append_assoc, List.getElem?_append_right (by omega)]
      simp [hm]
    have e0 : IntKind.i64.wrap (((P.length + (m + 1) : Nat) : Int) - 1) = ((P.length + m : Nat) : Int) := wrapP (j := P.length + m) (by omega)
    obtain ⟨q, eq, q1, qs, _, _⟩ := own_get h g1
    obtain ⟨q', eq', q0, _⟩ := own_get h g0
    rw [eq] at eq'
    cases eq'
    have Ab := agree_bump H 15
    have hb := h.agree Ab
    obtain ⟨p, ep, p1, _⟩ := own_get hb g1
    obtain ⟨p', ep', p0, _⟩ := own_get hb g0
    rw [eq] at ep ep'
    cases ep
    cases ep'
    refine ok_bift (by simp only [decide_eq_true_eq]; omega) (ok_bind eq (ok_if (by omega) (ok_bift (qs _ Ab) (ok_bind p1 (ok_bind eq ?_)))))
    rw [e0]
    refine ok_if (by omega) (ok_bift (qs _ Ab) (ok_bind p0 (ok_cB0 (f104_spec hk v w _) (ok_bif (fun hc => ?_) (fun hc => ?_)))))
    · rw [decide_eq_true_eq] at hc
      rw [f98.K1_eq, e0]
      have Ab2 := agree_bump (H.bump 15) 18
      have hb2 := hb.agree Ab2
      obtain ⟨r, er, r1, rs, _⟩ := own_get hb g1
      rw [eq] at er
      cases er
      obtain ⟨r, er, r1, _⟩ := own_get hb2 g1
      rw [eq] at er
      cases er
      obtain ⟨r, er, r0, _⟩ := own_get hb2 g0
      rw [eq] at er
      cases er
      refine ok_bind eq (ok_if (by omega) (ok_bift (rs _ Ab2) (ok_bind r0 (ok_bind eq (ok_if (by omega) (ok_bift (rs _ Ab2) (ok_bind r1 (ok_bind eq (ok_if (by omega) ?_)))))))))
      obtain ⟨s, H3, es, hw, h3, k3, n3⟩ := own_set hb2 (t := P.length + (m + 1)) (by omega) (.int .i64 w)
      rw [eq] at es
      cases es
      refine ok_bind hw (ok_bind eq (ok_if (by omega) ?_))
      obtain ⟨s, H4, es, hw4, h4, k4, n4⟩ := own_set h3 (t := P.length + m) (by omega) (.int .i64 v)
      rw [eq] at es
      cases es
      refine ok_bind hw4 ?_
      rw [ints_set', ints_set'] at h4
      have ex : ((P ++ (A' ++ [w] ++ v :: (B ++ R))).set (P.length + (m + 1)) w).set (P.length + m) v = P ++ (A' ++ v :: (w :: B ++ R)) := by
        rw [List.set_append_right _ _ (by omega), List.set_append_right _ _ (by omega)]
        rw [show P.length + (m + 1) - P.length = m + 1 from by omega, show P.length + m - P.length = m from by omega]
        rw [List.append_assoc, List.set_append_right _ _ (by omega), List.set_append_right _ _ (by omega), hm]
        simp
      rw [ex] at h4
      have K4 : Keep a H H4 := (Keep.of_agree (Ab.trans Ab2) k3).trans (Orig.refl _ _) k4
      refine ih A' (w :: B) R v H4 _ n2 hm (by omega) h4 (by rw [List.append_assoc] at hs; exact hs) (fun b hb => ?_) (by simp only [List.length_append, List.length_cons, List.length_nil] at hi ⊢; omega) (fun zs H' D' o1 o2 o3 o4 o5 => ?_)
      · rcases List.mem_cons.1 hb with rfl | hb
        · exact hc
        · exact hv b hb
      · refine next zs H' D' o1 (by rw [o2]; simp only [List.length_append, List.length_cons, List.length_nil]; omega) o3 (o4.trans ?_) (K4.trans (Orig.refl _ _) o5)
        rw [List.append_assoc]
        exact List.Perm.append_left _ (List.Perm.swap _ _ _)
    · rw [decide_eq_false_iff_not] at hc
      have hle : w ≤ v := by omega
      refine next (A' ++ [w] ++ v :: B) _ _ (by rw [show P ++ (A' ++ [w] ++ v :: B ++ R) = P ++ (A' ++ [w] ++ v :: (B ++ R)) from by simp]; exact hb) (by simp; omega) (srt_insert hs (fun x hx => ?_) hv) (List.Perm.refl _) Ab.keep
      rw [Srt, List.append_assoc, List.pairwise_append] at hs
      rcases List.mem_append.1 hx with hx | hx
      · exact Int.le_trans (hs.2.2 x hx w (by simp)) hle
      · rw [List.mem_singleton] at hx; subst hx; exact hle

theorem f98_l1 {k N : Nat} {a : Option Addr} {l c : Nat} {P R2 : List Int} {x2 : Int} (hl : l ≤ maxLen) (hk : l + 3 ≤ k) : ∀ (m : Nat) (S R1 : List Int) (H : AHeap) (D : List Value) (n : Nat),
    R1.length = m → m < n → Own N 1 H a l c (ints (P ++ (S ++ (R1 ++ R2)))) → Srt S → x2 = ((P.length + S.length + m : Nat) : Int) →
    Ok (f98.L1 k n a l c (P.length : Int) x2 ((P.length + S.length : Nat) : Int) D H) fun r => r.1 = .tuple #[] ∧ (∃ zs, Own N 1 r.2 a l c (ints (P ++ (zs ++ R2))) ∧ Srt zs ∧ zs.Perm (S ++ R1)) ∧ Keep a H r.2 := by
  intro m
  induction m with
  | zero =>
    intro S R1 H D n hR hn h hs hx
    obtain ⟨n, rfl⟩ : ∃ j, n = j + 1 := ⟨n - 1, by omega⟩
    rw [f98.L1_s]
    obtain rfl := List.eq_nil_of_length_eq_zero hR
    refine ok_biff (by simp only [decide_eq_false_iff_not]; omega) (Ok.ret ⟨rfl, ⟨S, h, hs, by rw [List.append_nil]⟩, (Agree.refl H).keep⟩)
  | succ m ih =>
    intro S R1 H D n hR hn h hs hx
    obtain ⟨n, rfl⟩ : ∃ j, n = j + 1 := ⟨n - 1, by omega⟩
    rw [f98.L1_s]
    cases R1 with
    | nil => cases hR
    | cons v R1 =>
      have hlen := h.len
      simp only [List.length_append, List.length_cons] at hlen hR
      refine ok_bift (by simp only [decide_eq_true_eq]; omega) ?_
      refine f98_l2 (N := N) (by omega) (P := P) (i := P.length + S.length) hl S.length S [] (R1 ++ R2) v H _ k rfl (by omega) h (by rw [List.append_nil]; exact hs) (fun b hb => by cases hb) rfl (fun zs H' D' o1 o2 o3 o4 o5 => ?_)
      rw [wrapS (l := P.length + S.length + 1) (by omega) (by omega)]
      have o2' : zs.length = S.length + 1 := o2
      obtain ⟨r, e, e1, ⟨ws, w1, w2, w3⟩, e3⟩ := ih zs R1 H' D' n (by omega) (by omega) o1 o3 (by omega)
      rw [show P.length + S.length + 1 = P.length + zs.length from by omega]
      refine ⟨r, e, e1, ⟨ws, w1, w2, w3.trans ?_⟩, o5.trans (Orig.refl _ _) e3⟩
      exact (o4.append_right R1).trans (by simp)
theorem f98_spec {k N : Nat} {a : Option Addr} {l c : Nat} {P M R : List Int} {H : AHeap} (hl : l < maxLen) (hk : l + 5 ≤ k) (h : Own N 1 H a l c (ints (P ++ (M ++ R)))) :
    ∃ H', C k 98 [.slice a l c, .int .i64 (P.length : Int), .int .i64 ((P.length + M.length : Nat) : Int)] H = some (.tuple #[], H') ∧ ((∃ zs, Own N 1 H' a l c (ints (P ++ (zs ++ R))) ∧ Srt zs ∧ zs.Perm M) ∧ Keep a H H') := by
  obtain ⟨k, rfl⟩ : ∃ j, k = j + 1 := ⟨k - 1, by omega⟩
  have hlen := h.len
  simp only [List.length_append] at hlen
  rw [f98_eq]
  refine call_of_ok ?_
  have e0 : IntKind.i64.wrap ((P.length : Int) + 1) = ((P.length + 1 : Nat) : Int) := by unfold maxLen at hl; rw [IntWalk.i64_in _ (by omega)]; omega
  rw [e0]
  cases M with
  | nil =>
    obtain ⟨k, rfl⟩ : ∃ j, k = j + 1 := ⟨k - 1, by omega⟩
    rw [f98.L1_s]
    exact ok_biff (by simp only [decide_eq_false_iff_not, List.length_nil]; omega) (Ok.ret ⟨rfl, ⟨[], h, .nil, .nil⟩, (Agree.refl H).keep⟩)
  | cons v M =>
    simp only [List.length_cons] at hlen ⊢
    have key := fun D => f98_l1 (k := k) (N := N) (P := P) (R2 := R) (x2 := ((P.length + (M.length + 1) : Nat) : Int)) (Nat.le_of_lt hl) (by omega) M.length [v] M H D k rfl (by omega) (by simpa using h) (List.pairwise_singleton _ _) (by simp only [List.length_cons, List.length_nil]; omega)
    exact key _

theorem len64 (k : Nat) (H : AHeap) (n : Nat) (h : n ≤ 12) : ∃ r, C (k + 1 + 1) 108 [.int .u64 (n : Int)] H = some (.int .i64 r, H) := by
  match n, h with
  | 0, _ => exact ⟨0, by kernel_rfl⟩
  | 1, _ => exact ⟨1, by kernel_rfl⟩
  | 2, _ => exact ⟨2, by kernel_rfl⟩
  | 3, _ => exact ⟨2, by kernel_rfl⟩
  | 4, _ => exact ⟨3, by kernel_rfl⟩
  | 5, _ => exact ⟨3, by kernel_rfl⟩
  | 6, _ => exact ⟨3, by kernel_rfl⟩
  | 7, _ => exact ⟨3, by kernel_rfl⟩
  | 8, _ => exact ⟨4, by kernel_rfl⟩
  | 9, _ => exact ⟨4, by kernel_rfl⟩
  | 10, _ => exact ⟨4, by kernel_rfl⟩
  | 11, _ => exact ⟨4, by kernel_rfl⟩
  | 12, _ => exact ⟨4, by kernel_rfl⟩

/-- slices.Sort of a short slice -/
theorem f83_short {k N : Nat} {a : Option Addr} {l c : Nat} {xs : List Int} {H : AHeap} (hl : l ≤ 12) (hk : 30 ≤ k) (h : Own N 1 H a l c (ints xs)) :
    ∃ H', C k 83 [.slice a l c] H = some (.tuple #[], H') ∧ ((∃ zs, Own N 1 H' a l c (ints zs) ∧ Srt zs ∧ zs.Perm xs) ∧ Keep a H H') := by
  obtain ⟨k, rfl⟩ : ∃ j, k = j + 1 + 1 + 1 + 1 := ⟨k - 4, by omega⟩
  have hlen := h.len
  rw [f83_eq]
  refine call_of_ok ?_
  have ew : IntKind.u64.wrap (l : Int) = (l : Int) := IntWalk.u64_in _ (by omega)
  rw [ew, f97_eq]
  obtain ⟨r, er⟩ := len64 k H l hl
  refine ok_cI0 (n := r) (eq_of_ok (ok_cI0 (n := r) er (Ok.ret rfl))) ?_
  have hM : l < maxLen := by unfold maxLen; omega
  have h0 : Own N 1 H a l c (ints ([] ++ (xs ++ []))) := by simpa using h
  have sp := f98_spec (k := k + 1 + 1) (P := []) (M := xs) (R := []) hM (by omega) h0
  have en : ((([] : List Int).length + xs.length : Nat) : Int) = (l : Int) := by rw [hlen]; simp
  rw [en] at sp
  refine ok_cT1 (g := []) (P := fun H' => (∃ zs, Own N 1 H' a l c (ints zs) ∧ Srt zs ∧ zs.Perm xs) ∧ Keep a H H') ?_ (fun H' hp => Ok.ret ⟨rfl, hp⟩)
  rw [f96_eq]
  refine call_of_ok ?_
  rw [f96.L1_s]
  have e12 : IntKind.i64.wrap ((l : Int) - 0) = (l : Int) := by rw [IntWalk.i64_in _ (by omega)]; omega
  rw [e12]
  refine ok_bift (by simp only [decide_eq_true_eq]; omega) (ok_cT1 (g := []) sp fun H' hp => Ok.ret ⟨rfl, ?_⟩)
  obtain ⟨⟨zs, h1, h2, h3⟩, h4⟩ := hp
  exact ⟨⟨zs, by simpa using h1, h2, h3⟩, h4⟩
end Go.Proofs.MxF
end

section
set_option linter.unusedSimpArgs false
/- Equal neighbours taken out, where the list lies. -/
set_option linter.unusedVariables false
namespace Go.Mx
open Go Go.Proofs
def cmpS (acc : List Int) (v : Int) : List Int := if acc.getLast? = some v then acc else acc ++ [v]
/-- equal neighbours taken out -/
def cmp (xs : List Int) : List Int := xs.foldl cmpS []
theorem cmp_snoc (xs : List Int) (v : Int) : cmp (xs ++ [v]) = cmpS (cmp xs) v := by unfold cmp; rw [List.foldl_append]; rfl
theorem snoc_ind {p : List Int → Prop} (h0 : p []) (h1 : ∀ xs v, p xs → p (xs ++ [v])) : ∀ xs, p xs := by
  intro xs
  have : ∀ n (xs : List Int), xs.length = n → p xs := by
    intro n
    induction n with
    | zero => intro xs h; rw [List.eq_nil_of_length_eq_zero h]; exact h0
    | succ n ih =>
      intro xs h
      have hne : xs ≠ [] := by intro e; subst e; cases h
      rw [← List.dropLast_concat_getLast hne]
      exact h1 _ _ (ih _ (by rw [List.length_dropLast]; omega))
  exact this _ xs rfl
theorem cmp_last (xs : List Int) : (cmp xs).getLast? = xs.getLast? := by
  refine snoc_ind (p := fun xs => (cmp xs).getLast? = xs.getLast?) rfl (fun xs v ih => ?_) xs
  rw [cmp_snoc]
  unfold cmpS
  split
  · next h => rw [h]; simp
  · simp
theorem mem_cmp {xs : List Int} : ∀ {v : Int}, v ∈ cmp xs ↔ v ∈ xs := by
  refine snoc_ind (p := fun xs => ∀ {v : Int}, v ∈ cmp xs ↔ v ∈ xs) (fun {v} => Iff.rfl) (fun xs w ih v => ?_) xs
  rw [cmp_snoc, List.mem_append, List.mem_singleton]
  unfold cmpS
  split
  · next h =>
    rw [ih]
    constructor
    · exact .inl
    · rintro (h1 | rfl)
      · exact h1
      · exact ih.1 (List.mem_of_getLast? h)
  · rw [List.mem_append, List.mem_singleton, ih]
theorem cmp_strict {xs : List Int} : xs.Pairwise (· ≤ ·) → (cmp xs).Pairwise (· < ·) := by
  refine snoc_ind (p := fun xs => xs.Pairwise (· ≤ ·) → (cmp xs).Pairwise (· < ·)) (fun _ => .nil) (fun xs v ih h => ?_) xs
  rw [List.pairwise_append] at h
  rw [cmp_snoc]
  unfold cmpS
  split
  · exact ih h.1
  · next hne =>
    rw [List.pairwise_append]
    refine ⟨ih h.1, List.pairwise_singleton _ _, fun x hx y hy => ?_⟩
    rw [List.mem_singleton] at hy
    subst hy
    have hle := h.2.2 x (mem_cmp.1 hx) y (by simp)
    rcases Int.lt_or_eq_of_le hle with h1 | rfl
    · exact h1
    · exfalso
      -- x is the greatest element, and is in cmp xs: then it is the last one
      have hs := ih h.1
      obtain ⟨z, hz⟩ : ∃ z, (cmp xs).getLast? = some z := by
        cases e : (cmp xs).getLast? with
        | none => rw [List.getLast?_eq_none_iff] at e; rw [e] at hx; cases hx
        | some z => exact ⟨z, rfl⟩
      have hzle : z ≤ x := h.2.2 z (mem_cmp.1 (List.mem_of_getLast? hz)) x (by simp)
      have hne' : cmp xs ≠ [] := by intro e; rw [e] at hx; cases hx
      have hd := List.dropLast_concat_getLast hne'
      have hz' : (cmp xs).getLast hne' = z := by
        rw [List.getLast?_eq_some_getLast hne'] at hz; exact Option.some.inj hz
      rw [hz'] at hd
      rw [← hd, List.mem_append, List.mem_singleton] at hx
      rcases hx with hx | rfl
      · rw [← hd, List.pairwise_append] at hs
        have := hs.2.2 x hx z (by simp)
        omega
      · exact hne hz
theorem cmp_take {xs : List Int} {i : Nat} {v w : Int} (h : xs[i + 1]? = some v) (h' : xs[i]? = some w) : cmp (xs.take (i + 1 + 1)) = if w = v then cmp (xs.take (i + 1)) else cmp (xs.take (i + 1)) ++ [v] := by
  have e : xs.take (i + 1 + 1) = xs.take (i + 1) ++ [v] := by rw [List.take_add_one, h]; rfl
  have e' : xs.take (i + 1) = xs.take i ++ [w] := by rw [List.take_add_one, h']; rfl
  rw [e, cmp_snoc]
  unfold cmpS
  rw [cmp_last, e']
  simp only [List.getLast?_append, List.getLast?_singleton, Option.some_or, Option.some.injEq]
theorem strict_ext : ∀ {xs ys : List Int}, xs.Pairwise (· < ·) → ys.Pairwise (· < ·) → (∀ v, v ∈ xs ↔ v ∈ ys) → xs = ys := by
  intro xs
  induction xs with
  | nil =>
    intro ys _ _ h
    cases ys with
    | nil => rfl
    | cons y ys => have := (h y).2 (by simp); cases this
  | cons x xs ih =>
    intro ys hx hy h
    cases ys with
    | nil => have := (h x).1 (by simp); cases this
    | cons y ys =>
      rw [List.pairwise_cons] at hx hy
      have hxy : x = y := by
        have h1 := (h x).1 (by simp)
        have h2 := (h y).2 (by simp)
        rcases List.mem_cons.1 h1 with e | h1
        · exact e
        · rcases List.mem_cons.1 h2 with e | h2
          · exact e.symm
          · have := hy.1 x h1; have := hx.1 y h2; omega
      subst hxy
      congr 1
      refine ih hx.2 hy.2 fun v => ?_
      constructor
      · intro hv
        rcases List.mem_cons.1 ((h v).1 (List.mem_cons_of_mem _ hv)) with rfl | h3
        · have := hx.1 v hv; omega
        · exact h3
      · intro hv
        rcases List.mem_cons.1 ((h v).2 (List.mem_cons_of_mem _ hv)) with rfl | h3
        · have := hy.1 v hv; omega
        · exact h3
theorem cutLo {a : Option Addr} {l c lo : Nat} (h : lo ≤ l) (hc : l ≤ c) : cutSl 1 a l c (some (lo : Int)) none none = some (a.map fun a => ⟨a.block, a.off + lo * 1, a.spot⟩, l - lo, c - lo) := by
  unfold cutSl cutBounds
  dsimp only
  simp only [Option.getD_some, Option.isSome_none]
  rw [if_pos (by omega)]
  simp
theorem cutHi {a : Option Addr} {l c hi : Nat} (h : hi ≤ l) (hc : l ≤ c) : cutSl 1 a l c none (some (hi : Int)) none = some (a, hi, c) := by
  unfold cutSl cutBounds
  dsimp only
  simp only [Option.getD_none, Option.isSome_none]
  rw [if_pos (by omega)]
  simp
end Go.Mx
end

section
set_option linter.unusedSimpArgs false
/- slices.Compact and lockset.set. -/
set_option linter.unusedVariables false
namespace Go.Proofs.MxF
open Go Go.Mx Go.Proofs
theorem clear26 (H : AHeap) (q : Addr) (n c : Nat) : clearV Try.prog [26] H (.slice (some q) n c) = if n = 0 then some H else H.wr q.block q.off (rep [.int .i64 0] n) := by kernel_rfl
theorem rep_len (v : Value) (n : Nat) : (rep [v] n).length = n := by
  induction n with
  | zero => rfl
  | succ n ih => rw [rep]; simp [ih]
/-- the tail cleared, and the slice cut -/
theorem own_clear {N : Nat} {H : AHeap} {a : Option Addr} {l c k : Nat} {xs : List Int} (h : Own N 1 H a l c (ints xs)) (hk : k ≤ l) {q : Addr} (hq : a = some q) (c' : Nat) :
    ∃ H', clearV Try.prog [26] H (.slice (some ⟨q.block, q.off + k * 1, q.spot⟩) (l - k) c') = some H' ∧ Own N 1 H' a k c (ints (xs.take k)) ∧ Keep a H H' := by
  rw [clear26]
  rcases h.2.2 with ⟨e, e2⟩ | ⟨i, b, e, h0, h1, h2, h3, h4, h5⟩
  · rw [e] at hq; cases hq
  rw [e] at hq
  cases hq
  have hlen := h.1
  have hlc := h.2.1
  have ht : ∀ cells : List Value, cells.take (k * 1) = b.cells.take (k * 1) → cells.take (k * 1) = ints (xs.take k) := by
    intro cells hc
    rw [hc]
    have : ints (xs.take k) = (ints xs).take k := by unfold ints; rw [List.map_take]
    rw [this, ← h5, List.take_take, Nat.mul_one, Nat.mul_one, Nat.min_eq_left hk]
  have hxl : (xs.take k).length = k := by
    have : (ints xs).length = xs.length := by simp [ints]
    rw [List.length_take]
    omega
  by_cases hz : l - k = 0
  · rw [if_pos hz]
    exact ⟨H, rfl, ⟨by simp only [ints, List.length_map, hxl, Nat.mul_one], by omega, .inr ⟨i, b, e, h0, h1, h2, h3, h4, ht _ rfl⟩⟩, (Agree.refl H).keep⟩
  · rw [if_neg hz]
    obtain ⟨H', hw, w1, w2, w3⟩ := wr_at (o := 0 + k * 1) (vs := rep [.int .i64 0] (l - k)) h1 h2 (by rw [rep_len]; omega)
    refine ⟨H', hw, ⟨by simp only [ints, List.length_map, hxl, Nat.mul_one], by omega, .inr ⟨i, _, e, h0, w2, h2, h3, ?_, ht _ ?_⟩⟩, ⟨by omega, fun j hj hne => w3 j fun e1 => hne _ e e1.symm, fun f j hj => ?_⟩⟩
    · show (splice b.cells (0 + k * 1) (rep [.int .i64 0] (l - k))).length = c * 1
      unfold splice
      simp only [List.length_append, List.length_take, List.length_drop, rep_len]
      omega
    · show (splice b.cells (0 + k * 1) (rep [.int .i64 0] (l - k))).take (k * 1) = _
      unfold splice
      rw [List.append_assoc, List.take_append_of_le_length (by rw [List.length_take]; omega), List.take_take, Nat.zero_add, Nat.min_self]
    · rw [w1] at hj
      rw [w3 j (by have := h1.1; omega)]
      exact f j hj

theorem ldoff {H : AHeap} {b : Nat} {o o' : Nat} {x : Int} (h : ldI .i64 H b o = some x) (e : o = o') : ldI .i64 H b o' = some x := by rw [← e]; exact h

theorem f84_l2 {k N : Nat} {a : Option Addr} {l c i0 n1 : Nat} {xs : List Int} {q : Addr} (hq : a = some q) (hq0 : q.off = 0) (hl : l < maxLen) : ∀ (m p w n2 : Nat) (ys : List Int) (H : AHeap) (D : List Value),
    p + m = l → m < n2 → i0 < p → 0 < w → w ≤ p - 1 → xs.length = l → Own N 1 H a l c (ints ys) → ys.take w = cmp (xs.take p) → ys.drop (p - 1) = xs.drop (p - 1) →
    Ok (f84.L2 k n1 n2 a l c (w : Int) (some ⟨q.block, q.off + i0 * 1, q.spot⟩) (l - i0) (c - i0) ((p - i0 : Nat) : Int) D H) fun r => ∃ l', r.1 = .slice a l' c ∧ (Own N 1 r.2 a l' c (ints (cmp xs)) ∧ Keep a H r.2) := by
  intro m
  induction m with
  | zero =>
    intro p w n2 ys H D hm hn hi hw hwp hxl h ht hd
    obtain ⟨n2, rfl⟩ : ∃ j, n2 = j + 1 := ⟨n2 - 1, by omega⟩
    rw [f84.L2_s]
    refine ok_biff (by simp only [decide_eq_false_iff_not]; omega) ?_
    refine ok_bSl (cutLo (by omega) h.2.1) ?_
    obtain ⟨H', e, h1, h2⟩ := own_clear h (k := w) (by omega) hq (c - w)
    subst hq
    refine ok_bind e (ok_bSl (cutHi (by omega) h.2.1) (Ok.ret ⟨w, rfl, ?_, h2⟩))
    rw [ht, List.take_of_length_le (by omega)] at h1
    exact h1
  | succ m ih =>
    intro p w n2 ys H D hm hn hi hw hwp hxl h ht hd
    obtain ⟨n2, rfl⟩ : ∃ j, n2 = j + 1 := ⟨n2 - 1, by omega⟩
    rw [f84.L2_s]
    have hlen := h.len
    obtain ⟨p', rfl⟩ : ∃ p', p = p' + 1 := ⟨p - 1, by omega⟩
    rw [Nat.add_sub_cancel] at hd hwp
    have hy : ∀ j, p' ≤ j → ys[j]? = xs[j]? := by
      intro j hj
      have : (ys.drop p')[j - p']? = (xs.drop p')[j - p']? := by rw [hd]
      rw [List.getElem?_drop, List.getElem?_drop, show p' + (j - p') = j from by omega] at this
      exact this
    have g1 : xs[p' + 1]? = some xs[p' + 1] := List.getElem?_eq_getElem (by omega)
    have g0 : xs[p']? = some xs[p'] := List.getElem?_eq_getElem (by omega)
    have hct := cmp_take g1 g0
    revert g1 g0 hct
    generalize xs[p' + 1] = x
    generalize xs[p'] = y
    intro g1 g0 hct
    rw [← hy (p' + 1) (by omega)] at g1
    rw [← hy p' (by omega)] at g0
    have Ab := agree_bump H 10
    have hb := h.agree Ab
    obtain ⟨s, es, l1, ls, _⟩ := own_get h g1
    rw [hq] at es
    cases es
    obtain ⟨s, es, m1, _⟩ := own_get hb g1
    rw [hq] at es
    cases es
    obtain ⟨s, es, m0, _⟩ := own_get hb g0
    rw [hq] at es
    cases es
    have e1 : (((p' + 1 - i0 : Nat) : Int)).toNat = p' + 1 - i0 := by omega
    have e0 : IntKind.i64.wrap (((p' + 1 - i0 : Nat) : Int) - 1) = ((p' - i0 : Nat) : Int) := by
      unfold maxLen at hl
      rw [IntWalk.i64_in _ (by omega)]; omega
    refine ok_bift (by simp only [decide_eq_true_eq]; omega) (ok_bind rfl (ok_if (by omega) (ok_bift (ls _ Ab) ?_)))
    refine ok_bind (ldoff m1 (by rw [e1]; show q.off + (p' + 1) * 1 = q.off + i0 * 1 + (p' + 1 - i0) * 1; omega)) (ok_bind rfl ?_)
    rw [e0]
    refine ok_if (by omega) (ok_bift (ls _ Ab) (ok_bind (ldoff m0 (by show q.off + p' * 1 = q.off + i0 * 1 + (((p' - i0 : Nat) : Int)).toNat * 1; omega)) ?_))
    have ew : IntKind.i64.wrap (((p' + 1 - i0 : Nat) : Int) + 1) = ((p' + 1 + 1 - i0 : Nat) : Int) := by
      unfold maxLen at hl
      rw [IntWalk.i64_in _ (by omega)]; omega
    have ew2 : IntKind.i64.wrap ((w : Int) + 1) = ((w + 1 : Nat) : Int) := wrapS (l := l) (by omega) (Nat.le_of_lt hl)
    refine ok_bif (fun hc => ?_) (fun hc => ?_)
    · simp only [bne_iff_ne, ne_eq] at hc
      refine ok_bind rfl (ok_if (by omega) (ok_bind (ldoff m1 (by rw [e1]; show q.off + (p' + 1) * 1 = q.off + i0 * 1 + (p' + 1 - i0) * 1; omega)) (ok_bind hq (ok_if (by omega) ?_))))
      obtain ⟨s, H2, es, hwr, h2, k2, n2'⟩ := own_set hb (t := w) (by omega) (.int .i64 x)
      rw [hq] at es
      cases es
      refine ok_bind hwr ?_
      rw [ints_set'] at h2
      rw [ew, ew2]
      have t2 : (ys.set w x).take (w + 1) = cmp (xs.take (p' + 1 + 1)) := by
        rw [hct, if_neg (fun e => hc e.symm), ← ht, List.take_add_one, List.getElem?_set_self (by omega), List.take_set, List.set_eq_of_length_le (by rw [List.length_take]; omega)]
        rfl
      have d2 : (ys.set w x).drop (p' + 1 + 1 - 1) = xs.drop (p' + 1 + 1 - 1) := by
        rw [Nat.add_sub_cancel, List.drop_set_of_lt (by omega)]
        have := congrArg (List.drop 1) hd
        rw [List.drop_drop, List.drop_drop] at this
        exact this
      obtain ⟨r, e, l', r1, r2, r3⟩ := ih (p' + 1 + 1) (w + 1) n2 (ys.set w x) H2 _ (by omega) (by omega) (by omega) (by omega) (by omega) hxl h2 t2 d2
      exact ⟨r, e, l', r1, r2, (Keep.of_agree Ab k2).trans (Orig.refl _ _) r3⟩
    · simp only [bne_eq_false_iff_eq] at hc
      rw [ew]
      have t2 : ys.take w = cmp (xs.take (p' + 1 + 1)) := by rw [hct, if_pos hc.symm]; exact ht
      have d2 : ys.drop (p' + 1 + 1 - 1) = xs.drop (p' + 1 + 1 - 1) := by
        rw [Nat.add_sub_cancel]
        have := congrArg (List.drop 1) hd
        rw [List.drop_drop, List.drop_drop] at this
        exact this
      obtain ⟨r, e, l', r1, r2, r3⟩ := ih (p' + 1 + 1) w n2 ys (H.bump 10) _ (by omega) (by omega) (by omega) (by omega) (by omega) hxl hb t2 d2
      exact ⟨r, e, l', r1, r2, Keep.of_agree Ab r3⟩

theorem f84_l1 {k N : Nat} {a : Option Addr} {l c : Nat} {xs : List Int} (hl : l < maxLen) (hk : l < k) : ∀ (m i n : Nat) (H : AHeap) (D : List Value),
    i + m = l → m < n → 1 ≤ i → Own N 1 H a l c (ints xs) → cmp (xs.take i) = xs.take i →
    Ok (f84.L1 k n a l c (i : Int) D H) fun r => ∃ l', r.1 = .slice a l' c ∧ (Own N 1 r.2 a l' c (ints (cmp xs)) ∧ Keep a H r.2) := by
  intro m
  induction m with
  | zero =>
    intro i n H D hm hn hi h hc
    obtain ⟨n, rfl⟩ : ∃ j, n = j + 1 := ⟨n - 1, by omega⟩
    rw [f84.L1_s]
    refine ok_biff (by simp only [decide_eq_false_iff_not]; omega) (Ok.ret ⟨l, rfl, ?_, (Agree.refl H).keep⟩)
    have := h.len
    rw [List.take_of_length_le (by omega)] at hc
    rw [hc]; exact h
  | succ m ih =>
    intro i n H D hm hn hi h hc
    obtain ⟨n, rfl⟩ : ∃ j, n = j + 1 := ⟨n - 1, by omega⟩
    rw [f84.L1_s]
    have hlen := h.len
    obtain ⟨i, rfl⟩ : ∃ i', i = i' + 1 := ⟨i - 1, by omega⟩
    have g1 : xs[i + 1]? = some xs[i + 1] := List.getElem?_eq_getElem (by omega)
    have g0 : xs[i]? = some xs[i] := List.getElem?_eq_getElem (by omega)
    have hct := cmp_take g1 g0
    have htk : xs.take (i + 1 + 1) = xs.take (i + 1) ++ [xs[i + 1]] := by rw [List.take_add_one, g1]; rfl
    revert g1 g0 hct htk
    generalize xs[i + 1] = x
    generalize xs[i] = y
    intro g1 g0 hct htk
    have Ab := agree_bump H 10
    have hb := h.agree Ab
    obtain ⟨q, eq, l1, ls, hq0, _⟩ := own_get h g1
    obtain ⟨s, es, m1, _⟩ := own_get hb g1
    rw [eq] at es
    cases es
    obtain ⟨s, es, m0, _⟩ := own_get hb g0
    rw [eq] at es
    cases es
    refine ok_bift (by simp only [decide_eq_true_eq]; omega) (ok_bind eq (ok_if (by omega) (ok_bift (ls _ Ab) (ok_bind m1 (ok_bind eq ?_)))))
    rw [wrapP (j := i) (by omega)]
    refine ok_if (by omega) (ok_bift (ls _ Ab) (ok_bind m0 (ok_bif (fun hb' => ?_) (fun hb' => ?_))))
    · rw [beq_iff_eq] at hb'
      subst hb'
      refine ok_bSl (cutLo (by omega) h.2.1) ?_
      rw [eq]
      rw [if_pos rfl] at hct
      have key := fun D => f84_l2 (k := k) (N := N) (a := some q) (l := l) (c := c) (i0 := i + 1) (n1 := n) (xs := xs) (q := q) rfl hq0 hl m (i + 1 + 1) (i + 1) k xs (H.bump 10) D (by omega) (by omega) (by omega) (by omega) (by omega) hlen.symm (by rw [← eq]; exact hb) (by rw [hct, hc]) rfl
      rw [show i + 1 + 1 - (i + 1) = 1 from by omega] at key
      obtain ⟨r, e, l', r1, r2, r3⟩ := key _
      exact ⟨r, e, l', r1, r2, Keep.of_agree Ab r3⟩
    · have hne : ¬ (y = x) := by simp only [beq_eq_false_iff_ne, ne_eq] at hb'; exact fun e => hb' e.symm
      rw [wrapS (i := i + 1) (l := l) (by omega) (Nat.le_of_lt hl)]
      rw [if_neg hne, hc, ← htk] at hct
      obtain ⟨r, e, l', r1, r2, r3⟩ := ih (i + 1 + 1) n (H.bump 10) _ (by omega) (by omega) (by omega) hb hct
      exact ⟨r, e, l', r1, r2, Keep.of_agree Ab r3⟩
theorem cmp_short {xs : List Int} (h : xs.length < 2) : cmp xs = xs := by
  match xs, h with
  | [], _ => rfl
  | [x], _ => rfl
theorem f84_spec {k N : Nat} {a : Option Addr} {l c : Nat} {xs : List Int} {H : AHeap} (hl : l < maxLen) (hk : l + 3 ≤ k) (h : Own N 1 H a l c (ints xs)) :
    ∃ a' l' c' H', C k 84 [.slice a l c] H = some (.slice a' l' c', H') ∧ (a' = a ∧ Own N 1 H' a l' c' (ints (cmp xs)) ∧ Keep a H H') := by
  obtain ⟨k, rfl⟩ : ∃ j, k = j + 1 := ⟨k - 1, by omega⟩
  rw [f84_eq]
  have hlen := h.len
  refine callsl_of_ok (ok_bif (fun hc => Ok.ret ⟨a, l, c, rfl, rfl, ?_, (Agree.refl H).keep⟩) (fun hc => ?_))
  · rw [decide_eq_true_eq] at hc
    rw [cmp_short (by omega)]; exact h
  · rw [decide_eq_false_iff_not] at hc
    have key := fun D => f84_l1 (k := k) (N := N) (xs := xs) hl (by omega) (l - 1) 1 k H D (by omega) (by omega) (by omega) h (cmp_short (by rw [List.length_take]; omega))
    obtain ⟨r, e, l', r1, r2, r3⟩ := key _
    exact ⟨r, e, a, l', c, r1, rfl, r2, r3⟩
end Go.Proofs.MxF
end

section
set_option linter.unusedSimpArgs false
/- Lists that are filtered. -/
set_option linter.unusedVariables false
namespace Go.Proofs.MxF
open Go Go.Mx Go.Proofs
abbrev Strict (xs : List Int) : Prop := xs.Pairwise (· < ·)

theorem filter_take {xs : List Int} {kp : Int → Bool} {i : Nat} {x : Int} (h : xs[i]? = some x) : (xs.take (i + 1)).filter kp = if kp x then (xs.take i).filter kp ++ [x] else (xs.take i).filter kp := by
  rw [List.take_add_one, h, List.filter_append]
  by_cases hx : kp x <;> simp [hx]

end Go.Proofs.MxF
end

section
set_option linter.unusedSimpArgs false
/- Lists whose elements are rows of cells. -/
set_option linter.unusedVariables false
namespace Go.Mx
open Go
section
variable {α : Type} {f : α → List Value} {sz : Nat}
theorem flat_len (hf : ∀ x, (f x).length = sz) (xs : List α) : (xs.flatMap f).length = xs.length * sz := by
  induction xs with
  | nil => simp
  | cons x xs ih => rw [List.flatMap_cons, List.length_append, ih, hf, List.length_cons, Nat.succ_mul, Nat.add_comm]
theorem flat_split (hf : ∀ x, (f x).length = sz) {xs : List α} {i : Nat} {x : α} (h : xs[i]? = some x) :
    xs.flatMap f = (xs.take i).flatMap f ++ (f x ++ (xs.drop (i + 1)).flatMap f) ∧ ((xs.take i).flatMap f).length = i * sz := by
  obtain ⟨hi, e⟩ := List.getElem?_eq_some_iff.1 h
  constructor
  · conv => lhs; rw [← List.take_append_drop i xs, List.flatMap_append, List.drop_eq_getElem_cons hi, e, List.flatMap_cons]
  · rw [flat_len hf, List.length_take]
    congr 1
    omega
theorem flat_get (hf : ∀ x, (f x).length = sz) {xs : List α} {i j : Nat} {x : α} (h : xs[i]? = some x) (hj : j < sz) : (xs.flatMap f)[i * sz + j]? = (f x)[j]? := by
  obtain ⟨e, hl⟩ := flat_split hf h
  rw [e, List.getElem?_append_right (by omega), hl, Nat.add_sub_cancel_left, List.getElem?_append_left (by rw [hf]; exact hj)]
theorem flat_row (hf : ∀ x, (f x).length = sz) {xs : List α} {i : Nat} {x : α} (h : xs[i]? = some x) : ((xs.flatMap f).drop (i * sz)).take sz = f x := by
  obtain ⟨e, hl⟩ := flat_split hf h
  rw [e, List.drop_left' hl, List.take_left' (hf x)]
theorem flat_splice (hf : ∀ x, (f x).length = sz) {xs : List α} {i j : Nat} {x y : α} {vs : List Value} (h : xs[i]? = some x) (hj : j + vs.length ≤ sz) (hy : f y = splice (f x) j vs) :
    splice (xs.flatMap f) (i * sz + j) vs = (xs.set i y).flatMap f := by
  obtain ⟨e, hl⟩ := flat_split hf h
  obtain ⟨hi, _⟩ := List.getElem?_eq_some_iff.1 h
  have e2 : (xs.set i y).flatMap f = (xs.take i).flatMap f ++ (f y ++ (xs.drop (i + 1)).flatMap f) := by
    rw [List.set_eq_take_append_cons_drop, if_pos hi, List.flatMap_append, List.flatMap_cons]
  rw [e2, hy, e]
  generalize (xs.take i).flatMap f = A at hl
  generalize (xs.drop (i + 1)).flatMap f = B
  have hx := hf x
  revert hx
  generalize f x = X
  intro hx
  unfold splice
  rw [List.take_append, List.take_append, List.take_of_length_le (by omega), hl, Nat.add_sub_cancel_left]
  rw [show j - X.length = 0 from by omega, List.take_zero, List.append_nil]
  rw [show i * sz + j + vs.length = A.length + (j + vs.length) from by omega, ← List.drop_drop, List.drop_left' rfl, List.drop_append_of_le_length (by omega)]
  simp
theorem flat_snoc (xs : List α) (x : α) : (xs ++ [x]).flatMap f = xs.flatMap f ++ f x := by
  rw [List.flatMap_append, List.flatMap_singleton]
end

/-- cells that are read, all in blocks of a kind -/
def CellsF (F : Nat → Prop) (H : AHeap) (a : Option Addr) (n : Nat) (cs : List Value) : Prop := Cells H a n cs ∧ ∀ q, a = some q → F q.block
section
variable {F G : Nat → Prop} {H H' : AHeap} {a : Option Addr} {n : Nat} {cs : List Value}
theorem CellsF.agree (h : CellsF F H a n cs) (A : Agree H H') : CellsF F H' a n cs := ⟨h.1.agree A, h.2⟩
theorem CellsF.wrote (h : CellsF F H a n cs) {i : Nat} {b' : Blk} (w : Wrote H H' i b') (hi : ¬ F i) : CellsF F H' a n cs :=
  ⟨Cells.wrote h.1 w fun q e hh => hi (hh ▸ h.2 q e), h.2⟩
theorem CellsF.mono (h : CellsF F H a n cs) (k : ∀ i, F i → G i) : CellsF G H a n cs := ⟨h.1, fun q e => k _ (h.2 q e)⟩
theorem CellsF.keep (h : CellsF F H a n cs) {b : Option Addr} (k : Keep b H H') (hb : ∀ q, b = some q → ¬ F q.block) : CellsF F H' a n cs :=
  ⟨Cells.keep h.1 k fun q q' e e' hh => hb q' e' (hh ▸ h.2 q e), h.2⟩
theorem CellsF.sub (h : CellsF F H a n cs) (k : Sub' H H') : CellsF F H' a n cs := ⟨h.1.sub k, h.2⟩
end

/-- a part of a slice of ours is written -/
theorem own_wr {N sz : Nat} {H : AHeap} {a : Option Addr} {l c : Nat} {cs : List Value} (h : Own N sz H a l c cs) {o : Nat} {vs : List Value} (hv : 0 < vs.length) (ho : o + vs.length ≤ l * sz) :
    ∃ q H', a = some q ∧ q.off = 0 ∧ H.wr q.block (q.off + o) vs = some H' ∧ Own N sz H' a l c (splice cs o vs) ∧ Keep a H H' ∧ H'.next = H.next := by
  rcases h.2.2 with ⟨e, e2⟩ | ⟨i, b, e, h0, h1, h2, h3, h4, h5⟩
  · have := h.2.1
    subst e2
    have : l = 0 := by omega
    subst this
    rw [Nat.zero_mul] at ho
    omega
  · have hlen := h.1
    have hle : l * sz ≤ c * sz := Nat.mul_le_mul_right _ h.2.1
    obtain ⟨H', hw, w1, w2, w3⟩ := wr_at (o := 0 + o) (vs := vs) h1 h2 (by omega)
    refine ⟨_, H', e, rfl, hw, ⟨?_, h.2.1, .inr ⟨i, _, e, h0, w2, h2, h3, ?_, ?_⟩⟩, ⟨by rw [w1]; exact Nat.le_refl _, fun j hj hne => w3 j fun e1 => hne _ e e1.symm, fun f j hj => ?_⟩, w1⟩
    · unfold splice
      simp only [List.length_append, List.length_take, List.length_drop]
      omega
    · show (splice b.cells (0 + o) vs).length = c * sz
      unfold splice
      simp only [List.length_append, List.length_take, List.length_drop]
      omega
    · show (splice b.cells (0 + o) vs).take (l * sz) = splice cs o vs
      rw [← h5]
      unfold splice
      rw [Nat.zero_add, List.take_append, List.take_of_length_le (by simp only [List.length_append, List.length_take]; omega), List.take_take, Nat.min_eq_left (by omega)]
      congr 1
      rw [List.drop_take, List.length_append, List.length_take]
      congr 1
      omega
    · rw [w1] at hj
      rw [w3 j (by have := h1.1; omega)]
      exact f j hj
theorem own_same {N sz : Nat} {H : AHeap} {a : Option Addr} {l c : Nat} {cs : List Value} (h : Own N sz H a l c cs) {q : Addr} (e : a = some q) : ∀ H', Agree H H' → sameB H H' q.block = true := by
  intro H' A
  rcases h.2.2 with ⟨e1, _⟩ | ⟨i, b, e1, h0, h1, _⟩
  · rw [e1] at e; cases e
  · rw [e1] at e; cases e; exact sameB_agree h1 A
theorem Own.keep {N sz : Nat} {H H' : AHeap} {a b : Option Addr} {l c : Nat} {cs : List Value} (h : Own N sz H a l c cs) (k : Keep b H H') (hne : ∀ q q', a = some q → b = some q' → q'.block ≠ q.block) : Own N sz H' a l c cs := by
  refine ⟨h.1, h.2.1, ?_⟩
  rcases h.2.2 with h | ⟨i, bl, e, h0, h1, h2⟩
  · exact .inl h
  · exact .inr ⟨i, bl, e, h0, h1.keep k (fun q e' => hne _ q e e'), h2⟩
theorem Own.cellsF {N sz : Nat} {H : AHeap} {a : Option Addr} {l c : Nat} {cs : List Value} (h : Own N sz H a l c cs) : CellsF (N ≤ ·) H a (l * sz) cs := ⟨h.cells, h.block⟩
theorem Cells.stay {H : AHeap} {a : Option Addr} {n : Nat} {cs : List Value} (h : Cells H a n cs) {q : Addr} (e : a = some q) : ∀ H', Agree H H' → sameB H H' q.block = true := by
  intro H' A
  rcases h.2 with ⟨e1, _⟩ | ⟨i, o, s, b, e1, h1, _⟩
  · rw [e1] at e; cases e
  · rw [e1] at e; cases e; exact sameB_agree h1 A
/-- the load of a cell of a slice -/
theorem Cells.ldI {H : AHeap} {a : Option Addr} {n : Nat} {cs : List Value} (h : Cells H a n cs) {j : Nat} {k : IntKind} {x : Int} (hj : cs[j]? = some (.int k x)) : ∃ q, a = some q ∧ Mx.ldI k H q.block (q.off + j) = some x := by
  obtain ⟨q, e, hc⟩ := Cells.cell h hj
  exact ⟨q, e, by unfold Mx.ldI; rw [hc]; simp [asI]⟩
theorem Cells.ldSl {H : AHeap} {a : Option Addr} {n : Nat} {cs : List Value} (h : Cells H a n cs) {j : Nat} {b : Option Addr} {l c : Nat} (hj : cs[j]? = some (.slice b l c)) : ∃ q, a = some q ∧ Mx.ldSl H q.block (q.off + j) = some (b, l, c) := by
  obtain ⟨q, e, hc⟩ := Cells.cell h hj
  exact ⟨q, e, by unfold Mx.ldSl; rw [hc]; simp [asSl]⟩
end Go.Mx
end
