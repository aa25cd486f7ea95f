/- Functions of the program as the machine comes to them: printed by a program of this workplace (px.py); the kernel checks each line. -/
import Derived.Test.YtcegcnopakfloaaXBase
set_option linter.unusedVariables false
namespace Go.Proofs.MxF
open Go Go.Mx Go.Proofs

/- f45 "interleave/interleaveref22.Copy"  names: 0:c 1:c -/
theorem f45_eq (k : Nat) (a0 : Option Addr) (l0 : Nat) (c0 : Nat) (H : AHeap) : C (k + 1) 45 [.slice a0 l0 c0] H =
  (cSl (apndV Try.prog [26, 26] H (.slice none 0 0) (.slice a0 l0 c0)) fun a l c H_1 =>
   some (.slice a l c, H_1)) := by kernel_rfl

/- f46 "interleave/interleaveref22.At"  names: 0:c 1:t 2:c 3:t -/
theorem f46_eq (k : Nat) (a0 : Option Addr) (l0 : Nat) (c0 : Nat) (x1 : Int) (H : AHeap) : C (k + 1) 46 [.slice a0 l0 c0, .int .i64 x1] H =
  (bif (decide (x1 < (0 : Int))) then
   some (.int .i64 0, H)
   else
   bif (decide (x1 ≥ (l0 : Int))) then
   some (.int .i64 0, H)
   else
   a0.bind fun q =>
   if 0 ≤ x1 ∧ x1 < (l0 : Int) then
   (ldI .i64 H q.block (q.off + x1.toNat * 1)).bind fun x =>
   some (.int .i64 x, H)
   else none) := by kernel_rfl

/- f47 "interleave/clock.Covers"  names: 0:c 1:e 2:c 3:e -/
theorem f47_eq (k : Nat) (a0 : Option Addr) (l0 : Nat) (c0 : Nat) (x1_0 : Int) (x1_1 : Int) (H : AHeap) : C (k + 1) 47 [.slice a0 l0 c0, .agg #[.int .i64 x1_0, .int .i64 x1_1]] H =
  (alK none H ⟨[.int .i64 x1_0, .int .i64 x1_1], 0, .rw, 0⟩ fun i H_1 =>
   bif sameB H_1 (H_1.bump 8) i then
   (ldI .i64 (H_1.bump 8) i (1)).bind fun x =>
   cI .i64 (C k 49 [.slice a0 l0 c0, .int .i64 x] (H_1.bump 8)) fun x_1 H_2 =>
   bif sameB H_1 H_2 i then
   (ldI .i64 H_2 i (0)).bind fun x_2 =>
   some (.bool (decide (x_2 ≤ x_1)), H_2)
   else none
   else none) := by kernel_rfl

/- f48 "interleave/clock.Leq"  names: 0:a 1:b 2:a 3:b 5:i -/
noncomputable def f48.Q0 (k : Nat)  : Kont (Value × AHeap) := retQ Try.prog Try.f48
noncomputable def f48.Q1 (k : Nat)  : Kont (Value × AHeap) := seqQ (gateC (Sub (bodyOf Try.f48) [1, 0]) (Sub (bodyOf Try.f48) [1, 1]) k (run Try.prog (C k) k (Sub (bodyOf Try.f48) [1, 1]) (f48.Q0 k ))) (f48.Q0 k )
noncomputable def f48.Q2 (k : Nat)  : Kont (Value × AHeap) := blkQ 0 (f48.Q1 k )
noncomputable def f48.L1 (k : Nat) (n1 : Nat) (a0 : Option Addr) (l0 : Nat) (c0 : Nat) (a1 : Option Addr) (l1 : Nat) (c1 : Nat) (x10 : Int) (x11 : Int) (D : List Value) (H : AHeap) : Option (Value × AHeap) :=
  iter (run Try.prog (C k) k (Sub (bodyOf Try.f48) [1, 0, 1, 0, 0])) (f48.Q2 k ) n1 [.slice a0 l0 c0, .slice a1 l1 c1, undef, undef, (D.getD 0 undef), (D.getD 1 undef), (D.getD 2 undef), (D.getD 3 undef), (D.getD 4 undef), (D.getD 5 undef), .int .i64 x10, .int .i64 x11, (D.getD 6 undef), (D.getD 7 undef), (D.getD 8 undef), (D.getD 9 undef), (D.getD 10 undef), (D.getD 11 undef), (D.getD 12 undef), (D.getD 13 undef), (D.getD 14 undef), (D.getD 15 undef)] H
theorem f48.L1_z (k : Nat)  (a0 : Option Addr) (l0 : Nat) (c0 : Nat) (a1 : Option Addr) (l1 : Nat) (c1 : Nat) (x10 : Int) (x11 : Int) (D : List Value) (H : AHeap) : f48.L1 k 0 a0 l0 c0 a1 l1 c1 x10 x11 D H = none := by kernel_rfl
theorem f48.L1_s (k : Nat) (n1 : Nat) (a0 : Option Addr) (l0 : Nat) (c0 : Nat) (a1 : Option Addr) (l1 : Nat) (c1 : Nat) (x10 : Int) (x11 : Int) (D : List Value) (H : AHeap) : f48.L1 k (n1 + 1) a0 l0 c0 a1 l1 c1 x10 x11 D H =
  (bif (decide (x11 < x10)) then
   cI .i64 (C k 49 [.slice a0 l0 c0, .int .i64 x11] H) fun x H_1 =>
   cI .i64 (C k 49 [.slice a1 l1 c1, .int .i64 x11] H_1) fun x_1 H_2 =>
   bif (decide (x > x_1)) then
   some (.bool false, H_2)
   else
   f48.L1 k n1 a0 l0 c0 a1 l1 c1 x10 (IntKind.i64.wrap (x11 + (1 : Int))) [(D.getD 0 undef), .int .i64 x11, (D.getD 2 undef), (D.getD 3 undef), (D.getD 4 undef), (D.getD 5 undef), .bool (decide (x11 < x10)), .int .i64 x11, .slice a0 l0 c0, .int .i64 x11, .int .i64 x, .slice a1 l1 c1, .int .i64 x11, .int .i64 x_1, .bool (decide (x > x_1)), .int .i64 (IntKind.i64.wrap (x11 + (1 : Int)))] H_2
   else
   some (.bool true, H)) := by kernel_rfl
theorem f48_eq (k : Nat) (a0 : Option Addr) (l0 : Nat) (c0 : Nat) (a1 : Option Addr) (l1 : Nat) (c1 : Nat) (H : AHeap) : C (k + 1) 48 [.slice a0 l0 c0, .slice a1 l1 c1] H =
  (f48.L1 k k a0 l0 c0 a1 l1 c1 (if (l1 : Int) > (l0 : Int) then (l1 : Int) else (l0 : Int)) 0 [.bool false, undef, .slice a0 l0 c0, .int .i64 (l0 : Int), .slice a1 l1 c1, .int .i64 (l1 : Int), undef, undef, undef, undef, undef, undef, undef, undef, undef, undef] H) := by kernel_rfl

/- f49 "interleave/clock.At"  names: 0:c 1:t 2:c 3:t -/
theorem f49_eq (k : Nat) (a0 : Option Addr) (l0 : Nat) (c0 : Nat) (x1 : Int) (H : AHeap) : C (k + 1) 49 [.slice a0 l0 c0, .int .i64 x1] H =
  (bif (decide (x1 < (0 : Int))) then
   some (.int .i64 0, H)
   else
   bif (decide (x1 ≥ (l0 : Int))) then
   some (.int .i64 0, H)
   else
   a0.bind fun q =>
   if 0 ≤ x1 ∧ x1 < (l0 : Int) then
   (ldI .i64 H q.block (q.off + x1.toNat * 1)).bind fun x =>
   some (.int .i64 x, H)
   else none) := by kernel_rfl

/- f50 "interleave/interleaveref22.Covers"  names: 0:c 1:e 2:c 3:e -/
theorem f50_eq (k : Nat) (a0 : Option Addr) (l0 : Nat) (c0 : Nat) (x1_0 : Int) (x1_1 : Int) (H : AHeap) : C (k + 1) 50 [.slice a0 l0 c0, .agg #[.int .i64 x1_0, .int .i64 x1_1]] H =
  (alK none H ⟨[.int .i64 x1_0, .int .i64 x1_1], 0, .rw, 0⟩ fun i H_1 =>
   bif sameB H_1 (H_1.bump 8) i then
   (ldI .i64 (H_1.bump 8) i (1)).bind fun x =>
   cI .i64 (C k 46 [.slice a0 l0 c0, .int .i64 x] (H_1.bump 8)) fun x_1 H_2 =>
   bif sameB H_1 H_2 i then
   (ldI .i64 H_2 i (0)).bind fun x_2 =>
   some (.bool (decide (x_2 ≤ x_1)), H_2)
   else none
   else none) := by kernel_rfl

/- f51 "interleave/interleaveref22.Leq"  names: 0:a 1:b 2:a 3:b 5:i -/
noncomputable def f51.Q0 (k : Nat)  : Kont (Value × AHeap) := retQ Try.prog Try.f51
noncomputable def f51.Q1 (k : Nat)  : Kont (Value × AHeap) := seqQ (gateC (Sub (bodyOf Try.f51) [1, 0]) (Sub (bodyOf Try.f51) [1, 1]) k (run Try.prog (C k) k (Sub (bodyOf Try.f51) [1, 1]) (f51.Q0 k ))) (f51.Q0 k )
noncomputable def f51.Q2 (k : Nat)  : Kont (Value × AHeap) := blkQ 0 (f51.Q1 k )
noncomputable def f51.L1 (k : Nat) (n1 : Nat) (a0 : Option Addr) (l0 : Nat) (c0 : Nat) (a1 : Option Addr) (l1 : Nat) (c1 : Nat) (x5 : Int) (D : List Value) (H : AHeap) : Option (Value × AHeap) :=
  iter (run Try.prog (C k) k (Sub (bodyOf Try.f51) [1, 0, 1, 0, 0])) (f51.Q2 k ) n1 [.slice a0 l0 c0, .slice a1 l1 c1, undef, undef, (D.getD 0 undef), .int .i64 x5, (D.getD 1 undef), (D.getD 2 undef), (D.getD 3 undef), (D.getD 4 undef), (D.getD 5 undef), (D.getD 6 undef), (D.getD 7 undef), (D.getD 8 undef), (D.getD 9 undef), (D.getD 10 undef), (D.getD 11 undef), (D.getD 12 undef), (D.getD 13 undef), (D.getD 14 undef), (D.getD 15 undef), (D.getD 16 undef)] H
theorem f51.L1_z (k : Nat)  (a0 : Option Addr) (l0 : Nat) (c0 : Nat) (a1 : Option Addr) (l1 : Nat) (c1 : Nat) (x5 : Int) (D : List Value) (H : AHeap) : f51.L1 k 0 a0 l0 c0 a1 l1 c1 x5 D H = none := by kernel_rfl
theorem f51.L1_s (k : Nat) (n1 : Nat) (a0 : Option Addr) (l0 : Nat) (c0 : Nat) (a1 : Option Addr) (l1 : Nat) (c1 : Nat) (x5 : Int) (D : List Value) (H : AHeap) : f51.L1 k (n1 + 1) a0 l0 c0 a1 l1 c1 x5 D H =
  (bif (decide (x5 < (if (l1 : Int) > (l0 : Int) then (l1 : Int) else (l0 : Int)))) then
   cI .i64 (C k 46 [.slice a0 l0 c0, .int .i64 x5] H) fun x H_1 =>
   cI .i64 (C k 46 [.slice a1 l1 c1, .int .i64 x5] H_1) fun x_1 H_2 =>
   bif (decide (x > x_1)) then
   some (.bool false, H_2)
   else
   f51.L1 k n1 a0 l0 c0 a1 l1 c1 (IntKind.i64.wrap (x5 + (1 : Int))) [(D.getD 0 undef), .int .i64 x5, .slice a0 l0 c0, .int .i64 (l0 : Int), .slice a1 l1 c1, .int .i64 (l1 : Int), .int .i64 (if (l1 : Int) > (l0 : Int) then (l1 : Int) else (l0 : Int)), .bool (decide (x5 < (if (l1 : Int) > (l0 : Int) then (l1 : Int) else (l0 : Int)))), .int .i64 x5, .int .i64 (IntKind.i64.wrap (x5 + (1 : Int))), .slice a0 l0 c0, .int .i64 x5, .int .i64 x, .slice a1 l1 c1, .int .i64 x5, .int .i64 x_1, .bool (decide (x > x_1))] H_2
   else
   some (.bool true, H)) := by kernel_rfl
theorem f51_eq (k : Nat) (a0 : Option Addr) (l0 : Nat) (c0 : Nat) (a1 : Option Addr) (l1 : Nat) (c1 : Nat) (H : AHeap) : C (k + 1) 51 [.slice a0 l0 c0, .slice a1 l1 c1] H =
  (f51.L1 k k a0 l0 c0 a1 l1 c1 0 [.bool false, undef, undef, undef, undef, undef, undef, undef, undef, undef, undef, undef, undef, undef, undef, undef, undef] H) := by kernel_rfl

/- f54 "interleave/interleaveref22.Same"  names: 0:a 1:b 2:a 3:b -/
theorem f54_eq (k : Nat) (a0 : Option Addr) (l0 : Nat) (c0 : Nat) (a1 : Option Addr) (l1 : Nat) (c1 : Nat) (H : AHeap) : C (k + 1) 54 [.slice a0 l0 c0, .slice a1 l1 c1] H =
  (cB (C k 51 [.slice a0 l0 c0, .slice a1 l1 c1] H) fun b H_1 =>
   bif b then
   cB (C k 51 [.slice a1 l1 c1, .slice a0 l0 c0] H_1) fun b_1 H_2 =>
   some (.bool b_1, H_2)
   else
   some (.bool false, H_1)) := by kernel_rfl

/- f15 "interleave/interleaveref22.Tick"  names: 0:c 1:t 2:c 3:t -/
noncomputable def f15.Q0 (k : Nat)  : Kont (Value × AHeap) := retQ Try.prog Try.f15
noncomputable def f15.Q1 (k : Nat)  : Kont (Value × AHeap) := seqQ (gateC (Sub (bodyOf Try.f15) [1, 1, 1, 0]) (Sub (bodyOf Try.f15) [1, 1, 1, 1]) k (run Try.prog (C k) k (Sub (bodyOf Try.f15) [1, 1, 1, 1]) (f15.Q0 k ))) (f15.Q0 k )
noncomputable def f15.Q2 (k : Nat)  : Kont (Value × AHeap) := blkQ 0 (f15.Q1 k )
noncomputable def f15.K1 (k : Nat)  (a0 : Option Addr) (l0 : Nat) (c0 : Nat) (x1 : Int) (D : List Value) (H : AHeap) : Option (Value × AHeap) :=
  gateC (Sub (bodyOf Try.f15) [1, 1, 0]) (Sub (bodyOf Try.f15) [1, 1, 1]) k (run Try.prog (C k) k (Sub (bodyOf Try.f15) [1, 1, 1]) (f15.Q0 k )) [.slice a0 l0 c0, .int .i64 x1, undef, undef, (D.getD 0 undef), (D.getD 1 undef), (D.getD 2 undef), (D.getD 3 undef), (D.getD 4 undef), (D.getD 5 undef), (D.getD 6 undef), (D.getD 7 undef), (D.getD 8 undef), undef, undef, undef, undef, undef, undef, undef, undef, undef, undef, undef, undef, undef, undef, undef, undef, undef, undef, undef, undef] H
noncomputable def f15.L1 (k : Nat) (n1 : Nat) (a0 : Option Addr) (l0 : Nat) (c0 : Nat) (x1 : Int) (D : List Value) (H : AHeap) : Option (Value × AHeap) :=
  iter (run Try.prog (C k) k (Sub (bodyOf Try.f15) [1, 1, 1, 0, 0, 0])) (f15.Q2 k ) n1 [.slice a0 l0 c0, .int .i64 x1, undef, undef, (D.getD 0 undef), (D.getD 1 undef), (D.getD 2 undef), (D.getD 3 undef), (D.getD 4 undef), (D.getD 5 undef), (D.getD 6 undef), (D.getD 7 undef), (D.getD 8 undef), undef, (D.getD 9 undef), (D.getD 10 undef), (D.getD 11 undef), (D.getD 12 undef), (D.getD 13 undef), (D.getD 14 undef), (D.getD 15 undef), undef, undef, undef, undef, undef, undef, undef, undef, undef, undef, undef, undef] H
theorem f15.K1_eq (k : Nat)  (a0 : Option Addr) (l0 : Nat) (c0 : Nat) (x1 : Int) (D : List Value) (H : AHeap) : f15.K1 k  a0 l0 c0 x1 D H =
  (f15.L1 k k a0 l0 c0 x1 [(D.getD 0 undef), (D.getD 1 undef), (D.getD 2 undef), (D.getD 3 undef), (D.getD 4 undef), (D.getD 5 undef), (D.getD 6 undef), (D.getD 7 undef), (D.getD 8 undef), undef, undef, undef, undef, undef, undef, undef] H) := by
  unfold f15.K1
  rw [gateC_eq]
  kernel_rfl
theorem f15.L1_z (k : Nat)  (a0 : Option Addr) (l0 : Nat) (c0 : Nat) (x1 : Int) (D : List Value) (H : AHeap) : f15.L1 k 0 a0 l0 c0 x1 D H = none := by kernel_rfl
theorem f15.L1_s (k : Nat) (n1 : Nat) (a0 : Option Addr) (l0 : Nat) (c0 : Nat) (x1 : Int) (D : List Value) (H : AHeap) : f15.L1 k (n1 + 1) a0 l0 c0 x1 D H =
  (bif (decide ((l0 : Int) ≤ x1)) then
   alK none H ⟨[.int .i64 0], 1, .rw, 0⟩ fun i H_1 =>
   cSl (apndV Try.prog [26, 26] H_1 (.slice a0 l0 c0) (.slice (some ⟨i, 0, none⟩) 1 1)) fun a l c H_2 =>
   f15.L1 k n1 a l c x1 [(D.getD 0 undef), (D.getD 1 undef), (D.getD 2 undef), (D.getD 3 undef), (D.getD 4 undef), (D.getD 5 undef), (D.getD 6 undef), (D.getD 7 undef), (D.getD 8 undef), .slice a0 l0 c0, .int .i64 (l0 : Int), .int .i64 x1, .bool (decide ((l0 : Int) ≤ x1)), .slice a0 l0 c0, .slice (some ⟨i, 0, none⟩) 1 1, .slice a l c] H_2
   else
   a0.bind fun q =>
   if 0 ≤ x1 ∧ x1 < (l0 : Int) then
   (ldI .i64 H q.block (q.off + x1.toNat * 1)).bind fun x =>
   bif (decide (x < (9223372036854775807 : Int))) then
   a0.bind fun q_1 =>
   if 0 ≤ x1 ∧ x1 < (l0 : Int) then
   (ldI .i64 H q_1.block (q_1.off + x1.toNat * 1)).bind fun x_1 =>
   a0.bind fun q_2 =>
   if 0 ≤ x1 ∧ x1 < (l0 : Int) then
   (AHeap.wr H q_2.block (q_2.off + x1.toNat * 1) [.int .i64 (IntKind.i64.wrap (x_1 + (1 : Int)))]).bind fun H_3 =>
   some (.slice a0 l0 c0, H_3)
   else none
   else none
   else
   some (.slice a0 l0 c0, H)
   else none) := by kernel_rfl
theorem f15_eq (k : Nat) (a0 : Option Addr) (l0 : Nat) (c0 : Nat) (x1 : Int) (H : AHeap) : C (k + 1) 15 [.slice a0 l0 c0, .int .i64 x1] H =
  (cSl (C k 45 [.slice a0 l0 c0] H) fun a l c H_1 =>
   bif (decide (x1 < (0 : Int))) then
   some (.slice a l c, H_1)
   else
   bif (decide (x1 ≥ (4 : Int))) then
   some (.slice a l c, H_1)
   else
   f15.K1 k a l c x1 [.slice none 0 0, .slice a0 l0 c0, .slice a l c, .int .i64 x1, .bool (decide (x1 < (0 : Int))), .bool false, .int .i64 x1, .bool (decide (x1 ≥ (4 : Int))), .bool (decide (x1 ≥ (4 : Int)))] H_1) := by kernel_rfl

/- f16 "interleave/interleaveref22.Join"  names: 0:a 1:b 2:a 3:b 5:out 6:i -/
noncomputable def f16.Q0 (k : Nat)  : Kont (Value × AHeap) := retQ Try.prog Try.f16
noncomputable def f16.Q1 (k : Nat)  : Kont (Value × AHeap) := seqQ (gateC (Sub (bodyOf Try.f16) [1, 1, 0]) (Sub (bodyOf Try.f16) [1, 1, 1]) k (run Try.prog (C k) k (Sub (bodyOf Try.f16) [1, 1, 1]) (f16.Q0 k ))) (f16.Q0 k )
noncomputable def f16.Q2 (k : Nat)  : Kont (Value × AHeap) := blkQ 0 (f16.Q1 k )
noncomputable def f16.L1 (k : Nat) (n1 : Nat) (a0 : Option Addr) (l0 : Nat) (c0 : Nat) (a1 : Option Addr) (l1 : Nat) (c1 : Nat) (a5 : Option Addr) (l5 : Nat) (c5 : Nat) (x14 : Int) (x15 : Int) (D : List Value) (H : AHeap) : Option (Value × AHeap) :=
  iter (run Try.prog (C k) k (Sub (bodyOf Try.f16) [1, 1, 0, 1, 0, 0])) (f16.Q2 k ) n1 [.slice a0 l0 c0, .slice a1 l1 c1, undef, undef, (D.getD 0 undef), .slice a5 l5 c5, (D.getD 1 undef), (D.getD 2 undef), (D.getD 3 undef), (D.getD 4 undef), (D.getD 5 undef), (D.getD 6 undef), (D.getD 7 undef), (D.getD 8 undef), .int .i64 x14, .int .i64 x15, (D.getD 9 undef), (D.getD 10 undef), (D.getD 11 undef), (D.getD 12 undef), (D.getD 13 undef), (D.getD 14 undef), (D.getD 15 undef), (D.getD 16 undef), (D.getD 17 undef), (D.getD 18 undef), (D.getD 19 undef), (D.getD 20 undef), (D.getD 21 undef), undef] H
theorem f16.L1_z (k : Nat)  (a0 : Option Addr) (l0 : Nat) (c0 : Nat) (a1 : Option Addr) (l1 : Nat) (c1 : Nat) (a5 : Option Addr) (l5 : Nat) (c5 : Nat) (x14 : Int) (x15 : Int) (D : List Value) (H : AHeap) : f16.L1 k 0 a0 l0 c0 a1 l1 c1 a5 l5 c5 x14 x15 D H = none := by kernel_rfl
theorem f16.L1_s (k : Nat) (n1 : Nat) (a0 : Option Addr) (l0 : Nat) (c0 : Nat) (a1 : Option Addr) (l1 : Nat) (c1 : Nat) (a5 : Option Addr) (l5 : Nat) (c5 : Nat) (x14 : Int) (x15 : Int) (D : List Value) (H : AHeap) : f16.L1 k (n1 + 1) a0 l0 c0 a1 l1 c1 a5 l5 c5 x14 x15 D H =
  (bif (decide (x15 < x14)) then
   cI .i64 (C k 46 [.slice a0 l0 c0, .int .i64 x15] H) fun x H_1 =>
   cI .i64 (C k 46 [.slice a1 l1 c1, .int .i64 x15] H_1) fun x_1 H_2 =>
   a5.bind fun q =>
   if 0 ≤ x15 ∧ x15 < (l5 : Int) then
   (AHeap.wr H_2 q.block (q.off + x15.toNat * 1) [.int .i64 (if x_1 > x then x_1 else x)]).bind fun H_3 =>
   f16.L1 k n1 a0 l0 c0 a1 l1 c1 a5 l5 c5 x14 (IntKind.i64.wrap (x15 + (1 : Int))) [(D.getD 0 undef), .int .i64 x15, (D.getD 2 undef), (D.getD 3 undef), (D.getD 4 undef), (D.getD 5 undef), (D.getD 6 undef), (D.getD 7 undef), (D.getD 8 undef), .bool (decide (x15 < x14)), .int .i64 x15, .slice a5 l5 c5, .int .i64 x15, .slice a0 l0 c0, .int .i64 x15, .int .i64 x, .slice a1 l1 c1, .int .i64 x15, .int .i64 x_1, .int .i64 (if x_1 > x then x_1 else x), .pointer (some ⟨q.block, q.off + x15.toNat * 1, none⟩), .int .i64 (IntKind.i64.wrap (x15 + (1 : Int)))] H_3
   else none
   else
   some (.slice a5 l5 c5, H)) := by kernel_rfl
theorem f16_eq (k : Nat) (a0 : Option Addr) (l0 : Nat) (c0 : Nat) (a1 : Option Addr) (l1 : Nat) (c1 : Nat) (H : AHeap) : C (k + 1) 16 [.slice a0 l0 c0, .slice a1 l1 c1] H =
  (if (if (l1 : Int) > (l0 : Int) then (l1 : Int) else (l0 : Int)) = (if (l1 : Int) > (l0 : Int) then (l1 : Int) else (l0 : Int)) then 
    if 0 ≤ (if (l1 : Int) > (l0 : Int) then (l1 : Int) else (l0 : Int)) ∧ (if (l1 : Int) > (l0 : Int) then (l1 : Int) else (l0 : Int)) * ((8 : Nat) : Int) ≤ 70368744177664 ∧ (if (l1 : Int) > (l0 : Int) then (l1 : Int) else (l0 : Int)) ≤ 70368744177664 then
   alK none H ⟨rep [.int .i64 0] (if (l1 : Int) > (l0 : Int) then (l1 : Int) else (l0 : Int)).toNat, 1, .rw, 0⟩ fun i H_1 =>
   f16.L1 k k a0 l0 c0 a1 l1 c1 (some ⟨i, 0, none⟩) ((if (l1 : Int) > (l0 : Int) then (l1 : Int) else (l0 : Int)).toNat) ((if (l1 : Int) > (l0 : Int) then (l1 : Int) else (l0 : Int)).toNat) (((if (l1 : Int) > (l0 : Int) then (l1 : Int) else (l0 : Int)).toNat) : Int) 0 [.slice none 0 0, undef, .slice a0 l0 c0, .int .i64 (l0 : Int), .slice a1 l1 c1, .int .i64 (l1 : Int), .int .i64 (if (l1 : Int) > (l0 : Int) then (l1 : Int) else (l0 : Int)), .slice (some ⟨i, 0, none⟩) ((if (l1 : Int) > (l0 : Int) then (l1 : Int) else (l0 : Int)).toNat) ((if (l1 : Int) > (l0 : Int) then (l1 : Int) else (l0 : Int)).toNat), .slice (some ⟨i, 0, none⟩) ((if (l1 : Int) > (l0 : Int) then (l1 : Int) else (l0 : Int)).toNat) ((if (l1 : Int) > (l0 : Int) then (l1 : Int) else (l0 : Int)).toNat), undef, undef, undef, undef, undef, undef, undef, undef, undef, undef, undef, undef, undef] H_1
    else none
   else none) := by kernel_rfl

/- f17 "interleave/epoch.Write"  names: 0:s 1:c 2:t 3:s 4:c 5:t 8:race -/
theorem f17_eq (k : Nat) (x0_0 : Int) (x0_1 : Int) (x0_2 : Int) (x0_3 : Int) (a0_4 : Option Addr) (l0_4 : Nat) (c0_4 : Nat) (a1 : Option Addr) (l1 : Nat) (c1 : Nat) (x2 : Int) (H : AHeap) : C (k + 1) 17 [.agg #[.int .i64 x0_0, .int .i64 x0_1, .int .i64 x0_2, .int .i64 x0_3, .slice a0_4 l0_4 c0_4], .slice a1 l1 c1, .int .i64 x2] H =
  (alK none H ⟨[.int .i64 x0_0, .int .i64 x0_1, .int .i64 x0_2, .int .i64 x0_3, .slice a0_4 l0_4 c0_4], 0, .rw, 0⟩ fun i H_1 =>
   alK none H_1 ⟨[.int .i64 0, .int .i64 0, .int .i64 0, .int .i64 0, .slice none 0 0], 0, .rw, 0⟩ fun i_1 H_2 =>
   (AHeap.row H_2 i (0) 2).bind fun g =>
   cB (C k 47 [.slice a1 l1 c1, .agg (g : List Value).toArray] H_2) fun b H_3 =>
   bif (!b) then
   cI .i64 (C k 49 [.slice a1 l1 c1, .int .i64 x2] H_3) fun x H_4 =>
   (AHeap.wr H_4 i_1 (0) [.int .i64 x, .int .i64 x2, .int .i64 0, .int .i64 0, .slice none 0 0]).bind fun H_5 =>
   (AHeap.row H_5 i_1 (0) 5).bind fun g_1 =>
   some (.tuple #[.agg (g_1 : List Value).toArray, .bool true], H_5)
   else
   (AHeap.row H_3 i (2) 2).bind fun g_2 =>
   cB (C k 47 [.slice a1 l1 c1, .agg (g_2 : List Value).toArray] H_3) fun b_1 H_6 =>
   bif (!b_1) then
   cI .i64 (C k 49 [.slice a1 l1 c1, .int .i64 x2] H_6) fun x_1 H_7 =>
   (AHeap.wr H_7 i_1 (0) [.int .i64 x_1, .int .i64 x2, .int .i64 0, .int .i64 0, .slice none 0 0]).bind fun H_8 =>
   (AHeap.row H_8 i_1 (0) 5).bind fun g_3 =>
   some (.tuple #[.agg (g_3 : List Value).toArray, .bool true], H_8)
   else
   bSl (ldSl H_6 i (4)) fun a l c =>
   cB (C k 48 [.slice a l c, .slice a1 l1 c1] H_6) fun b_2 H_9 =>
   cI .i64 (C k 49 [.slice a1 l1 c1, .int .i64 x2] H_9) fun x_2 H_10 =>
   (AHeap.wr H_10 i_1 (0) [.int .i64 x_2, .int .i64 x2, .int .i64 0, .int .i64 0, .slice none 0 0]).bind fun H_11 =>
   (AHeap.row H_11 i_1 (0) 5).bind fun g_4 =>
   some (.tuple #[.agg (g_4 : List Value).toArray, .bool (!b_2)], H_11)) := by kernel_rfl

/- f18 "interleave/interleaveref22.Write"  names: 0:s 1:c 2:t 3:s 4:c 5:t 8:race -/
theorem f18_eq (k : Nat) (x0_0 : Int) (x0_1 : Int) (x0_2 : Int) (x0_3 : Int) (a0_4 : Option Addr) (l0_4 : Nat) (c0_4 : Nat) (a1 : Option Addr) (l1 : Nat) (c1 : Nat) (x2 : Int) (H : AHeap) : C (k + 1) 18 [.agg #[.int .i64 x0_0, .int .i64 x0_1, .int .i64 x0_2, .int .i64 x0_3, .slice a0_4 l0_4 c0_4], .slice a1 l1 c1, .int .i64 x2] H =
  (alK none H ⟨[.int .i64 x0_0, .int .i64 x0_1, .int .i64 x0_2, .int .i64 x0_3, .slice a0_4 l0_4 c0_4], 0, .rw, 0⟩ fun i H_1 =>
   alK none H_1 ⟨[.int .i64 0, .int .i64 0, .int .i64 0, .int .i64 0, .slice none 0 0], 0, .rw, 0⟩ fun i_1 H_2 =>
   (AHeap.row H_2 i (0) 2).bind fun g =>
   cB (C k 50 [.slice a1 l1 c1, .agg (g : List Value).toArray] H_2) fun b H_3 =>
   bif (!b) then
   cI .i64 (C k 46 [.slice a1 l1 c1, .int .i64 x2] H_3) fun x H_4 =>
   (AHeap.wr H_4 i_1 (0) [.int .i64 x, .int .i64 x2, .int .i64 0, .int .i64 0, .slice none 0 0]).bind fun H_5 =>
   (AHeap.row H_5 i_1 (0) 5).bind fun g_1 =>
   some (.tuple #[.agg (g_1 : List Value).toArray, .bool true], H_5)
   else
   (AHeap.row H_3 i (2) 2).bind fun g_2 =>
   cB (C k 50 [.slice a1 l1 c1, .agg (g_2 : List Value).toArray] H_3) fun b_1 H_6 =>
   bif (!b_1) then
   cI .i64 (C k 46 [.slice a1 l1 c1, .int .i64 x2] H_6) fun x_1 H_7 =>
   (AHeap.wr H_7 i_1 (0) [.int .i64 x_1, .int .i64 x2, .int .i64 0, .int .i64 0, .slice none 0 0]).bind fun H_8 =>
   (AHeap.row H_8 i_1 (0) 5).bind fun g_3 =>
   some (.tuple #[.agg (g_3 : List Value).toArray, .bool true], H_8)
   else
   bSl (ldSl H_6 i (4)) fun a l c =>
   cB (C k 51 [.slice a l c, .slice a1 l1 c1] H_6) fun b_2 H_9 =>
   cI .i64 (C k 46 [.slice a1 l1 c1, .int .i64 x2] H_9) fun x_2 H_10 =>
   (AHeap.wr H_10 i_1 (0) [.int .i64 x_2, .int .i64 x2, .int .i64 0, .int .i64 0, .slice none 0 0]).bind fun H_11 =>
   (AHeap.row H_11 i_1 (0) 5).bind fun g_4 =>
   some (.tuple #[.agg (g_4 : List Value).toArray, .bool (!b_2)], H_11)) := by kernel_rfl

/- f19 "interleave/epoch.Read"  names:  -/
noncomputable def f19.Q0 (k : Nat)  : Kont (Value × AHeap) := retQ Try.prog Try.f19
noncomputable def f19.Q1 (k : Nat)  : Kont (Value × AHeap) := seqQ (gateC (Sub (bodyOf Try.f19) [1, 1, 1, 1, 0]) (Sub (bodyOf Try.f19) [1, 1, 1, 1, 1]) k (run Try.prog (C k) k (Sub (bodyOf Try.f19) [1, 1, 1, 1, 1]) (f19.Q0 k ))) (f19.Q0 k )
noncomputable def f19.Q2 (k : Nat)  : Kont (Value × AHeap) := blkQ 0 (f19.Q1 k )
noncomputable def f19.K1 (k : Nat)  (a1 : Option Addr) (l1 : Nat) (c1 : Nat) (x2 : Int) (p3 : Nat) (p6 : Nat) (b8 : Bool) (x9 : Int) (p10 : Nat) (b40 : Bool) (D : List Value) (H : AHeap) : Option (Value × AHeap) :=
  gateC (Sub (bodyOf Try.f19) [1, 1, 1, 1, 0, 0, 0]) (Sub (bodyOf Try.f19) [1, 1, 1, 1, 0, 0, 1]) k (run Try.prog (C k) k (Sub (bodyOf Try.f19) [1, 1, 1, 1, 0, 0, 1]) (f19.Q2 k )) [(D.getD 0 undef), .slice a1 l1 c1, .int .i64 x2, .pointer (some ⟨p3, 0, none⟩), undef, undef, .pointer (some ⟨p6, 0, none⟩), (D.getD 1 undef), .bool b8, .int .i64 x9, .pointer (some ⟨p10, 0, none⟩), (D.getD 2 undef), (D.getD 3 undef), (D.getD 4 undef), (D.getD 5 undef), (D.getD 6 undef), (D.getD 7 undef), (D.getD 8 undef), (D.getD 9 undef), (D.getD 10 undef), (D.getD 11 undef), (D.getD 12 undef), (D.getD 13 undef), (D.getD 14 undef), (D.getD 15 undef), (D.getD 16 undef), (D.getD 17 undef), undef, undef, undef, undef, undef, undef, undef, undef, undef, undef, undef, undef, undef, .bool b40, (D.getD 18 undef), (D.getD 19 undef), (D.getD 20 undef), (D.getD 21 undef), (D.getD 22 undef), (D.getD 23 undef), (D.getD 24 undef), (D.getD 25 undef), (D.getD 26 undef), (D.getD 27 undef), (D.getD 28 undef), (D.getD 29 undef), (D.getD 30 undef), (D.getD 31 undef), (D.getD 32 undef), (D.getD 33 undef), (D.getD 34 undef), (D.getD 35 undef), undef, undef, undef, undef, undef, undef, undef, undef, undef, undef, undef, undef, undef, undef, undef, undef, undef, undef, undef, undef, undef, undef, undef, undef, undef, undef, undef, undef] H
noncomputable def f19.K2 (k : Nat)  (p6 : Nat) (b8 : Bool) (p10 : Nat) (D : List Value) (H : AHeap) : Option (Value × AHeap) :=
  gateC (Sub (bodyOf Try.f19) [1, 1, 1, 1, 0]) (Sub (bodyOf Try.f19) [1, 1, 1, 1, 1]) k (run Try.prog (C k) k (Sub (bodyOf Try.f19) [1, 1, 1, 1, 1]) (f19.Q0 k )) [(D.getD 0 undef), (D.getD 1 undef), (D.getD 2 undef), (D.getD 3 undef), undef, undef, .pointer (some ⟨p6, 0, none⟩), (D.getD 4 undef), .bool b8, (D.getD 5 undef), .pointer (some ⟨p10, 0, none⟩), (D.getD 6 undef), (D.getD 7 undef), (D.getD 8 undef), (D.getD 9 undef), (D.getD 10 undef), (D.getD 11 undef), (D.getD 12 undef), (D.getD 13 undef), (D.getD 14 undef), (D.getD 15 undef), (D.getD 16 undef), (D.getD 17 undef), (D.getD 18 undef), (D.getD 19 undef), (D.getD 20 undef), (D.getD 21 undef), (D.getD 22 undef), (D.getD 23 undef), (D.getD 24 undef), (D.getD 25 undef), (D.getD 26 undef), (D.getD 27 undef), (D.getD 28 undef), (D.getD 29 undef), (D.getD 30 undef), (D.getD 31 undef), (D.getD 32 undef), (D.getD 33 undef), (D.getD 34 undef), (D.getD 35 undef), (D.getD 36 undef), (D.getD 37 undef), (D.getD 38 undef), (D.getD 39 undef), (D.getD 40 undef), (D.getD 41 undef), (D.getD 42 undef), (D.getD 43 undef), (D.getD 44 undef), (D.getD 45 undef), (D.getD 46 undef), (D.getD 47 undef), (D.getD 48 undef), (D.getD 49 undef), (D.getD 50 undef), (D.getD 51 undef), (D.getD 52 undef), (D.getD 53 undef), (D.getD 54 undef), (D.getD 55 undef), (D.getD 56 undef), (D.getD 57 undef), (D.getD 58 undef), (D.getD 59 undef), (D.getD 60 undef), (D.getD 61 undef), (D.getD 62 undef), (D.getD 63 undef), (D.getD 64 undef), (D.getD 65 undef), (D.getD 66 undef), (D.getD 67 undef), (D.getD 68 undef), (D.getD 69 undef), (D.getD 70 undef), (D.getD 71 undef), (D.getD 72 undef), (D.getD 73 undef), (D.getD 74 undef), (D.getD 75 undef), (D.getD 76 undef), (D.getD 77 undef), (D.getD 78 undef), (D.getD 79 undef), undef, undef] H
noncomputable def f19.K3 (k : Nat)  (x2 : Int) (p3 : Nat) (p6 : Nat) (b8 : Bool) (x9 : Int) (p10 : Nat) (b70 : Bool) (D : List Value) (H : AHeap) : Option (Value × AHeap) :=
  gateC (Sub (bodyOf Try.f19) [1, 1, 1, 1, 0, 0, 1, 1, 1, 1, 0]) (Sub (bodyOf Try.f19) [1, 1, 1, 1, 0, 0, 1, 1, 1, 1, 1]) k (run Try.prog (C k) k (Sub (bodyOf Try.f19) [1, 1, 1, 1, 0, 0, 1, 1, 1, 1, 1]) (f19.Q2 k )) [(D.getD 0 undef), (D.getD 1 undef), .int .i64 x2, .pointer (some ⟨p3, 0, none⟩), undef, undef, .pointer (some ⟨p6, 0, none⟩), (D.getD 2 undef), .bool b8, .int .i64 x9, .pointer (some ⟨p10, 0, none⟩), (D.getD 3 undef), (D.getD 4 undef), (D.getD 5 undef), (D.getD 6 undef), (D.getD 7 undef), (D.getD 8 undef), (D.getD 9 undef), (D.getD 10 undef), (D.getD 11 undef), (D.getD 12 undef), (D.getD 13 undef), (D.getD 14 undef), (D.getD 15 undef), (D.getD 16 undef), (D.getD 17 undef), (D.getD 18 undef), undef, undef, undef, undef, undef, undef, undef, undef, undef, undef, undef, undef, undef, (D.getD 19 undef), (D.getD 20 undef), (D.getD 21 undef), (D.getD 22 undef), (D.getD 23 undef), (D.getD 24 undef), (D.getD 25 undef), (D.getD 26 undef), (D.getD 27 undef), (D.getD 28 undef), (D.getD 29 undef), (D.getD 30 undef), (D.getD 31 undef), (D.getD 32 undef), (D.getD 33 undef), (D.getD 34 undef), (D.getD 35 undef), (D.getD 36 undef), (D.getD 37 undef), (D.getD 38 undef), (D.getD 39 undef), (D.getD 40 undef), (D.getD 41 undef), (D.getD 42 undef), undef, undef, undef, undef, undef, undef, .bool b70, (D.getD 43 undef), (D.getD 44 undef), (D.getD 45 undef), (D.getD 46 undef), (D.getD 47 undef), (D.getD 48 undef), (D.getD 49 undef), (D.getD 50 undef), (D.getD 51 undef), (D.getD 52 undef), undef, undef, undef, undef, undef, undef] H
theorem f19.K1_eq (k : Nat)  (a1 : Option Addr) (l1 : Nat) (c1 : Nat) (x2 : Int) (p3 : Nat) (p6 : Nat) (b8 : Bool) (x9 : Int) (p10 : Nat) (b40 : Bool) (D : List Value) (H : AHeap) : f19.K1 k  a1 l1 c1 x2 p3 p6 b8 x9 p10 b40 D H =
  (bif b40 then
   f19.K2 k p6 b8 p10 [(D.getD 0 undef), .slice a1 l1 c1, .int .i64 x2, .pointer (some ⟨p3, 0, none⟩), (D.getD 1 undef), .int .i64 x9, (D.getD 2 undef), (D.getD 3 undef), (D.getD 4 undef), (D.getD 5 undef), (D.getD 6 undef), (D.getD 7 undef), (D.getD 8 undef), (D.getD 9 undef), (D.getD 10 undef), (D.getD 11 undef), (D.getD 12 undef), (D.getD 13 undef), (D.getD 14 undef), (D.getD 15 undef), (D.getD 16 undef), (D.getD 17 undef), undef, undef, undef, undef, undef, undef, undef, undef, undef, undef, undef, undef, undef, .bool b40, (D.getD 18 undef), (D.getD 19 undef), (D.getD 20 undef), (D.getD 21 undef), (D.getD 22 undef), (D.getD 23 undef), (D.getD 24 undef), (D.getD 25 undef), (D.getD 26 undef), (D.getD 27 undef), (D.getD 28 undef), (D.getD 29 undef), (D.getD 30 undef), (D.getD 31 undef), (D.getD 32 undef), (D.getD 33 undef), (D.getD 34 undef), (D.getD 35 undef), undef, undef, undef, undef, undef, undef, undef, undef, undef, undef, undef, undef, undef, undef, undef, undef, undef, undef, undef, undef, undef, undef, undef, undef, undef, undef] H
   else
   bSl (ldSl H p3 (4)) fun a l c =>
   bif (decide ((l : Int) > (0 : Int))) then
   bSl (ldSl H p10 (4)) fun a_1 l_1 c_1 =>
   cSl (C k 52 [.slice a_1 l_1 c_1, .int .i64 x2, .int .i64 x9] H) fun a_2 l_2 c_2 H_1 =>
   (AHeap.wr H_1 p10 (4) [.slice a_2 l_2 c_2]).bind fun H_2 =>
   f19.K2 k p6 b8 p10 [(D.getD 0 undef), .slice a1 l1 c1, .int .i64 x2, .pointer (some ⟨p3, 0, none⟩), (D.getD 1 undef), .int .i64 x9, (D.getD 2 undef), (D.getD 3 undef), (D.getD 4 undef), (D.getD 5 undef), (D.getD 6 undef), (D.getD 7 undef), (D.getD 8 undef), (D.getD 9 undef), (D.getD 10 undef), (D.getD 11 undef), (D.getD 12 undef), (D.getD 13 undef), (D.getD 14 undef), (D.getD 15 undef), (D.getD 16 undef), (D.getD 17 undef), undef, undef, undef, undef, undef, undef, undef, undef, undef, undef, undef, undef, undef, .bool b40, (D.getD 18 undef), (D.getD 19 undef), (D.getD 20 undef), (D.getD 21 undef), (D.getD 22 undef), (D.getD 23 undef), (D.getD 24 undef), (D.getD 25 undef), (D.getD 26 undef), (D.getD 27 undef), (D.getD 28 undef), (D.getD 29 undef), (D.getD 30 undef), (D.getD 31 undef), (D.getD 32 undef), (D.getD 33 undef), (D.getD 34 undef), (D.getD 35 undef), .bool (decide ((l : Int) > (0 : Int))), .pointer (some ⟨p3, 4, none⟩), .slice a l c, .int .i64 (l : Int), .bool (decide ((l : Int) > (0 : Int))), .pointer (some ⟨p10, 4, none⟩), .slice a_1 l_1 c_1, .int .i64 x2, .int .i64 x9, .slice a_2 l_2 c_2, .pointer (some ⟨p10, 4, none⟩), undef, undef, undef, undef, undef, undef, undef, undef, undef, undef, undef, undef, undef, undef, undef] H_2
   else
   (ldI .i64 H p3 (2)).bind fun x =>
   bif (x == (0 : Int)) then
   f19.K3 k x2 p3 p6 b8 x9 p10 true [(D.getD 0 undef), .slice a1 l1 c1, (D.getD 1 undef), (D.getD 2 undef), (D.getD 3 undef), (D.getD 4 undef), (D.getD 5 undef), (D.getD 6 undef), (D.getD 7 undef), (D.getD 8 undef), (D.getD 9 undef), (D.getD 10 undef), (D.getD 11 undef), (D.getD 12 undef), (D.getD 13 undef), (D.getD 14 undef), (D.getD 15 undef), (D.getD 16 undef), (D.getD 17 undef), .bool b40, (D.getD 18 undef), (D.getD 19 undef), (D.getD 20 undef), (D.getD 21 undef), (D.getD 22 undef), (D.getD 23 undef), (D.getD 24 undef), (D.getD 25 undef), (D.getD 26 undef), (D.getD 27 undef), (D.getD 28 undef), (D.getD 29 undef), (D.getD 30 undef), (D.getD 31 undef), (D.getD 32 undef), (D.getD 33 undef), (D.getD 34 undef), (D.getD 35 undef), .bool (decide ((l : Int) > (0 : Int))), .pointer (some ⟨p3, 4, none⟩), .slice a l c, .int .i64 (l : Int), .bool (decide ((l : Int) > (0 : Int))), .pointer (some ⟨p3, 2, none⟩), .pointer (some ⟨p3, 2, none⟩), .int .i64 x, .bool (x == (0 : Int)), .bool true, undef, undef, undef, undef, .bool true] H
   else
   (AHeap.row H p3 (2) 2).bind fun g =>
   cB (C k 47 [.slice a1 l1 c1, .agg (g : List Value).toArray] H) fun b H_3 =>
   f19.K3 k x2 p3 p6 b8 x9 p10 b [(D.getD 0 undef), .slice a1 l1 c1, (D.getD 1 undef), (D.getD 2 undef), (D.getD 3 undef), (D.getD 4 undef), (D.getD 5 undef), (D.getD 6 undef), (D.getD 7 undef), (D.getD 8 undef), (D.getD 9 undef), (D.getD 10 undef), (D.getD 11 undef), (D.getD 12 undef), (D.getD 13 undef), (D.getD 14 undef), (D.getD 15 undef), (D.getD 16 undef), (D.getD 17 undef), .bool b40, (D.getD 18 undef), (D.getD 19 undef), (D.getD 20 undef), (D.getD 21 undef), (D.getD 22 undef), (D.getD 23 undef), (D.getD 24 undef), (D.getD 25 undef), (D.getD 26 undef), (D.getD 27 undef), (D.getD 28 undef), (D.getD 29 undef), (D.getD 30 undef), (D.getD 31 undef), (D.getD 32 undef), (D.getD 33 undef), (D.getD 34 undef), (D.getD 35 undef), .bool (decide ((l : Int) > (0 : Int))), .pointer (some ⟨p3, 4, none⟩), .slice a l c, .int .i64 (l : Int), .bool (decide ((l : Int) > (0 : Int))), .pointer (some ⟨p3, 2, none⟩), .pointer (some ⟨p3, 2, none⟩), .int .i64 x, .bool (x == (0 : Int)), .bool false, .slice a1 l1 c1, .pointer (some ⟨p3, 2, none⟩), .agg (g : List Value).toArray, .bool b, .bool b] H_3) := by
  unfold f19.K1
  rw [gateC_eq]
  kernel_rfl
theorem f19.K2_eq (k : Nat)  (p6 : Nat) (b8 : Bool) (p10 : Nat) (D : List Value) (H : AHeap) : f19.K2 k  p6 b8 p10 D H =
  ((AHeap.row H p10 (0) 5).bind fun g =>
   if notTup (.agg (g : List Value).toArray) = true ∧ (g).length = 5 then
   (AHeap.wr H p6 (0) g).bind fun H_1 =>
   (AHeap.row H_1 p6 (0) 5).bind fun g_1 =>
   some (.tuple #[.agg (g_1 : List Value).toArray, .bool b8], H_1)
   else none) := by
  unfold f19.K2
  rw [gateC_eq]
  kernel_rfl
theorem f19.K3_eq (k : Nat)  (x2 : Int) (p3 : Nat) (p6 : Nat) (b8 : Bool) (x9 : Int) (p10 : Nat) (b70 : Bool) (D : List Value) (H : AHeap) : f19.K3 k  x2 p3 p6 b8 x9 p10 b70 D H =
  (bif b70 then
   (AHeap.wr H p10 (2) [.int .i64 x9, .int .i64 x2]).bind fun H_1 =>
   f19.K2 k p6 b8 p10 [(D.getD 0 undef), (D.getD 1 undef), .int .i64 x2, .pointer (some ⟨p3, 0, none⟩), (D.getD 2 undef), .int .i64 x9, (D.getD 3 undef), (D.getD 4 undef), (D.getD 5 undef), (D.getD 6 undef), (D.getD 7 undef), (D.getD 8 undef), (D.getD 9 undef), (D.getD 10 undef), (D.getD 11 undef), (D.getD 12 undef), (D.getD 13 undef), (D.getD 14 undef), (D.getD 15 undef), (D.getD 16 undef), (D.getD 17 undef), (D.getD 18 undef), undef, undef, undef, undef, undef, undef, undef, undef, undef, undef, undef, undef, undef, (D.getD 19 undef), (D.getD 20 undef), (D.getD 21 undef), (D.getD 22 undef), (D.getD 23 undef), (D.getD 24 undef), (D.getD 25 undef), (D.getD 26 undef), (D.getD 27 undef), (D.getD 28 undef), (D.getD 29 undef), (D.getD 30 undef), (D.getD 31 undef), (D.getD 32 undef), (D.getD 33 undef), (D.getD 34 undef), (D.getD 35 undef), (D.getD 36 undef), (D.getD 37 undef), (D.getD 38 undef), (D.getD 39 undef), (D.getD 40 undef), (D.getD 41 undef), (D.getD 42 undef), undef, undef, undef, undef, undef, undef, .bool b70, (D.getD 43 undef), (D.getD 44 undef), (D.getD 45 undef), (D.getD 46 undef), (D.getD 47 undef), (D.getD 48 undef), (D.getD 49 undef), (D.getD 50 undef), (D.getD 51 undef), (D.getD 52 undef), .int .i64 x9, .int .i64 x2, .agg #[.int .i64 x9, .int .i64 x2], .pointer (some ⟨p10, 2, none⟩)] H_1
   else
   (ldI .i64 H p3 (3)).bind fun x =>
   (ldI .i64 H p3 (2)).bind fun x_1 =>
   cSl (C k 52 [.slice none 0 0, .int .i64 x, .int .i64 x_1] H) fun a l c H_2 =>
   cSl (C k 52 [.slice a l c, .int .i64 x2, .int .i64 x9] H_2) fun a_1 l_1 c_1 H_3 =>
   (AHeap.wr H_3 p10 (4) [.slice a_1 l_1 c_1]).bind fun H_4 =>
   (AHeap.wr H_4 p10 (2) [.int .i64 0, .int .i64 0]).bind fun H_5 =>
   f19.K2 k p6 b8 p10 [(D.getD 0 undef), (D.getD 1 undef), .int .i64 x2, .pointer (some ⟨p3, 0, none⟩), (D.getD 2 undef), .int .i64 x9, (D.getD 3 undef), (D.getD 4 undef), (D.getD 5 undef), (D.getD 6 undef), (D.getD 7 undef), (D.getD 8 undef), (D.getD 9 undef), (D.getD 10 undef), (D.getD 11 undef), (D.getD 12 undef), (D.getD 13 undef), (D.getD 14 undef), (D.getD 15 undef), (D.getD 16 undef), (D.getD 17 undef), (D.getD 18 undef), .pointer (some ⟨p3, 2, none⟩), .pointer (some ⟨p3, 3, none⟩), .int .i64 x, .pointer (some ⟨p3, 2, none⟩), .pointer (some ⟨p3, 2, none⟩), .int .i64 x_1, .slice a l c, .int .i64 x2, .int .i64 x9, .slice a_1 l_1 c_1, .pointer (some ⟨p10, 4, none⟩), .agg #[.int .i64 0, .int .i64 0], .pointer (some ⟨p10, 2, none⟩), (D.getD 19 undef), (D.getD 20 undef), (D.getD 21 undef), (D.getD 22 undef), (D.getD 23 undef), (D.getD 24 undef), (D.getD 25 undef), (D.getD 26 undef), (D.getD 27 undef), (D.getD 28 undef), (D.getD 29 undef), (D.getD 30 undef), (D.getD 31 undef), (D.getD 32 undef), (D.getD 33 undef), (D.getD 34 undef), (D.getD 35 undef), (D.getD 36 undef), (D.getD 37 undef), (D.getD 38 undef), (D.getD 39 undef), (D.getD 40 undef), (D.getD 41 undef), (D.getD 42 undef), undef, undef, undef, undef, undef, undef, .bool b70, (D.getD 43 undef), (D.getD 44 undef), (D.getD 45 undef), (D.getD 46 undef), (D.getD 47 undef), (D.getD 48 undef), (D.getD 49 undef), (D.getD 50 undef), (D.getD 51 undef), (D.getD 52 undef), undef, undef, undef, undef] H_5) := by
  unfold f19.K3
  rw [gateC_eq]
  kernel_rfl
theorem f19_eq (k : Nat) (x0_0 : Int) (x0_1 : Int) (x0_2 : Int) (x0_3 : Int) (a0_4 : Option Addr) (l0_4 : Nat) (c0_4 : Nat) (a1 : Option Addr) (l1 : Nat) (c1 : Nat) (x2 : Int) (H : AHeap) : C (k + 1) 19 [.agg #[.int .i64 x0_0, .int .i64 x0_1, .int .i64 x0_2, .int .i64 x0_3, .slice a0_4 l0_4 c0_4], .slice a1 l1 c1, .int .i64 x2] H =
  (alK none H ⟨[.int .i64 x0_0, .int .i64 x0_1, .int .i64 x0_2, .int .i64 x0_3, .slice a0_4 l0_4 c0_4], 0, .rw, 0⟩ fun i H_1 =>
   alK none H_1 ⟨[.int .i64 0, .int .i64 0, .int .i64 0, .int .i64 0, .slice none 0 0], 0, .rw, 0⟩ fun i_1 H_2 =>
   (AHeap.row H_2 i (0) 2).bind fun g =>
   cB (C k 47 [.slice a1 l1 c1, .agg (g : List Value).toArray] H_2) fun b H_3 =>
   cI .i64 (C k 49 [.slice a1 l1 c1, .int .i64 x2] H_3) fun x H_4 =>
   bif sameB H_4 (H_4.bump 10) i then
   bSl (ldSl (H_4.bump 10) i (4)) fun a l c =>
   cSl (apndV Try.prog [26, 26] (H_4.bump 10) (.slice none 0 0) (.slice a l c)) fun a_1 l_1 c_1 H_5 =>
   bif sameB H_4 H_5 i then
   (AHeap.row H_5 i (0) 2).bind fun g_1 =>
   bif sameB H_4 H_5 i then
   (AHeap.row H_5 i (2) 2).bind fun g_2 =>
   buildK Try.prog 28 [(0, .agg (g_1 : List Value).toArray), (1, .agg (g_2 : List Value).toArray), (2, .slice a_1 l_1 c_1)] fun g_3 =>
   alK (some (H_4.next + 8)) H_5 ⟨[.int .i64 0, .int .i64 0, .int .i64 0, .int .i64 0, .slice none 0 0], 0, .rw, 0⟩ fun i_2 H_6 =>
   if notTup (.agg (g_3 : List Value).toArray) = true ∧ (g_3).length = 5 then
   (AHeap.wr H_6 i_2 (0) g_3).bind fun H_7 =>
   bif (decide (x2 < (0 : Int))) then
   f19.K1 k a1 l1 c1 x2 i i_1 (!b) x i_2 true [.agg #[.int .i64 x0_0, .int .i64 x0_1, .int .i64 x0_2, .int .i64 x0_3, .slice a0_4 l0_4 c0_4], .bool false, .slice a1 l1 c1, .pointer (some ⟨i, 0, none⟩), .agg (g : List Value).toArray, .bool b, .bool (!b), .slice a1 l1 c1, .int .i64 x2, .int .i64 x, .pointer (some ⟨i, 0, none⟩), .agg (g_1 : List Value).toArray, .pointer (some ⟨i, 2, none⟩), .agg (g_2 : List Value).toArray, .pointer (some ⟨i, 4, none⟩), .slice a l c, .slice a_1 l_1 c_1, .agg (g_3 : List Value).toArray, .int .i64 x2, .bool (decide (x2 < (0 : Int))), .bool true, undef, undef, .bool true, .bool true, undef, undef, undef, undef, .bool true, .bool true, undef, undef, undef, undef, .bool true] H_7
   else
   bif (decide (x2 ≥ (4 : Int))) then
   f19.K1 k a1 l1 c1 x2 i i_1 (!b) x i_2 true [.agg #[.int .i64 x0_0, .int .i64 x0_1, .int .i64 x0_2, .int .i64 x0_3, .slice a0_4 l0_4 c0_4], .bool false, .slice a1 l1 c1, .pointer (some ⟨i, 0, none⟩), .agg (g : List Value).toArray, .bool b, .bool (!b), .slice a1 l1 c1, .int .i64 x2, .int .i64 x, .pointer (some ⟨i, 0, none⟩), .agg (g_1 : List Value).toArray, .pointer (some ⟨i, 2, none⟩), .agg (g_2 : List Value).toArray, .pointer (some ⟨i, 4, none⟩), .slice a l c, .slice a_1 l_1 c_1, .agg (g_3 : List Value).toArray, .int .i64 x2, .bool (decide (x2 < (0 : Int))), .bool false, .int .i64 x2, .bool (decide (x2 ≥ (4 : Int))), .bool (decide (x2 ≥ (4 : Int))), .bool true, undef, undef, undef, undef, .bool true, .bool true, undef, undef, undef, undef, .bool true] H_7
   else
   (ldI .i64 H_7 i (3)).bind fun x_1 =>
   bif (decide (x_1 < (0 : Int))) then
   f19.K1 k a1 l1 c1 x2 i i_1 (!b) x i_2 true [.agg #[.int .i64 x0_0, .int .i64 x0_1, .int .i64 x0_2, .int .i64 x0_3, .slice a0_4 l0_4 c0_4], .bool false, .slice a1 l1 c1, .pointer (some ⟨i, 0, none⟩), .agg (g : List Value).toArray, .bool b, .bool (!b), .slice a1 l1 c1, .int .i64 x2, .int .i64 x, .pointer (some ⟨i, 0, none⟩), .agg (g_1 : List Value).toArray, .pointer (some ⟨i, 2, none⟩), .agg (g_2 : List Value).toArray, .pointer (some ⟨i, 4, none⟩), .slice a l c, .slice a_1 l_1 c_1, .agg (g_3 : List Value).toArray, .int .i64 x2, .bool (decide (x2 < (0 : Int))), .bool false, .int .i64 x2, .bool (decide (x2 ≥ (4 : Int))), .bool (decide (x2 ≥ (4 : Int))), .bool false, .pointer (some ⟨i, 2, none⟩), .pointer (some ⟨i, 3, none⟩), .int .i64 x_1, .bool (decide (x_1 < (0 : Int))), .bool (decide (x_1 < (0 : Int))), .bool true, undef, undef, undef, undef, .bool true] H_7
   else
   (ldI .i64 H_7 i (3)).bind fun x_2 =>
   f19.K1 k a1 l1 c1 x2 i i_1 (!b) x i_2 (decide (x_2 ≥ (4 : Int))) [.agg #[.int .i64 x0_0, .int .i64 x0_1, .int .i64 x0_2, .int .i64 x0_3, .slice a0_4 l0_4 c0_4], .bool false, .slice a1 l1 c1, .pointer (some ⟨i, 0, none⟩), .agg (g : List Value).toArray, .bool b, .bool (!b), .slice a1 l1 c1, .int .i64 x2, .int .i64 x, .pointer (some ⟨i, 0, none⟩), .agg (g_1 : List Value).toArray, .pointer (some ⟨i, 2, none⟩), .agg (g_2 : List Value).toArray, .pointer (some ⟨i, 4, none⟩), .slice a l c, .slice a_1 l_1 c_1, .agg (g_3 : List Value).toArray, .int .i64 x2, .bool (decide (x2 < (0 : Int))), .bool false, .int .i64 x2, .bool (decide (x2 ≥ (4 : Int))), .bool (decide (x2 ≥ (4 : Int))), .bool false, .pointer (some ⟨i, 2, none⟩), .pointer (some ⟨i, 3, none⟩), .int .i64 x_1, .bool (decide (x_1 < (0 : Int))), .bool (decide (x_1 < (0 : Int))), .bool false, .pointer (some ⟨i, 2, none⟩), .pointer (some ⟨i, 3, none⟩), .int .i64 x_2, .bool (decide (x_2 ≥ (4 : Int))), .bool (decide (x_2 ≥ (4 : Int)))] H_7
   else none
   else none
   else none
   else none) := by kernel_rfl

/- f20 "interleave/interleaveref22.Read"  names:  -/
noncomputable def f20.Q0 (k : Nat)  : Kont (Value × AHeap) := retQ Try.prog Try.f20
noncomputable def f20.Q1 (k : Nat)  : Kont (Value × AHeap) := seqQ (gateC (Sub (bodyOf Try.f20) [1, 1, 1, 1, 0]) (Sub (bodyOf Try.f20) [1, 1, 1, 1, 1]) k (run Try.prog (C k) k (Sub (bodyOf Try.f20) [1, 1, 1, 1, 1]) (f20.Q0 k ))) (f20.Q0 k )
noncomputable def f20.Q2 (k : Nat)  : Kont (Value × AHeap) := blkQ 0 (f20.Q1 k )
noncomputable def f20.K1 (k : Nat)  (p6 : Nat) (b8 : Bool) (p10 : Nat) (D : List Value) (H : AHeap) : Option (Value × AHeap) :=
  gateC (Sub (bodyOf Try.f20) [1, 1, 1, 1, 0]) (Sub (bodyOf Try.f20) [1, 1, 1, 1, 1]) k (run Try.prog (C k) k (Sub (bodyOf Try.f20) [1, 1, 1, 1, 1]) (f20.Q0 k )) [(D.getD 0 undef), (D.getD 1 undef), (D.getD 2 undef), (D.getD 3 undef), undef, undef, .pointer (some ⟨p6, 0, none⟩), (D.getD 4 undef), .bool b8, (D.getD 5 undef), .pointer (some ⟨p10, 0, none⟩), (D.getD 6 undef), (D.getD 7 undef), (D.getD 8 undef), (D.getD 9 undef), (D.getD 10 undef), (D.getD 11 undef), (D.getD 12 undef), (D.getD 13 undef), (D.getD 14 undef), (D.getD 15 undef), (D.getD 16 undef), (D.getD 17 undef), (D.getD 18 undef), (D.getD 19 undef), (D.getD 20 undef), (D.getD 21 undef), (D.getD 22 undef), (D.getD 23 undef), (D.getD 24 undef), (D.getD 25 undef), (D.getD 26 undef), (D.getD 27 undef), (D.getD 28 undef), (D.getD 29 undef), (D.getD 30 undef), (D.getD 31 undef), (D.getD 32 undef), (D.getD 33 undef), (D.getD 34 undef), (D.getD 35 undef), (D.getD 36 undef), (D.getD 37 undef), (D.getD 38 undef), (D.getD 39 undef), (D.getD 40 undef), (D.getD 41 undef), (D.getD 42 undef), (D.getD 43 undef), (D.getD 44 undef), (D.getD 45 undef), (D.getD 46 undef), (D.getD 47 undef), (D.getD 48 undef), (D.getD 49 undef), (D.getD 50 undef), (D.getD 51 undef), (D.getD 52 undef), (D.getD 53 undef), (D.getD 54 undef), (D.getD 55 undef), (D.getD 56 undef), (D.getD 57 undef), (D.getD 58 undef), (D.getD 59 undef), (D.getD 60 undef), undef, undef] H
noncomputable def f20.K2 (k : Nat)  (x2 : Int) (p3 : Nat) (p6 : Nat) (b8 : Bool) (x9 : Int) (p10 : Nat) (b51 : Bool) (D : List Value) (H : AHeap) : Option (Value × AHeap) :=
  gateC (Sub (bodyOf Try.f20) [1, 1, 1, 1, 0, 0, 1, 1, 0]) (Sub (bodyOf Try.f20) [1, 1, 1, 1, 0, 0, 1, 1, 1]) k (run Try.prog (C k) k (Sub (bodyOf Try.f20) [1, 1, 1, 1, 0, 0, 1, 1, 1]) (f20.Q2 k )) [(D.getD 0 undef), (D.getD 1 undef), .int .i64 x2, .pointer (some ⟨p3, 0, none⟩), undef, undef, .pointer (some ⟨p6, 0, none⟩), (D.getD 2 undef), .bool b8, .int .i64 x9, .pointer (some ⟨p10, 0, none⟩), (D.getD 3 undef), (D.getD 4 undef), (D.getD 5 undef), (D.getD 6 undef), (D.getD 7 undef), (D.getD 8 undef), (D.getD 9 undef), (D.getD 10 undef), (D.getD 11 undef), (D.getD 12 undef), (D.getD 13 undef), (D.getD 14 undef), (D.getD 15 undef), (D.getD 16 undef), (D.getD 17 undef), (D.getD 18 undef), undef, undef, undef, undef, undef, undef, undef, undef, undef, undef, undef, undef, undef, (D.getD 19 undef), (D.getD 20 undef), (D.getD 21 undef), (D.getD 22 undef), (D.getD 23 undef), undef, undef, undef, undef, undef, undef, .bool b51, (D.getD 24 undef), (D.getD 25 undef), (D.getD 26 undef), (D.getD 27 undef), (D.getD 28 undef), (D.getD 29 undef), (D.getD 30 undef), (D.getD 31 undef), (D.getD 32 undef), (D.getD 33 undef), undef, undef, undef, undef, undef, undef] H
theorem f20.K1_eq (k : Nat)  (p6 : Nat) (b8 : Bool) (p10 : Nat) (D : List Value) (H : AHeap) : f20.K1 k  p6 b8 p10 D H =
  ((AHeap.row H p10 (0) 5).bind fun g =>
   if notTup (.agg (g : List Value).toArray) = true ∧ (g).length = 5 then
   (AHeap.wr H p6 (0) g).bind fun H_1 =>
   (AHeap.row H_1 p6 (0) 5).bind fun g_1 =>
   some (.tuple #[.agg (g_1 : List Value).toArray, .bool b8], H_1)
   else none) := by
  unfold f20.K1
  rw [gateC_eq]
  kernel_rfl
theorem f20.K2_eq (k : Nat)  (x2 : Int) (p3 : Nat) (p6 : Nat) (b8 : Bool) (x9 : Int) (p10 : Nat) (b51 : Bool) (D : List Value) (H : AHeap) : f20.K2 k  x2 p3 p6 b8 x9 p10 b51 D H =
  (bif b51 then
   (AHeap.wr H p10 (2) [.int .i64 x9, .int .i64 x2]).bind fun H_1 =>
   f20.K1 k p6 b8 p10 [(D.getD 0 undef), (D.getD 1 undef), .int .i64 x2, .pointer (some ⟨p3, 0, none⟩), (D.getD 2 undef), .int .i64 x9, (D.getD 3 undef), (D.getD 4 undef), (D.getD 5 undef), (D.getD 6 undef), (D.getD 7 undef), (D.getD 8 undef), (D.getD 9 undef), (D.getD 10 undef), (D.getD 11 undef), (D.getD 12 undef), (D.getD 13 undef), (D.getD 14 undef), (D.getD 15 undef), (D.getD 16 undef), (D.getD 17 undef), (D.getD 18 undef), undef, undef, undef, undef, undef, undef, undef, undef, undef, undef, undef, undef, undef, (D.getD 19 undef), (D.getD 20 undef), (D.getD 21 undef), (D.getD 22 undef), (D.getD 23 undef), undef, undef, undef, undef, undef, undef, .bool b51, (D.getD 24 undef), (D.getD 25 undef), (D.getD 26 undef), (D.getD 27 undef), (D.getD 28 undef), (D.getD 29 undef), (D.getD 30 undef), (D.getD 31 undef), (D.getD 32 undef), (D.getD 33 undef), .int .i64 x9, .int .i64 x2, .agg #[.int .i64 x9, .int .i64 x2], .pointer (some ⟨p10, 2, none⟩)] H_1
   else
   (AHeap.wr H p10 (2) [.int .i64 0, .int .i64 0]).bind fun H_2 =>
   (ldI .i64 H_2 p3 (3)).bind fun x =>
   (ldI .i64 H_2 p3 (2)).bind fun x_1 =>
   cSl (C k 53 [.slice none 0 0, .int .i64 x, .int .i64 x_1] H_2) fun a l c H_3 =>
   cSl (C k 53 [.slice a l c, .int .i64 x2, .int .i64 x9] H_3) fun a_1 l_1 c_1 H_4 =>
   (AHeap.wr H_4 p10 (4) [.slice a_1 l_1 c_1]).bind fun H_5 =>
   f20.K1 k p6 b8 p10 [(D.getD 0 undef), (D.getD 1 undef), .int .i64 x2, .pointer (some ⟨p3, 0, none⟩), (D.getD 2 undef), .int .i64 x9, (D.getD 3 undef), (D.getD 4 undef), (D.getD 5 undef), (D.getD 6 undef), (D.getD 7 undef), (D.getD 8 undef), (D.getD 9 undef), (D.getD 10 undef), (D.getD 11 undef), (D.getD 12 undef), (D.getD 13 undef), (D.getD 14 undef), (D.getD 15 undef), (D.getD 16 undef), (D.getD 17 undef), (D.getD 18 undef), .agg #[.int .i64 0, .int .i64 0], .pointer (some ⟨p10, 2, none⟩), .pointer (some ⟨p3, 2, none⟩), .pointer (some ⟨p3, 3, none⟩), .int .i64 x, .pointer (some ⟨p3, 2, none⟩), .pointer (some ⟨p3, 2, none⟩), .int .i64 x_1, .slice a l c, .int .i64 x2, .int .i64 x9, .slice a_1 l_1 c_1, .pointer (some ⟨p10, 4, none⟩), (D.getD 19 undef), (D.getD 20 undef), (D.getD 21 undef), (D.getD 22 undef), (D.getD 23 undef), undef, undef, undef, undef, undef, undef, .bool b51, (D.getD 24 undef), (D.getD 25 undef), (D.getD 26 undef), (D.getD 27 undef), (D.getD 28 undef), (D.getD 29 undef), (D.getD 30 undef), (D.getD 31 undef), (D.getD 32 undef), (D.getD 33 undef), undef, undef, undef, undef] H_5) := by
  unfold f20.K2
  rw [gateC_eq]
  kernel_rfl
theorem f20_eq (k : Nat) (x0_0 : Int) (x0_1 : Int) (x0_2 : Int) (x0_3 : Int) (a0_4 : Option Addr) (l0_4 : Nat) (c0_4 : Nat) (a1 : Option Addr) (l1 : Nat) (c1 : Nat) (x2 : Int) (H : AHeap) : C (k + 1) 20 [.agg #[.int .i64 x0_0, .int .i64 x0_1, .int .i64 x0_2, .int .i64 x0_3, .slice a0_4 l0_4 c0_4], .slice a1 l1 c1, .int .i64 x2] H =
  (alK none H ⟨[.int .i64 x0_0, .int .i64 x0_1, .int .i64 x0_2, .int .i64 x0_3, .slice a0_4 l0_4 c0_4], 0, .rw, 0⟩ fun i H_1 =>
   alK none H_1 ⟨[.int .i64 0, .int .i64 0, .int .i64 0, .int .i64 0, .slice none 0 0], 0, .rw, 0⟩ fun i_1 H_2 =>
   (AHeap.row H_2 i (0) 2).bind fun g =>
   cB (C k 50 [.slice a1 l1 c1, .agg (g : List Value).toArray] H_2) fun b H_3 =>
   cI .i64 (C k 46 [.slice a1 l1 c1, .int .i64 x2] H_3) fun x H_4 =>
   bif sameB H_4 (H_4.bump 10) i then
   bSl (ldSl (H_4.bump 10) i (4)) fun a l c =>
   cSl (C k 45 [.slice a l c] (H_4.bump 10)) fun a_1 l_1 c_1 H_5 =>
   bif sameB H_4 H_5 i then
   (AHeap.row H_5 i (0) 2).bind fun g_1 =>
   bif sameB H_4 H_5 i then
   (AHeap.row H_5 i (2) 2).bind fun g_2 =>
   buildK Try.prog 28 [(0, .agg (g_1 : List Value).toArray), (1, .agg (g_2 : List Value).toArray), (2, .slice a_1 l_1 c_1)] fun g_3 =>
   alK (some (H_4.next + 8)) H_5 ⟨[.int .i64 0, .int .i64 0, .int .i64 0, .int .i64 0, .slice none 0 0], 0, .rw, 0⟩ fun i_2 H_6 =>
   if notTup (.agg (g_3 : List Value).toArray) = true ∧ (g_3).length = 5 then
   (AHeap.wr H_6 i_2 (0) g_3).bind fun H_7 =>
   bSl (ldSl H_7 i (4)) fun a_2 l_2 c_2 =>
   bif (decide ((l_2 : Int) > (0 : Int))) then
   bSl (ldSl H_7 i (4)) fun a_3 l_3 c_3 =>
   cSl (C k 53 [.slice a_3 l_3 c_3, .int .i64 x2, .int .i64 x] H_7) fun a_4 l_4 c_4 H_8 =>
   (AHeap.wr H_8 i_2 (4) [.slice a_4 l_4 c_4]).bind fun H_9 =>
   f20.K1 k i_1 (!b) i_2 [.agg #[.int .i64 x0_0, .int .i64 x0_1, .int .i64 x0_2, .int .i64 x0_3, .slice a0_4 l0_4 c0_4], .slice a1 l1 c1, .int .i64 x2, .pointer (some ⟨i, 0, none⟩), .bool false, .int .i64 x, .slice a1 l1 c1, .pointer (some ⟨i, 0, none⟩), .agg (g : List Value).toArray, .bool b, .bool (!b), .slice a1 l1 c1, .int .i64 x2, .int .i64 x, .pointer (some ⟨i, 0, none⟩), .agg (g_1 : List Value).toArray, .pointer (some ⟨i, 2, none⟩), .agg (g_2 : List Value).toArray, .pointer (some ⟨i, 4, none⟩), .slice a l c, .slice a_1 l_1 c_1, .agg (g_3 : List Value).toArray, undef, undef, undef, undef, undef, undef, undef, undef, undef, undef, undef, undef, undef, .bool (decide ((l_2 : Int) > (0 : Int))), .pointer (some ⟨i, 4, none⟩), .slice a_2 l_2 c_2, .int .i64 (l_2 : Int), .bool (decide ((l_2 : Int) > (0 : Int))), .pointer (some ⟨i, 4, none⟩), .slice a_3 l_3 c_3, .int .i64 x2, .int .i64 x, .slice a_4 l_4 c_4, .pointer (some ⟨i_2, 4, none⟩), undef, undef, undef, undef, undef, undef, undef, undef, undef, undef, undef, undef, undef, undef, undef] H_9
   else
   (ldI .i64 H_7 i (2)).bind fun x_1 =>
   bif (x_1 == (0 : Int)) then
   f20.K2 k x2 i i_1 (!b) x i_2 true [.agg #[.int .i64 x0_0, .int .i64 x0_1, .int .i64 x0_2, .int .i64 x0_3, .slice a0_4 l0_4 c0_4], .slice a1 l1 c1, .bool false, .slice a1 l1 c1, .pointer (some ⟨i, 0, none⟩), .agg (g : List Value).toArray, .bool b, .bool (!b), .slice a1 l1 c1, .int .i64 x2, .int .i64 x, .pointer (some ⟨i, 0, none⟩), .agg (g_1 : List Value).toArray, .pointer (some ⟨i, 2, none⟩), .agg (g_2 : List Value).toArray, .pointer (some ⟨i, 4, none⟩), .slice a l c, .slice a_1 l_1 c_1, .agg (g_3 : List Value).toArray, .bool (decide ((l_2 : Int) > (0 : Int))), .pointer (some ⟨i, 4, none⟩), .slice a_2 l_2 c_2, .int .i64 (l_2 : Int), .bool (decide ((l_2 : Int) > (0 : Int))), .pointer (some ⟨i, 2, none⟩), .pointer (some ⟨i, 2, none⟩), .int .i64 x_1, .bool (x_1 == (0 : Int)), .bool true, undef, undef, undef, undef, .bool true] H_7
   else
   (AHeap.row H_7 i (2) 2).bind fun g_4 =>
   cB (C k 50 [.slice a1 l1 c1, .agg (g_4 : List Value).toArray] H_7) fun b_1 H_10 =>
   f20.K2 k x2 i i_1 (!b) x i_2 b_1 [.agg #[.int .i64 x0_0, .int .i64 x0_1, .int .i64 x0_2, .int .i64 x0_3, .slice a0_4 l0_4 c0_4], .slice a1 l1 c1, .bool false, .slice a1 l1 c1, .pointer (some ⟨i, 0, none⟩), .agg (g : List Value).toArray, .bool b, .bool (!b), .slice a1 l1 c1, .int .i64 x2, .int .i64 x, .pointer (some ⟨i, 0, none⟩), .agg (g_1 : List Value).toArray, .pointer (some ⟨i, 2, none⟩), .agg (g_2 : List Value).toArray, .pointer (some ⟨i, 4, none⟩), .slice a l c, .slice a_1 l_1 c_1, .agg (g_3 : List Value).toArray, .bool (decide ((l_2 : Int) > (0 : Int))), .pointer (some ⟨i, 4, none⟩), .slice a_2 l_2 c_2, .int .i64 (l_2 : Int), .bool (decide ((l_2 : Int) > (0 : Int))), .pointer (some ⟨i, 2, none⟩), .pointer (some ⟨i, 2, none⟩), .int .i64 x_1, .bool (x_1 == (0 : Int)), .bool false, .slice a1 l1 c1, .pointer (some ⟨i, 2, none⟩), .agg (g_4 : List Value).toArray, .bool b_1, .bool b_1] H_10
   else none
   else none
   else none
   else none) := by kernel_rfl

/- f21 "interleave/interleaveref22.SameShadow"  names: 0:a 1:b 2:a 3:b -/
theorem f21_eq (k : Nat) (x0_0 : Int) (x0_1 : Int) (x0_2 : Int) (x0_3 : Int) (a0_4 : Option Addr) (l0_4 : Nat) (c0_4 : Nat) (x1_0 : Int) (x1_1 : Int) (x1_2 : Int) (x1_3 : Int) (a1_4 : Option Addr) (l1_4 : Nat) (c1_4 : Nat) (H : AHeap) : C (k + 1) 21 [.agg #[.int .i64 x0_0, .int .i64 x0_1, .int .i64 x0_2, .int .i64 x0_3, .slice a0_4 l0_4 c0_4], .agg #[.int .i64 x1_0, .int .i64 x1_1, .int .i64 x1_2, .int .i64 x1_3, .slice a1_4 l1_4 c1_4]] H =
  (alK none H ⟨[.int .i64 x0_0, .int .i64 x0_1, .int .i64 x0_2, .int .i64 x0_3, .slice a0_4 l0_4 c0_4], 0, .rw, 0⟩ fun i H_1 =>
   alK none H_1 ⟨[.int .i64 x1_0, .int .i64 x1_1, .int .i64 x1_2, .int .i64 x1_3, .slice a1_4 l1_4 c1_4], 0, .rw, 0⟩ fun i_1 H_2 =>
   (AHeap.row H_2 i (0) 2).bind fun g =>
   (AHeap.row H_2 i_1 (0) 2).bind fun g_1 =>
   (eqV Try.prog 40 25 (.agg (g : List Value).toArray) (.agg (g_1 : List Value).toArray)).bind fun b =>
   bif b then
   (AHeap.row H_2 i (2) 2).bind fun g_2 =>
   (AHeap.row H_2 i_1 (2) 2).bind fun g_3 =>
   (eqV Try.prog 40 25 (.agg (g_2 : List Value).toArray) (.agg (g_3 : List Value).toArray)).bind fun b_1 =>
   bif b_1 then
   bSl (ldSl H_2 i (4)) fun a l c =>
   bSl (ldSl H_2 i_1 (4)) fun a_1 l_1 c_1 =>
   cB (C k 54 [.slice a l c, .slice a_1 l_1 c_1] H_2) fun b_2 H_3 =>
   bif b_2 then
   bSl (ldSl H_3 i (4)) fun a_2 l_2 c_2 =>
   bSl (ldSl H_3 i_1 (4)) fun a_3 l_3 c_3 =>
   some (.bool (((l_2 : Int) == (0 : Int)) == ((l_3 : Int) == (0 : Int))), H_3)
   else
   some (.bool false, H_3)
   else
   some (.bool false, H_2)
   else
   some (.bool false, H_2)) := by kernel_rfl

/- f52 "interleave/epoch.entry"  names: 0:l 1:t 2:n 3:l 4:t 5:n -/
noncomputable def f52.Q0 (k : Nat)  : Kont (Value × AHeap) := retQ Try.prog Try.f52
noncomputable def f52.Q1 (k : Nat)  : Kont (Value × AHeap) := seqQ (gateC (Sub (bodyOf Try.f52) [1, 0]) (Sub (bodyOf Try.f52) [1, 1]) k (run Try.prog (C k) k (Sub (bodyOf Try.f52) [1, 1]) (f52.Q0 k ))) (f52.Q0 k )
noncomputable def f52.Q2 (k : Nat)  : Kont (Value × AHeap) := blkQ 0 (f52.Q1 k )
noncomputable def f52.L1 (k : Nat) (n1 : Nat) (a0 : Option Addr) (l0 : Nat) (c0 : Nat) (x1 : Int) (x2 : Int) (D : List Value) (H : AHeap) : Option (Value × AHeap) :=
  iter (run Try.prog (C k) k (Sub (bodyOf Try.f52) [1, 0, 0, 0])) (f52.Q2 k ) n1 [.slice a0 l0 c0, .int .i64 x1, .int .i64 x2, undef, undef, undef, (D.getD 0 undef), (D.getD 1 undef), (D.getD 2 undef), (D.getD 3 undef), (D.getD 4 undef), (D.getD 5 undef), (D.getD 6 undef), (D.getD 7 undef), undef, undef, undef, undef, undef] H
theorem f52.L1_z (k : Nat)  (a0 : Option Addr) (l0 : Nat) (c0 : Nat) (x1 : Int) (x2 : Int) (D : List Value) (H : AHeap) : f52.L1 k 0 a0 l0 c0 x1 x2 D H = none := by kernel_rfl
theorem f52.L1_s (k : Nat) (n1 : Nat) (a0 : Option Addr) (l0 : Nat) (c0 : Nat) (x1 : Int) (x2 : Int) (D : List Value) (H : AHeap) : f52.L1 k (n1 + 1) a0 l0 c0 x1 x2 D H =
  (bif (decide ((l0 : Int) ≤ x1)) then
   alK none H ⟨[.int .i64 0], 1, .rw, 0⟩ fun i H_1 =>
   cSl (apndV Try.prog [26, 26] H_1 (.slice a0 l0 c0) (.slice (some ⟨i, 0, none⟩) 1 1)) fun a l c H_2 =>
   f52.L1 k n1 a l c x1 x2 [(D.getD 0 undef), .slice a0 l0 c0, .int .i64 (l0 : Int), .int .i64 x1, .bool (decide ((l0 : Int) ≤ x1)), .slice a0 l0 c0, .slice (some ⟨i, 0, none⟩) 1 1, .slice a l c] H_2
   else
   a0.bind fun q =>
   if 0 ≤ x1 ∧ x1 < (l0 : Int) then
   (AHeap.wr H q.block (q.off + x1.toNat * 1) [.int .i64 x2]).bind fun H_3 =>
   some (.slice a0 l0 c0, H_3)
   else none) := by kernel_rfl
theorem f52_eq (k : Nat) (a0 : Option Addr) (l0 : Nat) (c0 : Nat) (x1 : Int) (x2 : Int) (H : AHeap) : C (k + 1) 52 [.slice a0 l0 c0, .int .i64 x1, .int .i64 x2] H =
  (f52.L1 k k a0 l0 c0 x1 x2 [.slice none 0 0, undef, undef, undef, undef, undef, undef, undef] H) := by kernel_rfl

/- f53 "interleave/interleaveref22.set"  names: 0:l 1:t 2:n 3:l 4:t 5:n -/
noncomputable def f53.Q0 (k : Nat)  : Kont (Value × AHeap) := retQ Try.prog Try.f53
noncomputable def f53.Q1 (k : Nat)  : Kont (Value × AHeap) := seqQ (gateC (Sub (bodyOf Try.f53) [1, 1, 0]) (Sub (bodyOf Try.f53) [1, 1, 1]) k (run Try.prog (C k) k (Sub (bodyOf Try.f53) [1, 1, 1]) (f53.Q0 k ))) (f53.Q0 k )
noncomputable def f53.Q2 (k : Nat)  : Kont (Value × AHeap) := blkQ 0 (f53.Q1 k )
noncomputable def f53.L1 (k : Nat) (n1 : Nat) (a0 : Option Addr) (l0 : Nat) (c0 : Nat) (x1 : Int) (x2 : Int) (D : List Value) (H : AHeap) : Option (Value × AHeap) :=
  iter (run Try.prog (C k) k (Sub (bodyOf Try.f53) [1, 1, 0, 0, 0])) (f53.Q2 k ) n1 [.slice a0 l0 c0, .int .i64 x1, .int .i64 x2, undef, undef, undef, (D.getD 0 undef), (D.getD 1 undef), (D.getD 2 undef), (D.getD 3 undef), (D.getD 4 undef), (D.getD 5 undef), (D.getD 6 undef), (D.getD 7 undef), (D.getD 8 undef), (D.getD 9 undef), undef, undef, undef, undef, undef] H
theorem f53.L1_z (k : Nat)  (a0 : Option Addr) (l0 : Nat) (c0 : Nat) (x1 : Int) (x2 : Int) (D : List Value) (H : AHeap) : f53.L1 k 0 a0 l0 c0 x1 x2 D H = none := by kernel_rfl
theorem f53.L1_s (k : Nat) (n1 : Nat) (a0 : Option Addr) (l0 : Nat) (c0 : Nat) (x1 : Int) (x2 : Int) (D : List Value) (H : AHeap) : f53.L1 k (n1 + 1) a0 l0 c0 x1 x2 D H =
  (bif (decide ((l0 : Int) ≤ x1)) then
   alK none H ⟨[.int .i64 0], 1, .rw, 0⟩ fun i H_1 =>
   cSl (apndV Try.prog [26, 26] H_1 (.slice a0 l0 c0) (.slice (some ⟨i, 0, none⟩) 1 1)) fun a l c H_2 =>
   f53.L1 k n1 a l c x1 x2 [(D.getD 0 undef), (D.getD 1 undef), (D.getD 2 undef), .slice a0 l0 c0, .int .i64 (l0 : Int), .int .i64 x1, .bool (decide ((l0 : Int) ≤ x1)), .slice a0 l0 c0, .slice (some ⟨i, 0, none⟩) 1 1, .slice a l c] H_2
   else
   a0.bind fun q =>
   if 0 ≤ x1 ∧ x1 < (l0 : Int) then
   (AHeap.wr H q.block (q.off + x1.toNat * 1) [.int .i64 x2]).bind fun H_3 =>
   some (.slice a0 l0 c0, H_3)
   else none) := by kernel_rfl
theorem f53_eq (k : Nat) (a0 : Option Addr) (l0 : Nat) (c0 : Nat) (x1 : Int) (x2 : Int) (H : AHeap) : C (k + 1) 53 [.slice a0 l0 c0, .int .i64 x1, .int .i64 x2] H =
  (cSl (C k 45 [.slice a0 l0 c0] H) fun a l c H_1 =>
   f53.L1 k k a l c x1 x2 [.slice none 0 0, .slice a0 l0 c0, .slice a l c, undef, undef, undef, undef, undef, undef, undef] H_1) := by kernel_rfl

/- f3 "interleave/interleavelaw24.EpochSequences"  names:  -/
noncomputable def f3.Q0 (k : Nat)  : Kont (Value × AHeap) := retQ Try.prog Try.f3
noncomputable def f3.Q1 (k : Nat)  : Kont (Value × AHeap) := seqQ (gateC (Sub (bodyOf Try.f3) [1, 1, 1, 0]) (Sub (bodyOf Try.f3) [1, 1, 1, 1]) k (run Try.prog (C k) k (Sub (bodyOf Try.f3) [1, 1, 1, 1]) (f3.Q0 k ))) (f3.Q0 k )
noncomputable def f3.Q2 (k : Nat)  : Kont (Value × AHeap) := blkQ 0 (f3.Q1 k )
noncomputable def f3.Q3 (k : Nat) (n1 : Nat) : Kont (Value × AHeap) := seqQ (iter (run Try.prog (C k) k (Sub (bodyOf Try.f3) [1, 1, 1, 0, 1, 0, 0])) (f3.Q2 k ) n1) (f3.Q2 k )
noncomputable def f3.Q4 (k : Nat) (n1 : Nat) : Kont (Value × AHeap) := seqQ (gateC (Sub (bodyOf Try.f3) [1, 1, 1, 0, 1, 0, 0, 1, 1, 0]) (Sub (bodyOf Try.f3) [1, 1, 1, 0, 1, 0, 0, 1, 1, 1]) k (run Try.prog (C k) k (Sub (bodyOf Try.f3) [1, 1, 1, 0, 1, 0, 0, 1, 1, 1]) (f3.Q3 k n1))) (f3.Q3 k n1)
noncomputable def f3.Q5 (k : Nat) (n1 : Nat) : Kont (Value × AHeap) := blkQ 1 (f3.Q4 k n1)
noncomputable def f3.L1 (k : Nat) (n1 : Nat) (a3 : Option Addr) (l3 : Nat) (c3 : Nat) (p4 : Nat) (p5 : Nat) (a14 : Option Addr) (l14 : Nat) (c14 : Nat) (x15 : Int) (x16 : Int) (D : List Value) (H : AHeap) : Option (Value × AHeap) :=
  iter (run Try.prog (C k) k (Sub (bodyOf Try.f3) [1, 1, 1, 0, 1, 0, 0])) (f3.Q2 k ) n1 [(D.getD 0 undef), undef, (D.getD 1 undef), .slice a3 l3 c3, .pointer (some ⟨p4, 0, none⟩), .pointer (some ⟨p5, 0, none⟩), (D.getD 2 undef), (D.getD 3 undef), (D.getD 4 undef), (D.getD 5 undef), (D.getD 6 undef), (D.getD 7 undef), (D.getD 8 undef), (D.getD 9 undef), .slice a14 l14 c14, .int .i64 x15, .int .i64 x16, (D.getD 10 undef), (D.getD 11 undef), (D.getD 12 undef), (D.getD 13 undef), (D.getD 14 undef), (D.getD 15 undef), (D.getD 16 undef), (D.getD 17 undef), (D.getD 18 undef), (D.getD 19 undef), (D.getD 20 undef), (D.getD 21 undef), (D.getD 22 undef), (D.getD 23 undef), (D.getD 24 undef), (D.getD 25 undef), (D.getD 26 undef), (D.getD 27 undef), (D.getD 28 undef), (D.getD 29 undef), (D.getD 30 undef), (D.getD 31 undef), (D.getD 32 undef), (D.getD 33 undef), (D.getD 34 undef), (D.getD 35 undef), (D.getD 36 undef), (D.getD 37 undef), (D.getD 38 undef), (D.getD 39 undef), (D.getD 40 undef), (D.getD 41 undef), (D.getD 42 undef), (D.getD 43 undef), (D.getD 44 undef), (D.getD 45 undef), (D.getD 46 undef), (D.getD 47 undef), (D.getD 48 undef), (D.getD 49 undef), (D.getD 50 undef), (D.getD 51 undef), (D.getD 52 undef), (D.getD 53 undef), (D.getD 54 undef), (D.getD 55 undef), (D.getD 56 undef), (D.getD 57 undef), (D.getD 58 undef), (D.getD 59 undef), (D.getD 60 undef), (D.getD 61 undef), (D.getD 62 undef), (D.getD 63 undef), (D.getD 64 undef), (D.getD 65 undef), (D.getD 66 undef), (D.getD 67 undef), (D.getD 68 undef), (D.getD 69 undef), (D.getD 70 undef), (D.getD 71 undef), (D.getD 72 undef), (D.getD 73 undef), (D.getD 74 undef), (D.getD 75 undef), (D.getD 76 undef), (D.getD 77 undef), (D.getD 78 undef), (D.getD 79 undef), (D.getD 80 undef), (D.getD 81 undef), (D.getD 82 undef), (D.getD 83 undef), (D.getD 84 undef), (D.getD 85 undef), (D.getD 86 undef), (D.getD 87 undef), (D.getD 88 undef), (D.getD 89 undef), (D.getD 90 undef), undef] H
noncomputable def f3.K1 (k : Nat) (n1 : Nat) (a3 : Option Addr) (l3 : Nat) (c3 : Nat) (p4 : Nat) (p5 : Nat) (b9 : Bool) (b10 : Bool) (a14 : Option Addr) (l14 : Nat) (c14 : Nat) (x15 : Int) (x16 : Int) (D : List Value) (H : AHeap) : Option (Value × AHeap) :=
  gateC (Sub (bodyOf Try.f3) [1, 1, 1, 0, 1, 0, 0, 1, 1, 0, 0, 1, 1, 1, 1, 1, 0]) (Sub (bodyOf Try.f3) [1, 1, 1, 0, 1, 0, 0, 1, 1, 0, 0, 1, 1, 1, 1, 1, 1]) k (run Try.prog (C k) k (Sub (bodyOf Try.f3) [1, 1, 1, 0, 1, 0, 0, 1, 1, 0, 0, 1, 1, 1, 1, 1, 1]) (f3.Q5 k n1)) [(D.getD 0 undef), undef, (D.getD 1 undef), .slice a3 l3 c3, .pointer (some ⟨p4, 0, none⟩), .pointer (some ⟨p5, 0, none⟩), (D.getD 2 undef), (D.getD 3 undef), (D.getD 4 undef), .bool b9, .bool b10, (D.getD 5 undef), (D.getD 6 undef), (D.getD 7 undef), .slice a14 l14 c14, .int .i64 x15, .int .i64 x16, (D.getD 8 undef), (D.getD 9 undef), (D.getD 10 undef), (D.getD 11 undef), (D.getD 12 undef), (D.getD 13 undef), (D.getD 14 undef), (D.getD 15 undef), (D.getD 16 undef), (D.getD 17 undef), (D.getD 18 undef), (D.getD 19 undef), (D.getD 20 undef), (D.getD 21 undef), (D.getD 22 undef), (D.getD 23 undef), (D.getD 24 undef), (D.getD 25 undef), (D.getD 26 undef), (D.getD 27 undef), (D.getD 28 undef), (D.getD 29 undef), (D.getD 30 undef), (D.getD 31 undef), (D.getD 32 undef), (D.getD 33 undef), (D.getD 34 undef), (D.getD 35 undef), (D.getD 36 undef), (D.getD 37 undef), (D.getD 38 undef), (D.getD 39 undef), (D.getD 40 undef), (D.getD 41 undef), (D.getD 42 undef), (D.getD 43 undef), (D.getD 44 undef), (D.getD 45 undef), (D.getD 46 undef), (D.getD 47 undef), (D.getD 48 undef), (D.getD 49 undef), (D.getD 50 undef), (D.getD 51 undef), (D.getD 52 undef), (D.getD 53 undef), (D.getD 54 undef), (D.getD 55 undef), (D.getD 56 undef), (D.getD 57 undef), (D.getD 58 undef), (D.getD 59 undef), (D.getD 60 undef), (D.getD 61 undef), (D.getD 62 undef), (D.getD 63 undef), (D.getD 64 undef), (D.getD 65 undef), (D.getD 66 undef), (D.getD 67 undef), (D.getD 68 undef), (D.getD 69 undef), (D.getD 70 undef), (D.getD 71 undef), (D.getD 72 undef), (D.getD 73 undef), (D.getD 74 undef), (D.getD 75 undef), (D.getD 76 undef), (D.getD 77 undef), (D.getD 78 undef), (D.getD 79 undef), (D.getD 80 undef), (D.getD 81 undef), (D.getD 82 undef), (D.getD 83 undef), (D.getD 84 undef), (D.getD 85 undef), (D.getD 86 undef), (D.getD 87 undef), (D.getD 88 undef), undef] H
theorem f3.L1_z (k : Nat)  (a3 : Option Addr) (l3 : Nat) (c3 : Nat) (p4 : Nat) (p5 : Nat) (a14 : Option Addr) (l14 : Nat) (c14 : Nat) (x15 : Int) (x16 : Int) (D : List Value) (H : AHeap) : f3.L1 k 0 a3 l3 c3 p4 p5 a14 l14 c14 x15 x16 D H = none := by kernel_rfl
theorem f3.L1_s (k : Nat) (n1 : Nat) (a3 : Option Addr) (l3 : Nat) (c3 : Nat) (p4 : Nat) (p5 : Nat) (a14 : Option Addr) (l14 : Nat) (c14 : Nat) (x15 : Int) (x16 : Int) (D : List Value) (H : AHeap) : f3.L1 k (n1 + 1) a3 l3 c3 p4 p5 a14 l14 c14 x15 x16 D H =
  (bif (decide (x16 < x15)) then
   a14.bind fun q =>
   if 0 ≤ x16 ∧ x16 < (l14 : Int) then
   (AHeap.row H q.block (q.off + x16.toNat * 3) 3).bind fun g =>
   alK none H ⟨[.int .u8 0, .int .u8 0, .int .u8 0], 0, .rw, 0⟩ fun i H_1 =>
   if notTup (.agg (g : List Value).toArray) = true ∧ (g).length = 3 then
   (AHeap.wr H_1 i (0) g).bind fun H_2 =>
   bif (decide (x16 ≥ (60 : Int))) then
   cB (C k 22 [] H_2) fun b H_3 =>
   some (.bool b, H_3)
   else
   if 0 ≤ (0 : Int) ∧ (0 : Int) < ((3 : Nat) : Int) then
   (ldI .u8 H_2 i (0 + (0 : Int).toNat * 1)).bind fun x =>
   a3.bind fun q_1 =>
   if 0 ≤ ((IntKind.i64.wrap x).tmod (4 : Int)) ∧ ((IntKind.i64.wrap x).tmod (4 : Int)) < (l3 : Int) then
   bif sameB H_2 (H_2.bump 18) q_1.block then
   bSl (ldSl (H_2.bump 18) q_1.block (q_1.off + ((IntKind.i64.wrap x).tmod (4 : Int)).toNat * 1)) fun a l c =>
   if 0 ≤ (1 : Int) ∧ (1 : Int) < ((3 : Nat) : Int) then
   bif sameB H_2 (H_2.bump 18) i then
   (ldI .u8 (H_2.bump 18) i (0 + (1 : Int).toNat * 1)).bind fun x_1 =>
   a3.bind fun q_2 =>
   if 0 ≤ ((IntKind.i64.wrap x_1).tmod (4 : Int)) ∧ ((IntKind.i64.wrap x_1).tmod (4 : Int)) < (l3 : Int) then
   bif sameB H_2 (H_2.bump 18) q_2.block then
   bSl (ldSl (H_2.bump 18) q_2.block (q_2.off + ((IntKind.i64.wrap x_1).tmod (4 : Int)).toNat * 1)) fun a_1 l_1 c_1 =>
   cSl (C k 16 [.slice a l c, .slice a_1 l_1 c_1] (H_2.bump 18)) fun a_2 l_2 c_2 H_4 =>
   cSl (C k 15 [.slice a_2 l_2 c_2, .int .i64 ((IntKind.i64.wrap x).tmod (4 : Int))] H_4) fun a_3 l_3 c_3 H_5 =>
   a3.bind fun q_3 =>
   if 0 ≤ ((IntKind.i64.wrap x).tmod (4 : Int)) ∧ ((IntKind.i64.wrap x).tmod (4 : Int)) < (l3 : Int) then
   (AHeap.wr H_5 q_3.block (q_3.off + ((IntKind.i64.wrap x).tmod (4 : Int)).toNat * 1) [.slice a_3 l_3 c_3]).bind fun H_6 =>
   if 0 ≤ (2 : Int) ∧ (2 : Int) < ((3 : Nat) : Int) then
   (ldI .u8 H_6 i (0 + (2 : Int).toNat * 1)).bind fun x_2 =>
   bif ((x_2.tmod (3 : Int)) == (0 : Int)) then
   bif sameB H_6 (H_6.bump 12) p4 then
   (AHeap.row (H_6.bump 12) p4 (0) 5).bind fun g_1 =>
   a3.bind fun q_4 =>
   if 0 ≤ ((IntKind.i64.wrap x).tmod (4 : Int)) ∧ ((IntKind.i64.wrap x).tmod (4 : Int)) < (l3 : Int) then
   bif sameB H_6 (H_6.bump 12) q_4.block then
   bSl (ldSl (H_6.bump 12) q_4.block (q_4.off + ((IntKind.i64.wrap x).tmod (4 : Int)).toNat * 1)) fun a_4 l_4 c_4 =>
   cT (C k 17 [.agg (g_1 : List Value).toArray, .slice a_4 l_4 c_4, .int .i64 ((IntKind.i64.wrap x).tmod (4 : Int))] (H_6.bump 12)) fun u H_7 =>
   exG (u.toList[0]?) fun g_2 =>
   if notTup (.agg g_2) = true ∧ (g_2.toList).length = 5 then
   (AHeap.wr H_7 p4 (0) g_2.toList).bind fun H_8 =>
   exB (u.toList[1]?) fun b_1 =>
   bif sameB H_8 (H_8.bump 12) p5 then
   (AHeap.row (H_8.bump 12) p5 (0) 5).bind fun g_3 =>
   a3.bind fun q_5 =>
   if 0 ≤ ((IntKind.i64.wrap x).tmod (4 : Int)) ∧ ((IntKind.i64.wrap x).tmod (4 : Int)) < (l3 : Int) then
   bif sameB H_8 (H_8.bump 12) q_5.block then
   bSl (ldSl (H_8.bump 12) q_5.block (q_5.off + ((IntKind.i64.wrap x).tmod (4 : Int)).toNat * 1)) fun a_5 l_5 c_5 =>
   cT (C k 18 [.agg (g_3 : List Value).toArray, .slice a_5 l_5 c_5, .int .i64 ((IntKind.i64.wrap x).tmod (4 : Int))] (H_8.bump 12)) fun u_1 H_9 =>
   exG (u_1.toList[0]?) fun g_4 =>
   if notTup (.agg g_4) = true ∧ (g_4.toList).length = 5 then
   (AHeap.wr H_9 p5 (0) g_4.toList).bind fun H_10 =>
   exB (u_1.toList[1]?) fun b_2 =>
   f3.K1 k n1 a3 l3 c3 p4 p5 b_1 b_2 a14 l14 c14 x15 x16 [(D.getD 0 undef), (D.getD 1 undef), .int .i64 x16, .pointer (some ⟨i, 0, none⟩), .int .i64 ((IntKind.i64.wrap x).tmod (4 : Int)), (D.getD 7 undef), (D.getD 8 undef), (D.getD 9 undef), .bool (decide (x16 < x15)), .int .i64 x16, .pointer (some ⟨q.block, q.off + x16.toNat * 3, none⟩), .agg (g : List Value).toArray, .int .i64 x16, .bool (decide (x16 ≥ (60 : Int))), .pointer (some ⟨i, 0 + (0 : Int).toNat * 1, none⟩), .int .u8 x, .int .i64 (IntKind.i64.wrap x), .int .i64 ((IntKind.i64.wrap x).tmod (4 : Int)), .slice a3 l3 c3, .int .i64 ((IntKind.i64.wrap x).tmod (4 : Int)), .slice a3 l3 c3, .int .i64 ((IntKind.i64.wrap x).tmod (4 : Int)), .pointer (some ⟨q_1.block, q_1.off + ((IntKind.i64.wrap x).tmod (4 : Int)).toNat * 1, none⟩), .slice a l c, .slice a3 l3 c3, .pointer (some ⟨i, 0 + (1 : Int).toNat * 1, none⟩), .int .u8 x_1, .int .i64 (IntKind.i64.wrap x_1), .int .i64 ((IntKind.i64.wrap x_1).tmod (4 : Int)), .pointer (some ⟨q_2.block, q_2.off + ((IntKind.i64.wrap x_1).tmod (4 : Int)).toNat * 1, none⟩), .slice a_1 l_1 c_1, .slice a_2 l_2 c_2, .int .i64 ((IntKind.i64.wrap x).tmod (4 : Int)), .slice a_3 l_3 c_3, .pointer (some ⟨q_3.block, q_3.off + ((IntKind.i64.wrap x).tmod (4 : Int)).toNat * 1, none⟩), .pointer (some ⟨i, 0 + (2 : Int).toNat * 1, none⟩), .int .u8 x_2, .int .u8 (x_2.tmod (3 : Int)), .bool ((x_2.tmod (3 : Int)) == (0 : Int)), .tuple u, .agg (g_1 : List Value).toArray, .slice a3 l3 c3, .int .i64 ((IntKind.i64.wrap x).tmod (4 : Int)), .pointer (some ⟨q_4.block, q_4.off + ((IntKind.i64.wrap x).tmod (4 : Int)).toNat * 1, none⟩), .slice a_4 l_4 c_4, .int .i64 ((IntKind.i64.wrap x).tmod (4 : Int)), .tuple u, .agg g_2, .bool b_1, .tuple u_1, .agg (g_3 : List Value).toArray, .slice a3 l3 c3, .int .i64 ((IntKind.i64.wrap x).tmod (4 : Int)), .pointer (some ⟨q_5.block, q_5.off + ((IntKind.i64.wrap x).tmod (4 : Int)).toNat * 1, none⟩), .slice a_5 l_5 c_5, .int .i64 ((IntKind.i64.wrap x).tmod (4 : Int)), .tuple u_1, .agg g_4, .bool b_2, (D.getD 61 undef), (D.getD 62 undef), (D.getD 63 undef), (D.getD 64 undef), (D.getD 65 undef), (D.getD 66 undef), (D.getD 67 undef), (D.getD 68 undef), (D.getD 69 undef), (D.getD 70 undef), (D.getD 71 undef), (D.getD 72 undef), (D.getD 73 undef), (D.getD 74 undef), (D.getD 75 undef), (D.getD 76 undef), (D.getD 77 undef), (D.getD 78 undef), (D.getD 79 undef), (D.getD 80 undef), (D.getD 81 undef), (D.getD 82 undef), (D.getD 83 undef), (D.getD 84 undef), (D.getD 85 undef), (D.getD 86 undef), (D.getD 87 undef), (D.getD 88 undef), (D.getD 89 undef), (D.getD 90 undef)] H_10
   else none
   else none
   else none
   else none
   else none
   else none
   else none
   else none
   else
   bif sameB H_6 (H_6.bump 12) p4 then
   (AHeap.row (H_6.bump 12) p4 (0) 5).bind fun g_5 =>
   a3.bind fun q_6 =>
   if 0 ≤ ((IntKind.i64.wrap x).tmod (4 : Int)) ∧ ((IntKind.i64.wrap x).tmod (4 : Int)) < (l3 : Int) then
   bif sameB H_6 (H_6.bump 12) q_6.block then
   bSl (ldSl (H_6.bump 12) q_6.block (q_6.off + ((IntKind.i64.wrap x).tmod (4 : Int)).toNat * 1)) fun a_6 l_6 c_6 =>
   cT (C k 19 [.agg (g_5 : List Value).toArray, .slice a_6 l_6 c_6, .int .i64 ((IntKind.i64.wrap x).tmod (4 : Int))] (H_6.bump 12)) fun u_2 H_11 =>
   exG (u_2.toList[0]?) fun g_6 =>
   if notTup (.agg g_6) = true ∧ (g_6.toList).length = 5 then
   (AHeap.wr H_11 p4 (0) g_6.toList).bind fun H_12 =>
   exB (u_2.toList[1]?) fun b_3 =>
   bif sameB H_12 (H_12.bump 12) p5 then
   (AHeap.row (H_12.bump 12) p5 (0) 5).bind fun g_7 =>
   a3.bind fun q_7 =>
   if 0 ≤ ((IntKind.i64.wrap x).tmod (4 : Int)) ∧ ((IntKind.i64.wrap x).tmod (4 : Int)) < (l3 : Int) then
   bif sameB H_12 (H_12.bump 12) q_7.block then
   bSl (ldSl (H_12.bump 12) q_7.block (q_7.off + ((IntKind.i64.wrap x).tmod (4 : Int)).toNat * 1)) fun a_7 l_7 c_7 =>
   cT (C k 20 [.agg (g_7 : List Value).toArray, .slice a_7 l_7 c_7, .int .i64 ((IntKind.i64.wrap x).tmod (4 : Int))] (H_12.bump 12)) fun u_3 H_13 =>
   exG (u_3.toList[0]?) fun g_8 =>
   if notTup (.agg g_8) = true ∧ (g_8.toList).length = 5 then
   (AHeap.wr H_13 p5 (0) g_8.toList).bind fun H_14 =>
   exB (u_3.toList[1]?) fun b_4 =>
   f3.K1 k n1 a3 l3 c3 p4 p5 b_3 b_4 a14 l14 c14 x15 x16 [(D.getD 0 undef), (D.getD 1 undef), .int .i64 x16, .pointer (some ⟨i, 0, none⟩), .int .i64 ((IntKind.i64.wrap x).tmod (4 : Int)), (D.getD 7 undef), (D.getD 8 undef), (D.getD 9 undef), .bool (decide (x16 < x15)), .int .i64 x16, .pointer (some ⟨q.block, q.off + x16.toNat * 3, none⟩), .agg (g : List Value).toArray, .int .i64 x16, .bool (decide (x16 ≥ (60 : Int))), .pointer (some ⟨i, 0 + (0 : Int).toNat * 1, none⟩), .int .u8 x, .int .i64 (IntKind.i64.wrap x), .int .i64 ((IntKind.i64.wrap x).tmod (4 : Int)), .slice a3 l3 c3, .int .i64 ((IntKind.i64.wrap x).tmod (4 : Int)), .slice a3 l3 c3, .int .i64 ((IntKind.i64.wrap x).tmod (4 : Int)), .pointer (some ⟨q_1.block, q_1.off + ((IntKind.i64.wrap x).tmod (4 : Int)).toNat * 1, none⟩), .slice a l c, .slice a3 l3 c3, .pointer (some ⟨i, 0 + (1 : Int).toNat * 1, none⟩), .int .u8 x_1, .int .i64 (IntKind.i64.wrap x_1), .int .i64 ((IntKind.i64.wrap x_1).tmod (4 : Int)), .pointer (some ⟨q_2.block, q_2.off + ((IntKind.i64.wrap x_1).tmod (4 : Int)).toNat * 1, none⟩), .slice a_1 l_1 c_1, .slice a_2 l_2 c_2, .int .i64 ((IntKind.i64.wrap x).tmod (4 : Int)), .slice a_3 l_3 c_3, .pointer (some ⟨q_3.block, q_3.off + ((IntKind.i64.wrap x).tmod (4 : Int)).toNat * 1, none⟩), .pointer (some ⟨i, 0 + (2 : Int).toNat * 1, none⟩), .int .u8 x_2, .int .u8 (x_2.tmod (3 : Int)), .bool ((x_2.tmod (3 : Int)) == (0 : Int)), (D.getD 41 undef), (D.getD 42 undef), (D.getD 43 undef), (D.getD 44 undef), (D.getD 45 undef), (D.getD 46 undef), (D.getD 47 undef), (D.getD 48 undef), (D.getD 49 undef), (D.getD 50 undef), (D.getD 51 undef), (D.getD 52 undef), (D.getD 53 undef), (D.getD 54 undef), (D.getD 55 undef), (D.getD 56 undef), (D.getD 57 undef), (D.getD 58 undef), (D.getD 59 undef), (D.getD 60 undef), .tuple u_2, .agg (g_5 : List Value).toArray, .slice a3 l3 c3, .int .i64 ((IntKind.i64.wrap x).tmod (4 : Int)), .pointer (some ⟨q_6.block, q_6.off + ((IntKind.i64.wrap x).tmod (4 : Int)).toNat * 1, none⟩), .slice a_6 l_6 c_6, .int .i64 ((IntKind.i64.wrap x).tmod (4 : Int)), .tuple u_2, .agg g_6, .bool b_3, .tuple u_3, .agg (g_7 : List Value).toArray, .slice a3 l3 c3, .int .i64 ((IntKind.i64.wrap x).tmod (4 : Int)), .pointer (some ⟨q_7.block, q_7.off + ((IntKind.i64.wrap x).tmod (4 : Int)).toNat * 1, none⟩), .slice a_7 l_7 c_7, .int .i64 ((IntKind.i64.wrap x).tmod (4 : Int)), .tuple u_3, .agg g_8, .bool b_4, (D.getD 81 undef), (D.getD 82 undef), (D.getD 83 undef), (D.getD 84 undef), (D.getD 85 undef), (D.getD 86 undef), (D.getD 87 undef), (D.getD 88 undef), (D.getD 89 undef), (D.getD 90 undef)] H_14
   else none
   else none
   else none
   else none
   else none
   else none
   else none
   else none
   else none
   else none
   else none
   else none
   else none
   else none
   else none
   else none
   else none
   else none
   else none
   else
   cB (C k 22 [] H) fun b_5 H_15 =>
   some (.bool b_5, H_15)) := by kernel_rfl
theorem f3.K1_eq (k : Nat) (n1 : Nat) (a3 : Option Addr) (l3 : Nat) (c3 : Nat) (p4 : Nat) (p5 : Nat) (b9 : Bool) (b10 : Bool) (a14 : Option Addr) (l14 : Nat) (c14 : Nat) (x15 : Int) (x16 : Int) (D : List Value) (H : AHeap) : f3.K1 k n1 a3 l3 c3 p4 p5 b9 b10 a14 l14 c14 x15 x16 D H =
  (bif (!(b9 == b10)) then
   some (.bool false, H)
   else
   (AHeap.row H p4 (0) 5).bind fun g =>
   (AHeap.row H p5 (0) 5).bind fun g_1 =>
   cB (C k 21 [.agg (g : List Value).toArray, .agg (g_1 : List Value).toArray] H) fun b H_1 =>
   bif (!b) then
   some (.bool false, H_1)
   else
   f3.L1 k n1 a3 l3 c3 p4 p5 a14 l14 c14 x15 (IntKind.i64.wrap (x16 + (1 : Int))) [(D.getD 0 undef), (D.getD 1 undef), (D.getD 2 undef), (D.getD 3 undef), (D.getD 4 undef), .bool b9, .bool b10, (D.getD 5 undef), (D.getD 6 undef), (D.getD 7 undef), (D.getD 8 undef), (D.getD 9 undef), (D.getD 10 undef), (D.getD 11 undef), (D.getD 12 undef), (D.getD 13 undef), (D.getD 14 undef), (D.getD 15 undef), (D.getD 16 undef), (D.getD 17 undef), (D.getD 18 undef), (D.getD 19 undef), (D.getD 20 undef), (D.getD 21 undef), (D.getD 22 undef), (D.getD 23 undef), (D.getD 24 undef), (D.getD 25 undef), (D.getD 26 undef), (D.getD 27 undef), (D.getD 28 undef), (D.getD 29 undef), (D.getD 30 undef), (D.getD 31 undef), (D.getD 32 undef), (D.getD 33 undef), (D.getD 34 undef), (D.getD 35 undef), (D.getD 36 undef), (D.getD 37 undef), (D.getD 38 undef), (D.getD 39 undef), (D.getD 40 undef), (D.getD 41 undef), (D.getD 42 undef), (D.getD 43 undef), (D.getD 44 undef), (D.getD 45 undef), (D.getD 46 undef), (D.getD 47 undef), (D.getD 48 undef), (D.getD 49 undef), (D.getD 50 undef), (D.getD 51 undef), (D.getD 52 undef), (D.getD 53 undef), (D.getD 54 undef), (D.getD 55 undef), (D.getD 56 undef), (D.getD 57 undef), (D.getD 58 undef), (D.getD 59 undef), (D.getD 60 undef), (D.getD 61 undef), (D.getD 62 undef), (D.getD 63 undef), (D.getD 64 undef), (D.getD 65 undef), (D.getD 66 undef), (D.getD 67 undef), (D.getD 68 undef), (D.getD 69 undef), (D.getD 70 undef), (D.getD 71 undef), (D.getD 72 undef), (D.getD 73 undef), (D.getD 74 undef), (D.getD 75 undef), (D.getD 76 undef), (D.getD 77 undef), (D.getD 78 undef), .bool b9, .bool b10, .bool (!(b9 == b10)), .bool false, .agg (g : List Value).toArray, .agg (g_1 : List Value).toArray, .bool b, .bool (!b), .bool (!b), .int .i64 (IntKind.i64.wrap (x16 + (1 : Int)))] H_1) := by
  unfold f3.K1
  rw [gateC_eq]
  kernel_rfl
theorem f3_eq (k : Nat) (a0 : Option Addr) (l0 : Nat) (c0 : Nat) (H : AHeap) : C (k + 1) 3 [.slice a0 l0 c0] H =
  (if (4 : Int) = (4 : Int) then 
    if 0 ≤ (4 : Int) ∧ (4 : Int) * ((24 : Nat) : Int) ≤ 70368744177664 ∧ (4 : Int) ≤ 70368744177664 then
   alK none H ⟨rep [.slice none 0 0] (4 : Int).toNat, 1, .rw, 0⟩ fun i H_1 =>
   alK none H_1 ⟨[.int .i64 0, .int .i64 0, .int .i64 0, .int .i64 0, .slice none 0 0], 0, .rw, 0⟩ fun i_1 H_2 =>
   alK none H_2 ⟨[.int .i64 0, .int .i64 0, .int .i64 0, .int .i64 0, .slice none 0 0], 0, .rw, 0⟩ fun i_2 H_3 =>
   (AHeap.wr H_3 i_1 (0) [.int .i64 0, .int .i64 0, .int .i64 0, .int .i64 0, .slice none 0 0]).bind fun H_4 =>
   (AHeap.wr H_4 i_2 (0) [.int .i64 0, .int .i64 0, .int .i64 0, .int .i64 0, .slice none 0 0]).bind fun H_5 =>
   f3.L1 k k (some ⟨i, 0, none⟩) ((4 : Int).toNat) ((4 : Int).toNat) i_1 i_2 a0 l0 c0 (l0 : Int) 0 [.slice a0 l0 c0, .bool false, undef, undef, undef, undef, undef, .slice (some ⟨i, 0, none⟩) ((4 : Int).toNat) ((4 : Int).toNat), .agg #[.int .i64 0, .int .i64 0, .int .i64 0, .int .i64 0, .slice none 0 0], .agg #[.int .i64 0, .int .i64 0, .int .i64 0, .int .i64 0, .slice none 0 0], undef, undef, undef, undef, undef, undef, undef, undef, undef, undef, undef, undef, undef, undef, undef, undef, undef, undef, undef, undef, undef, undef, undef, undef, undef, undef, undef, undef, undef, undef, undef, undef, undef, undef, undef, undef, undef, undef, undef, undef, undef, undef, undef, undef, undef, undef, undef, undef, undef, undef, undef, undef, undef, undef, undef, undef, undef, undef, undef, undef, undef, undef, undef, undef, undef, undef, undef, undef, undef, undef, undef, undef, undef, undef, undef, undef, undef, undef, undef, undef, undef] H_5
    else none
   else none) := by kernel_rfl

/- f4 "interleave/interleavelaw24.EpochCompact"  names:  -/
noncomputable def f4.Q0 (k : Nat)  : Kont (Value × AHeap) := retQ Try.prog Try.f4
noncomputable def f4.Q1 (k : Nat)  : Kont (Value × AHeap) := seqQ (gateC (Sub (bodyOf Try.f4) [1, 1, 1, 1, 0]) (Sub (bodyOf Try.f4) [1, 1, 1, 1, 1]) k (run Try.prog (C k) k (Sub (bodyOf Try.f4) [1, 1, 1, 1, 1]) (f4.Q0 k ))) (f4.Q0 k )
noncomputable def f4.Q2 (k : Nat)  : Kont (Value × AHeap) := blkQ 0 (f4.Q1 k )
noncomputable def f4.Q3 (k : Nat) (n1 : Nat) : Kont (Value × AHeap) := seqQ (iter (run Try.prog (C k) k (Sub (bodyOf Try.f4) [1, 1, 1, 1, 0, 1, 0, 0])) (f4.Q2 k ) n1) (f4.Q2 k )
noncomputable def f4.Q4 (k : Nat) (n1 : Nat) : Kont (Value × AHeap) := seqQ (gateC (Sub (bodyOf Try.f4) [1, 1, 1, 1, 0, 1, 0, 0, 1, 1, 0]) (Sub (bodyOf Try.f4) [1, 1, 1, 1, 0, 1, 0, 0, 1, 1, 1]) k (run Try.prog (C k) k (Sub (bodyOf Try.f4) [1, 1, 1, 1, 0, 1, 0, 0, 1, 1, 1]) (f4.Q3 k n1))) (f4.Q3 k n1)
noncomputable def f4.Q5 (k : Nat) (n1 : Nat) : Kont (Value × AHeap) := blkQ 1 (f4.Q4 k n1)
noncomputable def f4.L1 (k : Nat) (n1 : Nat) (x1 : Int) (p5 : Nat) (x7 : Int) (a17 : Option Addr) (l17 : Nat) (c17 : Nat) (x18 : Int) (x19 : Int) (D : List Value) (H : AHeap) : Option (Value × AHeap) :=
  iter (run Try.prog (C k) k (Sub (bodyOf Try.f4) [1, 1, 1, 1, 0, 1, 0, 0])) (f4.Q2 k ) n1 [(D.getD 0 undef), .int .i64 x1, undef, undef, (D.getD 1 undef), .pointer (some ⟨p5, 0, none⟩), (D.getD 2 undef), .int .i64 x7, (D.getD 3 undef), (D.getD 4 undef), (D.getD 5 undef), (D.getD 6 undef), (D.getD 7 undef), (D.getD 8 undef), (D.getD 9 undef), (D.getD 10 undef), (D.getD 11 undef), .slice a17 l17 c17, .int .i64 x18, .int .i64 x19, (D.getD 12 undef), (D.getD 13 undef), (D.getD 14 undef), (D.getD 15 undef), (D.getD 16 undef), (D.getD 17 undef), (D.getD 18 undef), (D.getD 19 undef), (D.getD 20 undef), (D.getD 21 undef), (D.getD 22 undef), (D.getD 23 undef), (D.getD 24 undef), (D.getD 25 undef), (D.getD 26 undef), (D.getD 27 undef), (D.getD 28 undef), (D.getD 29 undef), (D.getD 30 undef), (D.getD 31 undef), (D.getD 32 undef), (D.getD 33 undef), (D.getD 34 undef), (D.getD 35 undef), (D.getD 36 undef), (D.getD 37 undef), (D.getD 38 undef), (D.getD 39 undef), (D.getD 40 undef), (D.getD 41 undef), (D.getD 42 undef), (D.getD 43 undef), (D.getD 44 undef), (D.getD 45 undef), (D.getD 46 undef), (D.getD 47 undef), (D.getD 48 undef), (D.getD 49 undef), (D.getD 50 undef), (D.getD 51 undef), (D.getD 52 undef), (D.getD 53 undef), (D.getD 54 undef), (D.getD 55 undef), (D.getD 56 undef), (D.getD 57 undef), (D.getD 58 undef), (D.getD 59 undef), (D.getD 60 undef), (D.getD 61 undef), (D.getD 62 undef), (D.getD 63 undef), (D.getD 64 undef), (D.getD 65 undef), (D.getD 66 undef), undef] H
noncomputable def f4.K1 (k : Nat) (n1 : Nat) (x1 : Int) (p5 : Nat) (x6 : Int) (x7 : Int) (b11 : Bool) (a17 : Option Addr) (l17 : Nat) (c17 : Nat) (x18 : Int) (x19 : Int) (D : List Value) (H : AHeap) : Option (Value × AHeap) :=
  gateC (Sub (bodyOf Try.f4) [1, 1, 1, 1, 0, 1, 0, 0, 1, 1, 0, 0, 1, 1, 1, 1, 1, 0]) (Sub (bodyOf Try.f4) [1, 1, 1, 1, 0, 1, 0, 0, 1, 1, 0, 0, 1, 1, 1, 1, 1, 1]) k (run Try.prog (C k) k (Sub (bodyOf Try.f4) [1, 1, 1, 1, 0, 1, 0, 0, 1, 1, 0, 0, 1, 1, 1, 1, 1, 1]) (f4.Q5 k n1)) [(D.getD 0 undef), .int .i64 x1, undef, undef, (D.getD 1 undef), .pointer (some ⟨p5, 0, none⟩), .int .i64 x6, .int .i64 x7, (D.getD 2 undef), (D.getD 3 undef), (D.getD 4 undef), .bool b11, (D.getD 5 undef), (D.getD 6 undef), (D.getD 7 undef), (D.getD 8 undef), (D.getD 9 undef), .slice a17 l17 c17, .int .i64 x18, .int .i64 x19, (D.getD 10 undef), (D.getD 11 undef), (D.getD 12 undef), (D.getD 13 undef), (D.getD 14 undef), (D.getD 15 undef), (D.getD 16 undef), (D.getD 17 undef), (D.getD 18 undef), (D.getD 19 undef), (D.getD 20 undef), (D.getD 21 undef), (D.getD 22 undef), (D.getD 23 undef), (D.getD 24 undef), (D.getD 25 undef), (D.getD 26 undef), (D.getD 27 undef), (D.getD 28 undef), (D.getD 29 undef), (D.getD 30 undef), (D.getD 31 undef), (D.getD 32 undef), (D.getD 33 undef), (D.getD 34 undef), (D.getD 35 undef), (D.getD 36 undef), (D.getD 37 undef), (D.getD 38 undef), (D.getD 39 undef), (D.getD 40 undef), (D.getD 41 undef), (D.getD 42 undef), (D.getD 43 undef), (D.getD 44 undef), (D.getD 45 undef), (D.getD 46 undef), (D.getD 47 undef), (D.getD 48 undef), (D.getD 49 undef), (D.getD 50 undef), (D.getD 51 undef), (D.getD 52 undef), (D.getD 53 undef), (D.getD 54 undef), (D.getD 55 undef), (D.getD 56 undef), (D.getD 57 undef), (D.getD 58 undef), (D.getD 59 undef), (D.getD 60 undef), (D.getD 61 undef), (D.getD 62 undef), (D.getD 63 undef), (D.getD 64 undef), undef] H
theorem f4.L1_z (k : Nat)  (x1 : Int) (p5 : Nat) (x7 : Int) (a17 : Option Addr) (l17 : Nat) (c17 : Nat) (x18 : Int) (x19 : Int) (D : List Value) (H : AHeap) : f4.L1 k 0 x1 p5 x7 a17 l17 c17 x18 x19 D H = none := by kernel_rfl
theorem f4.L1_s (k : Nat) (n1 : Nat) (x1 : Int) (p5 : Nat) (x7 : Int) (a17 : Option Addr) (l17 : Nat) (c17 : Nat) (x18 : Int) (x19 : Int) (D : List Value) (H : AHeap) : f4.L1 k (n1 + 1) x1 p5 x7 a17 l17 c17 x18 x19 D H =
  (bif (decide (x19 < x18)) then
   a17.bind fun q =>
   if 0 ≤ x19 ∧ x19 < (l17 : Int) then
   (ldB H q.block (q.off + x19.toNat * 1)).bind fun b =>
   bif (decide (x19 ≥ (60 : Int))) then
   cB (C k 22 [] H) fun b_1 H_1 =>
   some (.bool b_1, H_1)
   else
   if (IntKind.i64.wrap (x1 + (1 : Int))) = (IntKind.i64.wrap (x1 + (1 : Int))) then 
    if 0 ≤ (IntKind.i64.wrap (x1 + (1 : Int))) ∧ (IntKind.i64.wrap (x1 + (1 : Int))) * ((8 : Nat) : Int) ≤ 70368744177664 ∧ (IntKind.i64.wrap (x1 + (1 : Int))) ≤ 70368744177664 then
   alK none H ⟨rep [.int .i64 0] (IntKind.i64.wrap (x1 + (1 : Int))).toNat, 1, .rw, 0⟩ fun i H_2 =>
   if 0 ≤ x1 ∧ x1 < (((IntKind.i64.wrap (x1 + (1 : Int))).toNat) : Int) then
   (AHeap.wr H_2 i (0 + x1.toNat * 1) [.int .i64 (IntKind.i64.wrap (x19 + (1 : Int)))]).bind fun H_3 =>
   bif b then
   (AHeap.row H_3 p5 (0) 5).bind fun g =>
   cT (C k 17 [.agg (g : List Value).toArray, .slice (some ⟨i, 0, none⟩) ((IntKind.i64.wrap (x1 + (1 : Int))).toNat) ((IntKind.i64.wrap (x1 + (1 : Int))).toNat), .int .i64 x1] H_3) fun u H_4 =>
   exG (u.toList[0]?) fun g_1 =>
   exB (u.toList[1]?) fun b_2 =>
   if notTup (.agg g_1) = true ∧ (g_1.toList).length = 5 then
   (AHeap.wr H_4 p5 (0) g_1.toList).bind fun H_5 =>
   f4.K1 k n1 x1 p5 0 (IntKind.i64.wrap (x19 + (1 : Int))) b_2 a17 l17 c17 x18 x19 [(D.getD 0 undef), (D.getD 1 undef), .int .i64 x19, .bool b, .slice (some ⟨i, 0, none⟩) ((IntKind.i64.wrap (x1 + (1 : Int))).toNat) ((IntKind.i64.wrap (x1 + (1 : Int))).toNat), (D.getD 7 undef), (D.getD 8 undef), (D.getD 9 undef), (D.getD 10 undef), (D.getD 11 undef), .bool (decide (x19 < x18)), .int .i64 x19, .pointer (some ⟨q.block, q.off + x19.toNat * 1, none⟩), .bool b, .int .i64 x19, .bool (decide (x19 ≥ (60 : Int))), .int .i64 x1, .int .i64 (IntKind.i64.wrap (x1 + (1 : Int))), .slice (some ⟨i, 0, none⟩) ((IntKind.i64.wrap (x1 + (1 : Int))).toNat) ((IntKind.i64.wrap (x1 + (1 : Int))).toNat), .slice (some ⟨i, 0, none⟩) ((IntKind.i64.wrap (x1 + (1 : Int))).toNat) ((IntKind.i64.wrap (x1 + (1 : Int))).toNat), .int .i64 x1, .int .i64 x19, .int .i64 (IntKind.i64.wrap (x19 + (1 : Int))), .pointer (some ⟨i, 0 + x1.toNat * 1, none⟩), .bool b, .tuple u, .agg (g : List Value).toArray, .slice (some ⟨i, 0, none⟩) ((IntKind.i64.wrap (x1 + (1 : Int))).toNat) ((IntKind.i64.wrap (x1 + (1 : Int))).toNat), .int .i64 x1, .tuple u, .agg g_1, .bool b_2, .int .i64 x19, .int .i64 (IntKind.i64.wrap (x19 + (1 : Int))), (D.getD 36 undef), (D.getD 37 undef), (D.getD 38 undef), (D.getD 39 undef), (D.getD 40 undef), (D.getD 41 undef), (D.getD 42 undef), (D.getD 43 undef), (D.getD 44 undef), (D.getD 45 undef), (D.getD 46 undef), (D.getD 47 undef), (D.getD 48 undef), (D.getD 49 undef), (D.getD 50 undef), (D.getD 51 undef), (D.getD 52 undef), (D.getD 53 undef), (D.getD 54 undef), (D.getD 55 undef), (D.getD 56 undef), (D.getD 57 undef), (D.getD 58 undef), (D.getD 59 undef), (D.getD 60 undef), (D.getD 61 undef), (D.getD 62 undef), (D.getD 63 undef), (D.getD 64 undef), (D.getD 65 undef), (D.getD 66 undef)] H_5
   else none
   else
   (AHeap.row H_3 p5 (0) 5).bind fun g_2 =>
   cT (C k 19 [.agg (g_2 : List Value).toArray, .slice (some ⟨i, 0, none⟩) ((IntKind.i64.wrap (x1 + (1 : Int))).toNat) ((IntKind.i64.wrap (x1 + (1 : Int))).toNat), .int .i64 x1] H_3) fun u_1 H_6 =>
   exG (u_1.toList[0]?) fun g_3 =>
   exB (u_1.toList[1]?) fun b_3 =>
   if notTup (.agg g_3) = true ∧ (g_3.toList).length = 5 then
   (AHeap.wr H_6 p5 (0) g_3.toList).bind fun H_7 =>
   f4.K1 k n1 x1 p5 (IntKind.i64.wrap (x19 + (1 : Int))) x7 b_3 a17 l17 c17 x18 x19 [(D.getD 0 undef), (D.getD 1 undef), .int .i64 x19, .bool b, .slice (some ⟨i, 0, none⟩) ((IntKind.i64.wrap (x1 + (1 : Int))).toNat) ((IntKind.i64.wrap (x1 + (1 : Int))).toNat), (D.getD 7 undef), (D.getD 8 undef), (D.getD 9 undef), (D.getD 10 undef), (D.getD 11 undef), .bool (decide (x19 < x18)), .int .i64 x19, .pointer (some ⟨q.block, q.off + x19.toNat * 1, none⟩), .bool b, .int .i64 x19, .bool (decide (x19 ≥ (60 : Int))), .int .i64 x1, .int .i64 (IntKind.i64.wrap (x1 + (1 : Int))), .slice (some ⟨i, 0, none⟩) ((IntKind.i64.wrap (x1 + (1 : Int))).toNat) ((IntKind.i64.wrap (x1 + (1 : Int))).toNat), .slice (some ⟨i, 0, none⟩) ((IntKind.i64.wrap (x1 + (1 : Int))).toNat) ((IntKind.i64.wrap (x1 + (1 : Int))).toNat), .int .i64 x1, .int .i64 x19, .int .i64 (IntKind.i64.wrap (x19 + (1 : Int))), .pointer (some ⟨i, 0 + x1.toNat * 1, none⟩), .bool b, (D.getD 27 undef), (D.getD 28 undef), (D.getD 29 undef), (D.getD 30 undef), (D.getD 31 undef), (D.getD 32 undef), (D.getD 33 undef), (D.getD 34 undef), (D.getD 35 undef), .tuple u_1, .agg (g_2 : List Value).toArray, .slice (some ⟨i, 0, none⟩) ((IntKind.i64.wrap (x1 + (1 : Int))).toNat) ((IntKind.i64.wrap (x1 + (1 : Int))).toNat), .int .i64 x1, .tuple u_1, .agg g_3, .bool b_3, .int .i64 x19, .int .i64 (IntKind.i64.wrap (x19 + (1 : Int))), (D.getD 45 undef), (D.getD 46 undef), (D.getD 47 undef), (D.getD 48 undef), (D.getD 49 undef), (D.getD 50 undef), (D.getD 51 undef), (D.getD 52 undef), (D.getD 53 undef), (D.getD 54 undef), (D.getD 55 undef), (D.getD 56 undef), (D.getD 57 undef), (D.getD 58 undef), (D.getD 59 undef), (D.getD 60 undef), (D.getD 61 undef), (D.getD 62 undef), (D.getD 63 undef), (D.getD 64 undef), (D.getD 65 undef), (D.getD 66 undef)] H_7
   else none
   else none
    else none
   else none
   else none
   else
   cB (C k 22 [] H) fun b_4 H_8 =>
   some (.bool b_4, H_8)) := by kernel_rfl
theorem f4.K1_eq (k : Nat) (n1 : Nat) (x1 : Int) (p5 : Nat) (x6 : Int) (x7 : Int) (b11 : Bool) (a17 : Option Addr) (l17 : Nat) (c17 : Nat) (x18 : Int) (x19 : Int) (D : List Value) (H : AHeap) : f4.K1 k n1 x1 p5 x6 x7 b11 a17 l17 c17 x18 x19 D H =
  (bif b11 then
   some (.bool false, H)
   else
   bSl (ldSl H p5 (4)) fun a l c =>
   bif (decide ((l : Int) > (0 : Int))) then
   some (.bool false, H)
   else
   (ldI .i64 H p5 (0)).bind fun x =>
   bif (x != x7) then
   some (.bool false, H)
   else
   (ldI .i64 H p5 (2)).bind fun x_1 =>
   bif (x_1 != x6) then
   some (.bool false, H)
   else
   f4.L1 k n1 x1 p5 x7 a17 l17 c17 x18 (IntKind.i64.wrap (x19 + (1 : Int))) [(D.getD 0 undef), (D.getD 1 undef), .int .i64 x6, (D.getD 2 undef), (D.getD 3 undef), (D.getD 4 undef), .bool b11, (D.getD 5 undef), (D.getD 6 undef), (D.getD 7 undef), (D.getD 8 undef), (D.getD 9 undef), (D.getD 10 undef), (D.getD 11 undef), (D.getD 12 undef), (D.getD 13 undef), (D.getD 14 undef), (D.getD 15 undef), (D.getD 16 undef), (D.getD 17 undef), (D.getD 18 undef), (D.getD 19 undef), (D.getD 20 undef), (D.getD 21 undef), (D.getD 22 undef), (D.getD 23 undef), (D.getD 24 undef), (D.getD 25 undef), (D.getD 26 undef), (D.getD 27 undef), (D.getD 28 undef), (D.getD 29 undef), (D.getD 30 undef), (D.getD 31 undef), (D.getD 32 undef), (D.getD 33 undef), (D.getD 34 undef), (D.getD 35 undef), (D.getD 36 undef), (D.getD 37 undef), (D.getD 38 undef), (D.getD 39 undef), (D.getD 40 undef), (D.getD 41 undef), (D.getD 42 undef), .bool b11, .bool false, .pointer (some ⟨p5, 4, none⟩), .slice a l c, .int .i64 (l : Int), .bool (decide ((l : Int) > (0 : Int))), .bool (decide ((l : Int) > (0 : Int))), .bool false, .pointer (some ⟨p5, 0, none⟩), .pointer (some ⟨p5, 0, none⟩), .int .i64 x, .int .i64 x7, .bool (x != x7), .bool (x != x7), .bool false, .pointer (some ⟨p5, 2, none⟩), .pointer (some ⟨p5, 2, none⟩), .int .i64 x_1, .int .i64 x6, .bool (x_1 != x6), .bool (x_1 != x6), .int .i64 (IntKind.i64.wrap (x19 + (1 : Int)))] H) := by
  unfold f4.K1
  rw [gateC_eq]
  kernel_rfl
theorem f4_eq (k : Nat) (a0 : Option Addr) (l0 : Nat) (c0 : Nat) (x1 : Int) (H : AHeap) : C (k + 1) 4 [.slice a0 l0 c0, .int .i64 x1] H =
  (alK none H ⟨[.int .i64 0, .int .i64 0, .int .i64 0, .int .i64 0, .slice none 0 0], 0, .rw, 0⟩ fun i H_1 =>
   (AHeap.wr H_1 i (0) [.int .i64 0, .int .i64 0, .int .i64 0, .int .i64 0, .slice none 0 0]).bind fun H_2 =>
   f4.L1 k k (IntKind.i64.wrap ((IntKind.u64.wrap x1).tmod (4 : Int))) i 0 a0 l0 c0 (l0 : Int) 0 [.slice a0 l0 c0, .bool false, .int .i64 0, undef, undef, undef, undef, .int .i64 x1, .int .u64 (IntKind.u64.wrap x1), .int .u64 ((IntKind.u64.wrap x1).tmod (4 : Int)), .int .i64 (IntKind.i64.wrap ((IntKind.u64.wrap x1).tmod (4 : Int))), .agg #[.int .i64 0, .int .i64 0, .int .i64 0, .int .i64 0, .slice none 0 0], undef, undef, undef, undef, undef, undef, undef, undef, undef, undef, undef, undef, undef, undef, undef, undef, undef, undef, undef, undef, undef, undef, undef, undef, undef, undef, undef, undef, undef, undef, undef, undef, undef, undef, undef, undef, undef, undef, undef, undef, undef, undef, undef, undef, undef, undef, undef, undef, undef, undef, undef, undef, undef, undef, undef] H_2) := by kernel_rfl

end Go.Proofs.MxF
