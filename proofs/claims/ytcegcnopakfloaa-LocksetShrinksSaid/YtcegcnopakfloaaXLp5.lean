/- Functions of the program as the machine comes to them: printed by a program of this workplace (px.py); the kernel checks each line. -/
import Derived.Test.YtcegcnopakfloaaXBase2
set_option linter.unusedVariables false
namespace Go.Proofs.MxF
open Go Go.Mx Go.Proofs

/- f5 "interleave/interleavelaw28.LocksetSteps"  names:  -/
noncomputable def f5.Q0 (k : Nat)  : Kont (Value × AHeap) := retQ Try.prog Try.f5
noncomputable def f5.Q1 (k : Nat)  : Kont (Value × AHeap) := seqQ (gateC (Sub (bodyOf Try.f5) [1, 1, 0]) (Sub (bodyOf Try.f5) [1, 1, 1]) k (run Try.prog (C k) k (Sub (bodyOf Try.f5) [1, 1, 1]) (f5.Q0 k ))) (f5.Q0 k )
noncomputable def f5.Q2 (k : Nat)  : Kont (Value × AHeap) := blkQ 0 (f5.Q1 k )
noncomputable def f5.L1 (k : Nat) (n1 : Nat) (p3 : Nat) (p4 : Nat) (a14 : Option Addr) (l14 : Nat) (c14 : Nat) (x15 : Int) (x16 : Int) (D : List Value) (H : AHeap) : Option (Value × AHeap) :=
  iter (run Try.prog (C k) k (Sub (bodyOf Try.f5) [1, 1, 0, 1, 0, 0])) (f5.Q2 k ) n1 [(D.getD 0 undef), undef, (D.getD 1 undef), .pointer (some ⟨p3, 0, none⟩), .pointer (some ⟨p4, 0, none⟩), (D.getD 2 undef), (D.getD 3 undef), (D.getD 4 undef), (D.getD 5 undef), (D.getD 6 undef), (D.getD 7 undef), (D.getD 8 undef), (D.getD 9 undef), (D.getD 10 undef), .slice a14 l14 c14, .int .i64 x15, .int .i64 x16, (D.getD 11 undef), (D.getD 12 undef), (D.getD 13 undef), (D.getD 14 undef), (D.getD 15 undef), (D.getD 16 undef), (D.getD 17 undef), (D.getD 18 undef), (D.getD 19 undef), (D.getD 20 undef), (D.getD 21 undef), (D.getD 22 undef), (D.getD 23 undef), (D.getD 24 undef), (D.getD 25 undef), (D.getD 26 undef), (D.getD 27 undef), (D.getD 28 undef), (D.getD 29 undef), (D.getD 30 undef), (D.getD 31 undef), (D.getD 32 undef), (D.getD 33 undef), (D.getD 34 undef), (D.getD 35 undef), (D.getD 36 undef), (D.getD 37 undef), (D.getD 38 undef), (D.getD 39 undef), (D.getD 40 undef), (D.getD 41 undef), (D.getD 42 undef), (D.getD 43 undef), (D.getD 44 undef), (D.getD 45 undef), (D.getD 46 undef), (D.getD 47 undef), (D.getD 48 undef), (D.getD 49 undef), (D.getD 50 undef), (D.getD 51 undef), (D.getD 52 undef), (D.getD 53 undef), (D.getD 54 undef), (D.getD 55 undef), (D.getD 56 undef), (D.getD 57 undef), (D.getD 58 undef), (D.getD 59 undef), (D.getD 60 undef), (D.getD 61 undef), (D.getD 62 undef), (D.getD 63 undef), (D.getD 64 undef), (D.getD 65 undef), (D.getD 66 undef), (D.getD 67 undef), (D.getD 68 undef), (D.getD 69 undef), (D.getD 70 undef), (D.getD 71 undef), (D.getD 72 undef), (D.getD 73 undef), (D.getD 74 undef), (D.getD 75 undef), undef] H
theorem f5.L1_z (k : Nat)  (p3 : Nat) (p4 : Nat) (a14 : Option Addr) (l14 : Nat) (c14 : Nat) (x15 : Int) (x16 : Int) (D : List Value) (H : AHeap) : f5.L1 k 0 p3 p4 a14 l14 c14 x15 x16 D H = none := by kernel_rfl
theorem f5.L1_s (k : Nat) (n1 : Nat) (p3 : Nat) (p4 : Nat) (a14 : Option Addr) (l14 : Nat) (c14 : Nat) (x15 : Int) (x16 : Int) (D : List Value) (H : AHeap) : f5.L1 k (n1 + 1) p3 p4 a14 l14 c14 x15 x16 D H =
  (bif (decide (x16 < x15)) then
   a14.bind fun q =>
   if 0 ≤ x16 ∧ x16 < (l14 : Int) then
   (AHeap.row H q.block (q.off + x16.toNat * 3) 3).bind fun g =>
   alK none H ⟨[.int .u8 0, .int .u8 0, .int .u8 0], 0, .rw, 0⟩ fun i H_1 =>
   if notTup (.agg (g : List Value).toArray) = true ∧ (g).length = 3 then
   (AHeap.wr H_1 i (0) g).bind fun H_2 =>
   bif (decide (x16 ≥ (60 : Int))) then
   cB (C k 28 [] H_2) fun b H_3 =>
   some (.bool b, H_3)
   else
   if 0 ≤ (2 : Int) ∧ (2 : Int) < ((3 : Nat) : Int) then
   (ldI .u8 H_2 i (0 + (2 : Int).toNat * 1)).bind fun x =>
   cG (C k 23 [.int .u8 x] H_2) fun g_1 H_4 =>
   alK none H_4 ⟨[.slice none 0 0, .slice none 0 0], 0, .rw, 0⟩ fun i_1 H_5 =>
   if notTup (.agg g_1) = true ∧ (g_1.toList).length = 2 then
   (AHeap.wr H_5 i_1 (0) g_1.toList).bind fun H_6 =>
   (AHeap.row H_6 p3 (0) 3).bind fun g_2 =>
   if 0 ≤ (0 : Int) ∧ (0 : Int) < ((3 : Nat) : Int) then
   (ldI .u8 H_6 i (0 + (0 : Int).toNat * 1)).bind fun x_1 =>
   if 0 ≤ (1 : Int) ∧ (1 : Int) < ((3 : Nat) : Int) then
   (ldI .u8 H_6 i (0 + (1 : Int).toNat * 1)).bind fun x_2 =>
   (AHeap.row H_6 i_1 (0) 2).bind fun g_3 =>
   cT (C k 24 [.agg (g_2 : List Value).toArray, .int .i64 ((IntKind.i64.wrap x_1).tmod (3 : Int)), .bool ((x_2.tmod (2 : Int)) == (1 : Int)), .agg (g_3 : List Value).toArray] H_6) fun u H_7 =>
   exG (u.toList[0]?) fun g_4 =>
   exB (u.toList[1]?) fun b_1 =>
   alK none H_7 ⟨[.int .i64 0, .int .i64 0, .slice none 0 0], 0, .rw, 0⟩ fun i_2 H_8 =>
   if notTup (.agg g_4) = true ∧ (g_4.toList).length = 3 then
   (AHeap.wr H_8 i_2 (0) g_4.toList).bind fun H_9 =>
   (AHeap.row H_9 p4 (0) 3).bind fun g_5 =>
   if 0 ≤ (0 : Int) ∧ (0 : Int) < ((3 : Nat) : Int) then
   (ldI .u8 H_9 i (0 + (0 : Int).toNat * 1)).bind fun x_3 =>
   if 0 ≤ (1 : Int) ∧ (1 : Int) < ((3 : Nat) : Int) then
   (ldI .u8 H_9 i (0 + (1 : Int).toNat * 1)).bind fun x_4 =>
   (AHeap.row H_9 i_1 (0) 2).bind fun g_6 =>
   cT (C k 25 [.agg (g_5 : List Value).toArray, .int .i64 ((IntKind.i64.wrap x_3).tmod (3 : Int)), .bool ((x_4.tmod (2 : Int)) == (1 : Int)), .agg (g_6 : List Value).toArray] H_9) fun u_1 H_10 =>
   exG (u_1.toList[0]?) fun g_7 =>
   exB (u_1.toList[1]?) fun b_2 =>
   alK none H_10 ⟨[.int .i64 0, .int .i64 0, .slice none 0 0], 0, .rw, 0⟩ fun i_3 H_11 =>
   if notTup (.agg g_7) = true ∧ (g_7.toList).length = 3 then
   (AHeap.wr H_11 i_3 (0) g_7.toList).bind fun H_12 =>
   bif (!(b_1 == b_2)) then
   some (.bool false, (H_12.bump 25))
   else
   bif sameB H_12 (H_12.bump 25) i_2 then
   (AHeap.row (H_12.bump 25) i_2 (0) 3).bind fun g_8 =>
   bif sameB H_12 (H_12.bump 25) i_3 then
   (AHeap.row (H_12.bump 25) i_3 (0) 3).bind fun g_9 =>
   cB (C k 26 [.agg (g_8 : List Value).toArray, .agg (g_9 : List Value).toArray] (H_12.bump 25)) fun b_3 H_13 =>
   bif (!b_3) then
   some (.bool false, H_13)
   else
   bif sameB H_12 H_13 p3 then
   (AHeap.row H_13 p3 (0) 3).bind fun g_10 =>
   bif sameB H_12 H_13 p4 then
   (AHeap.row H_13 p4 (0) 3).bind fun g_11 =>
   cB (C k 26 [.agg (g_10 : List Value).toArray, .agg (g_11 : List Value).toArray] H_13) fun b_4 H_14 =>
   bif (!b_4) then
   some (.bool false, H_14)
   else
   if 0 ≤ (2 : Int) ∧ (2 : Int) < ((3 : Nat) : Int) then
   bif sameB H_12 H_14 i then
   (ldI .u8 H_14 i (0 + (2 : Int).toNat * 1)).bind fun x_5 =>
   cG (C k 23 [.int .u8 x_5] H_14) fun g_12 H_15 =>
   bif sameB H_12 H_15 i_1 then
   (AHeap.row H_15 i_1 (0) 2).bind fun g_13 =>
   buildSK Try.prog 49 1 [(0, .agg (g_13 : List Value).toArray)] fun g_14 z =>
   alK (some (H_12.next + 17)) H_15 ⟨g_14, z, .rw, 0⟩ fun i_4 H_16 =>
   buildSK Try.prog 49 1 [(0, .agg g_12)] fun g_15 z_1 =>
   alK (some (H_12.next + 21)) H_16 ⟨g_15, z_1, .rw, 0⟩ fun i_5 H_17 =>
   cB (C k 27 [.slice (some ⟨i_4, 0, none⟩) 1 1, .slice (some ⟨i_5, 0, none⟩) 1 1] H_17) fun b_5 H_18 =>
   bif (!b_5) then
   some (.bool false, H_18)
   else
   bif sameB H_18 (H_18.bump 4) i_2 then
   (AHeap.row (H_18.bump 4) i_2 (0) 3).bind fun g_16 =>
   if notTup (.agg (g_16 : List Value).toArray) = true ∧ (g_16).length = 3 then
   (AHeap.wr (H_18.bump 4) p3 (0) g_16).bind fun H_19 =>
   bif sameB H_18 H_19 i_3 then
   (AHeap.row H_19 i_3 (0) 3).bind fun g_17 =>
   if notTup (.agg (g_17 : List Value).toArray) = true ∧ (g_17).length = 3 then
   (AHeap.wr H_19 p4 (0) g_17).bind fun H_20 =>
   f5.L1 k n1 p3 p4 a14 l14 c14 x15 (IntKind.i64.wrap (x16 + (1 : Int))) [(D.getD 0 undef), (D.getD 1 undef), .int .i64 x16, .pointer (some ⟨i, 0, none⟩), .pointer (some ⟨i_1, 0, none⟩), .pointer (some ⟨i_2, 0, none⟩), .bool b_1, .pointer (some ⟨i_3, 0, none⟩), .bool b_2, (D.getD 9 undef), (D.getD 10 undef), .bool (decide (x16 < x15)), .int .i64 x16, .pointer (some ⟨q.block, q.off + x16.toNat * 3, none⟩), .agg (g : List Value).toArray, .int .i64 x16, .bool (decide (x16 ≥ (60 : Int))), .pointer (some ⟨i, 0 + (2 : Int).toNat * 1, none⟩), .int .u8 x, .agg g_1, .tuple u, .agg (g_2 : List Value).toArray, .pointer (some ⟨i, 0 + (0 : Int).toNat * 1, none⟩), .int .u8 x_1, .int .i64 (IntKind.i64.wrap x_1), .int .i64 ((IntKind.i64.wrap x_1).tmod (3 : Int)), .pointer (some ⟨i, 0 + (1 : Int).toNat * 1, none⟩), .int .u8 x_2, .int .u8 (x_2.tmod (2 : Int)), .bool ((x_2.tmod (2 : Int)) == (1 : Int)), .agg (g_3 : List Value).toArray, .tuple u, .agg g_4, .bool b_1, .tuple u_1, .agg (g_5 : List Value).toArray, .pointer (some ⟨i, 0 + (0 : Int).toNat * 1, none⟩), .int .u8 x_3, .int .i64 (IntKind.i64.wrap x_3), .int .i64 ((IntKind.i64.wrap x_3).tmod (3 : Int)), .pointer (some ⟨i, 0 + (1 : Int).toNat * 1, none⟩), .int .u8 x_4, .int .u8 (x_4.tmod (2 : Int)), .bool ((x_4.tmod (2 : Int)) == (1 : Int)), .agg (g_6 : List Value).toArray, .tuple u_1, .agg g_7, .bool b_2, .bool b_1, .bool b_2, .bool (!(b_1 == b_2)), .bool false, .agg (g_8 : List Value).toArray, .agg (g_9 : List Value).toArray, .bool b_3, .bool (!b_3), .bool (!b_3), .bool false, .agg (g_10 : List Value).toArray, .agg (g_11 : List Value).toArray, .bool b_4, .bool (!b_4), .bool (!b_4), .bool false, .agg (g_13 : List Value).toArray, .slice (some ⟨i_4, 0, none⟩) 1 1, .pointer (some ⟨i, 0 + (2 : Int).toNat * 1, none⟩), .int .u8 x_5, .agg g_12, .slice (some ⟨i_5, 0, none⟩) 1 1, .bool b_5, .bool (!b_5), .bool (!b_5), .agg (g_16 : List Value).toArray, .agg (g_17 : List Value).toArray, .int .i64 (IntKind.i64.wrap (x16 + (1 : Int)))] H_20
   else none
   else none
   else none
   else none
   else none
   else none
   else none
   else none
   else none
   else none
   else none
   else none
   else none
   else none
   else none
   else none
   else none
   else none
   else none
   else none
   else none
   else
   cB (C k 28 [] H) fun b_6 H_21 =>
   some (.bool b_6, H_21)) := by kernel_rfl
theorem f5_eq (k : Nat) (a0 : Option Addr) (l0 : Nat) (c0 : Nat) (H : AHeap) : C (k + 1) 5 [.slice a0 l0 c0] H =
  (alK none H ⟨[.int .i64 0, .int .i64 0, .slice none 0 0], 0, .rw, 0⟩ fun i H_1 =>
   alK none H_1 ⟨[.int .i64 0, .int .i64 0, .slice none 0 0], 0, .rw, 0⟩ fun i_1 H_2 =>
   (AHeap.wr H_2 i (0) [.int .i64 0, .int .i64 0, .slice none 0 0]).bind fun H_3 =>
   (AHeap.wr H_3 i_1 (0) [.int .i64 0, .int .i64 0, .slice none 0 0]).bind fun H_4 =>
   f5.L1 k k i i_1 a0 l0 c0 (l0 : Int) 0 [.slice a0 l0 c0, .bool false, undef, undef, undef, undef, undef, undef, undef, .agg #[.int .i64 0, .int .i64 0, .slice none 0 0], .agg #[.int .i64 0, .int .i64 0, .slice none 0 0], undef, undef, undef, undef, undef, undef, undef, undef, undef, undef, undef, undef, undef, undef, undef, undef, undef, undef, undef, undef, undef, undef, undef, undef, undef, undef, undef, undef, undef, undef, undef, undef, undef, undef, undef, undef, undef, undef, undef, undef, undef, undef, undef, undef, undef, undef, undef, undef, undef, undef, undef, undef, undef, undef, undef, undef, undef, undef, undef, undef, undef, undef, undef, undef, undef] H_4) := by kernel_rfl

end Go.Proofs.MxF
