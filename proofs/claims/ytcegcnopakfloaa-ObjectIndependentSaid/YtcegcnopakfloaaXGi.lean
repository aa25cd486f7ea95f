/- Texts of this claim, laid together: Oe O25 O26 O27. -/
import Derived.Test.YtcegcnopakfloaaXGc
import Derived.Test.YtcegcnopakfloaaXGh
section
set_option linter.unusedSimpArgs false
/- Functions of the program as the machine comes to them: printed by a program of this workplace (px.py); the kernel checks each line. -/
set_option linter.unusedVariables false
namespace Go.Proofs.MxF
open Go Go.Mx Go.Proofs

/- f10 "interleave/interleavelaw08.ObjectReleases"  names:  -/
noncomputable def f10.Q0 (k : Nat)  : Kont (Value × AHeap) := retQ Try.prog Try.f10
noncomputable def f10.K1 (k : Nat)  (p7 : Nat) (p8 : Nat) (x9 : Int) (p10 : Nat) (x11 : Int) (x12 : Int) (D : List Value) (H : AHeap) : Option (Value × AHeap) :=
  gateC (Sub (bodyOf Try.f10) [1, 1, 1, 1, 1, 1, 1, 1, 0]) (Sub (bodyOf Try.f10) [1, 1, 1, 1, 1, 1, 1, 1, 1]) k (run Try.prog (C k) k (Sub (bodyOf Try.f10) [1, 1, 1, 1, 1, 1, 1, 1, 1]) (f10.Q0 k )) [(D.getD 0 undef), (D.getD 1 undef), (D.getD 2 undef), undef, undef, undef, (D.getD 3 undef), .pointer (some ⟨p7, 0, none⟩), .pointer (some ⟨p8, 0, none⟩), .int .i64 x9, .pointer (some ⟨p10, 0, none⟩), .int .i64 x11, .int .i64 x12, undef, undef, undef, undef, undef, undef, (D.getD 4 undef), (D.getD 5 undef), (D.getD 6 undef), (D.getD 7 undef), (D.getD 8 undef), (D.getD 9 undef), (D.getD 10 undef), (D.getD 11 undef), (D.getD 12 undef), (D.getD 13 undef), (D.getD 14 undef), (D.getD 15 undef), (D.getD 16 undef), (D.getD 17 undef), (D.getD 18 undef), (D.getD 19 undef), (D.getD 20 undef), (D.getD 21 undef), (D.getD 22 undef), (D.getD 23 undef), (D.getD 24 undef), (D.getD 25 undef), undef, undef, undef, undef, undef, undef, undef, undef, undef, undef, undef, undef, undef, undef, undef, undef, undef, undef, undef, undef, undef, undef, undef, undef, undef, undef, undef, undef, undef, undef, undef, undef, undef, undef, undef, undef, undef, undef, undef, undef, undef, undef, undef, undef, undef, undef, undef] H
theorem f10.K1_eq (k : Nat)  (p7 : Nat) (p8 : Nat) (x9 : Int) (p10 : Nat) (x11 : Int) (x12 : Int) (D : List Value) (H : AHeap) : f10.K1 k  p7 p8 x9 p10 x11 x12 D H =
  (bif sameB H (H.bump 17) p7 then
   (AHeap.row (H.bump 17) p7 (0) 6).bind fun g =>
   bif sameB H (H.bump 17) p8 then
   (AHeap.row (H.bump 17) p8 (0) 4).bind fun g_1 =>
   if 0 ≤ x11 ∧ x11 < ((3 : Nat) : Int) then
   if 0 ≤ (0 : Int) ∧ (0 : Int) < ((2 : Nat) : Int) then
   bif sameB H (H.bump 17) p10 then
   (ldI .i64 (H.bump 17) p10 (0 + x11.toNat * 2 + (0 : Int).toNat * 1)).bind fun x =>
   cT (C k 38 [.agg (g : List Value).toArray, .agg (g_1 : List Value).toArray, .int .i64 x9, .int .i64 x, .int .i64 x12, .int .i64 (-1)] (H.bump 17)) fun u H_1 =>
   exG (u.toList[0]?) fun g_2 =>
   alK (some (H.next + 13)) H_1 ⟨[.slice none 0 0, .int .i64 0, .slice none 0 0, .slice none 0 0], 0, .rw, 0⟩ fun i H_2 =>
   if notTup (.agg g_2) = true ∧ (g_2.toList).length = 4 then
   (AHeap.wr H_2 i (0) g_2.toList).bind fun H_3 =>
   exI .i64 (u.toList[1]?) fun x_1 =>
   exB (u.toList[2]?) fun b =>
   bif (!b) then
   cB (C k 35 [] H_3) fun b_1 H_4 =>
   some (.bool b_1, H_4)
   else
   bif sameB H_3 (H_3.bump 9) p7 then
   (AHeap.row (H_3.bump 9) p7 (0) 6).bind fun g_3 =>
   bif sameB H_3 (H_3.bump 9) i then
   (AHeap.row (H_3.bump 9) i (0) 4).bind fun g_4 =>
   if 0 ≤ x11 ∧ x11 < ((3 : Nat) : Int) then
   if 0 ≤ (0 : Int) ∧ (0 : Int) < ((2 : Nat) : Int) then
   bif sameB H_3 (H_3.bump 9) p10 then
   (ldI .i64 (H_3.bump 9) p10 (0 + x11.toNat * 2 + (0 : Int).toNat * 1)).bind fun x_2 =>
   cB (C k 39 [.agg (g_3 : List Value).toArray, .agg (g_4 : List Value).toArray, .int .i64 x9, .int .i64 x_2, .int .i64 x12] (H_3.bump 9)) fun b_2 H_5 =>
   bif b_2 then
   some (.bool false, H_5)
   else
   bif sameB H_5 (H_5.bump 17) p7 then
   (AHeap.row (H_5.bump 17) p7 (0) 6).bind fun g_5 =>
   bif sameB H_5 (H_5.bump 17) i then
   (AHeap.row (H_5.bump 17) i (0) 4).bind fun g_6 =>
   if 0 ≤ x11 ∧ x11 < ((3 : Nat) : Int) then
   if 0 ≤ (1 : Int) ∧ (1 : Int) < ((2 : Nat) : Int) then
   bif sameB H_5 (H_5.bump 17) p10 then
   (ldI .i64 (H_5.bump 17) p10 (0 + x11.toNat * 2 + (1 : Int).toNat * 1)).bind fun x_3 =>
   cT (C k 38 [.agg (g_5 : List Value).toArray, .agg (g_6 : List Value).toArray, .int .i64 x9, .int .i64 x_3, .int .i64 x12, .int .i64 (-1)] (H_5.bump 17)) fun u_1 H_6 =>
   exG (u_1.toList[0]?) fun g_7 =>
   alK (some (H_5.next + 13)) H_6 ⟨[.slice none 0 0, .int .i64 0, .slice none 0 0, .slice none 0 0], 0, .rw, 0⟩ fun i_1 H_7 =>
   if notTup (.agg g_7) = true ∧ (g_7.toList).length = 4 then
   (AHeap.wr H_7 i_1 (0) g_7.toList).bind fun H_8 =>
   exI .i64 (u_1.toList[1]?) fun x_4 =>
   exB (u_1.toList[2]?) fun b_3 =>
   bif b_3 then
   (AHeap.row H_8 i_1 (0) 4).bind fun g_8 =>
   (AHeap.row H_8 p8 (0) 4).bind fun g_9 =>
   cB (C k 32 [.agg (g_8 : List Value).toArray, .agg (g_9 : List Value).toArray] H_8) fun b_4 H_9 =>
   bif b_4 then
   cB (C k 35 [] H_9) fun b_5 H_10 =>
   some (.bool b_5, H_10)
   else
   some (.bool false, H_9)
   else
   some (.bool false, H_8)
   else none
   else none
   else none
   else none
   else none
   else none
   else none
   else none
   else none
   else none
   else none
   else none
   else none
   else none
   else none
   else none
   else none) := by
  unfold f10.K1
  rw [gateC_eq]
  kernel_rfl
theorem f10_eq (k : Nat) (a0 : Option Addr) (l0 : Nat) (c0 : Nat) (x1 : Int) (x2 : Int) (H : AHeap) : C (k + 1) 10 [.slice a0 l0 c0, .int .u8 x1, .int .u8 x2] H =
  (bif (decide ((l0 : Int) > (100 : Int))) then
   some (.bool true, H)
   else
   cG (C k 36 [] H) fun g H_1 =>
   alK none H_1 ⟨[.slice none 0 0, .slice none 0 0, .slice none 0 0, .slice none 0 0, .slice none 0 0, .slice none 0 0], 0, .rw, 0⟩ fun i H_2 =>
   if notTup (.agg g) = true ∧ (g.toList).length = 6 then
   (AHeap.wr H_2 i (0) g.toList).bind fun H_3 =>
   (AHeap.row H_3 i (0) 6).bind fun g_1 =>
   cG (C k 37 [.agg (g_1 : List Value).toArray, .slice a0 l0 c0] H_3) fun g_2 H_4 =>
   alK none H_4 ⟨[.slice none 0 0, .int .i64 0, .slice none 0 0, .slice none 0 0], 0, .rw, 0⟩ fun i_1 H_5 =>
   if notTup (.agg g_2) = true ∧ (g_2.toList).length = 4 then
   (AHeap.wr H_5 i_1 (0) g_2.toList).bind fun H_6 =>
   alK none H_6 ⟨[.int .i64 0, .int .i64 0, .int .i64 0, .int .i64 0, .int .i64 0, .int .i64 0], 0, .rw, 0⟩ fun i_2 H_7 =>
   (AHeap.wr H_7 i_2 (0) [.int .i64 6, .int .i64 7, .int .i64 8, .int .i64 9, .int .i64 10, .int .i64 11]).bind fun H_8 =>
   bif (((IntKind.i64.wrap x2).tmod (3 : Int)) == (0 : Int)) then
   f10.K1 k i i_1 ((IntKind.i64.wrap x1).tmod (3 : Int)) i_2 ((IntKind.i64.wrap x2).tmod (3 : Int)) ((IntKind.i64.wrap x2).tmod (2 : Int)) [.slice a0 l0 c0, .int .u8 x1, .int .u8 x2, .bool false, .slice a0 l0 c0, .int .i64 (l0 : Int), .bool (decide ((l0 : Int) > (100 : Int))), .agg g, .agg (g_1 : List Value).toArray, .slice a0 l0 c0, .agg g_2, .int .u8 x1, .int .i64 (IntKind.i64.wrap x1), .int .i64 ((IntKind.i64.wrap x1).tmod (3 : Int)), .agg #[.int .i64 6, .int .i64 7], .agg #[.int .i64 8, .int .i64 9], .agg #[.int .i64 10, .int .i64 11], .agg #[.int .i64 6, .int .i64 7, .int .i64 8, .int .i64 9, .int .i64 10, .int .i64 11], .int .u8 x2, .int .i64 (IntKind.i64.wrap x2), .int .i64 ((IntKind.i64.wrap x2).tmod (3 : Int)), .int .i64 ((IntKind.i64.wrap x2).tmod (3 : Int)), .bool (((IntKind.i64.wrap x2).tmod (3 : Int)) == (0 : Int)), .int .u8 x2, .int .i64 (IntKind.i64.wrap x2), .int .i64 ((IntKind.i64.wrap x2).tmod (2 : Int))] H_8
   else
   f10.K1 k i i_1 ((IntKind.i64.wrap x1).tmod (3 : Int)) i_2 ((IntKind.i64.wrap x2).tmod (3 : Int)) 2 [.slice a0 l0 c0, .int .u8 x1, .int .u8 x2, .bool false, .slice a0 l0 c0, .int .i64 (l0 : Int), .bool (decide ((l0 : Int) > (100 : Int))), .agg g, .agg (g_1 : List Value).toArray, .slice a0 l0 c0, .agg g_2, .int .u8 x1, .int .i64 (IntKind.i64.wrap x1), .int .i64 ((IntKind.i64.wrap x1).tmod (3 : Int)), .agg #[.int .i64 6, .int .i64 7], .agg #[.int .i64 8, .int .i64 9], .agg #[.int .i64 10, .int .i64 11], .agg #[.int .i64 6, .int .i64 7, .int .i64 8, .int .i64 9, .int .i64 10, .int .i64 11], .int .u8 x2, .int .i64 (IntKind.i64.wrap x2), .int .i64 ((IntKind.i64.wrap x2).tmod (3 : Int)), .int .i64 ((IntKind.i64.wrap x2).tmod (3 : Int)), .bool (((IntKind.i64.wrap x2).tmod (3 : Int)) == (0 : Int)), undef, undef, undef] H_8
   else none
   else none) := by kernel_rfl

/- f11 "interleave/interleavelaw08.ObjectNotifies"  names:  -/
noncomputable def f11.Q0 (k : Nat)  : Kont (Value × AHeap) := retQ Try.prog Try.f11
noncomputable def f11.Q1 (k : Nat)  : Kont (Value × AHeap) := seqQ (gateC (Sub (bodyOf Try.f11) [1, 1, 1, 1, 1, 1, 1, 1, 1, 1, 0]) (Sub (bodyOf Try.f11) [1, 1, 1, 1, 1, 1, 1, 1, 1, 1, 1]) k (run Try.prog (C k) k (Sub (bodyOf Try.f11) [1, 1, 1, 1, 1, 1, 1, 1, 1, 1, 1]) (f11.Q0 k ))) (f11.Q0 k )
noncomputable def f11.Q2 (k : Nat)  : Kont (Value × AHeap) := blkQ 0 (f11.Q1 k )
noncomputable def f11.Q3 (k : Nat) (n1 : Nat) : Kont (Value × AHeap) := seqQ (iter (run Try.prog (C k) k (Sub (bodyOf Try.f11) [1, 1, 1, 1, 1, 1, 1, 1, 1, 1, 0, 1, 0, 0])) (f11.Q2 k ) n1) (f11.Q2 k )
noncomputable def f11.Q4 (k : Nat) (n1 : Nat) : Kont (Value × AHeap) := seqQ (gateC (Sub (bodyOf Try.f11) [1, 1, 1, 1, 1, 1, 1, 1, 1, 1, 0, 1, 0, 0, 1, 0]) (Sub (bodyOf Try.f11) [1, 1, 1, 1, 1, 1, 1, 1, 1, 1, 0, 1, 0, 0, 1, 1]) k (run Try.prog (C k) k (Sub (bodyOf Try.f11) [1, 1, 1, 1, 1, 1, 1, 1, 1, 1, 0, 1, 0, 0, 1, 1]) (f11.Q3 k n1))) (f11.Q3 k n1)
noncomputable def f11.Q5 (k : Nat) (n1 : Nat) : Kont (Value × AHeap) := blkQ 1 (f11.Q4 k n1)
noncomputable def f11.L1 (k : Nat) (n1 : Nat) (x2 : Int) (p8 : Nat) (p10 : Nat) (x11 : Int) (p13 : Nat) (x14 : Int) (x16 : Int) (x17 : Int) (D : List Value) (H : AHeap) : Option (Value × AHeap) :=
  iter (run Try.prog (C k) k (Sub (bodyOf Try.f11) [1, 1, 1, 1, 1, 1, 1, 1, 1, 1, 0, 1, 0, 0])) (f11.Q2 k ) n1 [(D.getD 0 undef), (D.getD 1 undef), .int .i8 x2, undef, undef, undef, (D.getD 2 undef), (D.getD 3 undef), .pointer (some ⟨p8, 0, none⟩), (D.getD 4 undef), .pointer (some ⟨p10, 0, none⟩), .int .i64 x11, (D.getD 5 undef), .pointer (some ⟨p13, 0, none⟩), .int .i64 x14, (D.getD 6 undef), .int .i64 x16, .int .i64 x17, (D.getD 7 undef), (D.getD 8 undef), (D.getD 9 undef), (D.getD 10 undef), (D.getD 11 undef), (D.getD 12 undef), (D.getD 13 undef), (D.getD 14 undef), (D.getD 15 undef), (D.getD 16 undef), (D.getD 17 undef), (D.getD 18 undef), (D.getD 19 undef), (D.getD 20 undef), (D.getD 21 undef), (D.getD 22 undef), (D.getD 23 undef), (D.getD 24 undef), (D.getD 25 undef), (D.getD 26 undef), (D.getD 27 undef), (D.getD 28 undef), (D.getD 29 undef), (D.getD 30 undef), (D.getD 31 undef), (D.getD 32 undef), (D.getD 33 undef), (D.getD 34 undef), (D.getD 35 undef), (D.getD 36 undef), (D.getD 37 undef), (D.getD 38 undef), (D.getD 39 undef), (D.getD 40 undef), (D.getD 41 undef), (D.getD 42 undef), (D.getD 43 undef), undef, (D.getD 44 undef), (D.getD 45 undef), (D.getD 46 undef), (D.getD 47 undef), (D.getD 48 undef), (D.getD 49 undef), (D.getD 50 undef), (D.getD 51 undef), (D.getD 52 undef), (D.getD 53 undef), (D.getD 54 undef), (D.getD 55 undef), (D.getD 56 undef), (D.getD 57 undef), (D.getD 58 undef), (D.getD 59 undef), (D.getD 60 undef), (D.getD 61 undef), (D.getD 62 undef), (D.getD 63 undef), (D.getD 64 undef), (D.getD 65 undef), (D.getD 66 undef), (D.getD 67 undef), (D.getD 68 undef), (D.getD 69 undef), (D.getD 70 undef), (D.getD 71 undef), (D.getD 72 undef), (D.getD 73 undef), (D.getD 74 undef), (D.getD 75 undef), (D.getD 76 undef), (D.getD 77 undef), (D.getD 78 undef), (D.getD 79 undef), (D.getD 80 undef), (D.getD 81 undef), (D.getD 82 undef), (D.getD 83 undef), (D.getD 84 undef), (D.getD 85 undef), (D.getD 86 undef), (D.getD 87 undef), (D.getD 88 undef), (D.getD 89 undef), (D.getD 90 undef), (D.getD 91 undef), (D.getD 92 undef), (D.getD 93 undef), (D.getD 94 undef), (D.getD 95 undef), (D.getD 96 undef), (D.getD 97 undef), (D.getD 98 undef), (D.getD 99 undef), (D.getD 100 undef), (D.getD 101 undef), (D.getD 102 undef), (D.getD 103 undef), (D.getD 104 undef), (D.getD 105 undef), (D.getD 106 undef), (D.getD 107 undef), (D.getD 108 undef), (D.getD 109 undef), (D.getD 110 undef), (D.getD 111 undef), (D.getD 112 undef), (D.getD 113 undef), (D.getD 114 undef), (D.getD 115 undef), (D.getD 116 undef), (D.getD 117 undef), (D.getD 118 undef), (D.getD 119 undef), (D.getD 120 undef), (D.getD 121 undef), (D.getD 122 undef), (D.getD 123 undef), (D.getD 124 undef), (D.getD 125 undef), (D.getD 126 undef), (D.getD 127 undef), (D.getD 128 undef), (D.getD 129 undef), (D.getD 130 undef), (D.getD 131 undef), undef, undef, undef, undef, undef, undef, undef, undef, undef, undef, undef, undef, undef] H
noncomputable def f11.K1 (k : Nat) (n1 : Nat) (x2 : Int) (p8 : Nat) (p10 : Nat) (x11 : Int) (p13 : Nat) (x14 : Int) (x16 : Int) (x17 : Int) (b18 : Bool) (D : List Value) (H : AHeap) : Option (Value × AHeap) :=
  gateC (Sub (bodyOf Try.f11) [1, 1, 1, 1, 1, 1, 1, 1, 1, 1, 0, 1, 0, 0, 1, 0, 0, 1, 0]) (Sub (bodyOf Try.f11) [1, 1, 1, 1, 1, 1, 1, 1, 1, 1, 0, 1, 0, 0, 1, 0, 0, 1, 1]) k (run Try.prog (C k) k (Sub (bodyOf Try.f11) [1, 1, 1, 1, 1, 1, 1, 1, 1, 1, 0, 1, 0, 0, 1, 0, 0, 1, 1]) (f11.Q5 k n1)) [(D.getD 0 undef), (D.getD 1 undef), .int .i8 x2, undef, undef, undef, (D.getD 2 undef), (D.getD 3 undef), .pointer (some ⟨p8, 0, none⟩), (D.getD 4 undef), .pointer (some ⟨p10, 0, none⟩), .int .i64 x11, (D.getD 5 undef), .pointer (some ⟨p13, 0, none⟩), .int .i64 x14, (D.getD 6 undef), .int .i64 x16, .int .i64 x17, .bool b18, (D.getD 7 undef), (D.getD 8 undef), (D.getD 9 undef), (D.getD 10 undef), (D.getD 11 undef), (D.getD 12 undef), (D.getD 13 undef), (D.getD 14 undef), (D.getD 15 undef), (D.getD 16 undef), (D.getD 17 undef), (D.getD 18 undef), (D.getD 19 undef), (D.getD 20 undef), (D.getD 21 undef), (D.getD 22 undef), (D.getD 23 undef), (D.getD 24 undef), (D.getD 25 undef), (D.getD 26 undef), (D.getD 27 undef), (D.getD 28 undef), (D.getD 29 undef), (D.getD 30 undef), (D.getD 31 undef), (D.getD 32 undef), (D.getD 33 undef), (D.getD 34 undef), (D.getD 35 undef), (D.getD 36 undef), (D.getD 37 undef), (D.getD 38 undef), (D.getD 39 undef), (D.getD 40 undef), (D.getD 41 undef), (D.getD 42 undef), undef, (D.getD 43 undef), (D.getD 44 undef), (D.getD 45 undef), (D.getD 46 undef), (D.getD 47 undef), (D.getD 48 undef), (D.getD 49 undef), (D.getD 50 undef), (D.getD 51 undef), (D.getD 52 undef), (D.getD 53 undef), (D.getD 54 undef), (D.getD 55 undef), (D.getD 56 undef), (D.getD 57 undef), (D.getD 58 undef), (D.getD 59 undef), (D.getD 60 undef), (D.getD 61 undef), (D.getD 62 undef), (D.getD 63 undef), (D.getD 64 undef), (D.getD 65 undef), (D.getD 66 undef), (D.getD 67 undef), (D.getD 68 undef), (D.getD 69 undef), (D.getD 70 undef), (D.getD 71 undef), (D.getD 72 undef), (D.getD 73 undef), (D.getD 74 undef), (D.getD 75 undef), (D.getD 76 undef), (D.getD 77 undef), (D.getD 78 undef), (D.getD 79 undef), (D.getD 80 undef), (D.getD 81 undef), (D.getD 82 undef), (D.getD 83 undef), (D.getD 84 undef), (D.getD 85 undef), (D.getD 86 undef), (D.getD 87 undef), (D.getD 88 undef), (D.getD 89 undef), (D.getD 90 undef), (D.getD 91 undef), (D.getD 92 undef), (D.getD 93 undef), (D.getD 94 undef), (D.getD 95 undef), (D.getD 96 undef), (D.getD 97 undef), (D.getD 98 undef), (D.getD 99 undef), (D.getD 100 undef), (D.getD 101 undef), (D.getD 102 undef), (D.getD 103 undef), (D.getD 104 undef), (D.getD 105 undef), (D.getD 106 undef), (D.getD 107 undef), (D.getD 108 undef), (D.getD 109 undef), (D.getD 110 undef), (D.getD 111 undef), (D.getD 112 undef), (D.getD 113 undef), (D.getD 114 undef), (D.getD 115 undef), (D.getD 116 undef), (D.getD 117 undef), (D.getD 118 undef), (D.getD 119 undef), (D.getD 120 undef), (D.getD 121 undef), (D.getD 122 undef), (D.getD 123 undef), (D.getD 124 undef), (D.getD 125 undef), (D.getD 126 undef), (D.getD 127 undef), (D.getD 128 undef), (D.getD 129 undef), (D.getD 130 undef), undef, undef, undef, undef, undef, undef, undef, undef, undef, undef, undef, undef, undef] H
noncomputable def f11.K2 (k : Nat) (n1 : Nat) (x2 : Int) (p8 : Nat) (p10 : Nat) (x11 : Int) (p13 : Nat) (x14 : Int) (x16 : Int) (x17 : Int) (b18 : Bool) (b19 : Bool) (D : List Value) (H : AHeap) : Option (Value × AHeap) :=
  gateC (Sub (bodyOf Try.f11) [1, 1, 1, 1, 1, 1, 1, 1, 1, 1, 0, 1, 0, 0, 1, 0, 0, 1, 1, 1, 0]) (Sub (bodyOf Try.f11) [1, 1, 1, 1, 1, 1, 1, 1, 1, 1, 0, 1, 0, 0, 1, 0, 0, 1, 1, 1, 1]) k (run Try.prog (C k) k (Sub (bodyOf Try.f11) [1, 1, 1, 1, 1, 1, 1, 1, 1, 1, 0, 1, 0, 0, 1, 0, 0, 1, 1, 1, 1]) (f11.Q5 k n1)) [(D.getD 0 undef), (D.getD 1 undef), .int .i8 x2, undef, undef, undef, (D.getD 2 undef), (D.getD 3 undef), .pointer (some ⟨p8, 0, none⟩), (D.getD 4 undef), .pointer (some ⟨p10, 0, none⟩), .int .i64 x11, (D.getD 5 undef), .pointer (some ⟨p13, 0, none⟩), .int .i64 x14, (D.getD 6 undef), .int .i64 x16, .int .i64 x17, .bool b18, .bool b19, (D.getD 7 undef), (D.getD 8 undef), (D.getD 9 undef), (D.getD 10 undef), (D.getD 11 undef), (D.getD 12 undef), (D.getD 13 undef), (D.getD 14 undef), (D.getD 15 undef), (D.getD 16 undef), (D.getD 17 undef), (D.getD 18 undef), (D.getD 19 undef), (D.getD 20 undef), (D.getD 21 undef), (D.getD 22 undef), (D.getD 23 undef), (D.getD 24 undef), (D.getD 25 undef), (D.getD 26 undef), (D.getD 27 undef), (D.getD 28 undef), (D.getD 29 undef), (D.getD 30 undef), (D.getD 31 undef), (D.getD 32 undef), (D.getD 33 undef), (D.getD 34 undef), (D.getD 35 undef), (D.getD 36 undef), (D.getD 37 undef), (D.getD 38 undef), (D.getD 39 undef), (D.getD 40 undef), (D.getD 41 undef), undef, (D.getD 42 undef), (D.getD 43 undef), (D.getD 44 undef), (D.getD 45 undef), (D.getD 46 undef), (D.getD 47 undef), (D.getD 48 undef), (D.getD 49 undef), (D.getD 50 undef), (D.getD 51 undef), (D.getD 52 undef), (D.getD 53 undef), (D.getD 54 undef), (D.getD 55 undef), (D.getD 56 undef), (D.getD 57 undef), (D.getD 58 undef), (D.getD 59 undef), (D.getD 60 undef), (D.getD 61 undef), (D.getD 62 undef), (D.getD 63 undef), (D.getD 64 undef), (D.getD 65 undef), (D.getD 66 undef), (D.getD 67 undef), (D.getD 68 undef), (D.getD 69 undef), (D.getD 70 undef), (D.getD 71 undef), (D.getD 72 undef), (D.getD 73 undef), (D.getD 74 undef), (D.getD 75 undef), (D.getD 76 undef), (D.getD 77 undef), (D.getD 78 undef), (D.getD 79 undef), (D.getD 80 undef), (D.getD 81 undef), (D.getD 82 undef), (D.getD 83 undef), (D.getD 84 undef), (D.getD 85 undef), (D.getD 86 undef), (D.getD 87 undef), (D.getD 88 undef), (D.getD 89 undef), (D.getD 90 undef), (D.getD 91 undef), (D.getD 92 undef), (D.getD 93 undef), (D.getD 94 undef), (D.getD 95 undef), (D.getD 96 undef), (D.getD 97 undef), (D.getD 98 undef), (D.getD 99 undef), (D.getD 100 undef), (D.getD 101 undef), (D.getD 102 undef), (D.getD 103 undef), (D.getD 104 undef), (D.getD 105 undef), (D.getD 106 undef), (D.getD 107 undef), (D.getD 108 undef), (D.getD 109 undef), (D.getD 110 undef), (D.getD 111 undef), (D.getD 112 undef), (D.getD 113 undef), (D.getD 114 undef), (D.getD 115 undef), (D.getD 116 undef), (D.getD 117 undef), (D.getD 118 undef), (D.getD 119 undef), (D.getD 120 undef), (D.getD 121 undef), (D.getD 122 undef), (D.getD 123 undef), (D.getD 124 undef), (D.getD 125 undef), (D.getD 126 undef), (D.getD 127 undef), (D.getD 128 undef), (D.getD 129 undef), undef, undef, undef, undef, undef, undef, undef, undef, undef, undef, undef, undef, undef] H
theorem f11.L1_z (k : Nat)  (x2 : Int) (p8 : Nat) (p10 : Nat) (x11 : Int) (p13 : Nat) (x14 : Int) (x16 : Int) (x17 : Int) (D : List Value) (H : AHeap) : f11.L1 k 0 x2 p8 p10 x11 p13 x14 x16 x17 D H = none := by kernel_rfl
theorem f11.L1_s (k : Nat) (n1 : Nat) (x2 : Int) (p8 : Nat) (p10 : Nat) (x11 : Int) (p13 : Nat) (x14 : Int) (x16 : Int) (x17 : Int) (D : List Value) (H : AHeap) : f11.L1 k (n1 + 1) x2 p8 p10 x11 p13 x14 x16 x17 D H =
  (bSl (ldSl H p8 (3)) fun a l c =>
   bif (decide (x17 < (l : Int))) then
   bSl (ldSl H p8 (3)) fun a_1 l_1 c_1 =>
   a_1.bind fun q =>
   if 0 ≤ x17 ∧ x17 < (l_1 : Int) then
   (ldI .i64 H q.block (q.off + x17.toNat * 3 + 0)).bind fun x =>
   bif (x == (3 : Int)) then
   f11.K1 k n1 x2 p8 p10 x11 p13 x14 (IntKind.i64.wrap (x16 + (1 : Int))) x17 (x == (3 : Int)) [(D.getD 0 undef), (D.getD 1 undef), (D.getD 2 undef), (D.getD 3 undef), (D.getD 4 undef), (D.getD 5 undef), (D.getD 6 undef), (D.getD 8 undef), (D.getD 9 undef), (D.getD 10 undef), (D.getD 11 undef), (D.getD 12 undef), (D.getD 13 undef), (D.getD 14 undef), (D.getD 15 undef), (D.getD 16 undef), (D.getD 17 undef), (D.getD 18 undef), (D.getD 19 undef), (D.getD 20 undef), (D.getD 21 undef), (D.getD 22 undef), (D.getD 23 undef), (D.getD 24 undef), (D.getD 25 undef), (D.getD 26 undef), (D.getD 27 undef), (D.getD 28 undef), (D.getD 29 undef), (D.getD 30 undef), (D.getD 31 undef), (D.getD 32 undef), (D.getD 33 undef), (D.getD 34 undef), (D.getD 35 undef), (D.getD 36 undef), (D.getD 37 undef), (D.getD 38 undef), (D.getD 39 undef), (D.getD 40 undef), (D.getD 41 undef), (D.getD 42 undef), (D.getD 43 undef), .int .i64 x17, .pointer (some ⟨p8, 3, none⟩), .slice a l c, .int .i64 (l : Int), .bool (decide (x17 < (l : Int))), (D.getD 49 undef), (D.getD 50 undef), .pointer (some ⟨p8, 3, none⟩), .slice a_1 l_1 c_1, .int .i64 x17, .pointer (some ⟨q.block, q.off + x17.toNat * 3, none⟩), .pointer (some ⟨q.block, q.off + x17.toNat * 3 + 0, none⟩), .int .i64 x, .bool (x == (3 : Int)), .bool (x == (3 : Int)), .int .i64 x16, .int .i64 (IntKind.i64.wrap (x16 + (1 : Int))), (D.getD 61 undef), (D.getD 62 undef), (D.getD 63 undef), (D.getD 64 undef), (D.getD 65 undef), (D.getD 66 undef), (D.getD 67 undef), (D.getD 68 undef), (D.getD 69 undef), (D.getD 70 undef), (D.getD 71 undef), (D.getD 72 undef), (D.getD 73 undef), (D.getD 74 undef), (D.getD 75 undef), (D.getD 76 undef), (D.getD 77 undef), (D.getD 78 undef), (D.getD 79 undef), (D.getD 80 undef), (D.getD 81 undef), (D.getD 82 undef), (D.getD 83 undef), (D.getD 84 undef), (D.getD 85 undef), (D.getD 86 undef), (D.getD 87 undef), (D.getD 88 undef), (D.getD 89 undef), (D.getD 90 undef), (D.getD 91 undef), (D.getD 92 undef), (D.getD 93 undef), (D.getD 94 undef), (D.getD 95 undef), (D.getD 96 undef), (D.getD 97 undef), (D.getD 98 undef), (D.getD 99 undef), (D.getD 100 undef), (D.getD 101 undef), (D.getD 102 undef), (D.getD 103 undef), (D.getD 104 undef), (D.getD 105 undef), (D.getD 106 undef), (D.getD 107 undef), (D.getD 108 undef), (D.getD 109 undef), (D.getD 110 undef), (D.getD 111 undef), (D.getD 112 undef), (D.getD 113 undef), (D.getD 114 undef), (D.getD 115 undef), (D.getD 116 undef), (D.getD 117 undef), (D.getD 118 undef), (D.getD 119 undef), (D.getD 120 undef), (D.getD 121 undef), (D.getD 122 undef), (D.getD 123 undef), (D.getD 124 undef), (D.getD 125 undef), (D.getD 126 undef), (D.getD 127 undef), (D.getD 128 undef), (D.getD 129 undef), (D.getD 130 undef), (D.getD 131 undef)] H
   else
   f11.K1 k n1 x2 p8 p10 x11 p13 x14 x16 x17 (x == (3 : Int)) [(D.getD 0 undef), (D.getD 1 undef), (D.getD 2 undef), (D.getD 3 undef), (D.getD 4 undef), (D.getD 5 undef), (D.getD 6 undef), (D.getD 8 undef), (D.getD 9 undef), (D.getD 10 undef), (D.getD 11 undef), (D.getD 12 undef), (D.getD 13 undef), (D.getD 14 undef), (D.getD 15 undef), (D.getD 16 undef), (D.getD 17 undef), (D.getD 18 undef), (D.getD 19 undef), (D.getD 20 undef), (D.getD 21 undef), (D.getD 22 undef), (D.getD 23 undef), (D.getD 24 undef), (D.getD 25 undef), (D.getD 26 undef), (D.getD 27 undef), (D.getD 28 undef), (D.getD 29 undef), (D.getD 30 undef), (D.getD 31 undef), (D.getD 32 undef), (D.getD 33 undef), (D.getD 34 undef), (D.getD 35 undef), (D.getD 36 undef), (D.getD 37 undef), (D.getD 38 undef), (D.getD 39 undef), (D.getD 40 undef), (D.getD 41 undef), (D.getD 42 undef), (D.getD 43 undef), .int .i64 x17, .pointer (some ⟨p8, 3, none⟩), .slice a l c, .int .i64 (l : Int), .bool (decide (x17 < (l : Int))), (D.getD 49 undef), (D.getD 50 undef), .pointer (some ⟨p8, 3, none⟩), .slice a_1 l_1 c_1, .int .i64 x17, .pointer (some ⟨q.block, q.off + x17.toNat * 3, none⟩), .pointer (some ⟨q.block, q.off + x17.toNat * 3 + 0, none⟩), .int .i64 x, .bool (x == (3 : Int)), .bool (x == (3 : Int)), (D.getD 59 undef), (D.getD 60 undef), (D.getD 61 undef), (D.getD 62 undef), (D.getD 63 undef), (D.getD 64 undef), (D.getD 65 undef), (D.getD 66 undef), (D.getD 67 undef), (D.getD 68 undef), (D.getD 69 undef), (D.getD 70 undef), (D.getD 71 undef), (D.getD 72 undef), (D.getD 73 undef), (D.getD 74 undef), (D.getD 75 undef), (D.getD 76 undef), (D.getD 77 undef), (D.getD 78 undef), (D.getD 79 undef), (D.getD 80 undef), (D.getD 81 undef), (D.getD 82 undef), (D.getD 83 undef), (D.getD 84 undef), (D.getD 85 undef), (D.getD 86 undef), (D.getD 87 undef), (D.getD 88 undef), (D.getD 89 undef), (D.getD 90 undef), (D.getD 91 undef), (D.getD 92 undef), (D.getD 93 undef), (D.getD 94 undef), (D.getD 95 undef), (D.getD 96 undef), (D.getD 97 undef), (D.getD 98 undef), (D.getD 99 undef), (D.getD 100 undef), (D.getD 101 undef), (D.getD 102 undef), (D.getD 103 undef), (D.getD 104 undef), (D.getD 105 undef), (D.getD 106 undef), (D.getD 107 undef), (D.getD 108 undef), (D.getD 109 undef), (D.getD 110 undef), (D.getD 111 undef), (D.getD 112 undef), (D.getD 113 undef), (D.getD 114 undef), (D.getD 115 undef), (D.getD 116 undef), (D.getD 117 undef), (D.getD 118 undef), (D.getD 119 undef), (D.getD 120 undef), (D.getD 121 undef), (D.getD 122 undef), (D.getD 123 undef), (D.getD 124 undef), (D.getD 125 undef), (D.getD 126 undef), (D.getD 127 undef), (D.getD 128 undef), (D.getD 129 undef), (D.getD 130 undef), (D.getD 131 undef)] H
   else none
   else
   bif (x14 == x16) then
   bif ((x11 == ((-1) : Int)) == (x16 == (0 : Int))) then
   cB (C k 35 [] H) fun b H_1 =>
   some (.bool b, H_1)
   else
   some (.bool false, H)
   else
   some (.bool false, H)) := by kernel_rfl
theorem f11.K1_eq (k : Nat) (n1 : Nat) (x2 : Int) (p8 : Nat) (p10 : Nat) (x11 : Int) (p13 : Nat) (x14 : Int) (x16 : Int) (x17 : Int) (b18 : Bool) (D : List Value) (H : AHeap) : f11.K1 k n1 x2 p8 p10 x11 p13 x14 x16 x17 b18 D H =
  (bif (x11 == x17) then
   bif (!b18) then
   some (.bool false, H)
   else
   bif ((IntKind.i64.wrap x2) == x17) then
   bif b18 then
   bif (!(x11 == x17)) then
   some (.bool false, H)
   else
   bSl (ldSl H p10 (3)) fun a l c =>
   bSl (ldSl H p8 (3)) fun a_1 l_1 c_1 =>
   bif ((l : Int) != (l_1 : Int)) then
   some (.bool false, H)
   else
   bSl (ldSl H p13 (3)) fun a_2 l_2 c_2 =>
   bSl (ldSl H p8 (3)) fun a_3 l_3 c_3 =>
   bif ((l_2 : Int) != (l_3 : Int)) then
   some (.bool false, H)
   else
   f11.K2 k n1 x2 p8 p10 x11 p13 x14 x16 x17 b18 (x11 == x17) [(D.getD 0 undef), (D.getD 1 undef), (D.getD 2 undef), (D.getD 3 undef), (D.getD 4 undef), (D.getD 5 undef), (D.getD 6 undef), (D.getD 8 undef), (D.getD 9 undef), (D.getD 10 undef), (D.getD 11 undef), (D.getD 12 undef), (D.getD 13 undef), (D.getD 14 undef), (D.getD 15 undef), (D.getD 16 undef), (D.getD 17 undef), (D.getD 18 undef), (D.getD 19 undef), (D.getD 20 undef), (D.getD 21 undef), (D.getD 22 undef), (D.getD 23 undef), (D.getD 24 undef), (D.getD 25 undef), (D.getD 26 undef), (D.getD 27 undef), (D.getD 28 undef), (D.getD 29 undef), (D.getD 30 undef), (D.getD 31 undef), (D.getD 32 undef), (D.getD 33 undef), (D.getD 34 undef), (D.getD 35 undef), (D.getD 36 undef), (D.getD 37 undef), (D.getD 38 undef), (D.getD 39 undef), (D.getD 40 undef), (D.getD 41 undef), (D.getD 42 undef), (D.getD 43 undef), (D.getD 44 undef), (D.getD 45 undef), (D.getD 46 undef), (D.getD 47 undef), (D.getD 48 undef), (D.getD 49 undef), (D.getD 50 undef), (D.getD 51 undef), (D.getD 52 undef), (D.getD 53 undef), (D.getD 54 undef), (D.getD 55 undef), (D.getD 56 undef), (D.getD 57 undef), (D.getD 58 undef), (D.getD 59 undef), .int .i64 x11, .int .i64 x17, .bool (x11 == x17), .bool (x11 == x17), .bool true, .bool b18, .bool (!b18), .bool (!b18), .bool false, .int .i8 x2, .int .i64 (IntKind.i64.wrap x2), .int .i64 x17, .bool ((IntKind.i64.wrap x2) == x17), .bool true, .bool b18, .bool b18, .bool true, .bool (x11 == x17), .bool (!(x11 == x17)), .bool (!(x11 == x17)), .bool (!(x11 == x17)), .bool false, .pointer (some ⟨p10, 3, none⟩), .slice a l c, .int .i64 (l : Int), .pointer (some ⟨p8, 3, none⟩), .slice a_1 l_1 c_1, .int .i64 (l_1 : Int), .bool ((l : Int) != (l_1 : Int)), .bool ((l : Int) != (l_1 : Int)), .bool false, .pointer (some ⟨p13, 3, none⟩), .slice a_2 l_2 c_2, .int .i64 (l_2 : Int), .pointer (some ⟨p8, 3, none⟩), .slice a_3 l_3 c_3, .int .i64 (l_3 : Int), .bool ((l_2 : Int) != (l_3 : Int)), .bool ((l_2 : Int) != (l_3 : Int)), (D.getD 99 undef), (D.getD 100 undef), (D.getD 101 undef), (D.getD 102 undef), (D.getD 103 undef), (D.getD 104 undef), (D.getD 105 undef), (D.getD 106 undef), (D.getD 107 undef), (D.getD 108 undef), (D.getD 109 undef), (D.getD 110 undef), (D.getD 111 undef), (D.getD 112 undef), (D.getD 113 undef), (D.getD 114 undef), (D.getD 115 undef), (D.getD 116 undef), (D.getD 117 undef), (D.getD 118 undef), (D.getD 119 undef), (D.getD 120 undef), (D.getD 121 undef), (D.getD 122 undef), (D.getD 123 undef), (D.getD 124 undef), (D.getD 125 undef), (D.getD 126 undef), (D.getD 127 undef), (D.getD 128 undef), (D.getD 129 undef), (D.getD 130 undef)] H
   else
   bSl (ldSl H p10 (3)) fun a_4 l_4 c_4 =>
   bSl (ldSl H p8 (3)) fun a_5 l_5 c_5 =>
   bif ((l_4 : Int) != (l_5 : Int)) then
   some (.bool false, H)
   else
   bSl (ldSl H p13 (3)) fun a_6 l_6 c_6 =>
   bSl (ldSl H p8 (3)) fun a_7 l_7 c_7 =>
   bif ((l_6 : Int) != (l_7 : Int)) then
   some (.bool false, H)
   else
   f11.K2 k n1 x2 p8 p10 x11 p13 x14 x16 x17 b18 (x11 == x17) [(D.getD 0 undef), (D.getD 1 undef), (D.getD 2 undef), (D.getD 3 undef), (D.getD 4 undef), (D.getD 5 undef), (D.getD 6 undef), (D.getD 8 undef), (D.getD 9 undef), (D.getD 10 undef), (D.getD 11 undef), (D.getD 12 undef), (D.getD 13 undef), (D.getD 14 undef), (D.getD 15 undef), (D.getD 16 undef), (D.getD 17 undef), (D.getD 18 undef), (D.getD 19 undef), (D.getD 20 undef), (D.getD 21 undef), (D.getD 22 undef), (D.getD 23 undef), (D.getD 24 undef), (D.getD 25 undef), (D.getD 26 undef), (D.getD 27 undef), (D.getD 28 undef), (D.getD 29 undef), (D.getD 30 undef), (D.getD 31 undef), (D.getD 32 undef), (D.getD 33 undef), (D.getD 34 undef), (D.getD 35 undef), (D.getD 36 undef), (D.getD 37 undef), (D.getD 38 undef), (D.getD 39 undef), (D.getD 40 undef), (D.getD 41 undef), (D.getD 42 undef), (D.getD 43 undef), (D.getD 44 undef), (D.getD 45 undef), (D.getD 46 undef), (D.getD 47 undef), (D.getD 48 undef), (D.getD 49 undef), (D.getD 50 undef), (D.getD 51 undef), (D.getD 52 undef), (D.getD 53 undef), (D.getD 54 undef), (D.getD 55 undef), (D.getD 56 undef), (D.getD 57 undef), (D.getD 58 undef), (D.getD 59 undef), .int .i64 x11, .int .i64 x17, .bool (x11 == x17), .bool (x11 == x17), .bool true, .bool b18, .bool (!b18), .bool (!b18), .bool false, .int .i8 x2, .int .i64 (IntKind.i64.wrap x2), .int .i64 x17, .bool ((IntKind.i64.wrap x2) == x17), .bool true, .bool b18, .bool b18, .bool false, undef, undef, .bool false, .bool false, .bool false, .pointer (some ⟨p10, 3, none⟩), .slice a_4 l_4 c_4, .int .i64 (l_4 : Int), .pointer (some ⟨p8, 3, none⟩), .slice a_5 l_5 c_5, .int .i64 (l_5 : Int), .bool ((l_4 : Int) != (l_5 : Int)), .bool ((l_4 : Int) != (l_5 : Int)), .bool false, .pointer (some ⟨p13, 3, none⟩), .slice a_6 l_6 c_6, .int .i64 (l_6 : Int), .pointer (some ⟨p8, 3, none⟩), .slice a_7 l_7 c_7, .int .i64 (l_7 : Int), .bool ((l_6 : Int) != (l_7 : Int)), .bool ((l_6 : Int) != (l_7 : Int)), (D.getD 99 undef), (D.getD 100 undef), (D.getD 101 undef), (D.getD 102 undef), (D.getD 103 undef), (D.getD 104 undef), (D.getD 105 undef), (D.getD 106 undef), (D.getD 107 undef), (D.getD 108 undef), (D.getD 109 undef), (D.getD 110 undef), (D.getD 111 undef), (D.getD 112 undef), (D.getD 113 undef), (D.getD 114 undef), (D.getD 115 undef), (D.getD 116 undef), (D.getD 117 undef), (D.getD 118 undef), (D.getD 119 undef), (D.getD 120 undef), (D.getD 121 undef), (D.getD 122 undef), (D.getD 123 undef), (D.getD 124 undef), (D.getD 125 undef), (D.getD 126 undef), (D.getD 127 undef), (D.getD 128 undef), (D.getD 129 undef), (D.getD 130 undef)] H
   else
   bSl (ldSl H p10 (3)) fun a_8 l_8 c_8 =>
   bSl (ldSl H p8 (3)) fun a_9 l_9 c_9 =>
   bif ((l_8 : Int) != (l_9 : Int)) then
   some (.bool false, H)
   else
   bSl (ldSl H p13 (3)) fun a_10 l_10 c_10 =>
   bSl (ldSl H p8 (3)) fun a_11 l_11 c_11 =>
   bif ((l_10 : Int) != (l_11 : Int)) then
   some (.bool false, H)
   else
   f11.K2 k n1 x2 p8 p10 x11 p13 x14 x16 x17 b18 (x11 == x17) [(D.getD 0 undef), (D.getD 1 undef), (D.getD 2 undef), (D.getD 3 undef), (D.getD 4 undef), (D.getD 5 undef), (D.getD 6 undef), (D.getD 8 undef), (D.getD 9 undef), (D.getD 10 undef), (D.getD 11 undef), (D.getD 12 undef), (D.getD 13 undef), (D.getD 14 undef), (D.getD 15 undef), (D.getD 16 undef), (D.getD 17 undef), (D.getD 18 undef), (D.getD 19 undef), (D.getD 20 undef), (D.getD 21 undef), (D.getD 22 undef), (D.getD 23 undef), (D.getD 24 undef), (D.getD 25 undef), (D.getD 26 undef), (D.getD 27 undef), (D.getD 28 undef), (D.getD 29 undef), (D.getD 30 undef), (D.getD 31 undef), (D.getD 32 undef), (D.getD 33 undef), (D.getD 34 undef), (D.getD 35 undef), (D.getD 36 undef), (D.getD 37 undef), (D.getD 38 undef), (D.getD 39 undef), (D.getD 40 undef), (D.getD 41 undef), (D.getD 42 undef), (D.getD 43 undef), (D.getD 44 undef), (D.getD 45 undef), (D.getD 46 undef), (D.getD 47 undef), (D.getD 48 undef), (D.getD 49 undef), (D.getD 50 undef), (D.getD 51 undef), (D.getD 52 undef), (D.getD 53 undef), (D.getD 54 undef), (D.getD 55 undef), (D.getD 56 undef), (D.getD 57 undef), (D.getD 58 undef), (D.getD 59 undef), .int .i64 x11, .int .i64 x17, .bool (x11 == x17), .bool (x11 == x17), .bool true, .bool b18, .bool (!b18), .bool (!b18), .bool false, .int .i8 x2, .int .i64 (IntKind.i64.wrap x2), .int .i64 x17, .bool ((IntKind.i64.wrap x2) == x17), .bool false, undef, .bool false, .bool false, undef, undef, .bool false, .bool false, .bool false, .pointer (some ⟨p10, 3, none⟩), .slice a_8 l_8 c_8, .int .i64 (l_8 : Int), .pointer (some ⟨p8, 3, none⟩), .slice a_9 l_9 c_9, .int .i64 (l_9 : Int), .bool ((l_8 : Int) != (l_9 : Int)), .bool ((l_8 : Int) != (l_9 : Int)), .bool false, .pointer (some ⟨p13, 3, none⟩), .slice a_10 l_10 c_10, .int .i64 (l_10 : Int), .pointer (some ⟨p8, 3, none⟩), .slice a_11 l_11 c_11, .int .i64 (l_11 : Int), .bool ((l_10 : Int) != (l_11 : Int)), .bool ((l_10 : Int) != (l_11 : Int)), (D.getD 99 undef), (D.getD 100 undef), (D.getD 101 undef), (D.getD 102 undef), (D.getD 103 undef), (D.getD 104 undef), (D.getD 105 undef), (D.getD 106 undef), (D.getD 107 undef), (D.getD 108 undef), (D.getD 109 undef), (D.getD 110 undef), (D.getD 111 undef), (D.getD 112 undef), (D.getD 113 undef), (D.getD 114 undef), (D.getD 115 undef), (D.getD 116 undef), (D.getD 117 undef), (D.getD 118 undef), (D.getD 119 undef), (D.getD 120 undef), (D.getD 121 undef), (D.getD 122 undef), (D.getD 123 undef), (D.getD 124 undef), (D.getD 125 undef), (D.getD 126 undef), (D.getD 127 undef), (D.getD 128 undef), (D.getD 129 undef), (D.getD 130 undef)] H
   else
   bif ((IntKind.i64.wrap x2) == x17) then
   bif b18 then
   bif (!(x11 == x17)) then
   some (.bool false, H)
   else
   bSl (ldSl H p10 (3)) fun a_12 l_12 c_12 =>
   bSl (ldSl H p8 (3)) fun a_13 l_13 c_13 =>
   bif ((l_12 : Int) != (l_13 : Int)) then
   some (.bool false, H)
   else
   bSl (ldSl H p13 (3)) fun a_14 l_14 c_14 =>
   bSl (ldSl H p8 (3)) fun a_15 l_15 c_15 =>
   bif ((l_14 : Int) != (l_15 : Int)) then
   some (.bool false, H)
   else
   f11.K2 k n1 x2 p8 p10 x11 p13 x14 x16 x17 b18 (x11 == x17) [(D.getD 0 undef), (D.getD 1 undef), (D.getD 2 undef), (D.getD 3 undef), (D.getD 4 undef), (D.getD 5 undef), (D.getD 6 undef), (D.getD 8 undef), (D.getD 9 undef), (D.getD 10 undef), (D.getD 11 undef), (D.getD 12 undef), (D.getD 13 undef), (D.getD 14 undef), (D.getD 15 undef), (D.getD 16 undef), (D.getD 17 undef), (D.getD 18 undef), (D.getD 19 undef), (D.getD 20 undef), (D.getD 21 undef), (D.getD 22 undef), (D.getD 23 undef), (D.getD 24 undef), (D.getD 25 undef), (D.getD 26 undef), (D.getD 27 undef), (D.getD 28 undef), (D.getD 29 undef), (D.getD 30 undef), (D.getD 31 undef), (D.getD 32 undef), (D.getD 33 undef), (D.getD 34 undef), (D.getD 35 undef), (D.getD 36 undef), (D.getD 37 undef), (D.getD 38 undef), (D.getD 39 undef), (D.getD 40 undef), (D.getD 41 undef), (D.getD 42 undef), (D.getD 43 undef), (D.getD 44 undef), (D.getD 45 undef), (D.getD 46 undef), (D.getD 47 undef), (D.getD 48 undef), (D.getD 49 undef), (D.getD 50 undef), (D.getD 51 undef), (D.getD 52 undef), (D.getD 53 undef), (D.getD 54 undef), (D.getD 55 undef), (D.getD 56 undef), (D.getD 57 undef), (D.getD 58 undef), (D.getD 59 undef), .int .i64 x11, .int .i64 x17, .bool (x11 == x17), .bool (x11 == x17), .bool false, undef, undef, .bool false, .bool false, .int .i8 x2, .int .i64 (IntKind.i64.wrap x2), .int .i64 x17, .bool ((IntKind.i64.wrap x2) == x17), .bool true, .bool b18, .bool b18, .bool true, .bool (x11 == x17), .bool (!(x11 == x17)), .bool (!(x11 == x17)), .bool (!(x11 == x17)), .bool false, .pointer (some ⟨p10, 3, none⟩), .slice a_12 l_12 c_12, .int .i64 (l_12 : Int), .pointer (some ⟨p8, 3, none⟩), .slice a_13 l_13 c_13, .int .i64 (l_13 : Int), .bool ((l_12 : Int) != (l_13 : Int)), .bool ((l_12 : Int) != (l_13 : Int)), .bool false, .pointer (some ⟨p13, 3, none⟩), .slice a_14 l_14 c_14, .int .i64 (l_14 : Int), .pointer (some ⟨p8, 3, none⟩), .slice a_15 l_15 c_15, .int .i64 (l_15 : Int), .bool ((l_14 : Int) != (l_15 : Int)), .bool ((l_14 : Int) != (l_15 : Int)), (D.getD 99 undef), (D.getD 100 undef), (D.getD 101 undef), (D.getD 102 undef), (D.getD 103 undef), (D.getD 104 undef), (D.getD 105 undef), (D.getD 106 undef), (D.getD 107 undef), (D.getD 108 undef), (D.getD 109 undef), (D.getD 110 undef), (D.getD 111 undef), (D.getD 112 undef), (D.getD 113 undef), (D.getD 114 undef), (D.getD 115 undef), (D.getD 116 undef), (D.getD 117 undef), (D.getD 118 undef), (D.getD 119 undef), (D.getD 120 undef), (D.getD 121 undef), (D.getD 122 undef), (D.getD 123 undef), (D.getD 124 undef), (D.getD 125 undef), (D.getD 126 undef), (D.getD 127 undef), (D.getD 128 undef), (D.getD 129 undef), (D.getD 130 undef)] H
   else
   bSl (ldSl H p10 (3)) fun a_16 l_16 c_16 =>
   bSl (ldSl H p8 (3)) fun a_17 l_17 c_17 =>
   bif ((l_16 : Int) != (l_17 : Int)) then
   some (.bool false, H)
   else
   bSl (ldSl H p13 (3)) fun a_18 l_18 c_18 =>
   bSl (ldSl H p8 (3)) fun a_19 l_19 c_19 =>
   bif ((l_18 : Int) != (l_19 : Int)) then
   some (.bool false, H)
   else
   f11.K2 k n1 x2 p8 p10 x11 p13 x14 x16 x17 b18 (x11 == x17) [(D.getD 0 undef), (D.getD 1 undef), (D.getD 2 undef), (D.getD 3 undef), (D.getD 4 undef), (D.getD 5 undef), (D.getD 6 undef), (D.getD 8 undef), (D.getD 9 undef), (D.getD 10 undef), (D.getD 11 undef), (D.getD 12 undef), (D.getD 13 undef), (D.getD 14 undef), (D.getD 15 undef), (D.getD 16 undef), (D.getD 17 undef), (D.getD 18 undef), (D.getD 19 undef), (D.getD 20 undef), (D.getD 21 undef), (D.getD 22 undef), (D.getD 23 undef), (D.getD 24 undef), (D.getD 25 undef), (D.getD 26 undef), (D.getD 27 undef), (D.getD 28 undef), (D.getD 29 undef), (D.getD 30 undef), (D.getD 31 undef), (D.getD 32 undef), (D.getD 33 undef), (D.getD 34 undef), (D.getD 35 undef), (D.getD 36 undef), (D.getD 37 undef), (D.getD 38 undef), (D.getD 39 undef), (D.getD 40 undef), (D.getD 41 undef), (D.getD 42 undef), (D.getD 43 undef), (D.getD 44 undef), (D.getD 45 undef), (D.getD 46 undef), (D.getD 47 undef), (D.getD 48 undef), (D.getD 49 undef), (D.getD 50 undef), (D.getD 51 undef), (D.getD 52 undef), (D.getD 53 undef), (D.getD 54 undef), (D.getD 55 undef), (D.getD 56 undef), (D.getD 57 undef), (D.getD 58 undef), (D.getD 59 undef), .int .i64 x11, .int .i64 x17, .bool (x11 == x17), .bool (x11 == x17), .bool false, undef, undef, .bool false, .bool false, .int .i8 x2, .int .i64 (IntKind.i64.wrap x2), .int .i64 x17, .bool ((IntKind.i64.wrap x2) == x17), .bool true, .bool b18, .bool b18, .bool false, undef, undef, .bool false, .bool false, .bool false, .pointer (some ⟨p10, 3, none⟩), .slice a_16 l_16 c_16, .int .i64 (l_16 : Int), .pointer (some ⟨p8, 3, none⟩), .slice a_17 l_17 c_17, .int .i64 (l_17 : Int), .bool ((l_16 : Int) != (l_17 : Int)), .bool ((l_16 : Int) != (l_17 : Int)), .bool false, .pointer (some ⟨p13, 3, none⟩), .slice a_18 l_18 c_18, .int .i64 (l_18 : Int), .pointer (some ⟨p8, 3, none⟩), .slice a_19 l_19 c_19, .int .i64 (l_19 : Int), .bool ((l_18 : Int) != (l_19 : Int)), .bool ((l_18 : Int) != (l_19 : Int)), (D.getD 99 undef), (D.getD 100 undef), (D.getD 101 undef), (D.getD 102 undef), (D.getD 103 undef), (D.getD 104 undef), (D.getD 105 undef), (D.getD 106 undef), (D.getD 107 undef), (D.getD 108 undef), (D.getD 109 undef), (D.getD 110 undef), (D.getD 111 undef), (D.getD 112 undef), (D.getD 113 undef), (D.getD 114 undef), (D.getD 115 undef), (D.getD 116 undef), (D.getD 117 undef), (D.getD 118 undef), (D.getD 119 undef), (D.getD 120 undef), (D.getD 121 undef), (D.getD 122 undef), (D.getD 123 undef), (D.getD 124 undef), (D.getD 125 undef), (D.getD 126 undef), (D.getD 127 undef), (D.getD 128 undef), (D.getD 129 undef), (D.getD 130 undef)] H
   else
   bSl (ldSl H p10 (3)) fun a_20 l_20 c_20 =>
   bSl (ldSl H p8 (3)) fun a_21 l_21 c_21 =>
   bif ((l_20 : Int) != (l_21 : Int)) then
   some (.bool false, H)
   else
   bSl (ldSl H p13 (3)) fun a_22 l_22 c_22 =>
   bSl (ldSl H p8 (3)) fun a_23 l_23 c_23 =>
   bif ((l_22 : Int) != (l_23 : Int)) then
   some (.bool false, H)
   else
   f11.K2 k n1 x2 p8 p10 x11 p13 x14 x16 x17 b18 (x11 == x17) [(D.getD 0 undef), (D.getD 1 undef), (D.getD 2 undef), (D.getD 3 undef), (D.getD 4 undef), (D.getD 5 undef), (D.getD 6 undef), (D.getD 8 undef), (D.getD 9 undef), (D.getD 10 undef), (D.getD 11 undef), (D.getD 12 undef), (D.getD 13 undef), (D.getD 14 undef), (D.getD 15 undef), (D.getD 16 undef), (D.getD 17 undef), (D.getD 18 undef), (D.getD 19 undef), (D.getD 20 undef), (D.getD 21 undef), (D.getD 22 undef), (D.getD 23 undef), (D.getD 24 undef), (D.getD 25 undef), (D.getD 26 undef), (D.getD 27 undef), (D.getD 28 undef), (D.getD 29 undef), (D.getD 30 undef), (D.getD 31 undef), (D.getD 32 undef), (D.getD 33 undef), (D.getD 34 undef), (D.getD 35 undef), (D.getD 36 undef), (D.getD 37 undef), (D.getD 38 undef), (D.getD 39 undef), (D.getD 40 undef), (D.getD 41 undef), (D.getD 42 undef), (D.getD 43 undef), (D.getD 44 undef), (D.getD 45 undef), (D.getD 46 undef), (D.getD 47 undef), (D.getD 48 undef), (D.getD 49 undef), (D.getD 50 undef), (D.getD 51 undef), (D.getD 52 undef), (D.getD 53 undef), (D.getD 54 undef), (D.getD 55 undef), (D.getD 56 undef), (D.getD 57 undef), (D.getD 58 undef), (D.getD 59 undef), .int .i64 x11, .int .i64 x17, .bool (x11 == x17), .bool (x11 == x17), .bool false, undef, undef, .bool false, .bool false, .int .i8 x2, .int .i64 (IntKind.i64.wrap x2), .int .i64 x17, .bool ((IntKind.i64.wrap x2) == x17), .bool false, undef, .bool false, .bool false, undef, undef, .bool false, .bool false, .bool false, .pointer (some ⟨p10, 3, none⟩), .slice a_20 l_20 c_20, .int .i64 (l_20 : Int), .pointer (some ⟨p8, 3, none⟩), .slice a_21 l_21 c_21, .int .i64 (l_21 : Int), .bool ((l_20 : Int) != (l_21 : Int)), .bool ((l_20 : Int) != (l_21 : Int)), .bool false, .pointer (some ⟨p13, 3, none⟩), .slice a_22 l_22 c_22, .int .i64 (l_22 : Int), .pointer (some ⟨p8, 3, none⟩), .slice a_23 l_23 c_23, .int .i64 (l_23 : Int), .bool ((l_22 : Int) != (l_23 : Int)), .bool ((l_22 : Int) != (l_23 : Int)), (D.getD 99 undef), (D.getD 100 undef), (D.getD 101 undef), (D.getD 102 undef), (D.getD 103 undef), (D.getD 104 undef), (D.getD 105 undef), (D.getD 106 undef), (D.getD 107 undef), (D.getD 108 undef), (D.getD 109 undef), (D.getD 110 undef), (D.getD 111 undef), (D.getD 112 undef), (D.getD 113 undef), (D.getD 114 undef), (D.getD 115 undef), (D.getD 116 undef), (D.getD 117 undef), (D.getD 118 undef), (D.getD 119 undef), (D.getD 120 undef), (D.getD 121 undef), (D.getD 122 undef), (D.getD 123 undef), (D.getD 124 undef), (D.getD 125 undef), (D.getD 126 undef), (D.getD 127 undef), (D.getD 128 undef), (D.getD 129 undef), (D.getD 130 undef)] H) := by
  unfold f11.K1
  rw [gateC_eq]
  kernel_rfl
theorem f11.K2_eq (k : Nat) (n1 : Nat) (x2 : Int) (p8 : Nat) (p10 : Nat) (x11 : Int) (p13 : Nat) (x14 : Int) (x16 : Int) (x17 : Int) (b18 : Bool) (b19 : Bool) (D : List Value) (H : AHeap) : f11.K2 k n1 x2 p8 p10 x11 p13 x14 x16 x17 b18 b19 D H =
  (bif sameB H (H.bump 32) p10 then
   bSl (ldSl (H.bump 32) p10 (3)) fun a l c =>
   a.bind fun q =>
   if 0 ≤ x17 ∧ x17 < (l : Int) then
   bif sameB H (H.bump 32) q.block then
   (ldI .i64 (H.bump 32) q.block (q.off + x17.toNat * 3 + 0)).bind fun x =>
   bif sameB H (H.bump 32) p8 then
   bSl (ldSl (H.bump 32) p8 (3)) fun a_1 l_1 c_1 =>
   a_1.bind fun q_1 =>
   if 0 ≤ x17 ∧ x17 < (l_1 : Int) then
   bif sameB H (H.bump 32) q_1.block then
   (ldI .i64 (H.bump 32) q_1.block (q_1.off + x17.toNat * 3 + 0)).bind fun x_1 =>
   bif (!((x != x_1) == b19)) then
   some (.bool false, (H.bump 32))
   else
   bif sameB H (H.bump 32) p13 then
   bSl (ldSl (H.bump 32) p13 (3)) fun a_2 l_2 c_2 =>
   a_2.bind fun q_2 =>
   if 0 ≤ x17 ∧ x17 < (l_2 : Int) then
   bif sameB H (H.bump 32) q_2.block then
   (ldI .i64 (H.bump 32) q_2.block (q_2.off + x17.toNat * 3 + 0)).bind fun x_2 =>
   bif sameB H (H.bump 32) p8 then
   bSl (ldSl (H.bump 32) p8 (3)) fun a_3 l_3 c_3 =>
   a_3.bind fun q_3 =>
   if 0 ≤ x17 ∧ x17 < (l_3 : Int) then
   bif sameB H (H.bump 32) q_3.block then
   (ldI .i64 (H.bump 32) q_3.block (q_3.off + x17.toNat * 3 + 0)).bind fun x_3 =>
   bif (!((x_2 != x_3) == b18)) then
   some (.bool false, (H.bump 32))
   else
   f11.L1 k n1 x2 p8 p10 x11 p13 x14 x16 (IntKind.i64.wrap (x17 + (1 : Int))) [(D.getD 0 undef), (D.getD 1 undef), (D.getD 2 undef), (D.getD 3 undef), (D.getD 4 undef), (D.getD 5 undef), (D.getD 6 undef), .bool b18, .bool b19, (D.getD 7 undef), (D.getD 8 undef), (D.getD 9 undef), (D.getD 10 undef), (D.getD 11 undef), (D.getD 12 undef), (D.getD 13 undef), (D.getD 14 undef), (D.getD 15 undef), (D.getD 16 undef), (D.getD 17 undef), (D.getD 18 undef), (D.getD 19 undef), (D.getD 20 undef), (D.getD 21 undef), (D.getD 22 undef), (D.getD 23 undef), (D.getD 24 undef), (D.getD 25 undef), (D.getD 26 undef), (D.getD 27 undef), (D.getD 28 undef), (D.getD 29 undef), (D.getD 30 undef), (D.getD 31 undef), (D.getD 32 undef), (D.getD 33 undef), (D.getD 34 undef), (D.getD 35 undef), (D.getD 36 undef), (D.getD 37 undef), (D.getD 38 undef), (D.getD 39 undef), (D.getD 40 undef), (D.getD 41 undef), (D.getD 42 undef), (D.getD 43 undef), (D.getD 44 undef), (D.getD 45 undef), (D.getD 46 undef), .int .i64 x17, .int .i64 (IntKind.i64.wrap (x17 + (1 : Int))), (D.getD 49 undef), (D.getD 50 undef), (D.getD 51 undef), (D.getD 52 undef), (D.getD 53 undef), (D.getD 54 undef), (D.getD 55 undef), (D.getD 56 undef), (D.getD 57 undef), (D.getD 58 undef), (D.getD 59 undef), (D.getD 60 undef), (D.getD 61 undef), (D.getD 62 undef), (D.getD 63 undef), (D.getD 64 undef), (D.getD 65 undef), (D.getD 66 undef), (D.getD 67 undef), (D.getD 68 undef), (D.getD 69 undef), (D.getD 70 undef), (D.getD 71 undef), (D.getD 72 undef), (D.getD 73 undef), (D.getD 74 undef), (D.getD 75 undef), (D.getD 76 undef), (D.getD 77 undef), (D.getD 78 undef), (D.getD 79 undef), (D.getD 80 undef), (D.getD 81 undef), (D.getD 82 undef), (D.getD 83 undef), (D.getD 84 undef), (D.getD 85 undef), (D.getD 86 undef), (D.getD 87 undef), (D.getD 88 undef), (D.getD 89 undef), (D.getD 90 undef), (D.getD 91 undef), (D.getD 92 undef), (D.getD 93 undef), (D.getD 94 undef), (D.getD 95 undef), (D.getD 96 undef), (D.getD 97 undef), .pointer (some ⟨p10, 3, none⟩), .slice a l c, .int .i64 x17, .pointer (some ⟨q.block, q.off + x17.toNat * 3, none⟩), .pointer (some ⟨q.block, q.off + x17.toNat * 3 + 0, none⟩), .int .i64 x, .pointer (some ⟨p8, 3, none⟩), .slice a_1 l_1 c_1, .int .i64 x17, .pointer (some ⟨q_1.block, q_1.off + x17.toNat * 3, none⟩), .pointer (some ⟨q_1.block, q_1.off + x17.toNat * 3 + 0, none⟩), .int .i64 x_1, .bool (x != x_1), .bool b19, .bool (!((x != x_1) == b19)), .bool false, .pointer (some ⟨p13, 3, none⟩), .slice a_2 l_2 c_2, .int .i64 x17, .pointer (some ⟨q_2.block, q_2.off + x17.toNat * 3, none⟩), .pointer (some ⟨q_2.block, q_2.off + x17.toNat * 3 + 0, none⟩), .int .i64 x_2, .pointer (some ⟨p8, 3, none⟩), .slice a_3 l_3 c_3, .int .i64 x17, .pointer (some ⟨q_3.block, q_3.off + x17.toNat * 3, none⟩), .pointer (some ⟨q_3.block, q_3.off + x17.toNat * 3 + 0, none⟩), .int .i64 x_3, .bool (x_2 != x_3), .bool b18, .bool (!((x_2 != x_3) == b18)), .bool (!((x_2 != x_3) == b18))] (H.bump 32)
   else none
   else none
   else none
   else none
   else none
   else none
   else none
   else none
   else none
   else none
   else none
   else none) := by
  unfold f11.K2
  rw [gateC_eq]
  kernel_rfl
theorem f11_eq (k : Nat) (a0 : Option Addr) (l0 : Nat) (c0 : Nat) (x1 : Int) (x2 : Int) (H : AHeap) : C (k + 1) 11 [.slice a0 l0 c0, .int .u8 x1, .int .i8 x2] H =
  (bif (decide ((l0 : Int) > (100 : Int))) then
   some (.bool true, H)
   else
   cG (C k 36 [] H) fun g H_1 =>
   alK none H_1 ⟨[.slice none 0 0, .slice none 0 0, .slice none 0 0, .slice none 0 0, .slice none 0 0, .slice none 0 0], 0, .rw, 0⟩ fun i H_2 =>
   if notTup (.agg g) = true ∧ (g.toList).length = 6 then
   (AHeap.wr H_2 i (0) g.toList).bind fun H_3 =>
   (AHeap.row H_3 i (0) 6).bind fun g_1 =>
   cG (C k 37 [.agg (g_1 : List Value).toArray, .slice a0 l0 c0] H_3) fun g_2 H_4 =>
   alK none H_4 ⟨[.slice none 0 0, .int .i64 0, .slice none 0 0, .slice none 0 0], 0, .rw, 0⟩ fun i_1 H_5 =>
   if notTup (.agg g_2) = true ∧ (g_2.toList).length = 4 then
   (AHeap.wr H_5 i_1 (0) g_2.toList).bind fun H_6 =>
   (AHeap.row H_6 i (0) 6).bind fun g_3 =>
   (AHeap.row H_6 i_1 (0) 4).bind fun g_4 =>
   cT (C k 38 [.agg (g_3 : List Value).toArray, .agg (g_4 : List Value).toArray, .int .i64 ((IntKind.i64.wrap x1).tmod (3 : Int)), .int .i64 18, .int .i64 0, .int .i64 (IntKind.i64.wrap x2)] H_6) fun u H_7 =>
   exG (u.toList[0]?) fun g_5 =>
   exI .i64 (u.toList[1]?) fun x =>
   exB (u.toList[2]?) fun b =>
   alK none H_7 ⟨[.slice none 0 0, .int .i64 0, .slice none 0 0, .slice none 0 0], 0, .rw, 0⟩ fun i_2 H_8 =>
   if notTup (.agg g_5) = true ∧ (g_5.toList).length = 4 then
   (AHeap.wr H_8 i_2 (0) g_5.toList).bind fun H_9 =>
   (AHeap.row H_9 i (0) 6).bind fun g_6 =>
   (AHeap.row H_9 i_1 (0) 4).bind fun g_7 =>
   cT (C k 38 [.agg (g_6 : List Value).toArray, .agg (g_7 : List Value).toArray, .int .i64 ((IntKind.i64.wrap x1).tmod (3 : Int)), .int .i64 19, .int .i64 0, .int .i64 (IntKind.i64.wrap x2)] H_9) fun u_1 H_10 =>
   exG (u_1.toList[0]?) fun g_8 =>
   exI .i64 (u_1.toList[1]?) fun x_1 =>
   exB (u_1.toList[2]?) fun b_1 =>
   alK none H_10 ⟨[.slice none 0 0, .int .i64 0, .slice none 0 0, .slice none 0 0], 0, .rw, 0⟩ fun i_3 H_11 =>
   if notTup (.agg g_8) = true ∧ (g_8.toList).length = 4 then
   (AHeap.wr H_11 i_3 (0) g_8.toList).bind fun H_12 =>
   bif (!(b == b_1)) then
   some (.bool false, H_12)
   else
   bif (!b) then
   cB (C k 35 [] H_12) fun b_2 H_13 =>
   some (.bool b_2, H_13)
   else
   f11.L1 k k x2 i_1 i_2 x i_3 x_1 0 0 [.slice a0 l0 c0, .int .u8 x1, .bool false, .pointer (some ⟨i, 0, none⟩), .int .i64 ((IntKind.i64.wrap x1).tmod (3 : Int)), .bool b, .bool b_1, undef, undef, .slice a0 l0 c0, .int .i64 (l0 : Int), .bool (decide ((l0 : Int) > (100 : Int))), .agg g, .agg (g_1 : List Value).toArray, .slice a0 l0 c0, .agg g_2, .int .u8 x1, .int .i64 (IntKind.i64.wrap x1), .int .i64 ((IntKind.i64.wrap x1).tmod (3 : Int)), .tuple u, .agg (g_3 : List Value).toArray, .agg (g_4 : List Value).toArray, .int .i64 ((IntKind.i64.wrap x1).tmod (3 : Int)), .int .i8 x2, .int .i64 (IntKind.i64.wrap x2), .tuple u, .agg g_5, .int .i64 x, .bool b, .tuple u_1, .agg (g_6 : List Value).toArray, .agg (g_7 : List Value).toArray, .int .i64 ((IntKind.i64.wrap x1).tmod (3 : Int)), .int .i8 x2, .int .i64 (IntKind.i64.wrap x2), .tuple u_1, .agg g_8, .int .i64 x_1, .bool b_1, .bool b, .bool b_1, .bool (!(b == b_1)), .bool b, .bool (!b), undef, undef, undef, undef, undef, undef, undef, undef, undef, undef, undef, undef, undef, undef, undef, undef, undef, undef, undef, undef, undef, undef, undef, undef, undef, undef, undef, undef, undef, undef, undef, undef, undef, undef, undef, undef, undef, undef, undef, undef, undef, undef, undef, undef, undef, undef, undef, undef, undef, undef, undef, undef, undef, undef, undef, undef, undef, undef, undef, undef, undef, undef, undef, undef, undef, undef, undef, undef, undef, undef, undef, undef, undef, undef, undef, undef, undef, undef, undef, undef, undef, undef, undef, undef, undef, undef, undef, undef] H_12
   else none
   else none
   else none
   else none) := by kernel_rfl

/- f12 "interleave/interleavelaw08.ObjectIndependent"  names:  -/
noncomputable def f12.Q0 (k : Nat)  : Kont (Value × AHeap) := retQ Try.prog Try.f12
noncomputable def f12.K1 (k : Nat)  (p20 : Nat) (b22 : Bool) (p23 : Nat) (b25 : Bool) (D : List Value) (H : AHeap) : Option (Value × AHeap) :=
  gateC (Sub (bodyOf Try.f12) [1, 1, 1, 1, 1, 1, 1, 1, 1, 1, 1, 1, 0]) (Sub (bodyOf Try.f12) [1, 1, 1, 1, 1, 1, 1, 1, 1, 1, 1, 1, 1]) k (run Try.prog (C k) k (Sub (bodyOf Try.f12) [1, 1, 1, 1, 1, 1, 1, 1, 1, 1, 1, 1, 1]) (f12.Q0 k )) [(D.getD 0 undef), (D.getD 1 undef), (D.getD 2 undef), undef, undef, undef, (D.getD 3 undef), (D.getD 4 undef), (D.getD 5 undef), (D.getD 6 undef), (D.getD 7 undef), (D.getD 8 undef), (D.getD 9 undef), (D.getD 10 undef), (D.getD 11 undef), (D.getD 12 undef), (D.getD 13 undef), (D.getD 14 undef), (D.getD 15 undef), (D.getD 16 undef), .pointer (some ⟨p20, 0, none⟩), (D.getD 17 undef), .bool b22, .pointer (some ⟨p23, 0, none⟩), (D.getD 18 undef), .bool b25, (D.getD 19 undef), (D.getD 20 undef), (D.getD 21 undef), (D.getD 22 undef), (D.getD 23 undef), (D.getD 24 undef), (D.getD 25 undef), (D.getD 26 undef), (D.getD 27 undef), (D.getD 28 undef), (D.getD 29 undef), (D.getD 30 undef), (D.getD 31 undef), (D.getD 32 undef), (D.getD 33 undef), (D.getD 34 undef), (D.getD 35 undef), (D.getD 36 undef), (D.getD 37 undef), (D.getD 38 undef), (D.getD 39 undef), (D.getD 40 undef), (D.getD 41 undef), (D.getD 42 undef), (D.getD 43 undef), (D.getD 44 undef), (D.getD 45 undef), (D.getD 46 undef), (D.getD 47 undef), (D.getD 48 undef), (D.getD 49 undef), undef, (D.getD 50 undef), (D.getD 51 undef), (D.getD 52 undef), (D.getD 53 undef), (D.getD 54 undef), (D.getD 55 undef), (D.getD 56 undef), (D.getD 57 undef), (D.getD 58 undef), (D.getD 59 undef), (D.getD 60 undef), (D.getD 61 undef), (D.getD 62 undef), (D.getD 63 undef), (D.getD 64 undef), (D.getD 65 undef), (D.getD 66 undef), (D.getD 67 undef), (D.getD 68 undef), (D.getD 69 undef), (D.getD 70 undef), (D.getD 71 undef), (D.getD 72 undef), (D.getD 73 undef), (D.getD 74 undef), (D.getD 75 undef), (D.getD 76 undef), (D.getD 77 undef), (D.getD 78 undef), (D.getD 79 undef), (D.getD 80 undef), (D.getD 81 undef), (D.getD 82 undef), (D.getD 83 undef), (D.getD 84 undef), (D.getD 85 undef), (D.getD 86 undef), (D.getD 87 undef), (D.getD 88 undef), (D.getD 89 undef), (D.getD 90 undef), (D.getD 91 undef), undef, undef, undef, undef, undef, undef, undef, undef, undef, undef, undef, undef, undef] H
theorem f12.K1_eq (k : Nat)  (p20 : Nat) (b22 : Bool) (p23 : Nat) (b25 : Bool) (D : List Value) (H : AHeap) : f12.K1 k  p20 b22 p23 b25 D H =
  (bif b22 then
   bif b25 then
   (AHeap.row H p20 (0) 4).bind fun g =>
   (AHeap.row H p23 (0) 4).bind fun g_1 =>
   cB (C k 32 [.agg (g : List Value).toArray, .agg (g_1 : List Value).toArray] H) fun b H_1 =>
   bif b then
   cB (C k 35 [] H_1) fun b_1 H_2 =>
   some (.bool b_1, H_2)
   else
   some (.bool false, H_1)
   else
   some (.bool false, H)
   else
   some (.bool false, H)) := by
  unfold f12.K1
  rw [gateC_eq]
  kernel_rfl
theorem f12_eq (k : Nat) (a0 : Option Addr) (l0 : Nat) (c0 : Nat) (x1 : Int) (x2 : Int) (H : AHeap) : C (k + 1) 12 [.slice a0 l0 c0, .int .u8 x1, .int .u8 x2] H =
  (bif (decide ((l0 : Int) > (100 : Int))) then
   some (.bool true, H)
   else
   cG (C k 36 [] H) fun g H_1 =>
   alK none H_1 ⟨[.slice none 0 0, .slice none 0 0, .slice none 0 0, .slice none 0 0, .slice none 0 0, .slice none 0 0], 0, .rw, 0⟩ fun i H_2 =>
   if notTup (.agg g) = true ∧ (g.toList).length = 6 then
   (AHeap.wr H_2 i (0) g.toList).bind fun H_3 =>
   (AHeap.row H_3 i (0) 6).bind fun g_1 =>
   cG (C k 37 [.agg (g_1 : List Value).toArray, .slice a0 l0 c0] H_3) fun g_2 H_4 =>
   alK none H_4 ⟨[.slice none 0 0, .int .i64 0, .slice none 0 0, .slice none 0 0], 0, .rw, 0⟩ fun i_1 H_5 =>
   if notTup (.agg g_2) = true ∧ (g_2.toList).length = 4 then
   (AHeap.wr H_5 i_1 (0) g_2.toList).bind fun H_6 =>
   alK none H_6 ⟨[.int .i64 6, .int .i64 7, .int .i64 18, .int .i64 16], 1, .rw, 0⟩ fun i_2 H_7 =>
   if 0 ≤ ((IntKind.i64.wrap x1).tmod (4 : Int)) ∧ ((IntKind.i64.wrap x1).tmod (4 : Int)) < (4 : Int) then
   bif sameB H_7 (H_7.bump 14) i_2 then
   (ldI .i64 (H_7.bump 14) i_2 (0 + ((IntKind.i64.wrap x1).tmod (4 : Int)).toNat * 1)).bind fun x =>
   alK (some (H_7.next + 6)) (H_7.bump 14) ⟨[.int .i64 8, .int .i64 9, .int .i64 10, .int .i64 11], 1, .rw, 0⟩ fun i_3 H_8 =>
   if 0 ≤ ((IntKind.i64.wrap x2).tmod (4 : Int)) ∧ ((IntKind.i64.wrap x2).tmod (4 : Int)) < (4 : Int) then
   bif sameB H_7 H_8 i_3 then
   (ldI .i64 H_8 i_3 (0 + ((IntKind.i64.wrap x2).tmod (4 : Int)).toNat * 1)).bind fun x_1 =>
   bif (((IntKind.i64.wrap ((IntKind.i64.wrap x1).tdiv (4 : Int))).tmod (3 : Int)) == ((IntKind.i64.wrap ((IntKind.i64.wrap x2).tdiv (4 : Int))).tmod (3 : Int))) then
   cB (C k 35 [] H_8) fun b H_9 =>
   some (.bool b, H_9)
   else
   (AHeap.row H_8 i (0) 6).bind fun g_3 =>
   (AHeap.row H_8 i_1 (0) 4).bind fun g_4 =>
   cT (C k 38 [.agg (g_3 : List Value).toArray, .agg (g_4 : List Value).toArray, .int .i64 ((IntKind.i64.wrap ((IntKind.i64.wrap x1).tdiv (4 : Int))).tmod (3 : Int)), .int .i64 x, .int .i64 0, .int .i64 (-1)] H_8) fun u H_10 =>
   exG (u.toList[0]?) fun g_5 =>
   exI .i64 (u.toList[1]?) fun x_2 =>
   exB (u.toList[2]?) fun b_1 =>
   alK none H_10 ⟨[.slice none 0 0, .int .i64 0, .slice none 0 0, .slice none 0 0], 0, .rw, 0⟩ fun i_4 H_11 =>
   if notTup (.agg g_5) = true ∧ (g_5.toList).length = 4 then
   (AHeap.wr H_11 i_4 (0) g_5.toList).bind fun H_12 =>
   (AHeap.row H_12 i (0) 6).bind fun g_6 =>
   (AHeap.row H_12 i_1 (0) 4).bind fun g_7 =>
   cT (C k 38 [.agg (g_6 : List Value).toArray, .agg (g_7 : List Value).toArray, .int .i64 ((IntKind.i64.wrap ((IntKind.i64.wrap x2).tdiv (4 : Int))).tmod (3 : Int)), .int .i64 x_1, .int .i64 2, .int .i64 (-1)] H_12) fun u_1 H_13 =>
   exG (u_1.toList[0]?) fun g_8 =>
   exI .i64 (u_1.toList[1]?) fun x_3 =>
   exB (u_1.toList[2]?) fun b_2 =>
   alK none H_13 ⟨[.slice none 0 0, .int .i64 0, .slice none 0 0, .slice none 0 0], 0, .rw, 0⟩ fun i_5 H_14 =>
   if notTup (.agg g_8) = true ∧ (g_8.toList).length = 4 then
   (AHeap.wr H_14 i_5 (0) g_8.toList).bind fun H_15 =>
   (AHeap.row H_15 i (0) 6).bind fun g_9 =>
   (AHeap.row H_15 i_4 (0) 4).bind fun g_10 =>
   cT (C k 38 [.agg (g_9 : List Value).toArray, .agg (g_10 : List Value).toArray, .int .i64 ((IntKind.i64.wrap ((IntKind.i64.wrap x2).tdiv (4 : Int))).tmod (3 : Int)), .int .i64 x_1, .int .i64 2, .int .i64 (-1)] H_15) fun u_2 H_16 =>
   exG (u_2.toList[0]?) fun g_11 =>
   exI .i64 (u_2.toList[1]?) fun x_4 =>
   exB (u_2.toList[2]?) fun b_3 =>
   alK none H_16 ⟨[.slice none 0 0, .int .i64 0, .slice none 0 0, .slice none 0 0], 0, .rw, 0⟩ fun i_6 H_17 =>
   if notTup (.agg g_11) = true ∧ (g_11.toList).length = 4 then
   (AHeap.wr H_17 i_6 (0) g_11.toList).bind fun H_18 =>
   (AHeap.row H_18 i (0) 6).bind fun g_12 =>
   (AHeap.row H_18 i_5 (0) 4).bind fun g_13 =>
   cT (C k 38 [.agg (g_12 : List Value).toArray, .agg (g_13 : List Value).toArray, .int .i64 ((IntKind.i64.wrap ((IntKind.i64.wrap x1).tdiv (4 : Int))).tmod (3 : Int)), .int .i64 x, .int .i64 0, .int .i64 (-1)] H_18) fun u_3 H_19 =>
   exG (u_3.toList[0]?) fun g_14 =>
   exI .i64 (u_3.toList[1]?) fun x_5 =>
   exB (u_3.toList[2]?) fun b_4 =>
   alK none H_19 ⟨[.slice none 0 0, .int .i64 0, .slice none 0 0, .slice none 0 0], 0, .rw, 0⟩ fun i_7 H_20 =>
   if notTup (.agg g_14) = true ∧ (g_14.toList).length = 4 then
   (AHeap.wr H_20 i_7 (0) g_14.toList).bind fun H_21 =>
   bif (!b_1) then
   cB (C k 35 [] H_21) fun b_5 H_22 =>
   some (.bool b_5, H_22)
   else
   bif (!b_2) then
   cB (C k 35 [] H_21) fun b_6 H_23 =>
   some (.bool b_6, H_23)
   else
   f12.K1 k i_6 b_3 i_7 b_4 [.slice a0 l0 c0, .int .u8 x1, .int .u8 x2, .bool false, .pointer (some ⟨i, 0, none⟩), .pointer (some ⟨i_1, 0, none⟩), .slice (some ⟨i_2, 0, none⟩) 4 4, .int .i64 x, .int .i64 x_1, .int .i64 ((IntKind.i64.wrap ((IntKind.i64.wrap x1).tdiv (4 : Int))).tmod (3 : Int)), .int .i64 ((IntKind.i64.wrap ((IntKind.i64.wrap x2).tdiv (4 : Int))).tmod (3 : Int)), .pointer (some ⟨i_4, 0, none⟩), .int .i64 x_2, .bool b_1, .pointer (some ⟨i_5, 0, none⟩), .int .i64 x_3, .bool b_2, .int .i64 x_4, .int .i64 x_5, .slice a0 l0 c0, .int .i64 (l0 : Int), .bool (decide ((l0 : Int) > (100 : Int))), .agg g, .agg (g_1 : List Value).toArray, .slice a0 l0 c0, .agg g_2, .slice (some ⟨i_2, 0, none⟩) 4 4, .slice (some ⟨i_2, 0, none⟩) 4 4, .int .u8 x1, .int .i64 (IntKind.i64.wrap x1), .int .i64 ((IntKind.i64.wrap x1).tmod (4 : Int)), .pointer (some ⟨i_2, 0 + ((IntKind.i64.wrap x1).tmod (4 : Int)).toNat * 1, none⟩), .int .i64 x, .slice (some ⟨i_3, 0, none⟩) 4 4, .int .u8 x2, .int .i64 (IntKind.i64.wrap x2), .int .i64 ((IntKind.i64.wrap x2).tmod (4 : Int)), .pointer (some ⟨i_3, 0 + ((IntKind.i64.wrap x2).tmod (4 : Int)).toNat * 1, none⟩), .int .i64 x_1, .int .u8 x1, .int .i64 (IntKind.i64.wrap x1), .int .i64 (IntKind.i64.wrap ((IntKind.i64.wrap x1).tdiv (4 : Int))), .int .i64 ((IntKind.i64.wrap ((IntKind.i64.wrap x1).tdiv (4 : Int))).tmod (3 : Int)), .int .u8 x2, .int .i64 (IntKind.i64.wrap x2), .int .i64 (IntKind.i64.wrap ((IntKind.i64.wrap x2).tdiv (4 : Int))), .int .i64 ((IntKind.i64.wrap ((IntKind.i64.wrap x2).tdiv (4 : Int))).tmod (3 : Int)), .int .i64 ((IntKind.i64.wrap ((IntKind.i64.wrap x1).tdiv (4 : Int))).tmod (3 : Int)), .int .i64 ((IntKind.i64.wrap ((IntKind.i64.wrap x2).tdiv (4 : Int))).tmod (3 : Int)), .bool (((IntKind.i64.wrap ((IntKind.i64.wrap x1).tdiv (4 : Int))).tmod (3 : Int)) == ((IntKind.i64.wrap ((IntKind.i64.wrap x2).tdiv (4 : Int))).tmod (3 : Int))), .tuple u, .agg (g_3 : List Value).toArray, .agg (g_4 : List Value).toArray, .int .i64 ((IntKind.i64.wrap ((IntKind.i64.wrap x1).tdiv (4 : Int))).tmod (3 : Int)), .int .i64 x, .tuple u, .agg g_5, .int .i64 x_2, .bool b_1, .tuple u_1, .agg (g_6 : List Value).toArray, .agg (g_7 : List Value).toArray, .int .i64 ((IntKind.i64.wrap ((IntKind.i64.wrap x2).tdiv (4 : Int))).tmod (3 : Int)), .int .i64 x_1, .tuple u_1, .agg g_8, .int .i64 x_3, .bool b_2, .tuple u_2, .agg (g_9 : List Value).toArray, .agg (g_10 : List Value).toArray, .int .i64 ((IntKind.i64.wrap ((IntKind.i64.wrap x2).tdiv (4 : Int))).tmod (3 : Int)), .int .i64 x_1, .tuple u_2, .agg g_11, .int .i64 x_4, .bool b_3, .tuple u_3, .agg (g_12 : List Value).toArray, .agg (g_13 : List Value).toArray, .int .i64 ((IntKind.i64.wrap ((IntKind.i64.wrap x1).tdiv (4 : Int))).tmod (3 : Int)), .int .i64 x, .tuple u_3, .agg g_14, .int .i64 x_5, .bool b_4, .bool b_1, .bool (!b_1), .bool false, .bool b_2, .bool (!b_2), .bool (!b_2)] H_21
   else none
   else none
   else none
   else none
   else none
   else none
   else none
   else none
   else none
   else none) := by kernel_rfl


end Go.Proofs.MxF
end

section
set_option linter.unusedSimpArgs false
/- ObjectReleases. -/
set_option linter.unusedVariables false
namespace Go.Mx
open Go
theorem splice_all {zs cs : List Value} (h : zs.length = cs.length) : splice zs 0 cs = cs := by
  unfold splice
  rw [List.take_zero, List.drop_eq_nil_of_le (by omega)]; simp
/-- what is handed back is laid in a box -/
theorem ok_box {R : Type} {Q : R → Prop} {H : AHeap} {zs cs : List Value} {n e : Nat} {K : Nat → AHeap → Option R} (hl : zs.length = cs.length) (hn : cs.length = n ∧ notTup (.agg cs.toArray) = true)
    (k : ∀ i H', i = H.next → H'.next = H.next + 1 → Agree H H' → At H' i ⟨cs, e, .rw, 1⟩ → Ok (K i H') Q) :
    Ok (alK none H ⟨zs, e, .rw, 0⟩ fun i H2 => if notTup (.agg cs.toArray) = true ∧ (cs.toArray.toList).length = n then (AHeap.wr H2 i 0 cs.toArray.toList).bind (K i) else none) Q := by
  refine ok_al fun i H2 hi n2 A2 B2 => ok_if ⟨hn.2, hn.1⟩ (ok_wr B2 rfl (by simp [hl]) fun H3 W3 => ?_)
  have b := W3.at'
  simp only [splice_all hl] at b
  exact k i H3 hi (by rw [W3.next]; exact n2) (A2.wrote W3 (by omega)) b
theorem ok_boxs {R : Type} {Q : R → Prop} {H0 H : AHeap} {s : Nat} {zs cs : List Value} {n e : Nat} {K : Nat → AHeap → Option R} (A : Agree H0 H) (f : Free H s) (h : H0.next ≤ s) (hl : zs.length = cs.length) (hn : cs.length = n ∧ notTup (.agg cs.toArray) = true)
    (k : ∀ H', H'.next = H.next → Agree H0 H' → At H' s ⟨cs, e, .rw, 1⟩ → Sub' H H' → (∀ i, Free H i → i ≠ s → Free H' i) → Ok (K s H') Q) :
    Ok (alK (some s) H ⟨zs, e, .rw, 0⟩ fun i H2 => if notTup (.agg cs.toArray) = true ∧ (cs.toArray.toList).length = n then (AHeap.wr H2 i 0 cs.toArray.toList).bind (K i) else none) Q := by
  refine ok_als A f h fun H2 n2 A2 B2 S2 F2 => ok_if ⟨hn.2, hn.1⟩ (ok_wr B2 rfl (by simp [hl]) fun H3 W3 => ?_)
  have b := W3.at'
  simp only [splice_all hl] at b
  refine k H3 (by rw [W3.next]; exact n2) (A2.wrote W3 h) b (fun i b' x => (S2 i b' x).wrote W3 (Free.ne f x)) (fun i x hne => ?_)
  have x2 := F2 i x hne
  refine ⟨by rw [W3.next]; exact x2.1, ?_⟩
  rw [W3.old i hne]; exact x2.2
theorem ty_i8s4 {P : Program} {H : AHeap} {n : Nat} {t e : TypeId} {fs : Array Field} (hu : P.underlying t = some (.struct fs)) (hts : fs.toList.map (·.type) = [e, e, e, e]) (he : P.underlying e = some (.int .i8)) (cs : List Value) (h : TyV P H (n + 1 + 1) t cs) :
    cs.length = 4 ∧ ∃ x0 x1 x2 x3 : Int, cs = [.int .i8 x0, .int .i8 x1, .int .i8 x2, .int .i8 x3] := by
  obtain ⟨_, _, rfl, k0, _, _, rfl, k1, _, _, rfl, k2, _, _, rfl, k3, rfl⟩ := tyV_structT hu hts h
  obtain ⟨x0, rfl, _⟩ := tyV_int he k0
  obtain ⟨x1, rfl, _⟩ := tyV_int he k1
  obtain ⟨x2, rfl, _⟩ := tyV_int he k2
  obtain ⟨x3, rfl, _⟩ := tyV_int he k3
  exact ⟨rfl, x0, x1, x2, x3, rfl⟩
theorem rep_i8s4 {P : Program} {H : AHeap} {n m : Nat} {t e : TypeId} {fs : Array Field} (hu : P.underlying t = some (.struct fs)) (hts : fs.toList.map (·.type) = [e, e, e, e]) (he : P.underlying e = some (.int .i8)) {cs : List Value} (h : TyRep (TyV P H (n + 1 + 1) t) m cs) :
    ∀ j, j < m → ∃ x0 x1 x2 x3 : Int, (cs.drop (j * 4)).take 4 = [.int .i8 x0, .int .i8 x1, .int .i8 x2, .int .i8 x3] :=
  tyRep_row (q := fun cs => ∃ x0 x1 x2 x3 : Int, cs = [.int .i8 x0, .int .i8 x1, .int .i8 x2, .int .i8 x3]) (fun cs h => ty_i8s4 hu hts he cs h) h
end Go.Mx
namespace Go.Proofs.MxF
open Go Go.Mx Go.Proofs
def fsOfE (d : Option TypeDesc) : Array Field := match d with | some (.struct fs) => fs | _ => #[]
theorem ag67 : aggT Try.prog 67 = false := by kernel_rfl
theorem und67 : Try.prog.underlying 67 = some (.slice 82) := by kernel_rfl
theorem cells82 : Try.prog.cellsOf 82 = 4 := by kernel_rfl
theorem und82 : Try.prog.underlying 82 = some (.struct (fsOfE (Try.prog.underlying 82))) := by kernel_rfl
theorem fs82 : (fsOfE (Try.prog.underlying 82)).toList.map (·.type) = [76, 76, 76, 76] := by kernel_rfl
theorem und76 : Try.prog.underlying 76 = some (.int .i8) := by kernel_rfl
theorem ag76 : aggT Try.prog 76 = false := by kernel_rfl
theorem ag5' : aggT Try.prog 5 = false := by kernel_rfl
theorem und5' : Try.prog.underlying 5 = some (.int .u8) := by kernel_rfl
/-- a list of events -/
theorem arg_events {H : AHeap} {n : Nat} {v : Value} (hF : ∀ i, H.next ≤ i → H.get i = none) (h : ArgV Try.prog H (n + 1 + 1 + 1) 67 v) : ∃ a l c es, v = .slice a l c ∧ Cells H a (l * 4) es ∧ Evs es l := by
  obtain ⟨a, len, c, es, rfl, hC, hR⟩ := arg_slice (n := n + 1 + 1) ag67 und67 cells82 hF h
  exact ⟨a, len, c, es, rfl, hC, rep_i8s4 (n := n) und82 fs82 und76 hR⟩
theorem arg_u8 {H : AHeap} {n : Nat} {v : Value} (h : ArgV Try.prog H (n + 1) 5 v) : ∃ x : Int, v = .int .u8 x ∧ 0 ≤ x ∧ x ≤ 255 := by
  obtain ⟨m, rfl, w⟩ := arg_int ag5' und5' h
  simp only [Lit.wf, Bool.and_eq_true, decide_eq_true_eq] at w
  exact ⟨m, rfl, w⟩
theorem arg_i8 {H : AHeap} {n : Nat} {v : Value} (h : ArgV Try.prog H (n + 1) 76 v) : ∃ x : Int, v = .int .i8 x ∧ -128 ≤ x ∧ x ≤ 127 := by
  obtain ⟨m, rfl, w⟩ := arg_int ag76 und76 h
  simp only [Lit.wf, Bool.and_eq_true, decide_eq_true_eq] at w
  exact ⟨m, rfl, w⟩
theorem wrap_u8 {x : Int} (h : 0 ≤ x) (h' : x ≤ 255) : IntKind.i64.wrap x = x := by
  rw [IntWalk.i64_in _ (by omega)]
theorem applyR_t {w : Wld} {s : SyncS} {th kind obj wake : Int} (h : enabledS w s th kind obj = true) : applyR w s th kind obj wake = ((applyV w s th kind obj wake).1, (applyV w s th kind obj wake).2, true) := by unfold applyR; rw [h]; rfl
theorem applyR_f {w : Wld} {s : SyncS} {th kind obj wake : Int} (h : enabledS w s th kind obj = false) : applyR w s th kind obj wake = (zeroS, 0, false) := by unfold applyR; rw [h]; rfl
theorem CellsF.sub {F : Nat → Prop} {H H' : AHeap} {a : Option Addr} {n : Nat} {cs : List Value} (h : CellsF F H a n cs) (S : Sub' H H') : CellsF F H' a n cs := ⟨Cells.sub h.1 S, h.2⟩
theorem SyncR.sub {F : Nat → Prop} {H H' : AHeap} {cs : List Value} {s : SyncS} (h : SyncR F H cs s) (S : Sub' H H') : SyncR F H' cs s := by
  obtain ⟨aL, lL, cL, aD, lD, cD, aT, lT, cT, ls, e, h⟩ := h
  exact ⟨aL, lL, cL, aD, lD, cD, aT, lT, cT, ls, e, ⟨CellsF.sub h.L S, CellsF.sub h.D S, CellsF.sub h.T S, h.locks, fun x hx => CellsF.sub (h.rd x hx) S⟩⟩
theorem box_row {H : AHeap} {p n e v : Nat} {cs : List Value} (b : At H p ⟨cs, e, .rw, v⟩) (h : cs.length = n) : H.row p 0 n = some cs := by
  rw [row_at b (by simp) (by simp [h]), List.drop_zero, List.take_of_length_le (by simp [h])]
/-- Apply, its answer put into a box -/
theorem ok_apply {k : Nat} {R : Type} {Q : R → Prop} {F G : Nat → Prop} {H : AHeap} {wc cs : List Value} {s : SyncS} (hk : 1400 ≤ k) (hF : ∀ i, H.next ≤ i → H.get i = none) (hw : WorldR F H wc w0) (hs : SyncR G H cs s) (hr : ∀ x ∈ s.locks, x.rd.length ≤ 11) {th kd ob wk : Int} {K : Array Value → AHeap → Option R} {s' : SyncS} {v : Int} {b : Bool} (e : applyR w0 s th kd ob wk = (s', v, b))
    (c : ∀ cs' H', cs'.length = 4 ∧ notTup (.agg cs'.toArray) = true → SyncR (H.next ≤ ·) H' cs' s' → Agree H H' → Ok (K #[.agg cs'.toArray, .int .i64 v, .bool b] H') Q) :
    Ok (cT (C k 38 [.agg wc.toArray, .agg cs.toArray, .int .i64 th, .int .i64 kd, .int .i64 ob, .int .i64 wk] H) K) Q := by
  refine ok_cTs (f38_spec hk hF hw hs hr th kd ob wk) fun u H1 hp => ?_
  rw [e] at hp
  obtain ⟨cs1, hv, hs1, A1⟩ := hp
  exact ⟨[.agg cs1.toArray, .int .i64 v, .bool b], hv, c cs1 H1 hs1.len hs1 A1⟩
theorem inv_small {s : SyncS} (h : InvS s) : s.ths.length ≤ 1000 ∧ s.done.length ≤ 1000 ∧ s.locks.length ≤ 1000 ∧ ∀ x ∈ s.locks, x.rd.length ≤ 1000 :=
  ⟨by rw [h.nt]; omega, by rw [h.nd]; omega, by rw [h.nl]; omega, fun x hx => by have := inv_rd h x hx; omega⟩
section
variable {k : Nat} {F G : Nat → Prop} {p7 p8 p10 e7 v7 e8 v8 e10 v10 : Nat} {wc cs : List Value} {s : SyncS}
theorem f10_K1 (hk : 1500 ≤ k) {H : AHeap} (hF : ∀ i, H.next ≤ i → H.get i = none) (hw : WorldR F H wc w0) (hs : SyncR G H cs s) (hI : InvS s) (b7 : At H p7 ⟨wc, e7, .rw, v7⟩) (b8 : At H p8 ⟨cs, e8, .rw, v8⟩)
    (b10 : At H p10 ⟨[.int .i64 6, .int .i64 7, .int .i64 8, .int .i64 9, .int .i64 10, .int .i64 11], e10, .rw, v10⟩) (x9 x11 x12 : Int) (h11 : 0 ≤ x11 ∧ x11 < 3) (D : List Value) :
    Ok (f10.K1 k p7 p8 x9 p10 x11 x12 D H) fun r => r.1 = .bool true ∧ True := by
  rw [f10.K1_eq]
  obtain ⟨hwl, hwn⟩ := hw.len
  obtain ⟨hcl, hcn⟩ := hs.len
  obtain ⟨ka, kb, hka, hkb, hkk⟩ : ∃ ka kb : Int, (∀ H', Agree H H' → ldI .i64 H' p10 (0 + x11.toNat * 2 + (0 : Int).toNat * 1) = some ka) ∧ (∀ H', Agree H H' → ldI .i64 H' p10 (0 + x11.toNat * 2 + (1 : Int).toNat * 1) = some kb) ∧ (ka = 6 ∧ kb = 7 ∨ ka = 8 ∧ kb = 9 ∨ ka = 10 ∧ kb = 11) := by
    have : x11 = 0 ∨ x11 = 1 ∨ x11 = 2 := by omega
    rcases this with rfl | rfl | rfl
    · exact ⟨6, 7, fun H' A => ldI_at (b10.agree A) (by simp) rfl, fun H' A => ldI_at (b10.agree A) (by simp) rfl, .inl ⟨rfl, rfl⟩⟩
    · exact ⟨8, 9, fun H' A => ldI_at (b10.agree A) (by simp) rfl, fun H' A => ldI_at (b10.agree A) (by simp) rfl, .inr (.inl ⟨rfl, rfl⟩)⟩
    · exact ⟨10, 11, fun H' A => ldI_at (b10.agree A) (by simp) rfl, fun H' A => ldI_at (b10.agree A) (by simp) rfl, .inr (.inr ⟨rfl, rfl⟩)⟩
  have Ab := agree_bump H 17
  have f13 : Free (H.bump 17) (H.next + 13) := free_bump hF (by omega)
  refine ok_bift (sameB_agree b7 Ab) (ok_bind (box_row (b7.agree Ab) hwl) (ok_bift (sameB_agree b8 Ab) (ok_bind (box_row (b8.agree Ab) hcl) (ok_if (by omega) (ok_if (by omega) (ok_bift (sameB_agree b10 Ab) (ok_bind (hka _ Ab) ?_)))))))
  cases he : enabledS w0 s x9 ka x12
  · refine ok_apply (by omega) (Ab.fresh hF) (hw.agree Ab) (hs.agree Ab) (rd11 hI) (applyR_f he) fun cs1 H1 hn1 hs1 A1 => ok_exG rfl ?_
    refine ok_boxs (Ab.trans A1) (f13.agree A1) (by omega) hn1.1.symm hn1 fun H2 n2 A2 B2 S2 G2 => ok_exI rfl (ok_exB rfl (ok_bift rfl (ok_cB0 (awake35 (by omega) H2) (Ok.ret ⟨rfl, trivial⟩))))
  · obtain ⟨r1, r2, r3⟩ := released hI hkk he
    have hI1 := inv_apply (wake := -1) hI he
    refine ok_apply (by omega) (Ab.fresh hF) (hw.agree Ab) (hs.agree Ab) (rd11 hI) (applyR_t he) fun cs1 H1 hn1 hs1 A1 => ok_exG rfl ?_
    refine ok_boxs (Ab.trans A1) (f13.agree A1) (by omega) hn1.1.symm hn1 fun H2 n2 A2 B2 S2 G2 => ok_exI rfl (ok_exB rfl (ok_biff rfl ?_))
    have hs2 := hs1.sub S2
    have Ac := A2.trans (agree_bump H2 9)
    refine ok_bift (sameB_agree (b7.agree A2) (agree_bump H2 9)) (ok_bind (box_row (b7.agree Ac) hwl) (ok_bift (sameB_agree B2 (agree_bump H2 9)) (ok_bind (box_row (B2.agree (agree_bump H2 9)) hn1.1) (ok_if (by omega) (ok_if (by omega) (ok_bift (sameB_agree (b10.agree A2) (agree_bump H2 9)) (ok_bind (hka _ Ac) ?_)))))))
    refine ok_cB (f39_spec (by omega) (hw.agree Ac) (hs2.agree (agree_bump H2 9)) (inv_small hI1).2.2.2 _ _ _) fun H3 A3 => ok_biff r1 ?_
    have A23 := (agree_bump H2 9).trans A3
    have Ad := A2.trans A23
    have Ae := agree_bump H3 17
    have Af := Ad.trans Ae
    have F3 := Ad.fresh hF
    have B3 := B2.agree A23
    have f13' : Free (H3.bump 17) (H3.next + 13) := free_bump F3 (by omega)
    refine ok_bift (sameB_agree (b7.agree Ad) Ae) (ok_bind (box_row (b7.agree Af) hwl) (ok_bift (sameB_agree B3 Ae) (ok_bind (box_row (B3.agree Ae) hn1.1) (ok_if (by omega) (ok_if (by omega) (ok_bift (sameB_agree (b10.agree Ad) Ae) (ok_bind (hkb _ Af) ?_)))))))
    refine ok_apply (by omega) (Ae.fresh F3) (hw.agree Af) ((hs2.agree A23).agree Ae) (rd11 hI1) (applyR_t r2) fun cs4 H4 hn4 hs4 A4 => ok_exG rfl ?_
    refine ok_boxs (Ae.trans A4) (f13'.agree A4) (by omega) hn4.1.symm hn4 fun H5 n5 A5 B5 S5 G5 => ok_exI rfl (ok_exB rfl (ok_bift rfl ?_))
    have Ag := Ad.trans A5
    have hs5 := hs4.sub S5
    rw [r3] at hs5
    obtain ⟨q1, q2, q3, q4⟩ := inv_small hI
    exact ok_bind (box_row B5 hn4.1) (ok_bind (box_row (b8.agree Ag) hcl) (ok_cB (f32_spec (by omega) hs5 (hs.agree Ag) q1 q2 q3 q4) fun H6 A6 => ok_bift rfl (ok_cB0 (awake35 (by omega) H6) (Ok.ret ⟨rfl, trivial⟩))))
end
/-- the beginning of the laws: the world, and a state that is reached -/
theorem ok_reach {k : Nat} {R : Type} {Q : R → Prop} (hk : 1600 ≤ k) {H : AHeap} (hF : ∀ i, H.next ≤ i → H.get i = none) {a1 : Option Addr} {l1 c1 : Nat} {es : List Value} (hes : Cells H a1 (l1 * 4) es) (hev : Evs es l1) (hl1 : l1 ≤ 1000)
    {K : Array Value → List Value → Array Value → Nat → Nat → AHeap → Option R}
    (c : ∀ wc cs p q H' s, WorldR (fun _ => True) H' wc w0 → SyncR (fun _ => True) H' cs s → InvS s → At H' p ⟨wc, 0, .rw, 1⟩ → At H' q ⟨cs, 0, .rw, 1⟩ → Agree H H' → H.next ≤ p → H.next ≤ q → Ok (K wc.toArray wc cs.toArray p q H') Q) :
    Ok (cG (C k 36 [] H) fun g H_1 => alK none H_1 ⟨[.slice none 0 0, .slice none 0 0, .slice none 0 0, .slice none 0 0, .slice none 0 0, .slice none 0 0], 0, .rw, 0⟩ fun i H_2 => if notTup (.agg g) = true ∧ (g.toList).length = 6 then
      (AHeap.wr H_2 i 0 g.toList).bind fun H_3 => (AHeap.row H_3 i 0 6).bind fun g_1 => cG (C k 37 [.agg (g_1 : List Value).toArray, .slice a1 l1 c1] H_3) fun g_2 H_4 =>
      alK none H_4 ⟨[.slice none 0 0, .int .i64 0, .slice none 0 0, .slice none 0 0], 0, .rw, 0⟩ fun i_1 H_5 => if notTup (.agg g_2) = true ∧ (g_2.toList).length = 4 then (AHeap.wr H_5 i_1 0 g_2.toList).bind fun H_6 => K g g_1 g_2 i i_1 H_6 else none else none) Q := by
  refine ok_cGs (P := fun cs r => WorldR (H.next ≤ ·) r.2 cs w0 ∧ Agree H r.2) (f36_spec (by omega) H) fun wc v H1 hp => ?_
  obtain ⟨hw, A1⟩ := hp
  replace A1 : Agree H H1 := A1
  replace hw : WorldR (H.next ≤ ·) H1 wc w0 := hw
  obtain ⟨hwl, hwn⟩ := hw.len
  refine ok_box hwl.symm ⟨hwl, hwn⟩ fun i H2 hi n2 A2 B2 => ?_
  have A02 := A1.trans A2
  have hw2 := (hw.agree A2).mono (G := fun _ => True) fun _ _ => trivial
  refine ok_bind (box_row B2 hwl) ?_
  refine ok_cGs (P := fun cs r => (∃ s, SyncR (H2.next ≤ ·) r.2 cs s ∧ InvS s) ∧ Agree H2 r.2) (f37_spec (k := k) (c1 := c1) hk (A02.fresh hF) hw2 (hes.agree A02) hev hl1) fun cs v H3 hp => ?_
  obtain ⟨⟨s, hs, hI⟩, A3⟩ := hp
  replace A3 : Agree H2 H3 := A3
  replace hs : SyncR (H2.next ≤ ·) H3 cs s := hs
  obtain ⟨hcl, hcn⟩ := hs.len
  refine ok_box hcl.symm ⟨hcl, hcn⟩ fun j H4 hj n4 A4 B4 => ?_
  have n1 := A1.next
  have n3 := A3.next
  exact c wc cs i j H4 s (hw2.agree (A3.trans A4)) ((hs.agree A4).mono fun _ _ => trivial) hI (B2.agree (A3.trans A4)) B4 (A02.trans (A3.trans A4)) (by omega) (by omega)
theorem f10_any {H : AHeap} (hF : ∀ i, H.next ≤ i → H.get i = none) {a : Option Addr} {l c : Nat} {es : List Value} (hes : Cells H a (l * 4) es) (hev : Evs es l) {x1 x2 : Int} (h1 : 0 ≤ x1 ∧ x1 ≤ 255) (h2 : 0 ≤ x2 ∧ x2 ≤ 255) :
    ∃ k H', C k 10 [.slice a l c, .int .u8 x1, .int .u8 x2] H = some (.bool true, H') := by
  have hk : ∀ k, 3000 ≤ k → ∃ H', C (k + 1) 10 [.slice a l c, .int .u8 x1, .int .u8 x2] H = some (.bool true, H') ∧ True := by
    intro k hk
    rw [f10_eq]
    refine call_of_ok (P := fun _ => True) (ok_bif (fun _ => Ok.ret ⟨rfl, trivial⟩) (fun hl => ?_))
    rw [decide_eq_false_iff_not] at hl
    refine ok_reach (by omega) hF hes hev (by omega) fun wc cs p q H1 s hw hs hI bp bq A1 np nq => ?_
    refine ok_al fun i H2 hi n2 A2 B2 => ok_wr B2 rfl (by simp) fun H3 W3 => ?_
    have b3 := W3.at'
    have A3 : Agree H1 H3 := A2.wrote W3 (by omega)
    have F3 := (A1.trans A3).fresh hF
    rw [wrap_u8 h2.1 h2.2]
    have ht : 0 ≤ x2.tmod 3 ∧ x2.tmod 3 < 3 := by rw [Int.tmod_eq_emod_of_nonneg h2.1]; omega
    refine ok_bif (fun hb => ?_) (fun hb => ?_)
    · exact f10_K1 (by omega) F3 (hw.agree A3) (hs.agree A3) hI (bp.agree A3) (bq.agree A3) b3 _ _ _ ht _
    · exact f10_K1 (by omega) F3 (hw.agree A3) (hs.agree A3) hI (bp.agree A3) (bq.agree A3) b3 _ _ _ ht _
  obtain ⟨H', e, _⟩ := hk 3000 (Nat.le_refl _)
  exact ⟨_, H', e⟩
theorem objectReleases_ok (n : Nat) : LawOk awk Try.prog 10 (n + 1 + 1 + 1) [67, 5, 5] := by
  intro H vs hF hA
  obtain ⟨v0, _, rfl, h0, hA⟩ := argsV_cons hA
  obtain ⟨v1, _, rfl, h1, hA⟩ := argsV_cons hA
  obtain ⟨v2, _, rfl, h2, hA⟩ := argsV_cons hA
  obtain rfl := argsV_nil hA
  obtain ⟨a, l, c, es, rfl, hes, hev⟩ := arg_events hF h0
  obtain ⟨x1, rfl, g1⟩ := arg_u8 h1
  obtain ⟨x2, rfl, g2⟩ := arg_u8 h2
  exact f10_any hF hes hev g1 g2
end Go.Proofs.MxF
end

section
set_option linter.unusedSimpArgs false
/- ObjectNotifies. -/
set_option linter.unusedVariables false
namespace Go.Proofs.MxF
open Go Go.Mx Go.Proofs
/-- a box that holds a state -/
def Seen (p : Nat) (H : AHeap) (s : SyncS) : Prop := ∃ (F : Nat → Prop) (e v : Nat) (cs : List Value), At H p ⟨cs, e, .rw, v⟩ ∧ SyncR F H cs s
theorem Seen.agree {p : Nat} {H H' : AHeap} {s : SyncS} (h : Seen p H s) (A : Agree H H') : Seen p H' s := by
  obtain ⟨F, e, v, cs, h1, h2⟩ := h
  exact ⟨F, e, v, cs, h1.agree A, h2.agree A⟩
theorem Seen.same {p : Nat} {H H' : AHeap} {s : SyncS} (h : Seen p H s) (A : Agree H H') : sameB H H' p = true := by
  obtain ⟨F, e, v, cs, h1, h2⟩ := h
  exact sameB_agree h1 A
theorem Seen.ths {p : Nat} {H : AHeap} {s : SyncS} (h : Seen p H s) : ∃ a c, ldSl H p 3 = some (a, s.ths.length, c) := by
  obtain ⟨F, e, v, cs, h1, aL, lL, cL, aD, lD, cD, aT, lT, cT, ls, rfl, h2⟩ := h
  refine ⟨aT, cT, ?_⟩
  rw [← h2.lenT]
  exact ldSl_at h1 (by simp) rfl
theorem Seen.st {p : Nat} {H : AHeap} {s : SyncS} (h : Seen p H s) {i : Int} (hi : inR i s.ths.length = true) :
    ∃ a c q, ldSl H p 3 = some (a, s.ths.length, c) ∧ a = some q ∧ ldI .i64 H q.block (q.off + i.toNat * 3 + 0) = some (thS s i).st ∧ ∀ H', Agree H H' → sameB H H' q.block = true := by
  obtain ⟨F, e, v, cs, h1, aL, lL, cL, aD, lD, cD, aT, lT, cT, ls, rfl, h2⟩ := h
  have hl := h2.lenT
  obtain ⟨q, eq, hq⟩ := h2.thSt (i := i) (by rw [hl]; exact hi)
  refine ⟨aT, cT, q, ?_, eq, hq, h2.T.1.stay eq⟩
  rw [← hl]
  exact ldSl_at h1 (by simp) rfl
/-- the load of a thread's status, in a region -/
theorem ok_st {R : Type} {Q : R → Prop} {p : Nat} {H H' : AHeap} {s : SyncS} (h : Seen p H s) (A : Agree H H') {i : Int} (hi : inR i s.ths.length = true) {K : Option Addr → Nat → Nat → Addr → Int → Option R} (k : ∀ a l c q, Ok (K a l c q (thS s i).st) Q) :
    Ok (bif sameB H H' p then bSl (ldSl H' p 3) fun a l c => a.bind fun q => if 0 ≤ i ∧ i < (l : Int) then bif sameB H H' q.block then (ldI .i64 H' q.block (q.off + i.toNat * 3 + 0)).bind (K a l c q) else none else none else none) Q := by
  obtain ⟨a, c, q, e1, e2, e3, e4⟩ := (h.agree A).st hi
  obtain ⟨a', c', q', f1, f2, f3, f4⟩ := h.st hi
  have hq : sameB H H' q.block = true := by
    have hs : ∃ F e v cs, At H p ⟨cs, e, .rw, v⟩ ∧ SyncR F H cs s := h
    obtain ⟨F, e, v, cs, h1, aL, lL, cL, aD, lD, cD, aT, lT, cT, ls, rfl, h2⟩ := hs
    have g1 : ldSl H p 3 = some (aT, lT, cT) := ldSl_at h1 (by simp) rfl
    have g2 : ldSl H' p 3 = some (aT, lT, cT) := ldSl_at (h1.agree A) (by simp) rfl
    rw [g1] at f1
    rw [g2] at e1
    have : a = a' := by
      have := congrArg Prod.fst (Option.some.inj f1)
      have := congrArg Prod.fst (Option.some.inj e1)
      simp_all
    rw [this, f2] at e2
    cases e2
    exact f4 _ A
  exact ok_bift (h.same A) (ok_bSl e1 (ok_bind e2 (ok_if (inR_iff.1 hi) (ok_bift hq (ok_bind e3 (k _ _ _ _))))))
section
variable {k : Nat} {x2 v n wk t : Int} {p8 p10 p13 : Nat} {s sa sb : SyncS}
theorem f11_loop (hk : 10 ≤ k) (hI : InvS s) (hN : Notif s sa sb v n wk) (hx : IntKind.i64.wrap x2 = wk) : ∀ (m i nn : Nat) (H : AHeap) (D : List Value), i + m = 3 → m < nn → Seen p8 H s → Seen p10 H sa → Seen p13 H sb →
    Ok (f11.L1 k nn x2 p8 p10 v p13 n (cntW s i : Int) (i : Int) D H) fun r => r.1 = .bool true ∧ True := by
  intro m
  have hnt := hI.nt
  induction m with
  | zero =>
    intro i nn H D hm hn h8 h10 h13
    obtain ⟨nn, rfl⟩ : ∃ j, nn = j + 1 := ⟨nn - 1, by omega⟩
    rw [f11.L1_s]
    obtain ⟨a, c, e⟩ := h8.ths
    have hi3 : i = 3 := by omega
    subst hi3
    refine ok_bSl e (ok_biff (by simp only [decide_eq_false_iff_not]; rw [hnt]; omega) (ok_bift ?_ (ok_bift ?_ (ok_cB0 (awake35 (by omega) H) (Ok.ret ⟨rfl, trivial⟩)))))
    · rw [hN.hn, cntW_end hI]; simp
    · rw [cntW_end hI]
      rcases hN.hv with ⟨h1, h2⟩ | h1
      · rw [h1, h2]; rfl
      · have hin : inR v 3 = true := by rw [← hnt]; exact waitS_mem h1
        have hr := inR_iff.1 hin
        have : 0 < (waitS s 0).length := List.length_pos_of_mem h1
        rw [show (v == -1) = false from by rw [beq_eq_false_iff_ne]; omega, show (((waitS s 0).length : Int) == 0) = false from by rw [beq_eq_false_iff_ne]; omega]
        rfl
  | succ m ih =>
    intro i nn H D hm hn h8 h10 h13
    obtain ⟨nn, rfl⟩ : ∃ j, nn = j + 1 := ⟨nn - 1, by omega⟩
    rw [f11.L1_s]
    have hi3 : i < 3 := by omega
    have hin : inR (i : Int) 3 = true := by rw [inR_iff]; omega
    have hin8 : inR (i : Int) s.ths.length = true := by rw [hnt]; exact hin
    have hin10 : inR (i : Int) sa.ths.length = true := by rw [hN.la]; exact hin
    have hin13 : inR (i : Int) sb.ths.length = true := by rw [hN.lb]; exact hin
    -- behind the choice
    have k2 : ∀ (x16 : Int) (D : List Value), x16 = (cntW s (i + 1) : Int) → Ok (f11.K2 k nn x2 p8 p10 v p13 n x16 (i : Int) ((thS s (i : Int)).st == 3) (v == (i : Int)) D H) fun r => r.1 = .bool true ∧ True := by
      intro x16 D hx16
      rw [f11.K2_eq]
      have Ab := agree_bump H 32
      refine ok_st h10 Ab hin10 fun _ _ _ _ => ?_
      refine ok_st h8 Ab hin8 fun _ _ _ _ => ?_
      refine ok_biff ?_ ?_
      rotate_left
      refine ok_st h13 Ab hin13 fun _ _ _ _ => ?_
      refine ok_st h8 Ab hin8 fun _ _ _ _ => ?_
      refine ok_biff ?_ ?_
      rotate_left 2
      · rw [hN.ha _ hin]; simp
      · rw [hN.hb _ hin]; simp
      · rw [wrapS (i := i) (l := 3) (by omega) (by decide), hx16]
        exact ih (i + 1) nn _ _ (by omega) (by omega) (h8.agree Ab) (h10.agree Ab) (h13.agree Ab)
    have k1 : ∀ (x16 : Int) (D : List Value), x16 = (cntW s (i + 1) : Int) → Ok (f11.K1 k nn x2 p8 p10 v p13 n x16 (i : Int) ((thS s (i : Int)).st == 3) D H) fun r => r.1 = .bool true ∧ True := by
      intro x16 D hx16
      rw [f11.K1_eq, hx]
      obtain ⟨a8, c8, e8⟩ := h8.ths
      obtain ⟨a10, c10, e10⟩ := h10.ths
      obtain ⟨a13, c13, e13⟩ := h13.ths
      refine ok_bif (fun c1 => ?_) (fun c1 => ?_)
      · have hvi := beq_iff_eq.1 c1
        have hm3 : (thS s (i : Int)).st = 3 := by
          rcases hN.hv with ⟨h1, _⟩ | h1
          · rw [h1] at hvi; omega
          · rw [hvi] at h1; exact (wait_iff hI hin).1 h1
        refine ok_biff (by rw [hm3]; rfl) (ok_bif (fun c2 => ok_bif (fun c3 => ok_biff (by rw [c1]; rfl) (ok_bSl e10 (ok_bSl e8 (ok_biff (by rw [hnt, hN.la]; simp) (ok_bSl e13 (ok_bSl e8 (ok_biff (by rw [hnt, hN.lb]; simp) (k2 x16 _ hx16)))))))) (fun c3 => ok_bSl e10 (ok_bSl e8 (ok_biff (by rw [hnt, hN.la]; simp) (ok_bSl e13 (ok_bSl e8 (ok_biff (by rw [hnt, hN.lb]; simp) (k2 x16 _ hx16)))))))) (fun c2 => ok_bSl e10 (ok_bSl e8 (ok_biff (by rw [hnt, hN.la]; simp) (ok_bSl e13 (ok_bSl e8 (ok_biff (by rw [hnt, hN.lb]; simp) (k2 x16 _ hx16))))))))
      · refine ok_bif (fun c2 => ok_bif (fun c3 => ?_) (fun c3 => ok_bSl e10 (ok_bSl e8 (ok_biff (by rw [hnt, hN.la]; simp) (ok_bSl e13 (ok_bSl e8 (ok_biff (by rw [hnt, hN.lb]; simp) (k2 x16 _ hx16)))))))) (fun c2 => ok_bSl e10 (ok_bSl e8 (ok_biff (by rw [hnt, hN.la]; simp) (ok_bSl e13 (ok_bSl e8 (ok_biff (by rw [hnt, hN.lb]; simp) (k2 x16 _ hx16)))))))
        exfalso
        have hw := beq_iff_eq.1 c2
        have h3 := beq_iff_eq.1 c3
        have hmem := (wait_iff hI hin).2 h3
        have hv := hN.hw (by rw [hw]; exact hmem)
        rw [hv, hw] at c1
        simp at c1
    obtain ⟨a, c, q, e1, e2, e3, e4⟩ := h8.st hin8
    refine ok_bSl e1 (ok_bift (by simp only [decide_eq_true_eq]; rw [hnt]; omega) (ok_bSl e1 (ok_bind e2 (ok_if (inR_iff.1 hin8) (ok_bind e3 ?_)))))
    have hstep := cntW_step hI hi3
    refine ok_bif (fun c => k1 _ _ ?_) (fun c => k1 _ _ ?_)
    · rw [if_pos c] at hstep
      have hle := cntW_le (s := s) (i := i)
      rw [wrapS (i := cntW s i) (l := 4) (by omega) (by decide), hstep]
    · rw [if_neg (by rw [c]; simp)] at hstep
      rw [hstep]
end
theorem f11_any {H : AHeap} (hF : ∀ i, H.next ≤ i → H.get i = none) {a : Option Addr} {l c : Nat} {es : List Value} (hes : Cells H a (l * 4) es) (hev : Evs es l) {x1 x2 : Int} (h1 : 0 ≤ x1 ∧ x1 ≤ 255) (h2 : -128 ≤ x2 ∧ x2 ≤ 127) :
    ∃ k H', C k 11 [.slice a l c, .int .u8 x1, .int .i8 x2] H = some (.bool true, H') := by
  have hk : ∀ k, 3000 ≤ k → ∃ H', C (k + 1) 11 [.slice a l c, .int .u8 x1, .int .i8 x2] H = some (.bool true, H') ∧ True := by
    intro k hk
    rw [f11_eq]
    have hx : IntKind.i64.wrap x2 = x2 := by rw [IntWalk.i64_in _ (by omega)]
    refine call_of_ok (P := fun _ => True) (ok_bif (fun _ => Ok.ret ⟨rfl, trivial⟩) (fun hl => ?_))
    rw [decide_eq_false_iff_not] at hl
    refine ok_reach (by omega) hF hes hev (by omega) fun wc cs p q H1 s hw hs hI bp bq A1 np nq => ?_
    obtain ⟨hwl, hwn⟩ := hw.len
    obtain ⟨hcl, hcn⟩ := hs.len
    have F1 := A1.fresh hF
    refine ok_bind (box_row bp hwl) (ok_bind (box_row bq hcl) ?_)
    rw [hx]
    have hen := en_notify hI ((IntKind.i64.wrap x1).tmod 3)
    cases he : enabledS w0 s ((IntKind.i64.wrap x1).tmod 3) 18 0
    · rw [he] at hen
      refine ok_apply (by omega) F1 hw hs (rd11 hI) (applyR_f he) fun cs1 H2 hn1 hs1 A2 => ok_exG rfl (ok_exI rfl (ok_exB rfl (ok_box hn1.1.symm hn1 fun j H3 hj n3 A3 B3 => ?_)))
      have A13 := A2.trans A3
      refine ok_bind (box_row (bp.agree A13) hwl) (ok_bind (box_row (bq.agree A13) hcl) ?_)
      refine ok_apply (by omega) (A13.fresh F1) (hw.agree A13) (hs.agree A13) (rd11 hI) (applyR_f hen.symm) fun cs4 H4 hn4 hs4 A4 => ok_exG rfl (ok_exI rfl (ok_exB rfl (ok_box hn4.1.symm hn4 fun j H5 hj n5 A5 B5 => ?_)))
      exact ok_biff rfl (ok_bift rfl (ok_cB0 (awake35 (by omega) H5) (Ok.ret ⟨rfl, trivial⟩)))
    · rw [he] at hen
      refine ok_apply (by omega) F1 hw hs (rd11 hI) (applyR_t he) fun cs1 H2 hn1 hs1 A2 => ok_exG rfl (ok_exI rfl (ok_exB rfl (ok_box hn1.1.symm hn1 fun j H3 hj n3 A3 B3 => ?_)))
      have A13 := A2.trans A3
      refine ok_bind (box_row (bp.agree A13) hwl) (ok_bind (box_row (bq.agree A13) hcl) ?_)
      refine ok_apply (by omega) (A13.fresh F1) (hw.agree A13) (hs.agree A13) (rd11 hI) (applyR_t hen.symm) fun cs4 H4 hn4 hs4 A4 => ok_exG rfl (ok_exI rfl (ok_exB rfl (ok_box hn4.1.symm hn4 fun j' H5 hj' n5 A5 B5 => ?_)))
      have A15 := A13.trans (A4.trans A5)
      refine ok_biff rfl (ok_biff rfl ?_)
      have z : ((0 : Int)) = (cntW s 0 : Int) := by unfold cntW; simp
      have key := fun D => f11_loop (k := k) (x2 := x2) (p8 := q) (p10 := j) (p13 := j') (by omega) hI (notified hI ((IntKind.i64.wrap x1).tmod 3) x2) hx 3 0 k H5 D (by omega) (by omega) ⟨_, _, _, _, bq.agree A15, hs.agree A15⟩ ⟨_, _, _, _, B3.agree (A4.trans A5), ((hs1.agree A3).agree (A4.trans A5))⟩ ⟨_, _, _, _, B5, hs4.agree A5⟩
      rw [← z] at key
      exact key _
  obtain ⟨H', e, _⟩ := hk 3000 (Nat.le_refl _)
  exact ⟨_, H', e⟩
theorem objectNotifies_ok (n : Nat) : LawOk awk Try.prog 11 (n + 1 + 1 + 1) [67, 5, 76] := by
  intro H vs hF hA
  obtain ⟨v0, _, rfl, h0, hA⟩ := argsV_cons hA
  obtain ⟨v1, _, rfl, h1, hA⟩ := argsV_cons hA
  obtain ⟨v2, _, rfl, h2, hA⟩ := argsV_cons hA
  obtain rfl := argsV_nil hA
  obtain ⟨a, l, c, es, rfl, hes, hev⟩ := arg_events hF h0
  obtain ⟨x1, rfl, g1⟩ := arg_u8 h1
  obtain ⟨x2, rfl, g2⟩ := arg_i8 h2
  exact f11_any hF hes hev g1 g2
end Go.Proofs.MxF
end

section
set_option linter.unusedSimpArgs false
/- ObjectIndependent. -/
set_option linter.unusedVariables false
namespace Go.Proofs.MxF
open Go Go.Mx Go.Proofs
theorem sameB_new {H H' : AHeap} {i e : Nat} {cs : List Value} (h : H.get i = none) (b : At H' i ⟨cs, e, .rw, 0⟩) : sameB H H' i = true := by
  unfold sameB
  rw [h, b.2]; rfl
theorem applyR_rd {s : SyncS} (h : InvS s) (th kind obj wake : Int) : ∀ x ∈ (applyR w0 s th kind obj wake).1.locks, x.rd.length ≤ 11 := by
  cases he : enabledS w0 s th kind obj
  · rw [applyR_f he]
    intro x hx
    cases hx
  · rw [applyR_t he]
    exact rd11 (inv_apply h he)
theorem applyR_en {w : Wld} {s : SyncS} {th kind obj wake : Int} (h : (applyR w s th kind obj wake).2.2 = true) : enabledS w s th kind obj = true := by
  cases he : enabledS w s th kind obj
  · rw [applyR_f he] at h; cases h
  · rfl
theorem at4 {H : AHeap} {p e v : Nat} {y0 y1 y2 y3 : Int} (b : At H p ⟨[.int .i64 y0, .int .i64 y1, .int .i64 y2, .int .i64 y3], e, .rw, v⟩) {x : Int} (h : 0 ≤ x ∧ x < 4) :
    ∃ y, (y = y0 ∨ y = y1 ∨ y = y2 ∨ y = y3) ∧ ldI .i64 H p (0 + x.toNat * 1) = some y := by
  have : x = 0 ∨ x = 1 ∨ x = 2 ∨ x = 3 := by omega
  rcases this with rfl | rfl | rfl | rfl
  · exact ⟨y0, .inl rfl, ldI_at b (by simp) rfl⟩
  · exact ⟨y1, .inr (.inl rfl), ldI_at b (by simp) rfl⟩
  · exact ⟨y2, .inr (.inr (.inl rfl)), ldI_at b (by simp) rfl⟩
  · exact ⟨y3, .inr (.inr (.inr rfl)), ldI_at b (by simp) rfl⟩
theorem f12_any {H : AHeap} (hF : ∀ i, H.next ≤ i → H.get i = none) {a : Option Addr} {l c : Nat} {es : List Value} (hes : Cells H a (l * 4) es) (hev : Evs es l) {x1 x2 : Int} (h1 : 0 ≤ x1 ∧ x1 ≤ 255) (h2 : 0 ≤ x2 ∧ x2 ≤ 255) :
    ∃ k H', C k 12 [.slice a l c, .int .u8 x1, .int .u8 x2] H = some (.bool true, H') := by
  have hk : ∀ k, 3000 ≤ k → ∃ H', C (k + 1) 12 [.slice a l c, .int .u8 x1, .int .u8 x2] H = some (.bool true, H') ∧ True := by
    intro k hk
    rw [f12_eq]
    refine call_of_ok (P := fun _ => True) (ok_bif (fun _ => Ok.ret ⟨rfl, trivial⟩) (fun hl => ?_))
    rw [decide_eq_false_iff_not] at hl
    refine ok_reach (by omega) hF hes hev (by omega) fun wc cs p q H1 s hw hs hI bp bq A1 np nq => ?_
    obtain ⟨hwl, hwn⟩ := hw.len
    obtain ⟨hcl, hcn⟩ := hs.len
    have F1 := A1.fresh hF
    rw [wrap_u8 h1.1 h1.2, wrap_u8 h2.1 h2.2]
    have t1 : 0 ≤ x1.tmod 4 ∧ x1.tmod 4 < 4 := by rw [Int.tmod_eq_emod_of_nonneg h1.1]; omega
    have t2 : 0 ≤ x2.tmod 4 ∧ x2.tmod 4 < 4 := by rw [Int.tmod_eq_emod_of_nonneg h2.1]; omega
    generalize (IntKind.i64.wrap (x1.tdiv 4)).tmod 3 = t
    generalize (IntKind.i64.wrap (x2.tdiv 4)).tmod 3 = u
    refine ok_al fun i H7 hi n7 A7 B7 => ok_if t1 ?_
    have F7 := A7.fresh F1
    have Ab := agree_bump H7 14
    obtain ⟨ka, hka, eka⟩ := at4 (B7.agree Ab) t1
    refine ok_bift (sameB_agree B7 Ab) (ok_bind eka ?_)
    have f6 : Free (H7.bump 14) (H7.next + 6) := free_bump F7 (by omega)
    refine ok_als Ab f6 (by omega) fun H8 n8 A8 B8 S8 G8 => ok_if t2 ?_
    obtain ⟨kb, hkb, ekb⟩ := at4 B8 t2
    refine ok_bift (sameB_new (F7 _ (by omega)) B8) (ok_bind ekb ?_)
    have OMk : OnM ka := hka
    have ORk : OnR kb := hkb
    have A18 := A7.trans A8
    have F8 := A18.fresh F1
    refine ok_bif (fun _ => ok_cB0 (awake35 (by omega) H8) (Ok.ret ⟨rfl, trivial⟩)) (fun hne => ?_)
    have hne : t ≠ u := by intro e; subst e; simp at hne
    replace hw := hw.agree A18
    replace hs := hs.agree A18
    replace bp := bp.agree A18
    replace bq := bq.agree A18
    -- a
    refine ok_bind (box_row bp hwl) (ok_bind (box_row bq hcl) ?_)
    refine ok_apply (by omega) F8 hw hs (rd11 hI) (s' := (applyR w0 s t ka 0 (-1)).1) (v := (applyR w0 s t ka 0 (-1)).2.1) (b := (applyR w0 s t ka 0 (-1)).2.2) rfl fun ca H9 hna hsa A9 => ok_exG rfl (ok_exI rfl (ok_exB rfl (ok_box hna.1.symm hna fun pa H10 hj n10 A10 Ba => ?_)))
    have Aa := A9.trans A10
    replace hsa := hsa.agree A10
    have hra := applyR_rd hI t ka 0 (-1)
    -- b
    refine ok_bind (box_row (bp.agree Aa) hwl) (ok_bind (box_row (bq.agree Aa) hcl) ?_)
    refine ok_apply (by omega) (Aa.fresh F8) (hw.agree Aa) (hs.agree Aa) (rd11 hI) (s' := (applyR w0 s u kb 2 (-1)).1) (v := (applyR w0 s u kb 2 (-1)).2.1) (b := (applyR w0 s u kb 2 (-1)).2.2) rfl fun cb H11 hnb hsb A11 => ok_exG rfl (ok_exI rfl (ok_exB rfl (ok_box hnb.1.symm hnb fun pb H12 hj n12 A12 Bb => ?_)))
    have Ab' := A11.trans A12
    have A02 := Aa.trans Ab'
    replace hsb := hsb.agree A12
    replace hsa := hsa.agree Ab'
    replace Ba := Ba.agree Ab'
    have hrb := applyR_rd hI u kb 2 (-1)
    -- c
    refine ok_bind (box_row (bp.agree A02) hwl) (ok_bind (box_row Ba hna.1) ?_)
    refine ok_apply (by omega) (A02.fresh F8) (hw.agree A02) hsa hra (s' := (applyR w0 (applyR w0 s t ka 0 (-1)).1 u kb 2 (-1)).1) (v := (applyR w0 (applyR w0 s t ka 0 (-1)).1 u kb 2 (-1)).2.1) (b := (applyR w0 (applyR w0 s t ka 0 (-1)).1 u kb 2 (-1)).2.2) rfl fun cc H13 hnc hsc A13 => ok_exG rfl (ok_exI rfl (ok_exB rfl (ok_box hnc.1.symm hnc fun pc H14 hj n14 A14 Bc => ?_)))
    have Ac := A13.trans A14
    have A04 := A02.trans Ac
    replace hsc := hsc.agree A14
    replace hsb := hsb.agree Ac
    replace Bb := Bb.agree Ac
    -- d
    refine ok_bind (box_row (bp.agree A04) hwl) (ok_bind (box_row Bb hnb.1) ?_)
    refine ok_apply (by omega) (A04.fresh F8) (hw.agree A04) hsb hrb (s' := (applyR w0 (applyR w0 s u kb 2 (-1)).1 t ka 0 (-1)).1) (v := (applyR w0 (applyR w0 s u kb 2 (-1)).1 t ka 0 (-1)).2.1) (b := (applyR w0 (applyR w0 s u kb 2 (-1)).1 t ka 0 (-1)).2.2) rfl fun cd H15 hnd hsd A15 => ok_exG rfl (ok_exI rfl (ok_exB rfl (ok_box hnd.1.symm hnd fun pd H16 hj n16 A16 Bd => ?_)))
    have Ad := A15.trans A16
    replace hsd := hsd.agree A16
    replace hsc := hsc.agree Ad
    replace Bc := Bc.agree Ad
    refine ok_bif (fun _ => ok_cB0 (awake35 (by omega) _) (Ok.ret ⟨rfl, trivial⟩)) (fun ha => ?_)
    refine ok_bif (fun _ => ok_cB0 (awake35 (by omega) _) (Ok.ret ⟨rfl, trivial⟩)) (fun hb => ?_)
    have ha' := applyR_en (by simpa using ha)
    have hb' := applyR_en (by simpa using hb)
    obtain ⟨i1, i2, i3⟩ := indep hI OMk ORk hne ha' hb'
    rw [applyR_t ha', applyR_t i1] at hsc
    rw [applyR_t hb', applyR_t i2] at hsd
    have eb : (applyR w0 (applyR w0 s t ka 0 (-1)).1 u kb 2 (-1)).2.2 = true := by rw [applyR_t ha', applyR_t i1]
    have ed : (applyR w0 (applyR w0 s u kb 2 (-1)).1 t ka 0 (-1)).2.2 = true := by rw [applyR_t hb', applyR_t i2]
    have hIa := inv_apply (wake := -1) hI ha'
    have hIc := inv_apply (wake := -1) hIa i1
    obtain ⟨q1, q2, q3, q4⟩ := inv_small hIc
    have hsd' := hsd
    rw [← i3] at hsd'
    rw [f12.K1_eq]
    exact ok_bift eb (ok_bift ed (ok_bind (box_row Bc hnc.1) (ok_bind (box_row Bd hnd.1) (ok_cB (f32_spec (by omega) hsc hsd' q1 q2 q3 q4) fun H17 A17 => ok_bift rfl (ok_cB0 (awake35 (by omega) H17) (Ok.ret ⟨rfl, trivial⟩))))))
  obtain ⟨H', e, _⟩ := hk 3000 (Nat.le_refl _)
  exact ⟨_, H', e⟩
theorem objectIndependent_ok (n : Nat) : LawOk awk Try.prog 12 (n + 1 + 1 + 1) [67, 5, 5] := by
  intro H vs hF hA
  obtain ⟨v0, _, rfl, h0, hA⟩ := argsV_cons hA
  obtain ⟨v1, _, rfl, h1, hA⟩ := argsV_cons hA
  obtain ⟨v2, _, rfl, h2, hA⟩ := argsV_cons hA
  obtain rfl := argsV_nil hA
  obtain ⟨a, l, c, es, rfl, hes, hev⟩ := arg_events hF h0
  obtain ⟨x1, rfl, g1⟩ := arg_u8 h1
  obtain ⟨x2, rfl, g2⟩ := arg_u8 h2
  exact f12_any hF hes hev g1 g2
end Go.Proofs.MxF
end
