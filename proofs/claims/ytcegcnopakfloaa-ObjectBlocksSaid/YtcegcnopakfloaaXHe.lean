/- Texts of this claim, laid together: Oa Ob. -/
import Derived.Test.YtcegcnopakfloaaXHc
section
set_option linter.unusedSimpArgs false
/- Functions of the program as the machine comes to them: printed by a program of this workplace (px.py); the kernel checks each line. -/
set_option linter.unusedVariables false
namespace Go.Proofs.MxF
open Go Go.Mx Go.Proofs

/- f36 "interleave/interleavelaw08.world"  names:  -/
theorem f36_eq (k : Nat)  (H : AHeap) : C (k + 1) 36 [] H =
  (alK none H ⟨[.slice none 0 0, .slice none 0 0, .slice none 0 0, .slice none 0 0, .slice none 0 0, .slice none 0 0], 0, .rw, 0⟩ fun i H_1 =>
   alK none H_1 ⟨[.string (⟨#[120]⟩ : ByteArray), .int .i64 0, .int .i64 0, .bool false, .int .i64 0], 5, .rw, 0⟩ fun i_1 H_2 =>
   alK none H_2 ⟨[.string (⟨#[109]⟩ : ByteArray), .bool false, .string (⟨#[110]⟩ : ByteArray), .bool false, .string (⟨#[114]⟩ : ByteArray), .bool true], 2, .rw, 0⟩ fun i_2 H_3 =>
   alK none H_3 ⟨[.string (⟨#[99]⟩ : ByteArray), .int .i64 0], 2, .rw, 0⟩ fun i_3 H_4 =>
   alK none H_4 ⟨[.string (⟨#[102]⟩ : ByteArray)], 1, .rw, 0⟩ fun i_4 H_5 =>
   alK none H_5 ⟨[.string (⟨#[116]⟩ : ByteArray), .string (⟨#[117]⟩ : ByteArray), .string (⟨#[119]⟩ : ByteArray)], 1, .rw, 0⟩ fun i_5 H_6 =>
   (AHeap.wr H_6 i (0) [.slice (some ⟨i_1, 0, none⟩) 1 1, .slice (some ⟨i_2, 0, none⟩) 3 3, .slice (some ⟨i_3, 0, none⟩) 1 1, .slice (some ⟨i_4, 0, none⟩) 1 1, .slice (some ⟨i_5, 0, none⟩) 3 3, .slice none 0 0]).bind fun H_7 =>
   (AHeap.row H_7 i (0) 6).bind fun g =>
   some (.agg (g : List Value).toArray, H_7)) := by kernel_rfl

/- f70 "interleave/object.below"  names: 0:i 1:n 2:i 3:n -/
theorem f70_eq (k : Nat) (x0 : Int) (x1 : Int) (H : AHeap) : C (k + 1) 70 [.int .i64 x0, .int .i64 x1] H =
  (bif (decide (x0 ≥ (0 : Int))) then
   some (.bool (decide (x0 < x1)), H)
   else
   some (.bool false, H)) := by kernel_rfl

/- f93 "interleave/interleaveref08.in"  names: 0:i 1:n 2:i 3:n -/
theorem f93_eq (k : Nat) (x0 : Int) (x1 : Int) (H : AHeap) : C (k + 1) 93 [.int .i64 x0, .int .i64 x1] H =
  (bif (decide (x0 ≥ (0 : Int))) then
   some (.bool (decide (x0 < x1)), H)
   else
   some (.bool false, H)) := by kernel_rfl

/- f65 "interleave/object.Fits"  names: 0:w 1:s 2:w 3:s 5:_ 6:c -/
noncomputable def f65.Q0 (k : Nat)  : Kont (Value × AHeap) := retQ Try.prog Try.f65
noncomputable def f65.Q1 (k : Nat)  : Kont (Value × AHeap) := seqQ (gateC (Sub (bodyOf Try.f65) [1, 0]) (Sub (bodyOf Try.f65) [1, 1]) k (run Try.prog (C k) k (Sub (bodyOf Try.f65) [1, 1]) (f65.Q0 k ))) (f65.Q0 k )
noncomputable def f65.Q2 (k : Nat)  : Kont (Value × AHeap) := blkQ 0 (f65.Q1 k )
noncomputable def f65.L1 (k : Nat) (n1 : Nat) (p2 : Nat) (p3 : Nat) (a8 : Option Addr) (l8 : Nat) (c8 : Nat) (x9 : Int) (x10 : Int) (D : List Value) (H : AHeap) : Option (Value × AHeap) :=
  iter (run Try.prog (C k) k (Sub (bodyOf Try.f65) [1, 0, 1, 0, 0])) (f65.Q2 k ) n1 [(D.getD 0 undef), (D.getD 1 undef), .pointer (some ⟨p2, 0, none⟩), .pointer (some ⟨p3, 0, none⟩), (D.getD 2 undef), undef, (D.getD 3 undef), (D.getD 4 undef), .slice a8 l8 c8, .int .i64 x9, .int .i64 x10, (D.getD 5 undef), (D.getD 6 undef), (D.getD 7 undef), (D.getD 8 undef), (D.getD 9 undef), (D.getD 10 undef), (D.getD 11 undef), (D.getD 12 undef), (D.getD 13 undef), (D.getD 14 undef), (D.getD 15 undef), undef, undef, undef, undef, undef, undef, undef, undef, undef, undef, undef, undef, undef, undef, undef, undef, undef, undef, undef, undef, undef, undef, undef, undef, undef] H
theorem f65.L1_z (k : Nat)  (p2 : Nat) (p3 : Nat) (a8 : Option Addr) (l8 : Nat) (c8 : Nat) (x9 : Int) (x10 : Int) (D : List Value) (H : AHeap) : f65.L1 k 0 p2 p3 a8 l8 c8 x9 x10 D H = none := by kernel_rfl
theorem f65.L1_s (k : Nat) (n1 : Nat) (p2 : Nat) (p3 : Nat) (a8 : Option Addr) (l8 : Nat) (c8 : Nat) (x9 : Int) (x10 : Int) (D : List Value) (H : AHeap) : f65.L1 k (n1 + 1) p2 p3 a8 l8 c8 x9 x10 D H =
  (bif (decide (x10 < x9)) then
   a8.bind fun q =>
   if 0 ≤ x10 ∧ x10 < (l8 : Int) then
   (AHeap.row H q.block (q.off + x10.toNat * 2) 2).bind fun g =>
   alK none H ⟨[.string (⟨#[]⟩ : ByteArray), .int .i64 0], 0, .rw, 0⟩ fun i H_1 =>
   if notTup (.agg (g : List Value).toArray) = true ∧ (g).length = 2 then
   (AHeap.wr H_1 i (0) g).bind fun H_2 =>
   (ldI .i64 H_2 i (1)).bind fun x =>
   bSl (ldSl H_2 p2 (1)) fun a l c =>
   cB (C k 70 [.int .i64 x, .int .i64 (l : Int)] H_2) fun b H_3 =>
   bif (!b) then
   some (.bool false, H_3)
   else
   f65.L1 k n1 p2 p3 a8 l8 c8 x9 (IntKind.i64.wrap (x10 + (1 : Int))) [(D.getD 0 undef), (D.getD 1 undef), (D.getD 2 undef), .pointer (some ⟨i, 0, none⟩), (D.getD 4 undef), .bool (decide (x10 < x9)), .pointer (some ⟨q.block, q.off + x10.toNat * 2, none⟩), .agg (g : List Value).toArray, .pointer (some ⟨i, 1, none⟩), .int .i64 x, .pointer (some ⟨p2, 1, none⟩), .slice a l c, .int .i64 (l : Int), .bool b, .bool (!b), .int .i64 (IntKind.i64.wrap (x10 + (1 : Int)))] H_3
   else none
   else none
   else
   bSl (ldSl H p3 (0)) fun a_1 l_1 c_1 =>
   bSl (ldSl H p2 (1)) fun a_2 l_2 c_2 =>
   bif ((l_1 : Int) == (l_2 : Int)) then
   bSl (ldSl H p3 (2)) fun a_3 l_3 c_3 =>
   bSl (ldSl H p2 (3)) fun a_4 l_4 c_4 =>
   bif ((l_3 : Int) == (l_4 : Int)) then
   bSl (ldSl H p3 (3)) fun a_5 l_5 c_5 =>
   bSl (ldSl H p2 (4)) fun a_6 l_6 c_6 =>
   some (.bool ((l_5 : Int) == (l_6 : Int)), H)
   else
   some (.bool false, H)
   else
   some (.bool false, H)) := by kernel_rfl
theorem f65_eq (k : Nat) (a0_0 : Option Addr) (l0_0 : Nat) (c0_0 : Nat) (a0_1 : Option Addr) (l0_1 : Nat) (c0_1 : Nat) (a0_2 : Option Addr) (l0_2 : Nat) (c0_2 : Nat) (a0_3 : Option Addr) (l0_3 : Nat) (c0_3 : Nat) (a0_4 : Option Addr) (l0_4 : Nat) (c0_4 : Nat) (a0_5 : Option Addr) (l0_5 : Nat) (c0_5 : Nat) (a1_0 : Option Addr) (l1_0 : Nat) (c1_0 : Nat) (x1_1 : Int) (a1_2 : Option Addr) (l1_2 : Nat) (c1_2 : Nat) (a1_3 : Option Addr) (l1_3 : Nat) (c1_3 : Nat) (H : AHeap) : C (k + 1) 65 [.agg #[.slice a0_0 l0_0 c0_0, .slice a0_1 l0_1 c0_1, .slice a0_2 l0_2 c0_2, .slice a0_3 l0_3 c0_3, .slice a0_4 l0_4 c0_4, .slice a0_5 l0_5 c0_5], .agg #[.slice a1_0 l1_0 c1_0, .int .i64 x1_1, .slice a1_2 l1_2 c1_2, .slice a1_3 l1_3 c1_3]] H =
  (alK none H ⟨[.slice a0_0 l0_0 c0_0, .slice a0_1 l0_1 c0_1, .slice a0_2 l0_2 c0_2, .slice a0_3 l0_3 c0_3, .slice a0_4 l0_4 c0_4, .slice a0_5 l0_5 c0_5], 0, .rw, 0⟩ fun i H_1 =>
   alK none H_1 ⟨[.slice a1_0 l1_0 c1_0, .int .i64 x1_1, .slice a1_2 l1_2 c1_2, .slice a1_3 l1_3 c1_3], 0, .rw, 0⟩ fun i_1 H_2 =>
   bSl (ldSl H_2 i (2)) fun a l c =>
   f65.L1 k k i i_1 a l c (l : Int) 0 [.agg #[.slice a0_0 l0_0 c0_0, .slice a0_1 l0_1 c0_1, .slice a0_2 l0_2 c0_2, .slice a0_3 l0_3 c0_3, .slice a0_4 l0_4 c0_4, .slice a0_5 l0_5 c0_5], .agg #[.slice a1_0 l1_0 c1_0, .int .i64 x1_1, .slice a1_2 l1_2 c1_2, .slice a1_3 l1_3 c1_3], .bool false, undef, .pointer (some ⟨i, 2, none⟩), undef, undef, undef, undef, undef, undef, undef, undef, undef, undef, undef] H_2) := by kernel_rfl

/- f79 "interleave/interleaveref08.Fits"  names: 0:w 1:s 2:w 3:s 5:i -/
noncomputable def f79.Q0 (k : Nat)  : Kont (Value × AHeap) := retQ Try.prog Try.f79
noncomputable def f79.Q1 (k : Nat)  : Kont (Value × AHeap) := seqQ (gateC (Sub (bodyOf Try.f79) [1, 0]) (Sub (bodyOf Try.f79) [1, 1]) k (run Try.prog (C k) k (Sub (bodyOf Try.f79) [1, 1]) (f79.Q0 k ))) (f79.Q0 k )
noncomputable def f79.Q2 (k : Nat)  : Kont (Value × AHeap) := blkQ 0 (f79.Q1 k )
noncomputable def f79.L1 (k : Nat) (n1 : Nat) (p2 : Nat) (p3 : Nat) (x5 : Int) (D : List Value) (H : AHeap) : Option (Value × AHeap) :=
  iter (run Try.prog (C k) k (Sub (bodyOf Try.f79) [1, 0, 1, 0, 0])) (f79.Q2 k ) n1 [(D.getD 0 undef), (D.getD 1 undef), .pointer (some ⟨p2, 0, none⟩), .pointer (some ⟨p3, 0, none⟩), (D.getD 2 undef), .int .i64 x5, (D.getD 3 undef), (D.getD 4 undef), (D.getD 5 undef), (D.getD 6 undef), (D.getD 7 undef), (D.getD 8 undef), (D.getD 9 undef), (D.getD 10 undef), (D.getD 11 undef), (D.getD 12 undef), (D.getD 13 undef), (D.getD 14 undef), (D.getD 15 undef), (D.getD 16 undef), (D.getD 17 undef), (D.getD 18 undef), (D.getD 19 undef), (D.getD 20 undef), (D.getD 21 undef), (D.getD 22 undef), (D.getD 23 undef), (D.getD 24 undef), (D.getD 25 undef), (D.getD 26 undef), (D.getD 27 undef), (D.getD 28 undef), undef, undef, undef, undef, undef, undef, undef, undef, undef, undef, undef, undef, undef, undef, undef, undef, undef, undef, undef, undef, undef, undef, undef, undef, undef] H
theorem f79.L1_z (k : Nat)  (p2 : Nat) (p3 : Nat) (x5 : Int) (D : List Value) (H : AHeap) : f79.L1 k 0 p2 p3 x5 D H = none := by kernel_rfl
theorem f79.L1_s (k : Nat) (n1 : Nat) (p2 : Nat) (p3 : Nat) (x5 : Int) (D : List Value) (H : AHeap) : f79.L1 k (n1 + 1) p2 p3 x5 D H =
  (bSl (ldSl H p2 (2)) fun a l c =>
   bif (decide (x5 < (l : Int))) then
   bif sameB H (H.bump 19) p2 then
   bSl (ldSl (H.bump 19) p2 (2)) fun a_1 l_1 c_1 =>
   a_1.bind fun q =>
   if 0 ≤ x5 ∧ x5 < (l_1 : Int) then
   bif sameB H (H.bump 19) q.block then
   (ldI .i64 (H.bump 19) q.block (q.off + x5.toNat * 2 + 1)).bind fun x =>
   bif (decide (x < (0 : Int))) then
   some (.bool false, (H.bump 19))
   else
   bif sameB H (H.bump 19) p2 then
   bSl (ldSl (H.bump 19) p2 (2)) fun a_2 l_2 c_2 =>
   a_2.bind fun q_1 =>
   if 0 ≤ x5 ∧ x5 < (l_2 : Int) then
   bif sameB H (H.bump 19) q_1.block then
   (ldI .i64 (H.bump 19) q_1.block (q_1.off + x5.toNat * 2 + 1)).bind fun x_1 =>
   bif sameB H (H.bump 19) p2 then
   bSl (ldSl (H.bump 19) p2 (1)) fun a_3 l_3 c_3 =>
   bif (decide (x_1 ≥ (l_3 : Int))) then
   some (.bool false, (H.bump 19))
   else
   f79.L1 k n1 p2 p3 (IntKind.i64.wrap (x5 + (1 : Int))) [(D.getD 0 undef), (D.getD 1 undef), (D.getD 2 undef), .int .i64 x5, .pointer (some ⟨p2, 2, none⟩), .slice a l c, .int .i64 (l : Int), .bool (decide (x5 < (l : Int))), .int .i64 x5, .int .i64 (IntKind.i64.wrap (x5 + (1 : Int))), .pointer (some ⟨p2, 2, none⟩), .slice a_1 l_1 c_1, .int .i64 x5, .pointer (some ⟨q.block, q.off + x5.toNat * 2, none⟩), .pointer (some ⟨q.block, q.off + x5.toNat * 2 + 1, none⟩), .int .i64 x, .bool (decide (x < (0 : Int))), .bool false, .pointer (some ⟨p2, 2, none⟩), .slice a_2 l_2 c_2, .int .i64 x5, .pointer (some ⟨q_1.block, q_1.off + x5.toNat * 2, none⟩), .pointer (some ⟨q_1.block, q_1.off + x5.toNat * 2 + 1, none⟩), .int .i64 x_1, .pointer (some ⟨p2, 1, none⟩), .slice a_3 l_3 c_3, .int .i64 (l_3 : Int), .bool (decide (x_1 ≥ (l_3 : Int))), .bool (decide (x_1 ≥ (l_3 : Int)))] (H.bump 19)
   else none
   else none
   else none
   else none
   else none
   else none
   else none
   else
   bSl (ldSl H p3 (0)) fun a_4 l_4 c_4 =>
   bSl (ldSl H p2 (1)) fun a_5 l_5 c_5 =>
   bif ((l_4 : Int) == (l_5 : Int)) then
   bSl (ldSl H p3 (2)) fun a_6 l_6 c_6 =>
   bSl (ldSl H p2 (3)) fun a_7 l_7 c_7 =>
   bif ((l_6 : Int) == (l_7 : Int)) then
   bSl (ldSl H p3 (3)) fun a_8 l_8 c_8 =>
   bSl (ldSl H p2 (4)) fun a_9 l_9 c_9 =>
   some (.bool ((l_8 : Int) == (l_9 : Int)), H)
   else
   some (.bool false, H)
   else
   some (.bool false, H)) := by kernel_rfl
theorem f79_eq (k : Nat) (a0_0 : Option Addr) (l0_0 : Nat) (c0_0 : Nat) (a0_1 : Option Addr) (l0_1 : Nat) (c0_1 : Nat) (a0_2 : Option Addr) (l0_2 : Nat) (c0_2 : Nat) (a0_3 : Option Addr) (l0_3 : Nat) (c0_3 : Nat) (a0_4 : Option Addr) (l0_4 : Nat) (c0_4 : Nat) (a0_5 : Option Addr) (l0_5 : Nat) (c0_5 : Nat) (a1_0 : Option Addr) (l1_0 : Nat) (c1_0 : Nat) (x1_1 : Int) (a1_2 : Option Addr) (l1_2 : Nat) (c1_2 : Nat) (a1_3 : Option Addr) (l1_3 : Nat) (c1_3 : Nat) (H : AHeap) : C (k + 1) 79 [.agg #[.slice a0_0 l0_0 c0_0, .slice a0_1 l0_1 c0_1, .slice a0_2 l0_2 c0_2, .slice a0_3 l0_3 c0_3, .slice a0_4 l0_4 c0_4, .slice a0_5 l0_5 c0_5], .agg #[.slice a1_0 l1_0 c1_0, .int .i64 x1_1, .slice a1_2 l1_2 c1_2, .slice a1_3 l1_3 c1_3]] H =
  (alK none H ⟨[.slice a0_0 l0_0 c0_0, .slice a0_1 l0_1 c0_1, .slice a0_2 l0_2 c0_2, .slice a0_3 l0_3 c0_3, .slice a0_4 l0_4 c0_4, .slice a0_5 l0_5 c0_5], 0, .rw, 0⟩ fun i H_1 =>
   alK none H_1 ⟨[.slice a1_0 l1_0 c1_0, .int .i64 x1_1, .slice a1_2 l1_2 c1_2, .slice a1_3 l1_3 c1_3], 0, .rw, 0⟩ fun i_1 H_2 =>
   f79.L1 k k i i_1 0 [.agg #[.slice a0_0 l0_0 c0_0, .slice a0_1 l0_1 c0_1, .slice a0_2 l0_2 c0_2, .slice a0_3 l0_3 c0_3, .slice a0_4 l0_4 c0_4, .slice a0_5 l0_5 c0_5], .agg #[.slice a1_0 l1_0 c1_0, .int .i64 x1_1, .slice a1_2 l1_2 c1_2, .slice a1_3 l1_3 c1_3], .bool false, undef, undef, undef, undef, undef, undef, undef, undef, undef, undef, undef, undef, undef, undef, undef, undef, undef, undef, undef, undef, undef, undef, undef, undef, undef, undef] H_2) := by kernel_rfl

/- f64 "interleave/interleaveref07.SameInts"  names: 0:a 1:b 2:a 3:b 5:i -/
noncomputable def f64.Q0 (k : Nat)  : Kont (Value × AHeap) := retQ Try.prog Try.f64
noncomputable def f64.Q1 (k : Nat)  : Kont (Value × AHeap) := seqQ (gateC (Sub (bodyOf Try.f64) [1, 1, 0]) (Sub (bodyOf Try.f64) [1, 1, 1]) k (run Try.prog (C k) k (Sub (bodyOf Try.f64) [1, 1, 1]) (f64.Q0 k ))) (f64.Q0 k )
noncomputable def f64.Q2 (k : Nat)  : Kont (Value × AHeap) := blkQ 0 (f64.Q1 k )
noncomputable def f64.L1 (k : Nat) (n1 : Nat) (a0 : Option Addr) (l0 : Nat) (c0 : Nat) (a1 : Option Addr) (l1 : Nat) (c1 : Nat) (x5 : Int) (D : List Value) (H : AHeap) : Option (Value × AHeap) :=
  iter (run Try.prog (C k) k (Sub (bodyOf Try.f64) [1, 1, 0, 1, 0, 0])) (f64.Q2 k ) n1 [.slice a0 l0 c0, .slice a1 l1 c1, undef, undef, (D.getD 0 undef), .int .i64 x5, (D.getD 1 undef), (D.getD 2 undef), (D.getD 3 undef), (D.getD 4 undef), (D.getD 5 undef), (D.getD 6 undef), (D.getD 7 undef), (D.getD 8 undef), (D.getD 9 undef), (D.getD 10 undef), (D.getD 11 undef), (D.getD 12 undef), (D.getD 13 undef), (D.getD 14 undef), (D.getD 15 undef), (D.getD 16 undef), (D.getD 17 undef), (D.getD 18 undef), (D.getD 19 undef), (D.getD 20 undef)] H
theorem f64.L1_z (k : Nat)  (a0 : Option Addr) (l0 : Nat) (c0 : Nat) (a1 : Option Addr) (l1 : Nat) (c1 : Nat) (x5 : Int) (D : List Value) (H : AHeap) : f64.L1 k 0 a0 l0 c0 a1 l1 c1 x5 D H = none := by kernel_rfl
theorem f64.L1_s (k : Nat) (n1 : Nat) (a0 : Option Addr) (l0 : Nat) (c0 : Nat) (a1 : Option Addr) (l1 : Nat) (c1 : Nat) (x5 : Int) (D : List Value) (H : AHeap) : f64.L1 k (n1 + 1) a0 l0 c0 a1 l1 c1 x5 D H =
  (bif (decide (x5 < (l0 : Int))) then
   a0.bind fun q =>
   if 0 ≤ x5 ∧ x5 < (l0 : Int) then
   bif sameB H (H.bump 9) q.block then
   (ldI .i64 (H.bump 9) q.block (q.off + x5.toNat * 1)).bind fun x =>
   a1.bind fun q_1 =>
   if 0 ≤ x5 ∧ x5 < (l1 : Int) then
   bif sameB H (H.bump 9) q_1.block then
   (ldI .i64 (H.bump 9) q_1.block (q_1.off + x5.toNat * 1)).bind fun x_1 =>
   bif (x != x_1) then
   some (.bool false, (H.bump 9))
   else
   f64.L1 k n1 a0 l0 c0 a1 l1 c1 (IntKind.i64.wrap (x5 + (1 : Int))) [(D.getD 0 undef), (D.getD 1 undef), (D.getD 2 undef), (D.getD 3 undef), (D.getD 4 undef), (D.getD 5 undef), .int .i64 x5, .slice a0 l0 c0, .int .i64 (l0 : Int), .bool (decide (x5 < (l0 : Int))), .int .i64 x5, .int .i64 (IntKind.i64.wrap (x5 + (1 : Int))), .slice a0 l0 c0, .int .i64 x5, .pointer (some ⟨q.block, q.off + x5.toNat * 1, none⟩), .int .i64 x, .slice a1 l1 c1, .int .i64 x5, .pointer (some ⟨q_1.block, q_1.off + x5.toNat * 1, none⟩), .int .i64 x_1, .bool (x != x_1)] (H.bump 9)
   else none
   else none
   else none
   else none
   else
   some (.bool true, H)) := by kernel_rfl
theorem f64_eq (k : Nat) (a0 : Option Addr) (l0 : Nat) (c0 : Nat) (a1 : Option Addr) (l1 : Nat) (c1 : Nat) (H : AHeap) : C (k + 1) 64 [.slice a0 l0 c0, .slice a1 l1 c1] H =
  (bif ((l0 : Int) != (l1 : Int)) then
   some (.bool false, H)
   else
   f64.L1 k k a0 l0 c0 a1 l1 c1 0 [.bool false, .slice a0 l0 c0, .int .i64 (l0 : Int), .slice a1 l1 c1, .int .i64 (l1 : Int), .bool ((l0 : Int) != (l1 : Int)), undef, undef, undef, undef, undef, undef, undef, undef, undef, undef, undef, undef, undef, undef, undef] H) := by kernel_rfl

/- f78 "interleave/interleaveref07.Has"  names: 0:l 1:n 2:l 3:n 5:i -/
noncomputable def f78.Q0 (k : Nat)  : Kont (Value × AHeap) := retQ Try.prog Try.f78
noncomputable def f78.Q1 (k : Nat)  : Kont (Value × AHeap) := seqQ (gateC (Sub (bodyOf Try.f78) [1, 0]) (Sub (bodyOf Try.f78) [1, 1]) k (run Try.prog (C k) k (Sub (bodyOf Try.f78) [1, 1]) (f78.Q0 k ))) (f78.Q0 k )
noncomputable def f78.Q2 (k : Nat)  : Kont (Value × AHeap) := blkQ 0 (f78.Q1 k )
noncomputable def f78.L1 (k : Nat) (n1 : Nat) (a0 : Option Addr) (l0 : Nat) (c0 : Nat) (x1 : Int) (x5 : Int) (D : List Value) (H : AHeap) : Option (Value × AHeap) :=
  iter (run Try.prog (C k) k (Sub (bodyOf Try.f78) [1, 0, 1, 0, 0])) (f78.Q2 k ) n1 [.slice a0 l0 c0, .int .i64 x1, undef, undef, (D.getD 0 undef), .int .i64 x5, (D.getD 1 undef), (D.getD 2 undef), (D.getD 3 undef), (D.getD 4 undef), (D.getD 5 undef), (D.getD 6 undef), (D.getD 7 undef), (D.getD 8 undef), (D.getD 9 undef), (D.getD 10 undef), (D.getD 11 undef), (D.getD 12 undef)] H
theorem f78.L1_z (k : Nat)  (a0 : Option Addr) (l0 : Nat) (c0 : Nat) (x1 : Int) (x5 : Int) (D : List Value) (H : AHeap) : f78.L1 k 0 a0 l0 c0 x1 x5 D H = none := by kernel_rfl
theorem f78.L1_s (k : Nat) (n1 : Nat) (a0 : Option Addr) (l0 : Nat) (c0 : Nat) (x1 : Int) (x5 : Int) (D : List Value) (H : AHeap) : f78.L1 k (n1 + 1) a0 l0 c0 x1 x5 D H =
  (bif (decide (x5 < (l0 : Int))) then
   a0.bind fun q =>
   if 0 ≤ x5 ∧ x5 < (l0 : Int) then
   (ldI .i64 H q.block (q.off + x5.toNat * 1)).bind fun x =>
   bif (x == x1) then
   some (.bool true, H)
   else
   f78.L1 k n1 a0 l0 c0 x1 (IntKind.i64.wrap (x5 + (1 : Int))) [(D.getD 0 undef), .int .i64 x5, .slice a0 l0 c0, .int .i64 (l0 : Int), .bool (decide (x5 < (l0 : Int))), .int .i64 x5, .int .i64 (IntKind.i64.wrap (x5 + (1 : Int))), .slice a0 l0 c0, .int .i64 x5, .pointer (some ⟨q.block, q.off + x5.toNat * 1, none⟩), .int .i64 x, .int .i64 x1, .bool (x == x1)] H
   else none
   else
   some (.bool false, H)) := by kernel_rfl
theorem f78_eq (k : Nat) (a0 : Option Addr) (l0 : Nat) (c0 : Nat) (x1 : Int) (H : AHeap) : C (k + 1) 78 [.slice a0 l0 c0, .int .i64 x1] H =
  (f78.L1 k k a0 l0 c0 x1 0 [.bool false, undef, undef, undef, undef, undef, undef, undef, undef, undef, undef, undef, undef] H) := by kernel_rfl

/- f33 "interleave/object.Start"  names: 0:w 1:w 3:s -/
noncomputable def f33.Q0 (k : Nat)  : Kont (Value × AHeap) := retQ Try.prog Try.f33
noncomputable def f33.Q1 (k : Nat)  : Kont (Value × AHeap) := seqQ (gateC (Sub (bodyOf Try.f33) [1, 1, 0]) (Sub (bodyOf Try.f33) [1, 1, 1]) k (run Try.prog (C k) k (Sub (bodyOf Try.f33) [1, 1, 1]) (f33.Q0 k ))) (f33.Q0 k )
noncomputable def f33.Q2 (k : Nat)  : Kont (Value × AHeap) := blkQ 0 (f33.Q1 k )
noncomputable def f33.L1 (k : Nat) (n1 : Nat) (p2 : Nat) (p3 : Nat) (x15 : Int) (x16 : Int) (D : List Value) (H : AHeap) : Option (Value × AHeap) :=
  iter (run Try.prog (C k) k (Sub (bodyOf Try.f33) [1, 1, 0, 1, 0, 0])) (f33.Q2 k ) n1 [(D.getD 0 undef), (D.getD 1 undef), .pointer (some ⟨p2, 0, none⟩), .pointer (some ⟨p3, 0, none⟩), (D.getD 2 undef), (D.getD 3 undef), (D.getD 4 undef), (D.getD 5 undef), (D.getD 6 undef), (D.getD 7 undef), (D.getD 8 undef), (D.getD 9 undef), (D.getD 10 undef), (D.getD 11 undef), (D.getD 12 undef), .int .i64 x15, .int .i64 x16, (D.getD 13 undef), (D.getD 14 undef), (D.getD 15 undef), (D.getD 16 undef), (D.getD 17 undef), (D.getD 18 undef), (D.getD 19 undef), (D.getD 20 undef), undef, undef, undef, undef, undef, undef, undef, undef, undef] H
theorem f33.L1_z (k : Nat)  (p2 : Nat) (p3 : Nat) (x15 : Int) (x16 : Int) (D : List Value) (H : AHeap) : f33.L1 k 0 p2 p3 x15 x16 D H = none := by kernel_rfl
theorem f33.L1_s (k : Nat) (n1 : Nat) (p2 : Nat) (p3 : Nat) (x15 : Int) (x16 : Int) (D : List Value) (H : AHeap) : f33.L1 k (n1 + 1) p2 p3 x15 x16 D H =
  (bif (decide (x16 < x15)) then
   bSl (ldSl H p3 (0)) fun a l c =>
   alK none H ⟨[.int .i64 (-1), .slice none 0 0], 2, .rw, 0⟩ fun i H_1 =>
   cSl (apndV Try.prog [61, 61] H_1 (.slice a l c) (.slice (some ⟨i, 0, none⟩) 1 1)) fun a_1 l_1 c_1 H_2 =>
   (AHeap.wr H_2 p3 (0) [.slice a_1 l_1 c_1]).bind fun H_3 =>
   f33.L1 k n1 p2 p3 x15 (IntKind.i64.wrap (x16 + (1 : Int))) [(D.getD 0 undef), (D.getD 1 undef), (D.getD 2 undef), (D.getD 3 undef), (D.getD 4 undef), (D.getD 5 undef), (D.getD 6 undef), (D.getD 7 undef), (D.getD 8 undef), (D.getD 9 undef), (D.getD 10 undef), (D.getD 11 undef), (D.getD 12 undef), .bool (decide (x16 < x15)), .pointer (some ⟨p3, 0, none⟩), .slice a l c, .agg #[.int .i64 (-1), .slice none 0 0], .slice (some ⟨i, 0, none⟩) 1 1, .slice a_1 l_1 c_1, .pointer (some ⟨p3, 0, none⟩), .int .i64 (IntKind.i64.wrap (x16 + (1 : Int)))] H_3
   else
   bSl (ldSl H p3 (3)) fun a_2 l_2 c_2 =>
   bif (decide ((l_2 : Int) > (0 : Int))) then
   bSl (ldSl H p3 (3)) fun a_3 l_3 c_3 =>
   a_3.bind fun q =>
   if 0 ≤ (0 : Int) ∧ (0 : Int) < (l_3 : Int) then
   (AHeap.wr H q.block (q.off + (0 : Int).toNat * 3 + 0) [.int .i64 1]).bind fun H_4 =>
   (AHeap.row H_4 p3 (0) 4).bind fun g =>
   if notTup (.agg (g : List Value).toArray) = true ∧ (g).length = 4 then
   (AHeap.wr H_4 p2 (0) g).bind fun H_5 =>
   (AHeap.row H_5 p2 (0) 4).bind fun g_1 =>
   some (.agg (g_1 : List Value).toArray, H_5)
   else none
   else none
   else
   (AHeap.row H p3 (0) 4).bind fun g_2 =>
   if notTup (.agg (g_2 : List Value).toArray) = true ∧ (g_2).length = 4 then
   (AHeap.wr H p2 (0) g_2).bind fun H_6 =>
   (AHeap.row H_6 p2 (0) 4).bind fun g_3 =>
   some (.agg (g_3 : List Value).toArray, H_6)
   else none) := by kernel_rfl
theorem f33_eq (k : Nat) (a0_0 : Option Addr) (l0_0 : Nat) (c0_0 : Nat) (a0_1 : Option Addr) (l0_1 : Nat) (c0_1 : Nat) (a0_2 : Option Addr) (l0_2 : Nat) (c0_2 : Nat) (a0_3 : Option Addr) (l0_3 : Nat) (c0_3 : Nat) (a0_4 : Option Addr) (l0_4 : Nat) (c0_4 : Nat) (a0_5 : Option Addr) (l0_5 : Nat) (c0_5 : Nat) (H : AHeap) : C (k + 1) 33 [.agg #[.slice a0_0 l0_0 c0_0, .slice a0_1 l0_1 c0_1, .slice a0_2 l0_2 c0_2, .slice a0_3 l0_3 c0_3, .slice a0_4 l0_4 c0_4, .slice a0_5 l0_5 c0_5]] H =
  (alK none H ⟨[.slice a0_0 l0_0 c0_0, .slice a0_1 l0_1 c0_1, .slice a0_2 l0_2 c0_2, .slice a0_3 l0_3 c0_3, .slice a0_4 l0_4 c0_4, .slice a0_5 l0_5 c0_5], 0, .rw, 0⟩ fun i H_1 =>
   alK none H_1 ⟨[.slice none 0 0, .int .i64 0, .slice none 0 0, .slice none 0 0], 0, .rw, 0⟩ fun i_1 H_2 =>
   bif sameB H_2 (H_2.bump 11) i then
   bSl (ldSl (H_2.bump 11) i (3)) fun a l c =>
   if (l : Int) = (l : Int) then 
    if 0 ≤ (l : Int) ∧ (l : Int) * ((1 : Nat) : Int) ≤ 70368744177664 ∧ (l : Int) ≤ 70368744177664 then
   alK (some (H_2.next + 3)) (H_2.bump 11) ⟨rep [.bool false] (l : Int).toNat, 1, .rw, 0⟩ fun i_2 H_3 =>
   bif sameB H_2 H_3 i then
   bSl (ldSl H_3 i (4)) fun a_1 l_1 c_1 =>
   if (l_1 : Int) = (l_1 : Int) then 
    if 0 ≤ (l_1 : Int) ∧ (l_1 : Int) * ((24 : Nat) : Int) ≤ 70368744177664 ∧ (l_1 : Int) ≤ 70368744177664 then
   alK (some (H_2.next + 7)) H_3 ⟨rep [.int .i64 0, .int .i64 0, .bool false] (l_1 : Int).toNat, 3, .rw, 0⟩ fun i_3 H_4 =>
   alK (some (H_2.next + 9)) H_4 ⟨[.slice none 0 0, .int .i64 0, .slice none 0 0, .slice none 0 0], 0, .rw, 0⟩ fun i_4 H_5 =>
   (AHeap.wr H_5 i_4 (0) [.slice none 0 0, .int .i64 (-1), .slice (some ⟨i_2, 0, none⟩) ((l : Int).toNat) ((l : Int).toNat), .slice (some ⟨i_3, 0, none⟩) ((l_1 : Int).toNat) ((l_1 : Int).toNat)]).bind fun H_6 =>
   bSl (ldSl H_6 i (1)) fun a_2 l_2 c_2 =>
   f33.L1 k k i_1 i_4 (l_2 : Int) 0 [.agg #[.slice a0_0 l0_0 c0_0, .slice a0_1 l0_1 c0_1, .slice a0_2 l0_2 c0_2, .slice a0_3 l0_3 c0_3, .slice a0_4 l0_4 c0_4, .slice a0_5 l0_5 c0_5], .pointer (some ⟨i, 0, none⟩), .pointer (some ⟨i, 3, none⟩), .slice a l c, .int .i64 (l : Int), .slice (some ⟨i_2, 0, none⟩) ((l : Int).toNat) ((l : Int).toNat), .pointer (some ⟨i, 4, none⟩), .slice a_1 l_1 c_1, .int .i64 (l_1 : Int), .slice (some ⟨i_3, 0, none⟩) ((l_1 : Int).toNat) ((l_1 : Int).toNat), .agg #[.slice none 0 0, .int .i64 (-1), .slice (some ⟨i_2, 0, none⟩) ((l : Int).toNat) ((l : Int).toNat), .slice (some ⟨i_3, 0, none⟩) ((l_1 : Int).toNat) ((l_1 : Int).toNat)], .pointer (some ⟨i, 1, none⟩), .slice a_2 l_2 c_2, undef, undef, undef, undef, undef, undef, undef, undef] H_6
    else none
   else none
   else none
    else none
   else none
   else none) := by kernel_rfl

/- f34 "interleave/interleaveref08.Start"  names: 0:w 1:w 3:s 4:i 5:i 6:i 7:t -/
noncomputable def f34.Q0 (k : Nat)  : Kont (Value × AHeap) := retQ Try.prog Try.f34
noncomputable def f34.Q1 (k : Nat)  : Kont (Value × AHeap) := seqQ (gateC (Sub (bodyOf Try.f34) [1, 1, 0]) (Sub (bodyOf Try.f34) [1, 1, 1]) k (run Try.prog (C k) k (Sub (bodyOf Try.f34) [1, 1, 1]) (f34.Q0 k ))) (f34.Q0 k )
noncomputable def f34.Q2 (k : Nat)  : Kont (Value × AHeap) := blkQ 0 (f34.Q1 k )
noncomputable def f34.Q3 (k : Nat)  : Kont (Value × AHeap) := seqQ (gateC (Sub (bodyOf Try.f34) [1, 1, 1, 0]) (Sub (bodyOf Try.f34) [1, 1, 1, 1]) k (run Try.prog (C k) k (Sub (bodyOf Try.f34) [1, 1, 1, 1]) (f34.Q0 k ))) (f34.Q0 k )
noncomputable def f34.Q4 (k : Nat)  : Kont (Value × AHeap) := blkQ 2 (f34.Q3 k )
noncomputable def f34.Q5 (k : Nat)  : Kont (Value × AHeap) := seqQ (gateC (Sub (bodyOf Try.f34) [1, 1, 1, 1, 0]) (Sub (bodyOf Try.f34) [1, 1, 1, 1, 1]) k (run Try.prog (C k) k (Sub (bodyOf Try.f34) [1, 1, 1, 1, 1]) (f34.Q0 k ))) (f34.Q0 k )
noncomputable def f34.Q6 (k : Nat)  : Kont (Value × AHeap) := blkQ 4 (f34.Q5 k )
noncomputable def f34.L1 (k : Nat) (n1 : Nat) (p1 : Nat) (p2 : Nat) (p3 : Nat) (x4 : Int) (D : List Value) (H : AHeap) : Option (Value × AHeap) :=
  iter (run Try.prog (C k) k (Sub (bodyOf Try.f34) [1, 1, 0, 1, 0, 0])) (f34.Q2 k ) n1 [(D.getD 0 undef), .pointer (some ⟨p1, 0, none⟩), .pointer (some ⟨p2, 0, none⟩), .pointer (some ⟨p3, 0, none⟩), .int .i64 x4, undef, undef, undef, (D.getD 1 undef), (D.getD 2 undef), (D.getD 3 undef), (D.getD 4 undef), (D.getD 5 undef), (D.getD 6 undef), (D.getD 7 undef), (D.getD 8 undef), (D.getD 9 undef), (D.getD 10 undef), (D.getD 11 undef), (D.getD 12 undef), (D.getD 13 undef), (D.getD 14 undef), undef, undef, undef, undef, undef, undef, undef, undef, undef, undef, undef, undef, undef, undef, undef, undef, undef, undef, undef, undef, undef, undef, undef, undef, undef, undef, undef, undef, undef, undef] H
noncomputable def f34.L2 (k : Nat) (n1 : Nat) (p1 : Nat) (p2 : Nat) (p3 : Nat) (x5 : Int) (D : List Value) (H : AHeap) : Option (Value × AHeap) :=
  iter (run Try.prog (C k) k (Sub (bodyOf Try.f34) [1, 1, 1, 0, 1, 0, 0])) (f34.Q4 k ) n1 [(D.getD 0 undef), .pointer (some ⟨p1, 0, none⟩), .pointer (some ⟨p2, 0, none⟩), .pointer (some ⟨p3, 0, none⟩), (D.getD 1 undef), .int .i64 x5, undef, undef, (D.getD 2 undef), (D.getD 3 undef), (D.getD 4 undef), (D.getD 5 undef), (D.getD 6 undef), (D.getD 7 undef), (D.getD 8 undef), (D.getD 9 undef), (D.getD 10 undef), (D.getD 11 undef), (D.getD 12 undef), (D.getD 13 undef), (D.getD 14 undef), (D.getD 15 undef), (D.getD 16 undef), (D.getD 17 undef), (D.getD 18 undef), (D.getD 19 undef), (D.getD 20 undef), (D.getD 21 undef), (D.getD 22 undef), (D.getD 23 undef), (D.getD 24 undef), (D.getD 25 undef), (D.getD 26 undef), (D.getD 27 undef), undef, undef, undef, undef, undef, undef, undef, undef, undef, undef, undef, undef, undef, undef, undef, undef, undef, undef] H
noncomputable def f34.L3 (k : Nat) (n1 : Nat) (p1 : Nat) (p2 : Nat) (p3 : Nat) (x6 : Int) (D : List Value) (H : AHeap) : Option (Value × AHeap) :=
  iter (run Try.prog (C k) k (Sub (bodyOf Try.f34) [1, 1, 1, 1, 0, 1, 0, 0])) (f34.Q6 k ) n1 [(D.getD 0 undef), .pointer (some ⟨p1, 0, none⟩), .pointer (some ⟨p2, 0, none⟩), .pointer (some ⟨p3, 0, none⟩), (D.getD 1 undef), (D.getD 2 undef), .int .i64 x6, (D.getD 3 undef), (D.getD 4 undef), (D.getD 5 undef), (D.getD 6 undef), (D.getD 7 undef), (D.getD 8 undef), (D.getD 9 undef), (D.getD 10 undef), (D.getD 11 undef), (D.getD 12 undef), (D.getD 13 undef), (D.getD 14 undef), (D.getD 15 undef), (D.getD 16 undef), (D.getD 17 undef), (D.getD 18 undef), (D.getD 19 undef), (D.getD 20 undef), (D.getD 21 undef), (D.getD 22 undef), (D.getD 23 undef), (D.getD 24 undef), (D.getD 25 undef), (D.getD 26 undef), (D.getD 27 undef), (D.getD 28 undef), (D.getD 29 undef), (D.getD 30 undef), (D.getD 31 undef), (D.getD 32 undef), (D.getD 33 undef), (D.getD 34 undef), (D.getD 35 undef), (D.getD 36 undef), (D.getD 37 undef), (D.getD 38 undef), (D.getD 39 undef), (D.getD 40 undef), (D.getD 41 undef), (D.getD 42 undef), (D.getD 43 undef), (D.getD 44 undef), (D.getD 45 undef), (D.getD 46 undef), undef] H
theorem f34.L1_z (k : Nat)  (p1 : Nat) (p2 : Nat) (p3 : Nat) (x4 : Int) (D : List Value) (H : AHeap) : f34.L1 k 0 p1 p2 p3 x4 D H = none := by kernel_rfl
theorem f34.L1_s (k : Nat) (n1 : Nat) (p1 : Nat) (p2 : Nat) (p3 : Nat) (x4 : Int) (D : List Value) (H : AHeap) : f34.L1 k (n1 + 1) p1 p2 p3 x4 D H =
  (bSl (ldSl H p1 (1)) fun a l c =>
   bif (decide (x4 < (l : Int))) then
   bSl (ldSl H p3 (0)) fun a_1 l_1 c_1 =>
   alK none H ⟨[.int .i64 (-1), .slice none 0 0], 2, .rw, 0⟩ fun i H_1 =>
   cSl (apndV Try.prog [61, 61] H_1 (.slice a_1 l_1 c_1) (.slice (some ⟨i, 0, none⟩) 1 1)) fun a_2 l_2 c_2 H_2 =>
   (AHeap.wr H_2 p3 (0) [.slice a_2 l_2 c_2]).bind fun H_3 =>
   f34.L1 k n1 p1 p2 p3 (IntKind.i64.wrap (x4 + (1 : Int))) [(D.getD 0 undef), (D.getD 1 undef), .int .i64 x4, .pointer (some ⟨p1, 1, none⟩), .slice a l c, .int .i64 (l : Int), .bool (decide (x4 < (l : Int))), .int .i64 x4, .int .i64 (IntKind.i64.wrap (x4 + (1 : Int))), .pointer (some ⟨p3, 0, none⟩), .slice a_1 l_1 c_1, .agg #[.int .i64 (-1), .slice none 0 0], .slice (some ⟨i, 0, none⟩) 1 1, .slice a_2 l_2 c_2, .pointer (some ⟨p3, 0, none⟩)] H_3
   else
   f34.L2 k k p1 p2 p3 0 [(D.getD 0 undef), .int .i64 x4, (D.getD 1 undef), .int .i64 x4, .pointer (some ⟨p1, 1, none⟩), .slice a l c, .int .i64 (l : Int), .bool (decide (x4 < (l : Int))), (D.getD 7 undef), (D.getD 8 undef), (D.getD 9 undef), (D.getD 10 undef), (D.getD 11 undef), (D.getD 12 undef), (D.getD 13 undef), (D.getD 14 undef), undef, undef, undef, undef, undef, undef, undef, undef, undef, undef, undef, undef] H) := by kernel_rfl
theorem f34.L2_z (k : Nat)  (p1 : Nat) (p2 : Nat) (p3 : Nat) (x5 : Int) (D : List Value) (H : AHeap) : f34.L2 k 0 p1 p2 p3 x5 D H = none := by kernel_rfl
theorem f34.L2_s (k : Nat) (n1 : Nat) (p1 : Nat) (p2 : Nat) (p3 : Nat) (x5 : Int) (D : List Value) (H : AHeap) : f34.L2 k (n1 + 1) p1 p2 p3 x5 D H =
  (bSl (ldSl H p1 (3)) fun a l c =>
   bif (decide (x5 < (l : Int))) then
   bSl (ldSl H p3 (2)) fun a_1 l_1 c_1 =>
   alK none H ⟨[.bool false], 1, .rw, 0⟩ fun i H_1 =>
   cSl (apndV Try.prog [37, 37] H_1 (.slice a_1 l_1 c_1) (.slice (some ⟨i, 0, none⟩) 1 1)) fun a_2 l_2 c_2 H_2 =>
   (AHeap.wr H_2 p3 (2) [.slice a_2 l_2 c_2]).bind fun H_3 =>
   f34.L2 k n1 p1 p2 p3 (IntKind.i64.wrap (x5 + (1 : Int))) [(D.getD 0 undef), (D.getD 1 undef), (D.getD 2 undef), (D.getD 3 undef), (D.getD 4 undef), (D.getD 5 undef), (D.getD 6 undef), (D.getD 7 undef), (D.getD 8 undef), (D.getD 9 undef), (D.getD 10 undef), (D.getD 11 undef), (D.getD 12 undef), (D.getD 13 undef), (D.getD 14 undef), (D.getD 15 undef), .int .i64 x5, .pointer (some ⟨p1, 3, none⟩), .slice a l c, .int .i64 (l : Int), .bool (decide (x5 < (l : Int))), .int .i64 x5, .int .i64 (IntKind.i64.wrap (x5 + (1 : Int))), .pointer (some ⟨p3, 2, none⟩), .slice a_1 l_1 c_1, .slice (some ⟨i, 0, none⟩) 1 1, .slice a_2 l_2 c_2, .pointer (some ⟨p3, 2, none⟩)] H_3
   else
   f34.L3 k k p1 p2 p3 0 [(D.getD 0 undef), (D.getD 1 undef), .int .i64 x5, undef, (D.getD 2 undef), (D.getD 3 undef), (D.getD 4 undef), (D.getD 5 undef), (D.getD 6 undef), (D.getD 7 undef), (D.getD 8 undef), (D.getD 9 undef), (D.getD 10 undef), (D.getD 11 undef), (D.getD 12 undef), (D.getD 13 undef), (D.getD 14 undef), (D.getD 15 undef), .int .i64 x5, .pointer (some ⟨p1, 3, none⟩), .slice a l c, .int .i64 (l : Int), .bool (decide (x5 < (l : Int))), (D.getD 21 undef), (D.getD 22 undef), (D.getD 23 undef), (D.getD 24 undef), (D.getD 25 undef), (D.getD 26 undef), (D.getD 27 undef), undef, undef, undef, undef, undef, undef, undef, undef, undef, undef, undef, undef, undef, undef, undef, undef, undef] H) := by kernel_rfl
theorem f34.L3_z (k : Nat)  (p1 : Nat) (p2 : Nat) (p3 : Nat) (x6 : Int) (D : List Value) (H : AHeap) : f34.L3 k 0 p1 p2 p3 x6 D H = none := by kernel_rfl
theorem f34.L3_s (k : Nat) (n1 : Nat) (p1 : Nat) (p2 : Nat) (p3 : Nat) (x6 : Int) (D : List Value) (H : AHeap) : f34.L3 k (n1 + 1) p1 p2 p3 x6 D H =
  (bSl (ldSl H p1 (4)) fun a l c =>
   bif (decide (x6 < (l : Int))) then
   alK none H ⟨[.int .i64 0, .int .i64 0, .bool false], 0, .rw, 0⟩ fun i H_1 =>
   (AHeap.wr H_1 i (0) [.int .i64 0, .int .i64 0, .bool false]).bind fun H_2 =>
   bif (x6 == (0 : Int)) then
   (AHeap.wr H_2 i (0) [.int .i64 1]).bind fun H_3 =>
   bSl (ldSl H_3 p3 (3)) fun a_1 l_1 c_1 =>
   (AHeap.row H_3 i (0) 3).bind fun g =>
   buildSK Try.prog 62 1 [(0, .agg (g : List Value).toArray)] fun g_1 z =>
   alK none H_3 ⟨g_1, z, .rw, 0⟩ fun i_1 H_4 =>
   cSl (apndV Try.prog [62, 62] H_4 (.slice a_1 l_1 c_1) (.slice (some ⟨i_1, 0, none⟩) 1 1)) fun a_2 l_2 c_2 H_5 =>
   (AHeap.wr H_5 p3 (3) [.slice a_2 l_2 c_2]).bind fun H_6 =>
   f34.L3 k n1 p1 p2 p3 (IntKind.i64.wrap (x6 + (1 : Int))) [(D.getD 0 undef), (D.getD 1 undef), (D.getD 2 undef), .pointer (some ⟨i, 0, none⟩), (D.getD 4 undef), (D.getD 5 undef), (D.getD 6 undef), (D.getD 7 undef), (D.getD 8 undef), (D.getD 9 undef), (D.getD 10 undef), (D.getD 11 undef), (D.getD 12 undef), (D.getD 13 undef), (D.getD 14 undef), (D.getD 15 undef), (D.getD 16 undef), (D.getD 17 undef), (D.getD 18 undef), (D.getD 19 undef), (D.getD 20 undef), (D.getD 21 undef), (D.getD 22 undef), (D.getD 23 undef), (D.getD 24 undef), (D.getD 25 undef), (D.getD 26 undef), (D.getD 27 undef), (D.getD 28 undef), (D.getD 29 undef), .int .i64 x6, .pointer (some ⟨p1, 4, none⟩), .slice a l c, .int .i64 (l : Int), .bool (decide (x6 < (l : Int))), .int .i64 x6, .int .i64 (IntKind.i64.wrap (x6 + (1 : Int))), .agg #[.int .i64 0, .int .i64 0, .bool false], .int .i64 x6, .bool (x6 == (0 : Int)), .pointer (some ⟨i, 0, none⟩), .pointer (some ⟨p3, 3, none⟩), .slice a_1 l_1 c_1, .agg (g : List Value).toArray, .slice (some ⟨i_1, 0, none⟩) 1 1, .slice a_2 l_2 c_2, .pointer (some ⟨p3, 3, none⟩)] H_6
   else
   bSl (ldSl H_2 p3 (3)) fun a_3 l_3 c_3 =>
   (AHeap.row H_2 i (0) 3).bind fun g_2 =>
   buildSK Try.prog 62 1 [(0, .agg (g_2 : List Value).toArray)] fun g_3 z_1 =>
   alK none H_2 ⟨g_3, z_1, .rw, 0⟩ fun i_2 H_7 =>
   cSl (apndV Try.prog [62, 62] H_7 (.slice a_3 l_3 c_3) (.slice (some ⟨i_2, 0, none⟩) 1 1)) fun a_4 l_4 c_4 H_8 =>
   (AHeap.wr H_8 p3 (3) [.slice a_4 l_4 c_4]).bind fun H_9 =>
   f34.L3 k n1 p1 p2 p3 (IntKind.i64.wrap (x6 + (1 : Int))) [(D.getD 0 undef), (D.getD 1 undef), (D.getD 2 undef), .pointer (some ⟨i, 0, none⟩), (D.getD 4 undef), (D.getD 5 undef), (D.getD 6 undef), (D.getD 7 undef), (D.getD 8 undef), (D.getD 9 undef), (D.getD 10 undef), (D.getD 11 undef), (D.getD 12 undef), (D.getD 13 undef), (D.getD 14 undef), (D.getD 15 undef), (D.getD 16 undef), (D.getD 17 undef), (D.getD 18 undef), (D.getD 19 undef), (D.getD 20 undef), (D.getD 21 undef), (D.getD 22 undef), (D.getD 23 undef), (D.getD 24 undef), (D.getD 25 undef), (D.getD 26 undef), (D.getD 27 undef), (D.getD 28 undef), (D.getD 29 undef), .int .i64 x6, .pointer (some ⟨p1, 4, none⟩), .slice a l c, .int .i64 (l : Int), .bool (decide (x6 < (l : Int))), .int .i64 x6, .int .i64 (IntKind.i64.wrap (x6 + (1 : Int))), .agg #[.int .i64 0, .int .i64 0, .bool false], .int .i64 x6, .bool (x6 == (0 : Int)), (D.getD 40 undef), .pointer (some ⟨p3, 3, none⟩), .slice a_3 l_3 c_3, .agg (g_2 : List Value).toArray, .slice (some ⟨i_2, 0, none⟩) 1 1, .slice a_4 l_4 c_4, .pointer (some ⟨p3, 3, none⟩)] H_9
   else
   (AHeap.row H p3 (0) 4).bind fun g_4 =>
   if notTup (.agg (g_4 : List Value).toArray) = true ∧ (g_4).length = 4 then
   (AHeap.wr H p2 (0) g_4).bind fun H_10 =>
   (AHeap.row H_10 p2 (0) 4).bind fun g_5 =>
   some (.agg (g_5 : List Value).toArray, H_10)
   else none) := by kernel_rfl
theorem f34_eq (k : Nat) (a0_0 : Option Addr) (l0_0 : Nat) (c0_0 : Nat) (a0_1 : Option Addr) (l0_1 : Nat) (c0_1 : Nat) (a0_2 : Option Addr) (l0_2 : Nat) (c0_2 : Nat) (a0_3 : Option Addr) (l0_3 : Nat) (c0_3 : Nat) (a0_4 : Option Addr) (l0_4 : Nat) (c0_4 : Nat) (a0_5 : Option Addr) (l0_5 : Nat) (c0_5 : Nat) (H : AHeap) : C (k + 1) 34 [.agg #[.slice a0_0 l0_0 c0_0, .slice a0_1 l0_1 c0_1, .slice a0_2 l0_2 c0_2, .slice a0_3 l0_3 c0_3, .slice a0_4 l0_4 c0_4, .slice a0_5 l0_5 c0_5]] H =
  (alK none H ⟨[.slice a0_0 l0_0 c0_0, .slice a0_1 l0_1 c0_1, .slice a0_2 l0_2 c0_2, .slice a0_3 l0_3 c0_3, .slice a0_4 l0_4 c0_4, .slice a0_5 l0_5 c0_5], 0, .rw, 0⟩ fun i H_1 =>
   alK none H_1 ⟨[.slice none 0 0, .int .i64 0, .slice none 0 0, .slice none 0 0], 0, .rw, 0⟩ fun i_1 H_2 =>
   alK none H_2 ⟨[.slice none 0 0, .int .i64 0, .slice none 0 0, .slice none 0 0], 0, .rw, 0⟩ fun i_2 H_3 =>
   (AHeap.wr H_3 i_2 (0) [.slice none 0 0, .int .i64 (-1), .slice none 0 0, .slice none 0 0]).bind fun H_4 =>
   f34.L1 k k i i_1 i_2 0 [.agg #[.slice a0_0 l0_0 c0_0, .slice a0_1 l0_1 c0_1, .slice a0_2 l0_2 c0_2, .slice a0_3 l0_3 c0_3, .slice a0_4 l0_4 c0_4, .slice a0_5 l0_5 c0_5], .agg #[.slice none 0 0, .int .i64 (-1), .slice none 0 0, .slice none 0 0], undef, undef, undef, undef, undef, undef, undef, undef, undef, undef, undef, undef, undef] H_4) := by kernel_rfl

/- f32 "interleave/interleaveref08.Same"  names:  -/
noncomputable def f32.Q0 (k : Nat)  : Kont (Value × AHeap) := retQ Try.prog Try.f32
noncomputable def f32.Q1 (k : Nat)  : Kont (Value × AHeap) := seqQ (gateC (Sub (bodyOf Try.f32) [1, 1, 0]) (Sub (bodyOf Try.f32) [1, 1, 1]) k (run Try.prog (C k) k (Sub (bodyOf Try.f32) [1, 1, 1]) (f32.Q0 k ))) (f32.Q0 k )
noncomputable def f32.Q2 (k : Nat)  : Kont (Value × AHeap) := blkQ 0 (f32.Q1 k )
noncomputable def f32.Q3 (k : Nat)  : Kont (Value × AHeap) := seqQ (gateC (Sub (bodyOf Try.f32) [1, 1, 1, 0]) (Sub (bodyOf Try.f32) [1, 1, 1, 1]) k (run Try.prog (C k) k (Sub (bodyOf Try.f32) [1, 1, 1, 1]) (f32.Q0 k ))) (f32.Q0 k )
noncomputable def f32.Q4 (k : Nat)  : Kont (Value × AHeap) := blkQ 2 (f32.Q3 k )
noncomputable def f32.Q5 (k : Nat)  : Kont (Value × AHeap) := seqQ (gateC (Sub (bodyOf Try.f32) [1, 1, 1, 1, 0]) (Sub (bodyOf Try.f32) [1, 1, 1, 1, 1]) k (run Try.prog (C k) k (Sub (bodyOf Try.f32) [1, 1, 1, 1, 1]) (f32.Q0 k ))) (f32.Q0 k )
noncomputable def f32.Q6 (k : Nat)  : Kont (Value × AHeap) := blkQ 4 (f32.Q5 k )
noncomputable def f32.K1 (k : Nat)  (p2 : Nat) (p3 : Nat) (D : List Value) (H : AHeap) : Option (Value × AHeap) :=
  gateC (Sub (bodyOf Try.f32) [1, 0]) (Sub (bodyOf Try.f32) [1, 1]) k (run Try.prog (C k) k (Sub (bodyOf Try.f32) [1, 1]) (f32.Q0 k )) [(D.getD 0 undef), (D.getD 1 undef), .pointer (some ⟨p2, 0, none⟩), .pointer (some ⟨p3, 0, none⟩), (D.getD 2 undef), undef, undef, undef, (D.getD 3 undef), (D.getD 4 undef), (D.getD 5 undef), (D.getD 6 undef), (D.getD 7 undef), (D.getD 8 undef), (D.getD 9 undef), (D.getD 10 undef), (D.getD 11 undef), (D.getD 12 undef), (D.getD 13 undef), (D.getD 14 undef), (D.getD 15 undef), (D.getD 16 undef), (D.getD 17 undef), (D.getD 18 undef), (D.getD 19 undef), (D.getD 20 undef), (D.getD 21 undef), (D.getD 22 undef), (D.getD 23 undef), (D.getD 24 undef), (D.getD 25 undef), (D.getD 26 undef), (D.getD 27 undef), (D.getD 28 undef), (D.getD 29 undef), (D.getD 30 undef), (D.getD 31 undef), (D.getD 32 undef), (D.getD 33 undef), (D.getD 34 undef), undef, undef, undef, undef, undef, undef, undef, undef, undef, undef, undef, undef, undef, undef, undef, undef, undef, undef, undef, undef, undef, undef, undef, undef, undef, undef, undef, undef, undef, undef, undef, undef, undef, undef, undef, undef, undef, undef, undef, undef, undef, undef, undef, undef, undef, undef, undef, undef, undef, undef, undef, undef, undef, undef, undef, undef, undef, undef, undef, undef, undef, undef, undef, undef, undef, undef, undef, undef, undef, undef, undef, undef] H
noncomputable def f32.L1 (k : Nat) (n1 : Nat) (p2 : Nat) (p3 : Nat) (x5 : Int) (D : List Value) (H : AHeap) : Option (Value × AHeap) :=
  iter (run Try.prog (C k) k (Sub (bodyOf Try.f32) [1, 1, 0, 1, 0, 0])) (f32.Q2 k ) n1 [(D.getD 0 undef), (D.getD 1 undef), .pointer (some ⟨p2, 0, none⟩), .pointer (some ⟨p3, 0, none⟩), (D.getD 2 undef), .int .i64 x5, undef, undef, (D.getD 3 undef), (D.getD 4 undef), (D.getD 5 undef), (D.getD 6 undef), (D.getD 7 undef), (D.getD 8 undef), (D.getD 9 undef), (D.getD 10 undef), (D.getD 11 undef), (D.getD 12 undef), (D.getD 13 undef), (D.getD 14 undef), (D.getD 15 undef), (D.getD 16 undef), (D.getD 17 undef), (D.getD 18 undef), (D.getD 19 undef), (D.getD 20 undef), (D.getD 21 undef), (D.getD 22 undef), (D.getD 23 undef), (D.getD 24 undef), (D.getD 25 undef), (D.getD 26 undef), (D.getD 27 undef), (D.getD 28 undef), (D.getD 29 undef), (D.getD 30 undef), (D.getD 31 undef), (D.getD 32 undef), (D.getD 33 undef), (D.getD 34 undef), (D.getD 35 undef), (D.getD 36 undef), (D.getD 37 undef), (D.getD 38 undef), (D.getD 39 undef), (D.getD 40 undef), (D.getD 41 undef), (D.getD 42 undef), (D.getD 43 undef), (D.getD 44 undef), (D.getD 45 undef), (D.getD 46 undef), (D.getD 47 undef), (D.getD 48 undef), (D.getD 49 undef), (D.getD 50 undef), (D.getD 51 undef), (D.getD 52 undef), (D.getD 53 undef), (D.getD 54 undef), (D.getD 55 undef), (D.getD 56 undef), (D.getD 57 undef), (D.getD 58 undef), (D.getD 59 undef), (D.getD 60 undef), (D.getD 61 undef), (D.getD 62 undef), (D.getD 63 undef), (D.getD 64 undef), (D.getD 65 undef), (D.getD 66 undef), (D.getD 67 undef), (D.getD 68 undef), (D.getD 69 undef), (D.getD 70 undef), undef, undef, undef, undef, undef, undef, undef, undef, undef, undef, undef, undef, undef, undef, undef, undef, undef, undef, undef, undef, undef, undef, undef, undef, undef, undef, undef, undef, undef, undef, undef, undef, undef, undef, undef, undef] H
noncomputable def f32.L2 (k : Nat) (n1 : Nat) (p2 : Nat) (p3 : Nat) (x6 : Int) (D : List Value) (H : AHeap) : Option (Value × AHeap) :=
  iter (run Try.prog (C k) k (Sub (bodyOf Try.f32) [1, 1, 1, 0, 1, 0, 0])) (f32.Q4 k ) n1 [(D.getD 0 undef), (D.getD 1 undef), .pointer (some ⟨p2, 0, none⟩), .pointer (some ⟨p3, 0, none⟩), (D.getD 2 undef), (D.getD 3 undef), .int .i64 x6, undef, (D.getD 4 undef), (D.getD 5 undef), (D.getD 6 undef), (D.getD 7 undef), (D.getD 8 undef), (D.getD 9 undef), (D.getD 10 undef), (D.getD 11 undef), (D.getD 12 undef), (D.getD 13 undef), (D.getD 14 undef), (D.getD 15 undef), (D.getD 16 undef), (D.getD 17 undef), (D.getD 18 undef), (D.getD 19 undef), (D.getD 20 undef), (D.getD 21 undef), (D.getD 22 undef), (D.getD 23 undef), (D.getD 24 undef), (D.getD 25 undef), (D.getD 26 undef), (D.getD 27 undef), (D.getD 28 undef), (D.getD 29 undef), (D.getD 30 undef), (D.getD 31 undef), (D.getD 32 undef), (D.getD 33 undef), (D.getD 34 undef), (D.getD 35 undef), (D.getD 36 undef), (D.getD 37 undef), (D.getD 38 undef), (D.getD 39 undef), (D.getD 40 undef), (D.getD 41 undef), (D.getD 42 undef), (D.getD 43 undef), (D.getD 44 undef), (D.getD 45 undef), (D.getD 46 undef), (D.getD 47 undef), (D.getD 48 undef), (D.getD 49 undef), (D.getD 50 undef), (D.getD 51 undef), (D.getD 52 undef), (D.getD 53 undef), (D.getD 54 undef), (D.getD 55 undef), (D.getD 56 undef), (D.getD 57 undef), (D.getD 58 undef), (D.getD 59 undef), (D.getD 60 undef), (D.getD 61 undef), (D.getD 62 undef), (D.getD 63 undef), (D.getD 64 undef), (D.getD 65 undef), (D.getD 66 undef), (D.getD 67 undef), (D.getD 68 undef), (D.getD 69 undef), (D.getD 70 undef), (D.getD 71 undef), (D.getD 72 undef), (D.getD 73 undef), (D.getD 74 undef), (D.getD 75 undef), (D.getD 76 undef), (D.getD 77 undef), (D.getD 78 undef), (D.getD 79 undef), (D.getD 80 undef), (D.getD 81 undef), (D.getD 82 undef), (D.getD 83 undef), (D.getD 84 undef), (D.getD 85 undef), (D.getD 86 undef), (D.getD 87 undef), (D.getD 88 undef), (D.getD 89 undef), undef, undef, undef, undef, undef, undef, undef, undef, undef, undef, undef, undef, undef, undef, undef, undef, undef, undef] H
noncomputable def f32.L3 (k : Nat) (n1 : Nat) (p2 : Nat) (p3 : Nat) (x7 : Int) (D : List Value) (H : AHeap) : Option (Value × AHeap) :=
  iter (run Try.prog (C k) k (Sub (bodyOf Try.f32) [1, 1, 1, 1, 0, 1, 0, 0])) (f32.Q6 k ) n1 [(D.getD 0 undef), (D.getD 1 undef), .pointer (some ⟨p2, 0, none⟩), .pointer (some ⟨p3, 0, none⟩), (D.getD 2 undef), (D.getD 3 undef), (D.getD 4 undef), .int .i64 x7, (D.getD 5 undef), (D.getD 6 undef), (D.getD 7 undef), (D.getD 8 undef), (D.getD 9 undef), (D.getD 10 undef), (D.getD 11 undef), (D.getD 12 undef), (D.getD 13 undef), (D.getD 14 undef), (D.getD 15 undef), (D.getD 16 undef), (D.getD 17 undef), (D.getD 18 undef), (D.getD 19 undef), (D.getD 20 undef), (D.getD 21 undef), (D.getD 22 undef), (D.getD 23 undef), (D.getD 24 undef), (D.getD 25 undef), (D.getD 26 undef), (D.getD 27 undef), (D.getD 28 undef), (D.getD 29 undef), (D.getD 30 undef), (D.getD 31 undef), (D.getD 32 undef), (D.getD 33 undef), (D.getD 34 undef), (D.getD 35 undef), (D.getD 36 undef), (D.getD 37 undef), (D.getD 38 undef), (D.getD 39 undef), (D.getD 40 undef), (D.getD 41 undef), (D.getD 42 undef), (D.getD 43 undef), (D.getD 44 undef), (D.getD 45 undef), (D.getD 46 undef), (D.getD 47 undef), (D.getD 48 undef), (D.getD 49 undef), (D.getD 50 undef), (D.getD 51 undef), (D.getD 52 undef), (D.getD 53 undef), (D.getD 54 undef), (D.getD 55 undef), (D.getD 56 undef), (D.getD 57 undef), (D.getD 58 undef), (D.getD 59 undef), (D.getD 60 undef), (D.getD 61 undef), (D.getD 62 undef), (D.getD 63 undef), (D.getD 64 undef), (D.getD 65 undef), (D.getD 66 undef), (D.getD 67 undef), (D.getD 68 undef), (D.getD 69 undef), (D.getD 70 undef), (D.getD 71 undef), (D.getD 72 undef), (D.getD 73 undef), (D.getD 74 undef), (D.getD 75 undef), (D.getD 76 undef), (D.getD 77 undef), (D.getD 78 undef), (D.getD 79 undef), (D.getD 80 undef), (D.getD 81 undef), (D.getD 82 undef), (D.getD 83 undef), (D.getD 84 undef), (D.getD 85 undef), (D.getD 86 undef), (D.getD 87 undef), (D.getD 88 undef), (D.getD 89 undef), (D.getD 90 undef), (D.getD 91 undef), (D.getD 92 undef), (D.getD 93 undef), (D.getD 94 undef), (D.getD 95 undef), (D.getD 96 undef), (D.getD 97 undef), (D.getD 98 undef), (D.getD 99 undef), (D.getD 100 undef), (D.getD 101 undef), (D.getD 102 undef), (D.getD 103 undef), (D.getD 104 undef), (D.getD 105 undef), (D.getD 106 undef), (D.getD 107 undef), (D.getD 108 undef)] H
theorem f32.K1_eq (k : Nat)  (p2 : Nat) (p3 : Nat) (D : List Value) (H : AHeap) : f32.K1 k  p2 p3 D H =
  (f32.L1 k k p2 p3 0 [(D.getD 0 undef), (D.getD 1 undef), (D.getD 2 undef), (D.getD 3 undef), (D.getD 4 undef), (D.getD 5 undef), (D.getD 6 undef), (D.getD 7 undef), (D.getD 8 undef), (D.getD 9 undef), (D.getD 10 undef), (D.getD 11 undef), (D.getD 12 undef), (D.getD 13 undef), (D.getD 14 undef), (D.getD 15 undef), (D.getD 16 undef), (D.getD 17 undef), (D.getD 18 undef), (D.getD 19 undef), (D.getD 20 undef), (D.getD 21 undef), (D.getD 22 undef), (D.getD 23 undef), (D.getD 24 undef), (D.getD 25 undef), (D.getD 26 undef), (D.getD 27 undef), (D.getD 28 undef), (D.getD 29 undef), (D.getD 30 undef), (D.getD 31 undef), (D.getD 32 undef), (D.getD 33 undef), (D.getD 34 undef), undef, undef, undef, undef, undef, undef, undef, undef, undef, undef, undef, undef, undef, undef, undef, undef, undef, undef, undef, undef, undef, undef, undef, undef, undef, undef, undef, undef, undef, undef, undef, undef, undef, undef, undef, undef] H) := by
  unfold f32.K1
  rw [gateC_eq]
  kernel_rfl
theorem f32.L1_z (k : Nat)  (p2 : Nat) (p3 : Nat) (x5 : Int) (D : List Value) (H : AHeap) : f32.L1 k 0 p2 p3 x5 D H = none := by kernel_rfl
theorem f32.L1_s (k : Nat) (n1 : Nat) (p2 : Nat) (p3 : Nat) (x5 : Int) (D : List Value) (H : AHeap) : f32.L1 k (n1 + 1) p2 p3 x5 D H =
  (bSl (ldSl H p2 (0)) fun a l c =>
   bif (decide (x5 < (l : Int))) then
   bif sameB H (H.bump 29) p2 then
   bSl (ldSl (H.bump 29) p2 (0)) fun a_1 l_1 c_1 =>
   a_1.bind fun q =>
   if 0 ≤ x5 ∧ x5 < (l_1 : Int) then
   bif sameB H (H.bump 29) q.block then
   (ldI .i64 (H.bump 29) q.block (q.off + x5.toNat * 2 + 0)).bind fun x =>
   bif sameB H (H.bump 29) p3 then
   bSl (ldSl (H.bump 29) p3 (0)) fun a_2 l_2 c_2 =>
   a_2.bind fun q_1 =>
   if 0 ≤ x5 ∧ x5 < (l_2 : Int) then
   bif sameB H (H.bump 29) q_1.block then
   (ldI .i64 (H.bump 29) q_1.block (q_1.off + x5.toNat * 2 + 0)).bind fun x_1 =>
   bif (x != x_1) then
   some (.bool false, (H.bump 29))
   else
   bif sameB H (H.bump 29) p2 then
   bSl (ldSl (H.bump 29) p2 (0)) fun a_3 l_3 c_3 =>
   a_3.bind fun q_2 =>
   if 0 ≤ x5 ∧ x5 < (l_3 : Int) then
   bif sameB H (H.bump 29) q_2.block then
   bSl (ldSl (H.bump 29) q_2.block (q_2.off + x5.toNat * 2 + 1)) fun a_4 l_4 c_4 =>
   bif sameB H (H.bump 29) p3 then
   bSl (ldSl (H.bump 29) p3 (0)) fun a_5 l_5 c_5 =>
   a_5.bind fun q_3 =>
   if 0 ≤ x5 ∧ x5 < (l_5 : Int) then
   bif sameB H (H.bump 29) q_3.block then
   bSl (ldSl (H.bump 29) q_3.block (q_3.off + x5.toNat * 2 + 1)) fun a_6 l_6 c_6 =>
   cB (C k 64 [.slice a_4 l_4 c_4, .slice a_6 l_6 c_6] (H.bump 29)) fun b H_1 =>
   bif (!b) then
   some (.bool false, H_1)
   else
   f32.L1 k n1 p2 p3 (IntKind.i64.wrap (x5 + (1 : Int))) [(D.getD 0 undef), (D.getD 1 undef), (D.getD 2 undef), (D.getD 3 undef), (D.getD 4 undef), (D.getD 5 undef), (D.getD 6 undef), (D.getD 7 undef), (D.getD 8 undef), (D.getD 9 undef), (D.getD 10 undef), (D.getD 11 undef), (D.getD 12 undef), (D.getD 13 undef), (D.getD 14 undef), (D.getD 15 undef), (D.getD 16 undef), (D.getD 17 undef), (D.getD 18 undef), (D.getD 19 undef), (D.getD 20 undef), (D.getD 21 undef), (D.getD 22 undef), (D.getD 23 undef), (D.getD 24 undef), (D.getD 25 undef), (D.getD 26 undef), (D.getD 27 undef), (D.getD 28 undef), (D.getD 29 undef), (D.getD 30 undef), (D.getD 31 undef), (D.getD 32 undef), (D.getD 33 undef), (D.getD 34 undef), .int .i64 x5, .pointer (some ⟨p2, 0, none⟩), .slice a l c, .int .i64 (l : Int), .bool (decide (x5 < (l : Int))), .int .i64 x5, .int .i64 (IntKind.i64.wrap (x5 + (1 : Int))), .pointer (some ⟨p2, 0, none⟩), .slice a_1 l_1 c_1, .int .i64 x5, .pointer (some ⟨q.block, q.off + x5.toNat * 2, none⟩), .pointer (some ⟨q.block, q.off + x5.toNat * 2 + 0, none⟩), .int .i64 x, .pointer (some ⟨p3, 0, none⟩), .slice a_2 l_2 c_2, .int .i64 x5, .pointer (some ⟨q_1.block, q_1.off + x5.toNat * 2, none⟩), .pointer (some ⟨q_1.block, q_1.off + x5.toNat * 2 + 0, none⟩), .int .i64 x_1, .bool (x != x_1), .bool false, .pointer (some ⟨p2, 0, none⟩), .slice a_3 l_3 c_3, .int .i64 x5, .pointer (some ⟨q_2.block, q_2.off + x5.toNat * 2, none⟩), .pointer (some ⟨q_2.block, q_2.off + x5.toNat * 2 + 1, none⟩), .slice a_4 l_4 c_4, .pointer (some ⟨p3, 0, none⟩), .slice a_5 l_5 c_5, .int .i64 x5, .pointer (some ⟨q_3.block, q_3.off + x5.toNat * 2, none⟩), .pointer (some ⟨q_3.block, q_3.off + x5.toNat * 2 + 1, none⟩), .slice a_6 l_6 c_6, .bool b, .bool (!b), .bool (!b)] H_1
   else none
   else none
   else none
   else none
   else none
   else none
   else none
   else none
   else none
   else none
   else none
   else none
   else
   f32.L2 k k p2 p3 0 [(D.getD 0 undef), (D.getD 1 undef), (D.getD 2 undef), .int .i64 x5, (D.getD 3 undef), (D.getD 4 undef), (D.getD 5 undef), (D.getD 6 undef), (D.getD 7 undef), (D.getD 8 undef), (D.getD 9 undef), (D.getD 10 undef), (D.getD 11 undef), (D.getD 12 undef), (D.getD 13 undef), (D.getD 14 undef), (D.getD 15 undef), (D.getD 16 undef), (D.getD 17 undef), (D.getD 18 undef), (D.getD 19 undef), (D.getD 20 undef), (D.getD 21 undef), (D.getD 22 undef), (D.getD 23 undef), (D.getD 24 undef), (D.getD 25 undef), (D.getD 26 undef), (D.getD 27 undef), (D.getD 28 undef), (D.getD 29 undef), (D.getD 30 undef), (D.getD 31 undef), (D.getD 32 undef), (D.getD 33 undef), (D.getD 34 undef), .int .i64 x5, .pointer (some ⟨p2, 0, none⟩), .slice a l c, .int .i64 (l : Int), .bool (decide (x5 < (l : Int))), (D.getD 40 undef), (D.getD 41 undef), (D.getD 42 undef), (D.getD 43 undef), (D.getD 44 undef), (D.getD 45 undef), (D.getD 46 undef), (D.getD 47 undef), (D.getD 48 undef), (D.getD 49 undef), (D.getD 50 undef), (D.getD 51 undef), (D.getD 52 undef), (D.getD 53 undef), (D.getD 54 undef), (D.getD 55 undef), (D.getD 56 undef), (D.getD 57 undef), (D.getD 58 undef), (D.getD 59 undef), (D.getD 60 undef), (D.getD 61 undef), (D.getD 62 undef), (D.getD 63 undef), (D.getD 64 undef), (D.getD 65 undef), (D.getD 66 undef), (D.getD 67 undef), (D.getD 68 undef), (D.getD 69 undef), (D.getD 70 undef), undef, undef, undef, undef, undef, undef, undef, undef, undef, undef, undef, undef, undef, undef, undef, undef, undef, undef] H) := by kernel_rfl
theorem f32.L2_z (k : Nat)  (p2 : Nat) (p3 : Nat) (x6 : Int) (D : List Value) (H : AHeap) : f32.L2 k 0 p2 p3 x6 D H = none := by kernel_rfl
theorem f32.L2_s (k : Nat) (n1 : Nat) (p2 : Nat) (p3 : Nat) (x6 : Int) (D : List Value) (H : AHeap) : f32.L2 k (n1 + 1) p2 p3 x6 D H =
  (bSl (ldSl H p2 (2)) fun a l c =>
   bif (decide (x6 < (l : Int))) then
   bif sameB H (H.bump 11) p2 then
   bSl (ldSl (H.bump 11) p2 (2)) fun a_1 l_1 c_1 =>
   a_1.bind fun q =>
   if 0 ≤ x6 ∧ x6 < (l_1 : Int) then
   bif sameB H (H.bump 11) q.block then
   (ldB (H.bump 11) q.block (q.off + x6.toNat * 1)).bind fun b =>
   bif sameB H (H.bump 11) p3 then
   bSl (ldSl (H.bump 11) p3 (2)) fun a_2 l_2 c_2 =>
   a_2.bind fun q_1 =>
   if 0 ≤ x6 ∧ x6 < (l_2 : Int) then
   bif sameB H (H.bump 11) q_1.block then
   (ldB (H.bump 11) q_1.block (q_1.off + x6.toNat * 1)).bind fun b_1 =>
   bif (!(b == b_1)) then
   some (.bool false, (H.bump 11))
   else
   f32.L2 k n1 p2 p3 (IntKind.i64.wrap (x6 + (1 : Int))) [(D.getD 0 undef), (D.getD 1 undef), (D.getD 2 undef), (D.getD 3 undef), (D.getD 4 undef), (D.getD 5 undef), (D.getD 6 undef), (D.getD 7 undef), (D.getD 8 undef), (D.getD 9 undef), (D.getD 10 undef), (D.getD 11 undef), (D.getD 12 undef), (D.getD 13 undef), (D.getD 14 undef), (D.getD 15 undef), (D.getD 16 undef), (D.getD 17 undef), (D.getD 18 undef), (D.getD 19 undef), (D.getD 20 undef), (D.getD 21 undef), (D.getD 22 undef), (D.getD 23 undef), (D.getD 24 undef), (D.getD 25 undef), (D.getD 26 undef), (D.getD 27 undef), (D.getD 28 undef), (D.getD 29 undef), (D.getD 30 undef), (D.getD 31 undef), (D.getD 32 undef), (D.getD 33 undef), (D.getD 34 undef), (D.getD 35 undef), (D.getD 36 undef), (D.getD 37 undef), (D.getD 38 undef), (D.getD 39 undef), (D.getD 40 undef), (D.getD 41 undef), (D.getD 42 undef), (D.getD 43 undef), (D.getD 44 undef), (D.getD 45 undef), (D.getD 46 undef), (D.getD 47 undef), (D.getD 48 undef), (D.getD 49 undef), (D.getD 50 undef), (D.getD 51 undef), (D.getD 52 undef), (D.getD 53 undef), (D.getD 54 undef), (D.getD 55 undef), (D.getD 56 undef), (D.getD 57 undef), (D.getD 58 undef), (D.getD 59 undef), (D.getD 60 undef), (D.getD 61 undef), (D.getD 62 undef), (D.getD 63 undef), (D.getD 64 undef), (D.getD 65 undef), (D.getD 66 undef), (D.getD 67 undef), (D.getD 68 undef), (D.getD 69 undef), (D.getD 70 undef), (D.getD 71 undef), .int .i64 x6, .pointer (some ⟨p2, 2, none⟩), .slice a l c, .int .i64 (l : Int), .bool (decide (x6 < (l : Int))), .int .i64 x6, .int .i64 (IntKind.i64.wrap (x6 + (1 : Int))), .pointer (some ⟨p2, 2, none⟩), .slice a_1 l_1 c_1, .int .i64 x6, .pointer (some ⟨q.block, q.off + x6.toNat * 1, none⟩), .bool b, .pointer (some ⟨p3, 2, none⟩), .slice a_2 l_2 c_2, .int .i64 x6, .pointer (some ⟨q_1.block, q_1.off + x6.toNat * 1, none⟩), .bool b_1, .bool (!(b == b_1))] (H.bump 11)
   else none
   else none
   else none
   else none
   else none
   else none
   else
   f32.L3 k k p2 p3 0 [(D.getD 0 undef), (D.getD 1 undef), (D.getD 2 undef), (D.getD 3 undef), .int .i64 x6, (D.getD 4 undef), (D.getD 5 undef), (D.getD 6 undef), (D.getD 7 undef), (D.getD 8 undef), (D.getD 9 undef), (D.getD 10 undef), (D.getD 11 undef), (D.getD 12 undef), (D.getD 13 undef), (D.getD 14 undef), (D.getD 15 undef), (D.getD 16 undef), (D.getD 17 undef), (D.getD 18 undef), (D.getD 19 undef), (D.getD 20 undef), (D.getD 21 undef), (D.getD 22 undef), (D.getD 23 undef), (D.getD 24 undef), (D.getD 25 undef), (D.getD 26 undef), (D.getD 27 undef), (D.getD 28 undef), (D.getD 29 undef), (D.getD 30 undef), (D.getD 31 undef), (D.getD 32 undef), (D.getD 33 undef), (D.getD 34 undef), (D.getD 35 undef), (D.getD 36 undef), (D.getD 37 undef), (D.getD 38 undef), (D.getD 39 undef), (D.getD 40 undef), (D.getD 41 undef), (D.getD 42 undef), (D.getD 43 undef), (D.getD 44 undef), (D.getD 45 undef), (D.getD 46 undef), (D.getD 47 undef), (D.getD 48 undef), (D.getD 49 undef), (D.getD 50 undef), (D.getD 51 undef), (D.getD 52 undef), (D.getD 53 undef), (D.getD 54 undef), (D.getD 55 undef), (D.getD 56 undef), (D.getD 57 undef), (D.getD 58 undef), (D.getD 59 undef), (D.getD 60 undef), (D.getD 61 undef), (D.getD 62 undef), (D.getD 63 undef), (D.getD 64 undef), (D.getD 65 undef), (D.getD 66 undef), (D.getD 67 undef), (D.getD 68 undef), (D.getD 69 undef), (D.getD 70 undef), (D.getD 71 undef), .int .i64 x6, .pointer (some ⟨p2, 2, none⟩), .slice a l c, .int .i64 (l : Int), .bool (decide (x6 < (l : Int))), (D.getD 77 undef), (D.getD 78 undef), (D.getD 79 undef), (D.getD 80 undef), (D.getD 81 undef), (D.getD 82 undef), (D.getD 83 undef), (D.getD 84 undef), (D.getD 85 undef), (D.getD 86 undef), (D.getD 87 undef), (D.getD 88 undef), (D.getD 89 undef), undef, undef, undef, undef, undef, undef, undef, undef, undef, undef, undef, undef, undef, undef, undef, undef, undef, undef] H) := by kernel_rfl
theorem f32.L3_z (k : Nat)  (p2 : Nat) (p3 : Nat) (x7 : Int) (D : List Value) (H : AHeap) : f32.L3 k 0 p2 p3 x7 D H = none := by kernel_rfl
theorem f32.L3_s (k : Nat) (n1 : Nat) (p2 : Nat) (p3 : Nat) (x7 : Int) (D : List Value) (H : AHeap) : f32.L3 k (n1 + 1) p2 p3 x7 D H =
  (bSl (ldSl H p2 (3)) fun a l c =>
   bif (decide (x7 < (l : Int))) then
   bif sameB H (H.bump 11) p2 then
   bSl (ldSl (H.bump 11) p2 (3)) fun a_1 l_1 c_1 =>
   a_1.bind fun q =>
   if 0 ≤ x7 ∧ x7 < (l_1 : Int) then
   bif sameB H (H.bump 11) q.block then
   (AHeap.row (H.bump 11) q.block (q.off + x7.toNat * 3) 3).bind fun g =>
   bif sameB H (H.bump 11) p3 then
   bSl (ldSl (H.bump 11) p3 (3)) fun a_2 l_2 c_2 =>
   a_2.bind fun q_1 =>
   if 0 ≤ x7 ∧ x7 < (l_2 : Int) then
   bif sameB H (H.bump 11) q_1.block then
   (AHeap.row (H.bump 11) q_1.block (q_1.off + x7.toNat * 3) 3).bind fun g_1 =>
   (eqV Try.prog 40 78 (.agg (g : List Value).toArray) (.agg (g_1 : List Value).toArray)).bind fun b =>
   bif (!b) then
   some (.bool false, (H.bump 11))
   else
   f32.L3 k n1 p2 p3 (IntKind.i64.wrap (x7 + (1 : Int))) [(D.getD 0 undef), (D.getD 1 undef), (D.getD 2 undef), (D.getD 3 undef), (D.getD 4 undef), (D.getD 5 undef), (D.getD 6 undef), (D.getD 7 undef), (D.getD 8 undef), (D.getD 9 undef), (D.getD 10 undef), (D.getD 11 undef), (D.getD 12 undef), (D.getD 13 undef), (D.getD 14 undef), (D.getD 15 undef), (D.getD 16 undef), (D.getD 17 undef), (D.getD 18 undef), (D.getD 19 undef), (D.getD 20 undef), (D.getD 21 undef), (D.getD 22 undef), (D.getD 23 undef), (D.getD 24 undef), (D.getD 25 undef), (D.getD 26 undef), (D.getD 27 undef), (D.getD 28 undef), (D.getD 29 undef), (D.getD 30 undef), (D.getD 31 undef), (D.getD 32 undef), (D.getD 33 undef), (D.getD 34 undef), (D.getD 35 undef), (D.getD 36 undef), (D.getD 37 undef), (D.getD 38 undef), (D.getD 39 undef), (D.getD 40 undef), (D.getD 41 undef), (D.getD 42 undef), (D.getD 43 undef), (D.getD 44 undef), (D.getD 45 undef), (D.getD 46 undef), (D.getD 47 undef), (D.getD 48 undef), (D.getD 49 undef), (D.getD 50 undef), (D.getD 51 undef), (D.getD 52 undef), (D.getD 53 undef), (D.getD 54 undef), (D.getD 55 undef), (D.getD 56 undef), (D.getD 57 undef), (D.getD 58 undef), (D.getD 59 undef), (D.getD 60 undef), (D.getD 61 undef), (D.getD 62 undef), (D.getD 63 undef), (D.getD 64 undef), (D.getD 65 undef), (D.getD 66 undef), (D.getD 67 undef), (D.getD 68 undef), (D.getD 69 undef), (D.getD 70 undef), (D.getD 71 undef), (D.getD 72 undef), (D.getD 73 undef), (D.getD 74 undef), (D.getD 75 undef), (D.getD 76 undef), (D.getD 77 undef), (D.getD 78 undef), (D.getD 79 undef), (D.getD 80 undef), (D.getD 81 undef), (D.getD 82 undef), (D.getD 83 undef), (D.getD 84 undef), (D.getD 85 undef), (D.getD 86 undef), (D.getD 87 undef), (D.getD 88 undef), (D.getD 89 undef), (D.getD 90 undef), .int .i64 x7, .pointer (some ⟨p2, 3, none⟩), .slice a l c, .int .i64 (l : Int), .bool (decide (x7 < (l : Int))), .int .i64 x7, .int .i64 (IntKind.i64.wrap (x7 + (1 : Int))), .pointer (some ⟨p2, 3, none⟩), .slice a_1 l_1 c_1, .int .i64 x7, .pointer (some ⟨q.block, q.off + x7.toNat * 3, none⟩), .agg (g : List Value).toArray, .pointer (some ⟨p3, 3, none⟩), .slice a_2 l_2 c_2, .int .i64 x7, .pointer (some ⟨q_1.block, q_1.off + x7.toNat * 3, none⟩), .agg (g_1 : List Value).toArray, .bool (!b)] (H.bump 11)
   else none
   else none
   else none
   else none
   else none
   else none
   else
   some (.bool true, H)) := by kernel_rfl
theorem f32_eq (k : Nat) (a0_0 : Option Addr) (l0_0 : Nat) (c0_0 : Nat) (x0_1 : Int) (a0_2 : Option Addr) (l0_2 : Nat) (c0_2 : Nat) (a0_3 : Option Addr) (l0_3 : Nat) (c0_3 : Nat) (a1_0 : Option Addr) (l1_0 : Nat) (c1_0 : Nat) (x1_1 : Int) (a1_2 : Option Addr) (l1_2 : Nat) (c1_2 : Nat) (a1_3 : Option Addr) (l1_3 : Nat) (c1_3 : Nat) (H : AHeap) : C (k + 1) 32 [.agg #[.slice a0_0 l0_0 c0_0, .int .i64 x0_1, .slice a0_2 l0_2 c0_2, .slice a0_3 l0_3 c0_3], .agg #[.slice a1_0 l1_0 c1_0, .int .i64 x1_1, .slice a1_2 l1_2 c1_2, .slice a1_3 l1_3 c1_3]] H =
  (alK none H ⟨[.slice a0_0 l0_0 c0_0, .int .i64 x0_1, .slice a0_2 l0_2 c0_2, .slice a0_3 l0_3 c0_3], 0, .rw, 0⟩ fun i H_1 =>
   alK none H_1 ⟨[.slice a1_0 l1_0 c1_0, .int .i64 x1_1, .slice a1_2 l1_2 c1_2, .slice a1_3 l1_3 c1_3], 0, .rw, 0⟩ fun i_1 H_2 =>
   (ldI .i64 H_2 i (1)).bind fun x =>
   (ldI .i64 H_2 i_1 (1)).bind fun x_1 =>
   bif (x != x_1) then
   some (.bool false, H_2)
   else
   bSl (ldSl H_2 i (0)) fun a l c =>
   bSl (ldSl H_2 i_1 (0)) fun a_1 l_1 c_1 =>
   bif ((l : Int) != (l_1 : Int)) then
   some (.bool false, H_2)
   else
   bSl (ldSl H_2 i (2)) fun a_2 l_2 c_2 =>
   bSl (ldSl H_2 i_1 (2)) fun a_3 l_3 c_3 =>
   bif ((l_2 : Int) != (l_3 : Int)) then
   some (.bool false, H_2)
   else
   bSl (ldSl H_2 i (3)) fun a_4 l_4 c_4 =>
   bSl (ldSl H_2 i_1 (3)) fun a_5 l_5 c_5 =>
   bif ((l_4 : Int) != (l_5 : Int)) then
   some (.bool false, H_2)
   else
   f32.K1 k i i_1 [.agg #[.slice a0_0 l0_0 c0_0, .int .i64 x0_1, .slice a0_2 l0_2 c0_2, .slice a0_3 l0_3 c0_3], .agg #[.slice a1_0 l1_0 c1_0, .int .i64 x1_1, .slice a1_2 l1_2 c1_2, .slice a1_3 l1_3 c1_3], .bool false, .pointer (some ⟨i, 1, none⟩), .int .i64 x, .pointer (some ⟨i_1, 1, none⟩), .int .i64 x_1, .bool (x != x_1), .bool false, .pointer (some ⟨i, 0, none⟩), .slice a l c, .int .i64 (l : Int), .pointer (some ⟨i_1, 0, none⟩), .slice a_1 l_1 c_1, .int .i64 (l_1 : Int), .bool ((l : Int) != (l_1 : Int)), .bool ((l : Int) != (l_1 : Int)), .bool false, .pointer (some ⟨i, 2, none⟩), .slice a_2 l_2 c_2, .int .i64 (l_2 : Int), .pointer (some ⟨i_1, 2, none⟩), .slice a_3 l_3 c_3, .int .i64 (l_3 : Int), .bool ((l_2 : Int) != (l_3 : Int)), .bool ((l_2 : Int) != (l_3 : Int)), .bool false, .pointer (some ⟨i, 3, none⟩), .slice a_4 l_4 c_4, .int .i64 (l_4 : Int), .pointer (some ⟨i_1, 3, none⟩), .slice a_5 l_5 c_5, .int .i64 (l_5 : Int), .bool ((l_4 : Int) != (l_5 : Int)), .bool ((l_4 : Int) != (l_5 : Int))] H_2) := by kernel_rfl

/- f9 "interleave/interleavelaw08.ObjectStarts"  names: 0:w 1:w -/
theorem f9_eq (k : Nat) (a0_0 : Option Addr) (l0_0 : Nat) (c0_0 : Nat) (a0_1 : Option Addr) (l0_1 : Nat) (c0_1 : Nat) (a0_2 : Option Addr) (l0_2 : Nat) (c0_2 : Nat) (a0_3 : Option Addr) (l0_3 : Nat) (c0_3 : Nat) (a0_4 : Option Addr) (l0_4 : Nat) (c0_4 : Nat) (a0_5 : Option Addr) (l0_5 : Nat) (c0_5 : Nat) (H : AHeap) : C (k + 1) 9 [.agg #[.slice a0_0 l0_0 c0_0, .slice a0_1 l0_1 c0_1, .slice a0_2 l0_2 c0_2, .slice a0_3 l0_3 c0_3, .slice a0_4 l0_4 c0_4, .slice a0_5 l0_5 c0_5]] H =
  (alK none H ⟨[.slice a0_0 l0_0 c0_0, .slice a0_1 l0_1 c0_1, .slice a0_2 l0_2 c0_2, .slice a0_3 l0_3 c0_3, .slice a0_4 l0_4 c0_4, .slice a0_5 l0_5 c0_5], 0, .rw, 0⟩ fun i H_1 =>
   bSl (ldSl H_1 i (1)) fun a l c =>
   bif (decide ((l : Int) > (100 : Int))) then
   some (.bool true, H_1)
   else
   bSl (ldSl H_1 i (4)) fun a_1 l_1 c_1 =>
   bif (decide ((l_1 : Int) > (100 : Int))) then
   some (.bool true, H_1)
   else
   bSl (ldSl H_1 i (3)) fun a_2 l_2 c_2 =>
   bif (decide ((l_2 : Int) > (100 : Int))) then
   some (.bool true, H_1)
   else
   bif sameB H_1 (H_1.bump 9) i then
   (AHeap.row (H_1.bump 9) i (0) 6).bind fun g =>
   cG (C k 33 [.agg (g : List Value).toArray] (H_1.bump 9)) fun g_1 H_2 =>
   bif sameB H_1 H_2 i then
   (AHeap.row H_2 i (0) 6).bind fun g_2 =>
   cG (C k 34 [.agg (g_2 : List Value).toArray] H_2) fun g_3 H_3 =>
   cB (C k 32 [.agg g_1, .agg g_3] H_3) fun b H_4 =>
   bif b then
   cB (C k 35 [] H_4) fun b_1 H_5 =>
   some (.bool b_1, H_5)
   else
   some (.bool false, H_4)
   else none
   else none) := by kernel_rfl

end Go.Proofs.MxF
end

section
set_option linter.unusedSimpArgs false
/- Functions of the program as the machine comes to them: printed by a program of this workplace (px.py); the kernel checks each line. -/
set_option linter.unusedVariables false
namespace Go.Proofs.MxF
open Go Go.Mx Go.Proofs

/- f71 "interleave/object.named"  names:  -/
noncomputable def f71.Q0 (k : Nat)  : Kont (Value × AHeap) := retQ Try.prog Try.f71
noncomputable def f71.Q1 (k : Nat)  : Kont (Value × AHeap) := seqQ (gateC (Sub (bodyOf Try.f71) [1, 0]) (Sub (bodyOf Try.f71) [1, 1]) k (run Try.prog (C k) k (Sub (bodyOf Try.f71) [1, 1]) (f71.Q0 k ))) (f71.Q0 k )
noncomputable def f71.Q2 (k : Nat)  : Kont (Value × AHeap) := blkQ 0 (f71.Q1 k )
noncomputable def f71.K1 (k : Nat)  (x2 : Int) (p3 : Nat) (x7 : Int) (b8 : Bool) (D : List Value) (H : AHeap) : Option (Value × AHeap) :=
  gateC (Sub (bodyOf Try.f71) [1, 0, 1, 0, 0]) (Sub (bodyOf Try.f71) [1, 0, 1, 0, 1]) k (run Try.prog (C k) k (Sub (bodyOf Try.f71) [1, 0, 1, 0, 1]) (f71.Q2 k )) [(D.getD 0 undef), (D.getD 1 undef), .int .i64 x2, .pointer (some ⟨p3, 0, none⟩), undef, undef, (D.getD 2 undef), .int .i64 x7, .bool b8, (D.getD 3 undef), (D.getD 4 undef), (D.getD 5 undef), (D.getD 6 undef), (D.getD 7 undef), (D.getD 8 undef), (D.getD 9 undef), undef, undef, undef, undef, undef, undef, undef, undef, undef, undef, undef, undef, undef, undef, undef, undef, undef, undef, undef, undef, undef, undef, undef, undef, undef, undef, undef, undef, undef, undef, undef, undef, undef, undef, undef, undef, undef, undef, undef, undef, undef, undef, undef, undef, undef, undef, undef, undef, undef, undef, undef, undef, undef, undef, undef, undef, undef, undef, undef, undef, undef, undef, undef, undef, undef, undef, undef, undef, undef, undef, undef] H
noncomputable def f71.K2 (k : Nat)  (x2 : Int) (p3 : Nat) (x7 : Int) (b18 : Bool) (D : List Value) (H : AHeap) : Option (Value × AHeap) :=
  gateC (Sub (bodyOf Try.f71) [1, 0, 1, 0, 1, 1, 0]) (Sub (bodyOf Try.f71) [1, 0, 1, 0, 1, 1, 1]) k (run Try.prog (C k) k (Sub (bodyOf Try.f71) [1, 0, 1, 0, 1, 1, 1]) (f71.Q2 k )) [(D.getD 0 undef), (D.getD 1 undef), .int .i64 x2, .pointer (some ⟨p3, 0, none⟩), undef, undef, (D.getD 2 undef), .int .i64 x7, (D.getD 3 undef), (D.getD 4 undef), (D.getD 5 undef), (D.getD 6 undef), (D.getD 7 undef), (D.getD 8 undef), (D.getD 9 undef), (D.getD 10 undef), undef, undef, .bool b18, (D.getD 11 undef), (D.getD 12 undef), undef, undef, undef, undef, undef, undef, undef, undef, undef, undef, undef, undef, undef, undef, undef, undef, undef, undef, undef, undef, undef, undef, undef, undef, undef, undef, undef, undef, undef, undef, undef, undef, undef, undef, undef, undef, undef, undef, undef, undef, undef, undef, undef, undef, undef, undef, undef, undef, undef, undef, undef, undef, undef, undef, undef, undef, undef, undef, undef, undef, undef, undef, undef, undef, undef, undef] H
noncomputable def f71.K3 (k : Nat)  (x2 : Int) (p3 : Nat) (x7 : Int) (b26 : Bool) (D : List Value) (H : AHeap) : Option (Value × AHeap) :=
  gateC (Sub (bodyOf Try.f71) [1, 0, 1, 0, 1, 1, 1, 1, 0]) (Sub (bodyOf Try.f71) [1, 0, 1, 0, 1, 1, 1, 1, 1]) k (run Try.prog (C k) k (Sub (bodyOf Try.f71) [1, 0, 1, 0, 1, 1, 1, 1, 1]) (f71.Q2 k )) [(D.getD 0 undef), (D.getD 1 undef), .int .i64 x2, .pointer (some ⟨p3, 0, none⟩), undef, undef, (D.getD 2 undef), .int .i64 x7, (D.getD 3 undef), (D.getD 4 undef), (D.getD 5 undef), (D.getD 6 undef), (D.getD 7 undef), (D.getD 8 undef), (D.getD 9 undef), (D.getD 10 undef), undef, undef, (D.getD 11 undef), (D.getD 12 undef), (D.getD 13 undef), undef, undef, undef, undef, undef, .bool b26, (D.getD 14 undef), (D.getD 15 undef), undef, undef, undef, undef, undef, undef, undef, undef, undef, undef, undef, undef, undef, undef, undef, undef, undef, undef, undef, undef, undef, undef, undef, undef, undef, undef, undef, undef, undef, undef, undef, undef, undef, undef, undef, undef, undef, undef, undef, undef, undef, undef, undef, undef, undef, undef, undef, undef, undef, undef, undef, undef, undef, undef, undef, undef, undef, undef] H
noncomputable def f71.K4 (k : Nat)  (x2 : Int) (p3 : Nat) (x7 : Int) (b43 : Bool) (D : List Value) (H : AHeap) : Option (Value × AHeap) :=
  gateC (Sub (bodyOf Try.f71) [1, 0, 1, 0, 1, 1, 1, 1, 1, 1, 0]) (Sub (bodyOf Try.f71) [1, 0, 1, 0, 1, 1, 1, 1, 1, 1, 1]) k (run Try.prog (C k) k (Sub (bodyOf Try.f71) [1, 0, 1, 0, 1, 1, 1, 1, 1, 1, 1]) (f71.Q2 k )) [(D.getD 0 undef), (D.getD 1 undef), .int .i64 x2, .pointer (some ⟨p3, 0, none⟩), undef, undef, (D.getD 2 undef), .int .i64 x7, (D.getD 3 undef), (D.getD 4 undef), (D.getD 5 undef), (D.getD 6 undef), (D.getD 7 undef), (D.getD 8 undef), (D.getD 9 undef), (D.getD 10 undef), undef, undef, (D.getD 11 undef), (D.getD 12 undef), (D.getD 13 undef), undef, undef, undef, undef, undef, (D.getD 14 undef), (D.getD 15 undef), (D.getD 16 undef), undef, undef, undef, undef, undef, undef, undef, undef, undef, undef, undef, undef, undef, undef, .bool b43, (D.getD 17 undef), (D.getD 18 undef), (D.getD 19 undef), (D.getD 20 undef), undef, undef, undef, undef, undef, undef, undef, undef, undef, undef, undef, undef, undef, undef, undef, undef, undef, undef, undef, undef, undef, undef, undef, undef, undef, undef, undef, undef, undef, undef, undef, undef, undef, undef, undef, undef, undef, undef, undef] H
noncomputable def f71.K5 (k : Nat)  (x2 : Int) (p3 : Nat) (x7 : Int) (b61 : Bool) (D : List Value) (H : AHeap) : Option (Value × AHeap) :=
  gateC (Sub (bodyOf Try.f71) [1, 0, 1, 0, 1, 1, 1, 1, 1, 1, 1, 1, 0]) (Sub (bodyOf Try.f71) [1, 0, 1, 0, 1, 1, 1, 1, 1, 1, 1, 1, 1]) k (run Try.prog (C k) k (Sub (bodyOf Try.f71) [1, 0, 1, 0, 1, 1, 1, 1, 1, 1, 1, 1, 1]) (f71.Q2 k )) [(D.getD 0 undef), (D.getD 1 undef), .int .i64 x2, .pointer (some ⟨p3, 0, none⟩), undef, undef, (D.getD 2 undef), .int .i64 x7, (D.getD 3 undef), (D.getD 4 undef), (D.getD 5 undef), (D.getD 6 undef), (D.getD 7 undef), (D.getD 8 undef), (D.getD 9 undef), (D.getD 10 undef), undef, undef, (D.getD 11 undef), (D.getD 12 undef), (D.getD 13 undef), undef, undef, undef, undef, undef, (D.getD 14 undef), (D.getD 15 undef), (D.getD 16 undef), undef, undef, undef, undef, undef, undef, undef, undef, undef, undef, undef, undef, undef, undef, (D.getD 17 undef), (D.getD 18 undef), (D.getD 19 undef), (D.getD 20 undef), (D.getD 21 undef), undef, undef, undef, undef, undef, undef, undef, undef, undef, undef, undef, undef, undef, .bool b61, (D.getD 22 undef), (D.getD 23 undef), (D.getD 24 undef), (D.getD 25 undef), undef, undef, undef, undef, undef, undef, undef, undef, undef, undef, undef, undef, undef, undef, undef, undef, undef, undef, undef, undef, undef] H
noncomputable def f71.K6 (k : Nat)  (x2 : Int) (p3 : Nat) (x7 : Int) (b71 : Bool) (D : List Value) (H : AHeap) : Option (Value × AHeap) :=
  gateC (Sub (bodyOf Try.f71) [1, 0, 1, 0, 1, 1, 1, 1, 1, 1, 1, 1, 1, 1, 0]) (Sub (bodyOf Try.f71) [1, 0, 1, 0, 1, 1, 1, 1, 1, 1, 1, 1, 1, 1, 1]) k (run Try.prog (C k) k (Sub (bodyOf Try.f71) [1, 0, 1, 0, 1, 1, 1, 1, 1, 1, 1, 1, 1, 1, 1]) (f71.Q2 k )) [(D.getD 0 undef), (D.getD 1 undef), .int .i64 x2, .pointer (some ⟨p3, 0, none⟩), undef, undef, (D.getD 2 undef), .int .i64 x7, (D.getD 3 undef), (D.getD 4 undef), (D.getD 5 undef), (D.getD 6 undef), (D.getD 7 undef), (D.getD 8 undef), (D.getD 9 undef), (D.getD 10 undef), undef, undef, (D.getD 11 undef), (D.getD 12 undef), (D.getD 13 undef), undef, undef, undef, undef, undef, (D.getD 14 undef), (D.getD 15 undef), (D.getD 16 undef), undef, undef, undef, undef, undef, undef, undef, undef, undef, undef, undef, undef, undef, undef, (D.getD 17 undef), (D.getD 18 undef), (D.getD 19 undef), (D.getD 20 undef), (D.getD 21 undef), undef, undef, undef, undef, undef, undef, undef, undef, undef, undef, undef, undef, undef, (D.getD 22 undef), (D.getD 23 undef), (D.getD 24 undef), (D.getD 25 undef), (D.getD 26 undef), undef, undef, undef, undef, undef, .bool b71, (D.getD 27 undef), (D.getD 28 undef), undef, undef, undef, undef, undef, undef, undef, undef, undef, undef, undef, undef, undef] H
noncomputable def f71.K7 (k : Nat)  (D : List Value) (H : AHeap) : Option (Value × AHeap) :=
  gateC (Sub (bodyOf Try.f71) [1, 0]) (Sub (bodyOf Try.f71) [1, 1]) k (run Try.prog (C k) k (Sub (bodyOf Try.f71) [1, 1]) (f71.Q0 k )) [(D.getD 0 undef), (D.getD 1 undef), (D.getD 2 undef), (D.getD 3 undef), undef, undef, (D.getD 4 undef), (D.getD 5 undef), (D.getD 6 undef), (D.getD 7 undef), (D.getD 8 undef), (D.getD 9 undef), (D.getD 10 undef), (D.getD 11 undef), (D.getD 12 undef), (D.getD 13 undef), undef, undef, (D.getD 14 undef), (D.getD 15 undef), (D.getD 16 undef), undef, undef, undef, undef, undef, (D.getD 17 undef), (D.getD 18 undef), (D.getD 19 undef), undef, undef, undef, undef, undef, undef, undef, undef, undef, undef, undef, undef, undef, undef, (D.getD 20 undef), (D.getD 21 undef), (D.getD 22 undef), (D.getD 23 undef), (D.getD 24 undef), undef, undef, undef, undef, undef, undef, undef, undef, undef, undef, undef, undef, undef, (D.getD 25 undef), (D.getD 26 undef), (D.getD 27 undef), (D.getD 28 undef), (D.getD 29 undef), undef, undef, undef, undef, undef, (D.getD 30 undef), (D.getD 31 undef), (D.getD 32 undef), undef, undef, undef, undef, undef, (D.getD 33 undef), (D.getD 34 undef), (D.getD 35 undef), undef, undef, undef, undef, undef] H
theorem f71.K1_eq (k : Nat)  (x2 : Int) (p3 : Nat) (x7 : Int) (b8 : Bool) (D : List Value) (H : AHeap) : f71.K1 k  x2 p3 x7 b8 D H =
  (bif b8 then
   some (.bool (x2 == ((-1) : Int)), H)
   else
   bif (x7 == (3 : Int)) then
   f71.K2 k x2 p3 x7 (x7 == (3 : Int)) [(D.getD 0 undef), (D.getD 1 undef), (D.getD 2 undef), .bool b8, (D.getD 3 undef), (D.getD 4 undef), (D.getD 5 undef), (D.getD 6 undef), (D.getD 7 undef), (D.getD 8 undef), (D.getD 9 undef), .bool (x7 == (3 : Int)), undef] H
   else
   f71.K2 k x2 p3 x7 (x7 == (4 : Int)) [(D.getD 0 undef), (D.getD 1 undef), (D.getD 2 undef), .bool b8, (D.getD 3 undef), (D.getD 4 undef), (D.getD 5 undef), (D.getD 6 undef), (D.getD 7 undef), (D.getD 8 undef), (D.getD 9 undef), .bool (x7 == (3 : Int)), .bool (x7 == (4 : Int))] H) := by
  unfold f71.K1
  rw [gateC_eq]
  kernel_rfl
theorem f71.K2_eq (k : Nat)  (x2 : Int) (p3 : Nat) (x7 : Int) (b18 : Bool) (D : List Value) (H : AHeap) : f71.K2 k  x2 p3 x7 b18 D H =
  (bif b18 then
   bSl (ldSl H p3 (0)) fun a l c =>
   cB (C k 70 [.int .i64 x2, .int .i64 (l : Int)] H) fun b H_1 =>
   some (.bool b, H_1)
   else
   bif (x7 == (6 : Int)) then
   f71.K3 k x2 p3 x7 (x7 == (6 : Int)) [(D.getD 0 undef), (D.getD 1 undef), (D.getD 2 undef), (D.getD 3 undef), (D.getD 4 undef), (D.getD 5 undef), (D.getD 6 undef), (D.getD 7 undef), (D.getD 8 undef), (D.getD 9 undef), (D.getD 10 undef), .bool b18, (D.getD 11 undef), (D.getD 12 undef), .bool (x7 == (6 : Int)), undef] H
   else
   f71.K3 k x2 p3 x7 (x7 == (7 : Int)) [(D.getD 0 undef), (D.getD 1 undef), (D.getD 2 undef), (D.getD 3 undef), (D.getD 4 undef), (D.getD 5 undef), (D.getD 6 undef), (D.getD 7 undef), (D.getD 8 undef), (D.getD 9 undef), (D.getD 10 undef), .bool b18, (D.getD 11 undef), (D.getD 12 undef), .bool (x7 == (6 : Int)), .bool (x7 == (7 : Int))] H) := by
  unfold f71.K2
  rw [gateC_eq]
  kernel_rfl
theorem f71.K3_eq (k : Nat)  (x2 : Int) (p3 : Nat) (x7 : Int) (b26 : Bool) (D : List Value) (H : AHeap) : f71.K3 k  x2 p3 x7 b26 D H =
  (bif b26 then
   bSl (ldSl H p3 (1)) fun a l c =>
   cB (C k 70 [.int .i64 x2, .int .i64 (l : Int)] H) fun b H_1 =>
   bif b then
   bSl (ldSl H_1 p3 (1)) fun a_1 l_1 c_1 =>
   a_1.bind fun q =>
   if 0 ≤ x2 ∧ x2 < (l_1 : Int) then
   (ldB H_1 q.block (q.off + x2.toNat * 2 + 1)).bind fun b_1 =>
   some (.bool (!b_1), H_1)
   else none
   else
   some (.bool false, H_1)
   else
   bif (x7 == (8 : Int)) then
   f71.K4 k x2 p3 x7 (x7 == (8 : Int)) [(D.getD 0 undef), (D.getD 1 undef), (D.getD 2 undef), (D.getD 3 undef), (D.getD 4 undef), (D.getD 5 undef), (D.getD 6 undef), (D.getD 7 undef), (D.getD 8 undef), (D.getD 9 undef), (D.getD 10 undef), (D.getD 11 undef), (D.getD 12 undef), (D.getD 13 undef), .bool b26, (D.getD 14 undef), (D.getD 15 undef), .bool (x7 == (8 : Int)), undef, undef, undef] H
   else
   bif (x7 == (9 : Int)) then
   f71.K4 k x2 p3 x7 (x7 == (9 : Int)) [(D.getD 0 undef), (D.getD 1 undef), (D.getD 2 undef), (D.getD 3 undef), (D.getD 4 undef), (D.getD 5 undef), (D.getD 6 undef), (D.getD 7 undef), (D.getD 8 undef), (D.getD 9 undef), (D.getD 10 undef), (D.getD 11 undef), (D.getD 12 undef), (D.getD 13 undef), .bool b26, (D.getD 14 undef), (D.getD 15 undef), .bool (x7 == (8 : Int)), .bool (x7 == (9 : Int)), undef, undef] H
   else
   bif (x7 == (10 : Int)) then
   f71.K4 k x2 p3 x7 (x7 == (10 : Int)) [(D.getD 0 undef), (D.getD 1 undef), (D.getD 2 undef), (D.getD 3 undef), (D.getD 4 undef), (D.getD 5 undef), (D.getD 6 undef), (D.getD 7 undef), (D.getD 8 undef), (D.getD 9 undef), (D.getD 10 undef), (D.getD 11 undef), (D.getD 12 undef), (D.getD 13 undef), .bool b26, (D.getD 14 undef), (D.getD 15 undef), .bool (x7 == (8 : Int)), .bool (x7 == (9 : Int)), .bool (x7 == (10 : Int)), undef] H
   else
   f71.K4 k x2 p3 x7 (x7 == (11 : Int)) [(D.getD 0 undef), (D.getD 1 undef), (D.getD 2 undef), (D.getD 3 undef), (D.getD 4 undef), (D.getD 5 undef), (D.getD 6 undef), (D.getD 7 undef), (D.getD 8 undef), (D.getD 9 undef), (D.getD 10 undef), (D.getD 11 undef), (D.getD 12 undef), (D.getD 13 undef), .bool b26, (D.getD 14 undef), (D.getD 15 undef), .bool (x7 == (8 : Int)), .bool (x7 == (9 : Int)), .bool (x7 == (10 : Int)), .bool (x7 == (11 : Int))] H) := by
  unfold f71.K3
  rw [gateC_eq]
  kernel_rfl
theorem f71.K4_eq (k : Nat)  (x2 : Int) (p3 : Nat) (x7 : Int) (b43 : Bool) (D : List Value) (H : AHeap) : f71.K4 k  x2 p3 x7 b43 D H =
  (bif b43 then
   bSl (ldSl H p3 (1)) fun a l c =>
   cB (C k 70 [.int .i64 x2, .int .i64 (l : Int)] H) fun b H_1 =>
   bif b then
   bSl (ldSl H_1 p3 (1)) fun a_1 l_1 c_1 =>
   a_1.bind fun q =>
   if 0 ≤ x2 ∧ x2 < (l_1 : Int) then
   (ldB H_1 q.block (q.off + x2.toNat * 2 + 1)).bind fun b_1 =>
   some (.bool b_1, H_1)
   else none
   else
   some (.bool false, H_1)
   else
   bif (x7 == (16 : Int)) then
   f71.K5 k x2 p3 x7 (x7 == (16 : Int)) [(D.getD 0 undef), (D.getD 1 undef), (D.getD 2 undef), (D.getD 3 undef), (D.getD 4 undef), (D.getD 5 undef), (D.getD 6 undef), (D.getD 7 undef), (D.getD 8 undef), (D.getD 9 undef), (D.getD 10 undef), (D.getD 11 undef), (D.getD 12 undef), (D.getD 13 undef), (D.getD 14 undef), (D.getD 15 undef), (D.getD 16 undef), .bool b43, (D.getD 17 undef), (D.getD 18 undef), (D.getD 19 undef), (D.getD 20 undef), .bool (x7 == (16 : Int)), undef, undef, undef] H
   else
   bif (x7 == (17 : Int)) then
   f71.K5 k x2 p3 x7 (x7 == (17 : Int)) [(D.getD 0 undef), (D.getD 1 undef), (D.getD 2 undef), (D.getD 3 undef), (D.getD 4 undef), (D.getD 5 undef), (D.getD 6 undef), (D.getD 7 undef), (D.getD 8 undef), (D.getD 9 undef), (D.getD 10 undef), (D.getD 11 undef), (D.getD 12 undef), (D.getD 13 undef), (D.getD 14 undef), (D.getD 15 undef), (D.getD 16 undef), .bool b43, (D.getD 17 undef), (D.getD 18 undef), (D.getD 19 undef), (D.getD 20 undef), .bool (x7 == (16 : Int)), .bool (x7 == (17 : Int)), undef, undef] H
   else
   bif (x7 == (18 : Int)) then
   f71.K5 k x2 p3 x7 (x7 == (18 : Int)) [(D.getD 0 undef), (D.getD 1 undef), (D.getD 2 undef), (D.getD 3 undef), (D.getD 4 undef), (D.getD 5 undef), (D.getD 6 undef), (D.getD 7 undef), (D.getD 8 undef), (D.getD 9 undef), (D.getD 10 undef), (D.getD 11 undef), (D.getD 12 undef), (D.getD 13 undef), (D.getD 14 undef), (D.getD 15 undef), (D.getD 16 undef), .bool b43, (D.getD 17 undef), (D.getD 18 undef), (D.getD 19 undef), (D.getD 20 undef), .bool (x7 == (16 : Int)), .bool (x7 == (17 : Int)), .bool (x7 == (18 : Int)), undef] H
   else
   f71.K5 k x2 p3 x7 (x7 == (19 : Int)) [(D.getD 0 undef), (D.getD 1 undef), (D.getD 2 undef), (D.getD 3 undef), (D.getD 4 undef), (D.getD 5 undef), (D.getD 6 undef), (D.getD 7 undef), (D.getD 8 undef), (D.getD 9 undef), (D.getD 10 undef), (D.getD 11 undef), (D.getD 12 undef), (D.getD 13 undef), (D.getD 14 undef), (D.getD 15 undef), (D.getD 16 undef), .bool b43, (D.getD 17 undef), (D.getD 18 undef), (D.getD 19 undef), (D.getD 20 undef), .bool (x7 == (16 : Int)), .bool (x7 == (17 : Int)), .bool (x7 == (18 : Int)), .bool (x7 == (19 : Int))] H) := by
  unfold f71.K4
  rw [gateC_eq]
  kernel_rfl
theorem f71.K5_eq (k : Nat)  (x2 : Int) (p3 : Nat) (x7 : Int) (b61 : Bool) (D : List Value) (H : AHeap) : f71.K5 k  x2 p3 x7 b61 D H =
  (bif b61 then
   bSl (ldSl H p3 (2)) fun a l c =>
   cB (C k 70 [.int .i64 x2, .int .i64 (l : Int)] H) fun b H_1 =>
   some (.bool b, H_1)
   else
   bif (x7 == (20 : Int)) then
   f71.K6 k x2 p3 x7 (x7 == (20 : Int)) [(D.getD 0 undef), (D.getD 1 undef), (D.getD 2 undef), (D.getD 3 undef), (D.getD 4 undef), (D.getD 5 undef), (D.getD 6 undef), (D.getD 7 undef), (D.getD 8 undef), (D.getD 9 undef), (D.getD 10 undef), (D.getD 11 undef), (D.getD 12 undef), (D.getD 13 undef), (D.getD 14 undef), (D.getD 15 undef), (D.getD 16 undef), (D.getD 17 undef), (D.getD 18 undef), (D.getD 19 undef), (D.getD 20 undef), (D.getD 21 undef), .bool b61, (D.getD 22 undef), (D.getD 23 undef), (D.getD 24 undef), (D.getD 25 undef), .bool (x7 == (20 : Int)), undef] H
   else
   f71.K6 k x2 p3 x7 (x7 == (21 : Int)) [(D.getD 0 undef), (D.getD 1 undef), (D.getD 2 undef), (D.getD 3 undef), (D.getD 4 undef), (D.getD 5 undef), (D.getD 6 undef), (D.getD 7 undef), (D.getD 8 undef), (D.getD 9 undef), (D.getD 10 undef), (D.getD 11 undef), (D.getD 12 undef), (D.getD 13 undef), (D.getD 14 undef), (D.getD 15 undef), (D.getD 16 undef), (D.getD 17 undef), (D.getD 18 undef), (D.getD 19 undef), (D.getD 20 undef), (D.getD 21 undef), .bool b61, (D.getD 22 undef), (D.getD 23 undef), (D.getD 24 undef), (D.getD 25 undef), .bool (x7 == (20 : Int)), .bool (x7 == (21 : Int))] H) := by
  unfold f71.K5
  rw [gateC_eq]
  kernel_rfl
theorem f71.K6_eq (k : Nat)  (x2 : Int) (p3 : Nat) (x7 : Int) (b71 : Bool) (D : List Value) (H : AHeap) : f71.K6 k  x2 p3 x7 b71 D H =
  (bif b71 then
   bSl (ldSl H p3 (4)) fun a l c =>
   cB (C k 70 [.int .i64 x2, .int .i64 (l : Int)] H) fun b H_1 =>
   some (.bool b, H_1)
   else
   bif (x7 == (22 : Int)) then
   bif (x7 == (22 : Int)) then
   bSl (ldSl H p3 (3)) fun a_1 l_1 c_1 =>
   cB (C k 70 [.int .i64 x2, .int .i64 (l_1 : Int)] H) fun b_1 H_2 =>
   some (.bool b_1, H_2)
   else
   f71.K7 k [(D.getD 0 undef), (D.getD 1 undef), .int .i64 x2, .pointer (some ⟨p3, 0, none⟩), (D.getD 2 undef), .int .i64 x7, (D.getD 3 undef), (D.getD 4 undef), (D.getD 5 undef), (D.getD 6 undef), (D.getD 7 undef), (D.getD 8 undef), (D.getD 9 undef), (D.getD 10 undef), (D.getD 11 undef), (D.getD 12 undef), (D.getD 13 undef), (D.getD 14 undef), (D.getD 15 undef), (D.getD 16 undef), (D.getD 17 undef), (D.getD 18 undef), (D.getD 19 undef), (D.getD 20 undef), (D.getD 21 undef), (D.getD 22 undef), (D.getD 23 undef), (D.getD 24 undef), (D.getD 25 undef), (D.getD 26 undef), .bool b71, (D.getD 27 undef), (D.getD 28 undef), .bool (x7 == (22 : Int)), .bool (x7 == (22 : Int)), undef] H
   else
   bif (x7 == (23 : Int)) then
   bSl (ldSl H p3 (3)) fun a_2 l_2 c_2 =>
   cB (C k 70 [.int .i64 x2, .int .i64 (l_2 : Int)] H) fun b_2 H_3 =>
   some (.bool b_2, H_3)
   else
   f71.K7 k [(D.getD 0 undef), (D.getD 1 undef), .int .i64 x2, .pointer (some ⟨p3, 0, none⟩), (D.getD 2 undef), .int .i64 x7, (D.getD 3 undef), (D.getD 4 undef), (D.getD 5 undef), (D.getD 6 undef), (D.getD 7 undef), (D.getD 8 undef), (D.getD 9 undef), (D.getD 10 undef), (D.getD 11 undef), (D.getD 12 undef), (D.getD 13 undef), (D.getD 14 undef), (D.getD 15 undef), (D.getD 16 undef), (D.getD 17 undef), (D.getD 18 undef), (D.getD 19 undef), (D.getD 20 undef), (D.getD 21 undef), (D.getD 22 undef), (D.getD 23 undef), (D.getD 24 undef), (D.getD 25 undef), (D.getD 26 undef), .bool b71, (D.getD 27 undef), (D.getD 28 undef), .bool (x7 == (23 : Int)), .bool (x7 == (22 : Int)), .bool (x7 == (23 : Int))] H) := by
  unfold f71.K6
  rw [gateC_eq]
  kernel_rfl
theorem f71.K7_eq (k : Nat)  (D : List Value) (H : AHeap) : f71.K7 k  D H =
  (some (.bool false, H)) := by
  unfold f71.K7
  rw [gateC_eq]
  kernel_rfl
theorem f71_eq (k : Nat) (a0_0 : Option Addr) (l0_0 : Nat) (c0_0 : Nat) (a0_1 : Option Addr) (l0_1 : Nat) (c0_1 : Nat) (a0_2 : Option Addr) (l0_2 : Nat) (c0_2 : Nat) (a0_3 : Option Addr) (l0_3 : Nat) (c0_3 : Nat) (a0_4 : Option Addr) (l0_4 : Nat) (c0_4 : Nat) (a0_5 : Option Addr) (l0_5 : Nat) (c0_5 : Nat) (x1 : Int) (x2 : Int) (H : AHeap) : C (k + 1) 71 [.agg #[.slice a0_0 l0_0 c0_0, .slice a0_1 l0_1 c0_1, .slice a0_2 l0_2 c0_2, .slice a0_3 l0_3 c0_3, .slice a0_4 l0_4 c0_4, .slice a0_5 l0_5 c0_5], .int .i64 x1, .int .i64 x2] H =
  (alK none H ⟨[.slice a0_0 l0_0 c0_0, .slice a0_1 l0_1 c0_1, .slice a0_2 l0_2 c0_2, .slice a0_3 l0_3 c0_3, .slice a0_4 l0_4 c0_4, .slice a0_5 l0_5 c0_5], 0, .rw, 0⟩ fun i H_1 =>
   bif (x1 == (1 : Int)) then
   f71.K1 k x2 i x1 (x1 == (1 : Int)) [.agg #[.slice a0_0 l0_0 c0_0, .slice a0_1 l0_1 c0_1, .slice a0_2 l0_2 c0_2, .slice a0_3 l0_3 c0_3, .slice a0_4 l0_4 c0_4, .slice a0_5 l0_5 c0_5], .int .i64 x1, .bool false, .bool (x1 == (1 : Int)), undef, undef, undef, undef, undef, undef] H_1
   else
   bif (x1 == (2 : Int)) then
   f71.K1 k x2 i x1 (x1 == (2 : Int)) [.agg #[.slice a0_0 l0_0 c0_0, .slice a0_1 l0_1 c0_1, .slice a0_2 l0_2 c0_2, .slice a0_3 l0_3 c0_3, .slice a0_4 l0_4 c0_4, .slice a0_5 l0_5 c0_5], .int .i64 x1, .bool false, .bool (x1 == (1 : Int)), .bool (x1 == (2 : Int)), undef, undef, undef, undef, undef] H_1
   else
   bif (x1 == (5 : Int)) then
   f71.K1 k x2 i x1 (x1 == (5 : Int)) [.agg #[.slice a0_0 l0_0 c0_0, .slice a0_1 l0_1 c0_1, .slice a0_2 l0_2 c0_2, .slice a0_3 l0_3 c0_3, .slice a0_4 l0_4 c0_4, .slice a0_5 l0_5 c0_5], .int .i64 x1, .bool false, .bool (x1 == (1 : Int)), .bool (x1 == (2 : Int)), .bool (x1 == (5 : Int)), undef, undef, undef, undef] H_1
   else
   bif (x1 == (12 : Int)) then
   f71.K1 k x2 i x1 (x1 == (12 : Int)) [.agg #[.slice a0_0 l0_0 c0_0, .slice a0_1 l0_1 c0_1, .slice a0_2 l0_2 c0_2, .slice a0_3 l0_3 c0_3, .slice a0_4 l0_4 c0_4, .slice a0_5 l0_5 c0_5], .int .i64 x1, .bool false, .bool (x1 == (1 : Int)), .bool (x1 == (2 : Int)), .bool (x1 == (5 : Int)), .bool (x1 == (12 : Int)), undef, undef, undef] H_1
   else
   bif (x1 == (13 : Int)) then
   f71.K1 k x2 i x1 (x1 == (13 : Int)) [.agg #[.slice a0_0 l0_0 c0_0, .slice a0_1 l0_1 c0_1, .slice a0_2 l0_2 c0_2, .slice a0_3 l0_3 c0_3, .slice a0_4 l0_4 c0_4, .slice a0_5 l0_5 c0_5], .int .i64 x1, .bool false, .bool (x1 == (1 : Int)), .bool (x1 == (2 : Int)), .bool (x1 == (5 : Int)), .bool (x1 == (12 : Int)), .bool (x1 == (13 : Int)), undef, undef] H_1
   else
   bif (x1 == (14 : Int)) then
   f71.K1 k x2 i x1 (x1 == (14 : Int)) [.agg #[.slice a0_0 l0_0 c0_0, .slice a0_1 l0_1 c0_1, .slice a0_2 l0_2 c0_2, .slice a0_3 l0_3 c0_3, .slice a0_4 l0_4 c0_4, .slice a0_5 l0_5 c0_5], .int .i64 x1, .bool false, .bool (x1 == (1 : Int)), .bool (x1 == (2 : Int)), .bool (x1 == (5 : Int)), .bool (x1 == (12 : Int)), .bool (x1 == (13 : Int)), .bool (x1 == (14 : Int)), undef] H_1
   else
   f71.K1 k x2 i x1 (x1 == (15 : Int)) [.agg #[.slice a0_0 l0_0 c0_0, .slice a0_1 l0_1 c0_1, .slice a0_2 l0_2 c0_2, .slice a0_3 l0_3 c0_3, .slice a0_4 l0_4 c0_4, .slice a0_5 l0_5 c0_5], .int .i64 x1, .bool false, .bool (x1 == (1 : Int)), .bool (x1 == (2 : Int)), .bool (x1 == (5 : Int)), .bool (x1 == (12 : Int)), .bool (x1 == (13 : Int)), .bool (x1 == (14 : Int)), .bool (x1 == (15 : Int))] H_1) := by kernel_rfl

/- f94 "interleave/interleaveref08.named"  names:  -/
noncomputable def f94.Q0 (k : Nat)  : Kont (Value × AHeap) := retQ Try.prog Try.f94
noncomputable def f94.Q1 (k : Nat)  : Kont (Value × AHeap) := seqQ (gateC (Sub (bodyOf Try.f94) [1, 0]) (Sub (bodyOf Try.f94) [1, 1]) k (run Try.prog (C k) k (Sub (bodyOf Try.f94) [1, 1]) (f94.Q0 k ))) (f94.Q0 k )
noncomputable def f94.Q2 (k : Nat)  : Kont (Value × AHeap) := blkQ 0 (f94.Q1 k )
noncomputable def f94.K1 (k : Nat)  (x2 : Int) (p3 : Nat) (x7 : Int) (b8 : Bool) (D : List Value) (H : AHeap) : Option (Value × AHeap) :=
  gateC (Sub (bodyOf Try.f94) [1, 0, 1, 0, 0]) (Sub (bodyOf Try.f94) [1, 0, 1, 0, 1]) k (run Try.prog (C k) k (Sub (bodyOf Try.f94) [1, 0, 1, 0, 1]) (f94.Q2 k )) [(D.getD 0 undef), (D.getD 1 undef), .int .i64 x2, .pointer (some ⟨p3, 0, none⟩), undef, undef, (D.getD 2 undef), .int .i64 x7, .bool b8, (D.getD 3 undef), (D.getD 4 undef), (D.getD 5 undef), (D.getD 6 undef), (D.getD 7 undef), (D.getD 8 undef), (D.getD 9 undef), undef, undef, undef, undef, undef, undef, undef, undef, undef, undef, undef, undef, undef, undef, undef, undef, undef, undef, undef, undef, undef, undef, undef, undef, undef, undef, undef, undef, undef, undef, undef, undef, undef, undef, undef, undef, undef, undef, undef, undef, undef, undef, undef, undef, undef, undef, undef, undef, undef, undef, undef, undef, undef, undef, undef, undef, undef, undef, undef, undef, undef, undef, undef, undef, undef, undef, undef, undef, undef, undef, undef] H
noncomputable def f94.K2 (k : Nat)  (x2 : Int) (p3 : Nat) (x7 : Int) (b18 : Bool) (D : List Value) (H : AHeap) : Option (Value × AHeap) :=
  gateC (Sub (bodyOf Try.f94) [1, 0, 1, 0, 1, 1, 0]) (Sub (bodyOf Try.f94) [1, 0, 1, 0, 1, 1, 1]) k (run Try.prog (C k) k (Sub (bodyOf Try.f94) [1, 0, 1, 0, 1, 1, 1]) (f94.Q2 k )) [(D.getD 0 undef), (D.getD 1 undef), .int .i64 x2, .pointer (some ⟨p3, 0, none⟩), undef, undef, (D.getD 2 undef), .int .i64 x7, (D.getD 3 undef), (D.getD 4 undef), (D.getD 5 undef), (D.getD 6 undef), (D.getD 7 undef), (D.getD 8 undef), (D.getD 9 undef), (D.getD 10 undef), undef, undef, .bool b18, (D.getD 11 undef), (D.getD 12 undef), undef, undef, undef, undef, undef, undef, undef, undef, undef, undef, undef, undef, undef, undef, undef, undef, undef, undef, undef, undef, undef, undef, undef, undef, undef, undef, undef, undef, undef, undef, undef, undef, undef, undef, undef, undef, undef, undef, undef, undef, undef, undef, undef, undef, undef, undef, undef, undef, undef, undef, undef, undef, undef, undef, undef, undef, undef, undef, undef, undef, undef, undef, undef, undef, undef, undef] H
noncomputable def f94.K3 (k : Nat)  (x2 : Int) (p3 : Nat) (x7 : Int) (b26 : Bool) (D : List Value) (H : AHeap) : Option (Value × AHeap) :=
  gateC (Sub (bodyOf Try.f94) [1, 0, 1, 0, 1, 1, 1, 1, 0]) (Sub (bodyOf Try.f94) [1, 0, 1, 0, 1, 1, 1, 1, 1]) k (run Try.prog (C k) k (Sub (bodyOf Try.f94) [1, 0, 1, 0, 1, 1, 1, 1, 1]) (f94.Q2 k )) [(D.getD 0 undef), (D.getD 1 undef), .int .i64 x2, .pointer (some ⟨p3, 0, none⟩), undef, undef, (D.getD 2 undef), .int .i64 x7, (D.getD 3 undef), (D.getD 4 undef), (D.getD 5 undef), (D.getD 6 undef), (D.getD 7 undef), (D.getD 8 undef), (D.getD 9 undef), (D.getD 10 undef), undef, undef, (D.getD 11 undef), (D.getD 12 undef), (D.getD 13 undef), undef, undef, undef, undef, undef, .bool b26, (D.getD 14 undef), (D.getD 15 undef), undef, undef, undef, undef, undef, undef, undef, undef, undef, undef, undef, undef, undef, undef, undef, undef, undef, undef, undef, undef, undef, undef, undef, undef, undef, undef, undef, undef, undef, undef, undef, undef, undef, undef, undef, undef, undef, undef, undef, undef, undef, undef, undef, undef, undef, undef, undef, undef, undef, undef, undef, undef, undef, undef, undef, undef, undef, undef] H
noncomputable def f94.K4 (k : Nat)  (x2 : Int) (p3 : Nat) (x7 : Int) (b43 : Bool) (D : List Value) (H : AHeap) : Option (Value × AHeap) :=
  gateC (Sub (bodyOf Try.f94) [1, 0, 1, 0, 1, 1, 1, 1, 1, 1, 0]) (Sub (bodyOf Try.f94) [1, 0, 1, 0, 1, 1, 1, 1, 1, 1, 1]) k (run Try.prog (C k) k (Sub (bodyOf Try.f94) [1, 0, 1, 0, 1, 1, 1, 1, 1, 1, 1]) (f94.Q2 k )) [(D.getD 0 undef), (D.getD 1 undef), .int .i64 x2, .pointer (some ⟨p3, 0, none⟩), undef, undef, (D.getD 2 undef), .int .i64 x7, (D.getD 3 undef), (D.getD 4 undef), (D.getD 5 undef), (D.getD 6 undef), (D.getD 7 undef), (D.getD 8 undef), (D.getD 9 undef), (D.getD 10 undef), undef, undef, (D.getD 11 undef), (D.getD 12 undef), (D.getD 13 undef), undef, undef, undef, undef, undef, (D.getD 14 undef), (D.getD 15 undef), (D.getD 16 undef), undef, undef, undef, undef, undef, undef, undef, undef, undef, undef, undef, undef, undef, undef, .bool b43, (D.getD 17 undef), (D.getD 18 undef), (D.getD 19 undef), (D.getD 20 undef), undef, undef, undef, undef, undef, undef, undef, undef, undef, undef, undef, undef, undef, undef, undef, undef, undef, undef, undef, undef, undef, undef, undef, undef, undef, undef, undef, undef, undef, undef, undef, undef, undef, undef, undef, undef, undef, undef, undef] H
noncomputable def f94.K5 (k : Nat)  (x2 : Int) (p3 : Nat) (x7 : Int) (b61 : Bool) (D : List Value) (H : AHeap) : Option (Value × AHeap) :=
  gateC (Sub (bodyOf Try.f94) [1, 0, 1, 0, 1, 1, 1, 1, 1, 1, 1, 1, 0]) (Sub (bodyOf Try.f94) [1, 0, 1, 0, 1, 1, 1, 1, 1, 1, 1, 1, 1]) k (run Try.prog (C k) k (Sub (bodyOf Try.f94) [1, 0, 1, 0, 1, 1, 1, 1, 1, 1, 1, 1, 1]) (f94.Q2 k )) [(D.getD 0 undef), (D.getD 1 undef), .int .i64 x2, .pointer (some ⟨p3, 0, none⟩), undef, undef, (D.getD 2 undef), .int .i64 x7, (D.getD 3 undef), (D.getD 4 undef), (D.getD 5 undef), (D.getD 6 undef), (D.getD 7 undef), (D.getD 8 undef), (D.getD 9 undef), (D.getD 10 undef), undef, undef, (D.getD 11 undef), (D.getD 12 undef), (D.getD 13 undef), undef, undef, undef, undef, undef, (D.getD 14 undef), (D.getD 15 undef), (D.getD 16 undef), undef, undef, undef, undef, undef, undef, undef, undef, undef, undef, undef, undef, undef, undef, (D.getD 17 undef), (D.getD 18 undef), (D.getD 19 undef), (D.getD 20 undef), (D.getD 21 undef), undef, undef, undef, undef, undef, undef, undef, undef, undef, undef, undef, undef, undef, .bool b61, (D.getD 22 undef), (D.getD 23 undef), (D.getD 24 undef), (D.getD 25 undef), undef, undef, undef, undef, undef, undef, undef, undef, undef, undef, undef, undef, undef, undef, undef, undef, undef, undef, undef, undef, undef] H
noncomputable def f94.K6 (k : Nat)  (x2 : Int) (p3 : Nat) (x7 : Int) (b71 : Bool) (D : List Value) (H : AHeap) : Option (Value × AHeap) :=
  gateC (Sub (bodyOf Try.f94) [1, 0, 1, 0, 1, 1, 1, 1, 1, 1, 1, 1, 1, 1, 0]) (Sub (bodyOf Try.f94) [1, 0, 1, 0, 1, 1, 1, 1, 1, 1, 1, 1, 1, 1, 1]) k (run Try.prog (C k) k (Sub (bodyOf Try.f94) [1, 0, 1, 0, 1, 1, 1, 1, 1, 1, 1, 1, 1, 1, 1]) (f94.Q2 k )) [(D.getD 0 undef), (D.getD 1 undef), .int .i64 x2, .pointer (some ⟨p3, 0, none⟩), undef, undef, (D.getD 2 undef), .int .i64 x7, (D.getD 3 undef), (D.getD 4 undef), (D.getD 5 undef), (D.getD 6 undef), (D.getD 7 undef), (D.getD 8 undef), (D.getD 9 undef), (D.getD 10 undef), undef, undef, (D.getD 11 undef), (D.getD 12 undef), (D.getD 13 undef), undef, undef, undef, undef, undef, (D.getD 14 undef), (D.getD 15 undef), (D.getD 16 undef), undef, undef, undef, undef, undef, undef, undef, undef, undef, undef, undef, undef, undef, undef, (D.getD 17 undef), (D.getD 18 undef), (D.getD 19 undef), (D.getD 20 undef), (D.getD 21 undef), undef, undef, undef, undef, undef, undef, undef, undef, undef, undef, undef, undef, undef, (D.getD 22 undef), (D.getD 23 undef), (D.getD 24 undef), (D.getD 25 undef), (D.getD 26 undef), undef, undef, undef, undef, undef, .bool b71, (D.getD 27 undef), (D.getD 28 undef), undef, undef, undef, undef, undef, undef, undef, undef, undef, undef, undef, undef, undef] H
noncomputable def f94.K7 (k : Nat)  (D : List Value) (H : AHeap) : Option (Value × AHeap) :=
  gateC (Sub (bodyOf Try.f94) [1, 0]) (Sub (bodyOf Try.f94) [1, 1]) k (run Try.prog (C k) k (Sub (bodyOf Try.f94) [1, 1]) (f94.Q0 k )) [(D.getD 0 undef), (D.getD 1 undef), (D.getD 2 undef), (D.getD 3 undef), undef, undef, (D.getD 4 undef), (D.getD 5 undef), (D.getD 6 undef), (D.getD 7 undef), (D.getD 8 undef), (D.getD 9 undef), (D.getD 10 undef), (D.getD 11 undef), (D.getD 12 undef), (D.getD 13 undef), undef, undef, (D.getD 14 undef), (D.getD 15 undef), (D.getD 16 undef), undef, undef, undef, undef, undef, (D.getD 17 undef), (D.getD 18 undef), (D.getD 19 undef), undef, undef, undef, undef, undef, undef, undef, undef, undef, undef, undef, undef, undef, undef, (D.getD 20 undef), (D.getD 21 undef), (D.getD 22 undef), (D.getD 23 undef), (D.getD 24 undef), undef, undef, undef, undef, undef, undef, undef, undef, undef, undef, undef, undef, undef, (D.getD 25 undef), (D.getD 26 undef), (D.getD 27 undef), (D.getD 28 undef), (D.getD 29 undef), undef, undef, undef, undef, undef, (D.getD 30 undef), (D.getD 31 undef), (D.getD 32 undef), undef, undef, undef, undef, undef, (D.getD 33 undef), (D.getD 34 undef), (D.getD 35 undef), undef, undef, undef, undef, undef] H
theorem f94.K1_eq (k : Nat)  (x2 : Int) (p3 : Nat) (x7 : Int) (b8 : Bool) (D : List Value) (H : AHeap) : f94.K1 k  x2 p3 x7 b8 D H =
  (bif b8 then
   some (.bool (x2 == ((-1) : Int)), H)
   else
   bif (x7 == (3 : Int)) then
   f94.K2 k x2 p3 x7 (x7 == (3 : Int)) [(D.getD 0 undef), (D.getD 1 undef), (D.getD 2 undef), .bool b8, (D.getD 3 undef), (D.getD 4 undef), (D.getD 5 undef), (D.getD 6 undef), (D.getD 7 undef), (D.getD 8 undef), (D.getD 9 undef), .bool (x7 == (3 : Int)), undef] H
   else
   f94.K2 k x2 p3 x7 (x7 == (4 : Int)) [(D.getD 0 undef), (D.getD 1 undef), (D.getD 2 undef), .bool b8, (D.getD 3 undef), (D.getD 4 undef), (D.getD 5 undef), (D.getD 6 undef), (D.getD 7 undef), (D.getD 8 undef), (D.getD 9 undef), .bool (x7 == (3 : Int)), .bool (x7 == (4 : Int))] H) := by
  unfold f94.K1
  rw [gateC_eq]
  kernel_rfl
theorem f94.K2_eq (k : Nat)  (x2 : Int) (p3 : Nat) (x7 : Int) (b18 : Bool) (D : List Value) (H : AHeap) : f94.K2 k  x2 p3 x7 b18 D H =
  (bif b18 then
   bSl (ldSl H p3 (0)) fun a l c =>
   cB (C k 93 [.int .i64 x2, .int .i64 (l : Int)] H) fun b H_1 =>
   some (.bool b, H_1)
   else
   bif (x7 == (6 : Int)) then
   f94.K3 k x2 p3 x7 (x7 == (6 : Int)) [(D.getD 0 undef), (D.getD 1 undef), (D.getD 2 undef), (D.getD 3 undef), (D.getD 4 undef), (D.getD 5 undef), (D.getD 6 undef), (D.getD 7 undef), (D.getD 8 undef), (D.getD 9 undef), (D.getD 10 undef), .bool b18, (D.getD 11 undef), (D.getD 12 undef), .bool (x7 == (6 : Int)), undef] H
   else
   f94.K3 k x2 p3 x7 (x7 == (7 : Int)) [(D.getD 0 undef), (D.getD 1 undef), (D.getD 2 undef), (D.getD 3 undef), (D.getD 4 undef), (D.getD 5 undef), (D.getD 6 undef), (D.getD 7 undef), (D.getD 8 undef), (D.getD 9 undef), (D.getD 10 undef), .bool b18, (D.getD 11 undef), (D.getD 12 undef), .bool (x7 == (6 : Int)), .bool (x7 == (7 : Int))] H) := by
  unfold f94.K2
  rw [gateC_eq]
  kernel_rfl
theorem f94.K3_eq (k : Nat)  (x2 : Int) (p3 : Nat) (x7 : Int) (b26 : Bool) (D : List Value) (H : AHeap) : f94.K3 k  x2 p3 x7 b26 D H =
  (bif b26 then
   bSl (ldSl H p3 (1)) fun a l c =>
   cB (C k 93 [.int .i64 x2, .int .i64 (l : Int)] H) fun b H_1 =>
   bif b then
   bSl (ldSl H_1 p3 (1)) fun a_1 l_1 c_1 =>
   a_1.bind fun q =>
   if 0 ≤ x2 ∧ x2 < (l_1 : Int) then
   (ldB H_1 q.block (q.off + x2.toNat * 2 + 1)).bind fun b_1 =>
   some (.bool (!b_1), H_1)
   else none
   else
   some (.bool false, H_1)
   else
   bif (x7 == (8 : Int)) then
   f94.K4 k x2 p3 x7 (x7 == (8 : Int)) [(D.getD 0 undef), (D.getD 1 undef), (D.getD 2 undef), (D.getD 3 undef), (D.getD 4 undef), (D.getD 5 undef), (D.getD 6 undef), (D.getD 7 undef), (D.getD 8 undef), (D.getD 9 undef), (D.getD 10 undef), (D.getD 11 undef), (D.getD 12 undef), (D.getD 13 undef), .bool b26, (D.getD 14 undef), (D.getD 15 undef), .bool (x7 == (8 : Int)), undef, undef, undef] H
   else
   bif (x7 == (9 : Int)) then
   f94.K4 k x2 p3 x7 (x7 == (9 : Int)) [(D.getD 0 undef), (D.getD 1 undef), (D.getD 2 undef), (D.getD 3 undef), (D.getD 4 undef), (D.getD 5 undef), (D.getD 6 undef), (D.getD 7 undef), (D.getD 8 undef), (D.getD 9 undef), (D.getD 10 undef), (D.getD 11 undef), (D.getD 12 undef), (D.getD 13 undef), .bool b26, (D.getD 14 undef), (D.getD 15 undef), .bool (x7 == (8 : Int)), .bool (x7 == (9 : Int)), undef, undef] H
   else
   bif (x7 == (10 : Int)) then
   f94.K4 k x2 p3 x7 (x7 == (10 : Int)) [(D.getD 0 undef), (D.getD 1 undef), (D.getD 2 undef), (D.getD 3 undef), (D.getD 4 undef), (D.getD 5 undef), (D.getD 6 undef), (D.getD 7 undef), (D.getD 8 undef), (D.getD 9 undef), (D.getD 10 undef), (D.getD 11 undef), (D.getD 12 undef), (D.getD 13 undef), .bool b26, (D.getD 14 undef), (D.getD 15 undef), .bool (x7 == (8 : Int)), .bool (x7 == (9 : Int)), .bool (x7 == (10 : Int)), undef] H
   else
   f94.K4 k x2 p3 x7 (x7 == (11 : Int)) [(D.getD 0 undef), (D.getD 1 undef), (D.getD 2 undef), (D.getD 3 undef), (D.getD 4 undef), (D.getD 5 undef), (D.getD 6 undef), (D.getD 7 undef), (D.getD 8 undef), (D.getD 9 undef), (D.getD 10 undef), (D.getD 11 undef), (D.getD 12 undef), (D.getD 13 undef), .bool b26, (D.getD 14 undef), (D.getD 15 undef), .bool (x7 == (8 : Int)), .bool (x7 == (9 : Int)), .bool (x7 == (10 : Int)), .bool (x7 == (11 : Int))] H) := by
  unfold f94.K3
  rw [gateC_eq]
  kernel_rfl
theorem f94.K4_eq (k : Nat)  (x2 : Int) (p3 : Nat) (x7 : Int) (b43 : Bool) (D : List Value) (H : AHeap) : f94.K4 k  x2 p3 x7 b43 D H =
  (bif b43 then
   bSl (ldSl H p3 (1)) fun a l c =>
   cB (C k 93 [.int .i64 x2, .int .i64 (l : Int)] H) fun b H_1 =>
   bif b then
   bSl (ldSl H_1 p3 (1)) fun a_1 l_1 c_1 =>
   a_1.bind fun q =>
   if 0 ≤ x2 ∧ x2 < (l_1 : Int) then
   (ldB H_1 q.block (q.off + x2.toNat * 2 + 1)).bind fun b_1 =>
   some (.bool b_1, H_1)
   else none
   else
   some (.bool false, H_1)
   else
   bif (x7 == (16 : Int)) then
   f94.K5 k x2 p3 x7 (x7 == (16 : Int)) [(D.getD 0 undef), (D.getD 1 undef), (D.getD 2 undef), (D.getD 3 undef), (D.getD 4 undef), (D.getD 5 undef), (D.getD 6 undef), (D.getD 7 undef), (D.getD 8 undef), (D.getD 9 undef), (D.getD 10 undef), (D.getD 11 undef), (D.getD 12 undef), (D.getD 13 undef), (D.getD 14 undef), (D.getD 15 undef), (D.getD 16 undef), .bool b43, (D.getD 17 undef), (D.getD 18 undef), (D.getD 19 undef), (D.getD 20 undef), .bool (x7 == (16 : Int)), undef, undef, undef] H
   else
   bif (x7 == (17 : Int)) then
   f94.K5 k x2 p3 x7 (x7 == (17 : Int)) [(D.getD 0 undef), (D.getD 1 undef), (D.getD 2 undef), (D.getD 3 undef), (D.getD 4 undef), (D.getD 5 undef), (D.getD 6 undef), (D.getD 7 undef), (D.getD 8 undef), (D.getD 9 undef), (D.getD 10 undef), (D.getD 11 undef), (D.getD 12 undef), (D.getD 13 undef), (D.getD 14 undef), (D.getD 15 undef), (D.getD 16 undef), .bool b43, (D.getD 17 undef), (D.getD 18 undef), (D.getD 19 undef), (D.getD 20 undef), .bool (x7 == (16 : Int)), .bool (x7 == (17 : Int)), undef, undef] H
   else
   bif (x7 == (18 : Int)) then
   f94.K5 k x2 p3 x7 (x7 == (18 : Int)) [(D.getD 0 undef), (D.getD 1 undef), (D.getD 2 undef), (D.getD 3 undef), (D.getD 4 undef), (D.getD 5 undef), (D.getD 6 undef), (D.getD 7 undef), (D.getD 8 undef), (D.getD 9 undef), (D.getD 10 undef), (D.getD 11 undef), (D.getD 12 undef), (D.getD 13 undef), (D.getD 14 undef), (D.getD 15 undef), (D.getD 16 undef), .bool b43, (D.getD 17 undef), (D.getD 18 undef), (D.getD 19 undef), (D.getD 20 undef), .bool (x7 == (16 : Int)), .bool (x7 == (17 : Int)), .bool (x7 == (18 : Int)), undef] H
   else
   f94.K5 k x2 p3 x7 (x7 == (19 : Int)) [(D.getD 0 undef), (D.getD 1 undef), (D.getD 2 undef), (D.getD 3 undef), (D.getD 4 undef), (D.getD 5 undef), (D.getD 6 undef), (D.getD 7 undef), (D.getD 8 undef), (D.getD 9 undef), (D.getD 10 undef), (D.getD 11 undef), (D.getD 12 undef), (D.getD 13 undef), (D.getD 14 undef), (D.getD 15 undef), (D.getD 16 undef), .bool b43, (D.getD 17 undef), (D.getD 18 undef), (D.getD 19 undef), (D.getD 20 undef), .bool (x7 == (16 : Int)), .bool (x7 == (17 : Int)), .bool (x7 == (18 : Int)), .bool (x7 == (19 : Int))] H) := by
  unfold f94.K4
  rw [gateC_eq]
  kernel_rfl
theorem f94.K5_eq (k : Nat)  (x2 : Int) (p3 : Nat) (x7 : Int) (b61 : Bool) (D : List Value) (H : AHeap) : f94.K5 k  x2 p3 x7 b61 D H =
  (bif b61 then
   bSl (ldSl H p3 (2)) fun a l c =>
   cB (C k 93 [.int .i64 x2, .int .i64 (l : Int)] H) fun b H_1 =>
   some (.bool b, H_1)
   else
   bif (x7 == (20 : Int)) then
   f94.K6 k x2 p3 x7 (x7 == (20 : Int)) [(D.getD 0 undef), (D.getD 1 undef), (D.getD 2 undef), (D.getD 3 undef), (D.getD 4 undef), (D.getD 5 undef), (D.getD 6 undef), (D.getD 7 undef), (D.getD 8 undef), (D.getD 9 undef), (D.getD 10 undef), (D.getD 11 undef), (D.getD 12 undef), (D.getD 13 undef), (D.getD 14 undef), (D.getD 15 undef), (D.getD 16 undef), (D.getD 17 undef), (D.getD 18 undef), (D.getD 19 undef), (D.getD 20 undef), (D.getD 21 undef), .bool b61, (D.getD 22 undef), (D.getD 23 undef), (D.getD 24 undef), (D.getD 25 undef), .bool (x7 == (20 : Int)), undef] H
   else
   f94.K6 k x2 p3 x7 (x7 == (21 : Int)) [(D.getD 0 undef), (D.getD 1 undef), (D.getD 2 undef), (D.getD 3 undef), (D.getD 4 undef), (D.getD 5 undef), (D.getD 6 undef), (D.getD 7 undef), (D.getD 8 undef), (D.getD 9 undef), (D.getD 10 undef), (D.getD 11 undef), (D.getD 12 undef), (D.getD 13 undef), (D.getD 14 undef), (D.getD 15 undef), (D.getD 16 undef), (D.getD 17 undef), (D.getD 18 undef), (D.getD 19 undef), (D.getD 20 undef), (D.getD 21 undef), .bool b61, (D.getD 22 undef), (D.getD 23 undef), (D.getD 24 undef), (D.getD 25 undef), .bool (x7 == (20 : Int)), .bool (x7 == (21 : Int))] H) := by
  unfold f94.K5
  rw [gateC_eq]
  kernel_rfl
theorem f94.K6_eq (k : Nat)  (x2 : Int) (p3 : Nat) (x7 : Int) (b71 : Bool) (D : List Value) (H : AHeap) : f94.K6 k  x2 p3 x7 b71 D H =
  (bif b71 then
   bSl (ldSl H p3 (4)) fun a l c =>
   cB (C k 93 [.int .i64 x2, .int .i64 (l : Int)] H) fun b H_1 =>
   some (.bool b, H_1)
   else
   bif (x7 == (22 : Int)) then
   bif (x7 == (22 : Int)) then
   bSl (ldSl H p3 (3)) fun a_1 l_1 c_1 =>
   cB (C k 93 [.int .i64 x2, .int .i64 (l_1 : Int)] H) fun b_1 H_2 =>
   some (.bool b_1, H_2)
   else
   f94.K7 k [(D.getD 0 undef), (D.getD 1 undef), .int .i64 x2, .pointer (some ⟨p3, 0, none⟩), (D.getD 2 undef), .int .i64 x7, (D.getD 3 undef), (D.getD 4 undef), (D.getD 5 undef), (D.getD 6 undef), (D.getD 7 undef), (D.getD 8 undef), (D.getD 9 undef), (D.getD 10 undef), (D.getD 11 undef), (D.getD 12 undef), (D.getD 13 undef), (D.getD 14 undef), (D.getD 15 undef), (D.getD 16 undef), (D.getD 17 undef), (D.getD 18 undef), (D.getD 19 undef), (D.getD 20 undef), (D.getD 21 undef), (D.getD 22 undef), (D.getD 23 undef), (D.getD 24 undef), (D.getD 25 undef), (D.getD 26 undef), .bool b71, (D.getD 27 undef), (D.getD 28 undef), .bool (x7 == (22 : Int)), .bool (x7 == (22 : Int)), undef] H
   else
   bif (x7 == (23 : Int)) then
   bSl (ldSl H p3 (3)) fun a_2 l_2 c_2 =>
   cB (C k 93 [.int .i64 x2, .int .i64 (l_2 : Int)] H) fun b_2 H_3 =>
   some (.bool b_2, H_3)
   else
   f94.K7 k [(D.getD 0 undef), (D.getD 1 undef), .int .i64 x2, .pointer (some ⟨p3, 0, none⟩), (D.getD 2 undef), .int .i64 x7, (D.getD 3 undef), (D.getD 4 undef), (D.getD 5 undef), (D.getD 6 undef), (D.getD 7 undef), (D.getD 8 undef), (D.getD 9 undef), (D.getD 10 undef), (D.getD 11 undef), (D.getD 12 undef), (D.getD 13 undef), (D.getD 14 undef), (D.getD 15 undef), (D.getD 16 undef), (D.getD 17 undef), (D.getD 18 undef), (D.getD 19 undef), (D.getD 20 undef), (D.getD 21 undef), (D.getD 22 undef), (D.getD 23 undef), (D.getD 24 undef), (D.getD 25 undef), (D.getD 26 undef), .bool b71, (D.getD 27 undef), (D.getD 28 undef), .bool (x7 == (23 : Int)), .bool (x7 == (22 : Int)), .bool (x7 == (23 : Int))] H) := by
  unfold f94.K6
  rw [gateC_eq]
  kernel_rfl
theorem f94.K7_eq (k : Nat)  (D : List Value) (H : AHeap) : f94.K7 k  D H =
  (some (.bool false, H)) := by
  unfold f94.K7
  rw [gateC_eq]
  kernel_rfl
theorem f94_eq (k : Nat) (a0_0 : Option Addr) (l0_0 : Nat) (c0_0 : Nat) (a0_1 : Option Addr) (l0_1 : Nat) (c0_1 : Nat) (a0_2 : Option Addr) (l0_2 : Nat) (c0_2 : Nat) (a0_3 : Option Addr) (l0_3 : Nat) (c0_3 : Nat) (a0_4 : Option Addr) (l0_4 : Nat) (c0_4 : Nat) (a0_5 : Option Addr) (l0_5 : Nat) (c0_5 : Nat) (x1 : Int) (x2 : Int) (H : AHeap) : C (k + 1) 94 [.agg #[.slice a0_0 l0_0 c0_0, .slice a0_1 l0_1 c0_1, .slice a0_2 l0_2 c0_2, .slice a0_3 l0_3 c0_3, .slice a0_4 l0_4 c0_4, .slice a0_5 l0_5 c0_5], .int .i64 x1, .int .i64 x2] H =
  (alK none H ⟨[.slice a0_0 l0_0 c0_0, .slice a0_1 l0_1 c0_1, .slice a0_2 l0_2 c0_2, .slice a0_3 l0_3 c0_3, .slice a0_4 l0_4 c0_4, .slice a0_5 l0_5 c0_5], 0, .rw, 0⟩ fun i H_1 =>
   bif (x1 == (1 : Int)) then
   f94.K1 k x2 i x1 (x1 == (1 : Int)) [.agg #[.slice a0_0 l0_0 c0_0, .slice a0_1 l0_1 c0_1, .slice a0_2 l0_2 c0_2, .slice a0_3 l0_3 c0_3, .slice a0_4 l0_4 c0_4, .slice a0_5 l0_5 c0_5], .int .i64 x1, .bool false, .bool (x1 == (1 : Int)), undef, undef, undef, undef, undef, undef] H_1
   else
   bif (x1 == (2 : Int)) then
   f94.K1 k x2 i x1 (x1 == (2 : Int)) [.agg #[.slice a0_0 l0_0 c0_0, .slice a0_1 l0_1 c0_1, .slice a0_2 l0_2 c0_2, .slice a0_3 l0_3 c0_3, .slice a0_4 l0_4 c0_4, .slice a0_5 l0_5 c0_5], .int .i64 x1, .bool false, .bool (x1 == (1 : Int)), .bool (x1 == (2 : Int)), undef, undef, undef, undef, undef] H_1
   else
   bif (x1 == (5 : Int)) then
   f94.K1 k x2 i x1 (x1 == (5 : Int)) [.agg #[.slice a0_0 l0_0 c0_0, .slice a0_1 l0_1 c0_1, .slice a0_2 l0_2 c0_2, .slice a0_3 l0_3 c0_3, .slice a0_4 l0_4 c0_4, .slice a0_5 l0_5 c0_5], .int .i64 x1, .bool false, .bool (x1 == (1 : Int)), .bool (x1 == (2 : Int)), .bool (x1 == (5 : Int)), undef, undef, undef, undef] H_1
   else
   bif (x1 == (12 : Int)) then
   f94.K1 k x2 i x1 (x1 == (12 : Int)) [.agg #[.slice a0_0 l0_0 c0_0, .slice a0_1 l0_1 c0_1, .slice a0_2 l0_2 c0_2, .slice a0_3 l0_3 c0_3, .slice a0_4 l0_4 c0_4, .slice a0_5 l0_5 c0_5], .int .i64 x1, .bool false, .bool (x1 == (1 : Int)), .bool (x1 == (2 : Int)), .bool (x1 == (5 : Int)), .bool (x1 == (12 : Int)), undef, undef, undef] H_1
   else
   bif (x1 == (13 : Int)) then
   f94.K1 k x2 i x1 (x1 == (13 : Int)) [.agg #[.slice a0_0 l0_0 c0_0, .slice a0_1 l0_1 c0_1, .slice a0_2 l0_2 c0_2, .slice a0_3 l0_3 c0_3, .slice a0_4 l0_4 c0_4, .slice a0_5 l0_5 c0_5], .int .i64 x1, .bool false, .bool (x1 == (1 : Int)), .bool (x1 == (2 : Int)), .bool (x1 == (5 : Int)), .bool (x1 == (12 : Int)), .bool (x1 == (13 : Int)), undef, undef] H_1
   else
   bif (x1 == (14 : Int)) then
   f94.K1 k x2 i x1 (x1 == (14 : Int)) [.agg #[.slice a0_0 l0_0 c0_0, .slice a0_1 l0_1 c0_1, .slice a0_2 l0_2 c0_2, .slice a0_3 l0_3 c0_3, .slice a0_4 l0_4 c0_4, .slice a0_5 l0_5 c0_5], .int .i64 x1, .bool false, .bool (x1 == (1 : Int)), .bool (x1 == (2 : Int)), .bool (x1 == (5 : Int)), .bool (x1 == (12 : Int)), .bool (x1 == (13 : Int)), .bool (x1 == (14 : Int)), undef] H_1
   else
   f94.K1 k x2 i x1 (x1 == (15 : Int)) [.agg #[.slice a0_0 l0_0 c0_0, .slice a0_1 l0_1 c0_1, .slice a0_2 l0_2 c0_2, .slice a0_3 l0_3 c0_3, .slice a0_4 l0_4 c0_4, .slice a0_5 l0_5 c0_5], .int .i64 x1, .bool false, .bool (x1 == (1 : Int)), .bool (x1 == (2 : Int)), .bool (x1 == (5 : Int)), .bool (x1 == (12 : Int)), .bool (x1 == (13 : Int)), .bool (x1 == (14 : Int)), .bool (x1 == (15 : Int))] H_1) := by kernel_rfl

/- f92 "interleave/object.locking"  names: 0:l 1:thread 2:kind 3:l 4:thread 5:kind -/
theorem f92_eq (k : Nat) (x0_0 : Int) (a0_1 : Option Addr) (l0_1 : Nat) (c0_1 : Nat) (x1 : Int) (x2 : Int) (H : AHeap) : C (k + 1) 92 [.agg #[.int .i64 x0_0, .slice a0_1 l0_1 c0_1], .int .i64 x1, .int .i64 x2] H =
  (alK none H ⟨[.int .i64 x0_0, .slice a0_1 l0_1 c0_1], 0, .rw, 0⟩ fun i H_1 =>
   bif (x2 == (6 : Int)) then
   (ldI .i64 H_1 i (0)).bind fun x =>
   some (.bool (x == ((-1) : Int)), H_1)
   else
   bif (x2 == (10 : Int)) then
   (ldI .i64 H_1 i (0)).bind fun x_1 =>
   bif (x_1 == ((-1) : Int)) then
   bSl (ldSl H_1 i (1)) fun a l c =>
   some (.bool ((l : Int) == (0 : Int)), H_1)
   else
   some (.bool false, H_1)
   else
   bif (x2 == (8 : Int)) then
   (ldI .i64 H_1 i (0)).bind fun x_2 =>
   bif (x_2 == ((-1) : Int)) then
   bSl (ldSl H_1 i (1)) fun a_1 l_1 c_1 =>
   cB (C k 63 [.slice a_1 l_1 c_1, .int .i64 x1] H_1) fun b H_2 =>
   some (.bool (!b), H_2)
   else
   some (.bool false, H_1)
   else
   bif (x2 == (9 : Int)) then
   bSl (ldSl H_1 i (1)) fun a_2 l_2 c_2 =>
   cB (C k 63 [.slice a_2 l_2 c_2, .int .i64 x1] H_1) fun b_1 H_3 =>
   some (.bool b_1, H_3)
   else
   (ldI .i64 H_1 i (0)).bind fun x_3 =>
   some (.bool (x_3 == x1), H_1)) := by kernel_rfl

/- f72 "interleave/object.running"  names:  -/
noncomputable def f72.Q0 (k : Nat)  : Kont (Value × AHeap) := retQ Try.prog Try.f72
noncomputable def f72.Q1 (k : Nat)  : Kont (Value × AHeap) := seqQ (gateC (Sub (bodyOf Try.f72) [1, 0]) (Sub (bodyOf Try.f72) [1, 1]) k (run Try.prog (C k) k (Sub (bodyOf Try.f72) [1, 1]) (f72.Q0 k ))) (f72.Q0 k )
noncomputable def f72.Q2 (k : Nat)  : Kont (Value × AHeap) := blkQ 0 (f72.Q1 k )
noncomputable def f72.K1 (k : Nat)  (x2 : Int) (x3 : Int) (x4 : Int) (p5 : Nat) (p6 : Nat) (x11 : Int) (b12 : Bool) (D : List Value) (H : AHeap) : Option (Value × AHeap) :=
  gateC (Sub (bodyOf Try.f72) [1, 0, 1, 0, 0]) (Sub (bodyOf Try.f72) [1, 0, 1, 0, 1]) k (run Try.prog (C k) k (Sub (bodyOf Try.f72) [1, 0, 1, 0, 1]) (f72.Q2 k )) [(D.getD 0 undef), (D.getD 1 undef), .int .i64 x2, .int .i64 x3, .int .i64 x4, .pointer (some ⟨p5, 0, none⟩), .pointer (some ⟨p6, 0, none⟩), undef, undef, undef, (D.getD 2 undef), .int .i64 x11, .bool b12, (D.getD 3 undef), (D.getD 4 undef), (D.getD 5 undef), (D.getD 6 undef), (D.getD 7 undef), (D.getD 8 undef), undef, undef, undef, undef, undef, undef, undef, undef, undef, undef, undef, undef, undef, undef, undef, undef, undef, undef, undef, undef, undef, undef, undef, undef, undef, undef, undef, undef, undef, undef, undef, undef, undef, undef, undef, undef, undef, undef, undef, undef, undef, undef, undef, undef, undef, undef, undef, undef, undef, undef, undef, undef, undef, undef, undef, undef, undef, undef, undef, undef, undef, undef, undef, undef, undef, undef, undef, undef, undef, undef, undef, undef, undef, undef, undef, undef, undef, undef, undef, undef, undef, undef, undef, undef, undef, undef, undef, undef, undef, undef, undef, undef, undef, undef, undef, undef] H
noncomputable def f72.K2 (k : Nat)  (x2 : Int) (x4 : Int) (p5 : Nat) (p6 : Nat) (x11 : Int) (b55 : Bool) (D : List Value) (H : AHeap) : Option (Value × AHeap) :=
  gateC (Sub (bodyOf Try.f72) [1, 0, 1, 0, 1, 1, 1, 1, 1, 1, 1, 1, 1, 1, 0]) (Sub (bodyOf Try.f72) [1, 0, 1, 0, 1, 1, 1, 1, 1, 1, 1, 1, 1, 1, 1]) k (run Try.prog (C k) k (Sub (bodyOf Try.f72) [1, 0, 1, 0, 1, 1, 1, 1, 1, 1, 1, 1, 1, 1, 1]) (f72.Q2 k )) [(D.getD 0 undef), (D.getD 1 undef), .int .i64 x2, (D.getD 2 undef), .int .i64 x4, .pointer (some ⟨p5, 0, none⟩), .pointer (some ⟨p6, 0, none⟩), undef, undef, undef, (D.getD 3 undef), .int .i64 x11, (D.getD 4 undef), (D.getD 5 undef), (D.getD 6 undef), (D.getD 7 undef), (D.getD 8 undef), (D.getD 9 undef), (D.getD 10 undef), undef, undef, undef, undef, undef, undef, undef, undef, (D.getD 11 undef), (D.getD 12 undef), undef, undef, undef, (D.getD 13 undef), (D.getD 14 undef), undef, undef, undef, undef, (D.getD 15 undef), (D.getD 16 undef), undef, undef, undef, undef, undef, undef, undef, (D.getD 17 undef), (D.getD 18 undef), undef, undef, undef, undef, undef, undef, .bool b55, (D.getD 19 undef), (D.getD 20 undef), (D.getD 21 undef), undef, undef, undef, undef, undef, undef, undef, undef, undef, undef, undef, undef, undef, undef, undef, undef, undef, undef, undef, undef, undef, undef, undef, undef, undef, undef, undef, undef, undef, undef, undef, undef, undef, undef, undef, undef, undef, undef, undef, undef, undef, undef, undef, undef, undef, undef, undef, undef, undef, undef, undef, undef, undef, undef, undef, undef] H
noncomputable def f72.K3 (k : Nat)  (D : List Value) (H : AHeap) : Option (Value × AHeap) :=
  gateC (Sub (bodyOf Try.f72) [1, 0]) (Sub (bodyOf Try.f72) [1, 1]) k (run Try.prog (C k) k (Sub (bodyOf Try.f72) [1, 1]) (f72.Q0 k )) [(D.getD 0 undef), (D.getD 1 undef), (D.getD 2 undef), (D.getD 3 undef), (D.getD 4 undef), (D.getD 5 undef), (D.getD 6 undef), undef, undef, undef, (D.getD 7 undef), (D.getD 8 undef), (D.getD 9 undef), (D.getD 10 undef), (D.getD 11 undef), (D.getD 12 undef), (D.getD 13 undef), (D.getD 14 undef), (D.getD 15 undef), undef, undef, undef, undef, undef, undef, undef, undef, (D.getD 16 undef), (D.getD 17 undef), undef, undef, undef, (D.getD 18 undef), (D.getD 19 undef), undef, undef, undef, undef, (D.getD 20 undef), (D.getD 21 undef), undef, undef, undef, undef, undef, undef, undef, (D.getD 22 undef), (D.getD 23 undef), undef, undef, undef, undef, undef, undef, (D.getD 24 undef), (D.getD 25 undef), (D.getD 26 undef), (D.getD 27 undef), undef, undef, undef, undef, undef, undef, undef, undef, undef, undef, undef, undef, undef, (D.getD 28 undef), (D.getD 29 undef), undef, undef, undef, undef, undef, undef, undef, undef, undef, undef, undef, undef, (D.getD 30 undef), (D.getD 31 undef), undef, undef, undef, undef, undef, undef, undef, undef, undef, undef, undef, undef, (D.getD 32 undef), (D.getD 33 undef), undef, undef, undef, undef, undef, undef, (D.getD 34 undef), (D.getD 35 undef), undef, undef, undef, undef, undef] H
theorem f72.K1_eq (k : Nat)  (x2 : Int) (x3 : Int) (x4 : Int) (p5 : Nat) (p6 : Nat) (x11 : Int) (b12 : Bool) (D : List Value) (H : AHeap) : f72.K1 k  x2 x3 x4 p5 p6 x11 b12 D H =
  (bif b12 then
   bSl (ldSl H p6 (0)) fun a l c =>
   a.bind fun q =>
   if 0 ≤ x4 ∧ x4 < (l : Int) then
   (AHeap.row H q.block (q.off + x4.toNat * 2) 2).bind fun g =>
   cB (C k 92 [.agg (g : List Value).toArray, .int .i64 x2, .int .i64 x3] H) fun b H_1 =>
   some (.bool b, H_1)
   else none
   else
   bif (x11 == (12 : Int)) then
   (ldI .i64 H p6 (1)).bind fun x =>
   some (.bool (x == ((-1) : Int)), H)
   else
   bif (x11 == (13 : Int)) then
   (ldI .i64 H p6 (1)).bind fun x_1 =>
   some (.bool (x_1 == x2), H)
   else
   bif (x11 == (14 : Int)) then
   bSl (ldSl H p6 (3)) fun a_1 l_1 c_1 =>
   a_1.bind fun q_1 =>
   if 0 ≤ x2 ∧ x2 < (l_1 : Int) then
   (ldB H q_1.block (q_1.off + x2.toNat * 3 + 2)).bind fun b_1 =>
   some (.bool (!b_1), H)
   else none
   else
   bif (x11 == (15 : Int)) then
   bSl (ldSl H p6 (3)) fun a_2 l_2 c_2 =>
   a_2.bind fun q_2 =>
   if 0 ≤ x2 ∧ x2 < (l_2 : Int) then
   (ldB H q_2.block (q_2.off + x2.toNat * 3 + 2)).bind fun b_2 =>
   some (.bool b_2, H)
   else none
   else
   bif (x11 == (16 : Int)) then
   f72.K2 k x2 x4 p5 p6 x11 (x11 == (16 : Int)) [(D.getD 0 undef), (D.getD 1 undef), .int .i64 x3, (D.getD 2 undef), .bool b12, (D.getD 3 undef), (D.getD 4 undef), (D.getD 5 undef), (D.getD 6 undef), (D.getD 7 undef), (D.getD 8 undef), .bool (x11 == (12 : Int)), .bool (x11 == (12 : Int)), .bool (x11 == (13 : Int)), .bool (x11 == (13 : Int)), .bool (x11 == (14 : Int)), .bool (x11 == (14 : Int)), .bool (x11 == (15 : Int)), .bool (x11 == (15 : Int)), .bool (x11 == (16 : Int)), undef, undef] H
   else
   bif (x11 == (18 : Int)) then
   f72.K2 k x2 x4 p5 p6 x11 (x11 == (18 : Int)) [(D.getD 0 undef), (D.getD 1 undef), .int .i64 x3, (D.getD 2 undef), .bool b12, (D.getD 3 undef), (D.getD 4 undef), (D.getD 5 undef), (D.getD 6 undef), (D.getD 7 undef), (D.getD 8 undef), .bool (x11 == (12 : Int)), .bool (x11 == (12 : Int)), .bool (x11 == (13 : Int)), .bool (x11 == (13 : Int)), .bool (x11 == (14 : Int)), .bool (x11 == (14 : Int)), .bool (x11 == (15 : Int)), .bool (x11 == (15 : Int)), .bool (x11 == (16 : Int)), .bool (x11 == (18 : Int)), undef] H
   else
   f72.K2 k x2 x4 p5 p6 x11 (x11 == (19 : Int)) [(D.getD 0 undef), (D.getD 1 undef), .int .i64 x3, (D.getD 2 undef), .bool b12, (D.getD 3 undef), (D.getD 4 undef), (D.getD 5 undef), (D.getD 6 undef), (D.getD 7 undef), (D.getD 8 undef), .bool (x11 == (12 : Int)), .bool (x11 == (12 : Int)), .bool (x11 == (13 : Int)), .bool (x11 == (13 : Int)), .bool (x11 == (14 : Int)), .bool (x11 == (14 : Int)), .bool (x11 == (15 : Int)), .bool (x11 == (15 : Int)), .bool (x11 == (16 : Int)), .bool (x11 == (18 : Int)), .bool (x11 == (19 : Int))] H) := by
  unfold f72.K1
  rw [gateC_eq]
  kernel_rfl
theorem f72.K2_eq (k : Nat)  (x2 : Int) (x4 : Int) (p5 : Nat) (p6 : Nat) (x11 : Int) (b55 : Bool) (D : List Value) (H : AHeap) : f72.K2 k  x2 x4 p5 p6 x11 b55 D H =
  (bif b55 then
   bif sameB H (H.bump 14) p6 then
   bSl (ldSl (H.bump 14) p6 (0)) fun a l c =>
   bif sameB H (H.bump 14) p5 then
   bSl (ldSl (H.bump 14) p5 (2)) fun a_1 l_1 c_1 =>
   a_1.bind fun q =>
   if 0 ≤ x4 ∧ x4 < (l_1 : Int) then
   bif sameB H (H.bump 14) q.block then
   (ldI .i64 (H.bump 14) q.block (q.off + x4.toNat * 2 + 1)).bind fun x =>
   a.bind fun q_1 =>
   if 0 ≤ x ∧ x < (l : Int) then
   bif sameB H (H.bump 14) q_1.block then
   (ldI .i64 (H.bump 14) q_1.block (q_1.off + x.toNat * 2 + 0)).bind fun x_1 =>
   some (.bool (x_1 == x2), (H.bump 14))
   else none
   else none
   else none
   else none
   else none
   else none
   else
   bif (x11 == (20 : Int)) then
   bif (x4 != x2) then
   bSl (ldSl H p6 (3)) fun a_2 l_2 c_2 =>
   a_2.bind fun q_2 =>
   if 0 ≤ x4 ∧ x4 < (l_2 : Int) then
   (ldI .i64 H q_2.block (q_2.off + x4.toNat * 3 + 0)).bind fun x_2 =>
   some (.bool (x_2 == (0 : Int)), H)
   else none
   else
   some (.bool false, H)
   else
   bif (x11 == (21 : Int)) then
   bif (x4 != x2) then
   bSl (ldSl H p6 (3)) fun a_3 l_3 c_3 =>
   a_3.bind fun q_3 =>
   if 0 ≤ x4 ∧ x4 < (l_3 : Int) then
   (ldI .i64 H q_3.block (q_3.off + x4.toNat * 3 + 0)).bind fun x_3 =>
   some (.bool (x_3 == (5 : Int)), H)
   else none
   else
   some (.bool false, H)
   else
   bif (x11 == (22 : Int)) then
   bSl (ldSl H p6 (2)) fun a_4 l_4 c_4 =>
   a_4.bind fun q_4 =>
   if 0 ≤ x4 ∧ x4 < (l_4 : Int) then
   (ldB H q_4.block (q_4.off + x4.toNat * 1)).bind fun b =>
   some (.bool (!b), H)
   else none
   else
   bif (x11 == (23 : Int)) then
   bSl (ldSl H p6 (2)) fun a_5 l_5 c_5 =>
   a_5.bind fun q_5 =>
   if 0 ≤ x4 ∧ x4 < (l_5 : Int) then
   (ldB H q_5.block (q_5.off + x4.toNat * 1)).bind fun b_1 =>
   some (.bool b_1, H)
   else none
   else
   f72.K3 k [(D.getD 0 undef), (D.getD 1 undef), .int .i64 x2, (D.getD 2 undef), .int .i64 x4, .pointer (some ⟨p5, 0, none⟩), .pointer (some ⟨p6, 0, none⟩), (D.getD 3 undef), .int .i64 x11, (D.getD 4 undef), (D.getD 5 undef), (D.getD 6 undef), (D.getD 7 undef), (D.getD 8 undef), (D.getD 9 undef), (D.getD 10 undef), (D.getD 11 undef), (D.getD 12 undef), (D.getD 13 undef), (D.getD 14 undef), (D.getD 15 undef), (D.getD 16 undef), (D.getD 17 undef), (D.getD 18 undef), .bool b55, (D.getD 19 undef), (D.getD 20 undef), (D.getD 21 undef), .bool (x11 == (20 : Int)), .bool (x11 == (20 : Int)), .bool (x11 == (21 : Int)), .bool (x11 == (21 : Int)), .bool (x11 == (22 : Int)), .bool (x11 == (22 : Int)), .bool (x11 == (23 : Int)), .bool (x11 == (23 : Int))] H) := by
  unfold f72.K2
  rw [gateC_eq]
  kernel_rfl
theorem f72.K3_eq (k : Nat)  (D : List Value) (H : AHeap) : f72.K3 k  D H =
  (some (.bool true, H)) := by
  unfold f72.K3
  rw [gateC_eq]
  kernel_rfl
theorem f72_eq (k : Nat) (a0_0 : Option Addr) (l0_0 : Nat) (c0_0 : Nat) (a0_1 : Option Addr) (l0_1 : Nat) (c0_1 : Nat) (a0_2 : Option Addr) (l0_2 : Nat) (c0_2 : Nat) (a0_3 : Option Addr) (l0_3 : Nat) (c0_3 : Nat) (a0_4 : Option Addr) (l0_4 : Nat) (c0_4 : Nat) (a0_5 : Option Addr) (l0_5 : Nat) (c0_5 : Nat) (a1_0 : Option Addr) (l1_0 : Nat) (c1_0 : Nat) (x1_1 : Int) (a1_2 : Option Addr) (l1_2 : Nat) (c1_2 : Nat) (a1_3 : Option Addr) (l1_3 : Nat) (c1_3 : Nat) (x2 : Int) (x3 : Int) (x4 : Int) (H : AHeap) : C (k + 1) 72 [.agg #[.slice a0_0 l0_0 c0_0, .slice a0_1 l0_1 c0_1, .slice a0_2 l0_2 c0_2, .slice a0_3 l0_3 c0_3, .slice a0_4 l0_4 c0_4, .slice a0_5 l0_5 c0_5], .agg #[.slice a1_0 l1_0 c1_0, .int .i64 x1_1, .slice a1_2 l1_2 c1_2, .slice a1_3 l1_3 c1_3], .int .i64 x2, .int .i64 x3, .int .i64 x4] H =
  (alK none H ⟨[.slice a0_0 l0_0 c0_0, .slice a0_1 l0_1 c0_1, .slice a0_2 l0_2 c0_2, .slice a0_3 l0_3 c0_3, .slice a0_4 l0_4 c0_4, .slice a0_5 l0_5 c0_5], 0, .rw, 0⟩ fun i H_1 =>
   alK none H_1 ⟨[.slice a1_0 l1_0 c1_0, .int .i64 x1_1, .slice a1_2 l1_2 c1_2, .slice a1_3 l1_3 c1_3], 0, .rw, 0⟩ fun i_1 H_2 =>
   bif (x3 == (6 : Int)) then
   f72.K1 k x2 x3 x4 i i_1 x3 (x3 == (6 : Int)) [.agg #[.slice a0_0 l0_0 c0_0, .slice a0_1 l0_1 c0_1, .slice a0_2 l0_2 c0_2, .slice a0_3 l0_3 c0_3, .slice a0_4 l0_4 c0_4, .slice a0_5 l0_5 c0_5], .agg #[.slice a1_0 l1_0 c1_0, .int .i64 x1_1, .slice a1_2 l1_2 c1_2, .slice a1_3 l1_3 c1_3], .bool false, .bool (x3 == (6 : Int)), undef, undef, undef, undef, undef] H_2
   else
   bif (x3 == (7 : Int)) then
   f72.K1 k x2 x3 x4 i i_1 x3 (x3 == (7 : Int)) [.agg #[.slice a0_0 l0_0 c0_0, .slice a0_1 l0_1 c0_1, .slice a0_2 l0_2 c0_2, .slice a0_3 l0_3 c0_3, .slice a0_4 l0_4 c0_4, .slice a0_5 l0_5 c0_5], .agg #[.slice a1_0 l1_0 c1_0, .int .i64 x1_1, .slice a1_2 l1_2 c1_2, .slice a1_3 l1_3 c1_3], .bool false, .bool (x3 == (6 : Int)), .bool (x3 == (7 : Int)), undef, undef, undef, undef] H_2
   else
   bif (x3 == (8 : Int)) then
   f72.K1 k x2 x3 x4 i i_1 x3 (x3 == (8 : Int)) [.agg #[.slice a0_0 l0_0 c0_0, .slice a0_1 l0_1 c0_1, .slice a0_2 l0_2 c0_2, .slice a0_3 l0_3 c0_3, .slice a0_4 l0_4 c0_4, .slice a0_5 l0_5 c0_5], .agg #[.slice a1_0 l1_0 c1_0, .int .i64 x1_1, .slice a1_2 l1_2 c1_2, .slice a1_3 l1_3 c1_3], .bool false, .bool (x3 == (6 : Int)), .bool (x3 == (7 : Int)), .bool (x3 == (8 : Int)), undef, undef, undef] H_2
   else
   bif (x3 == (9 : Int)) then
   f72.K1 k x2 x3 x4 i i_1 x3 (x3 == (9 : Int)) [.agg #[.slice a0_0 l0_0 c0_0, .slice a0_1 l0_1 c0_1, .slice a0_2 l0_2 c0_2, .slice a0_3 l0_3 c0_3, .slice a0_4 l0_4 c0_4, .slice a0_5 l0_5 c0_5], .agg #[.slice a1_0 l1_0 c1_0, .int .i64 x1_1, .slice a1_2 l1_2 c1_2, .slice a1_3 l1_3 c1_3], .bool false, .bool (x3 == (6 : Int)), .bool (x3 == (7 : Int)), .bool (x3 == (8 : Int)), .bool (x3 == (9 : Int)), undef, undef] H_2
   else
   bif (x3 == (10 : Int)) then
   f72.K1 k x2 x3 x4 i i_1 x3 (x3 == (10 : Int)) [.agg #[.slice a0_0 l0_0 c0_0, .slice a0_1 l0_1 c0_1, .slice a0_2 l0_2 c0_2, .slice a0_3 l0_3 c0_3, .slice a0_4 l0_4 c0_4, .slice a0_5 l0_5 c0_5], .agg #[.slice a1_0 l1_0 c1_0, .int .i64 x1_1, .slice a1_2 l1_2 c1_2, .slice a1_3 l1_3 c1_3], .bool false, .bool (x3 == (6 : Int)), .bool (x3 == (7 : Int)), .bool (x3 == (8 : Int)), .bool (x3 == (9 : Int)), .bool (x3 == (10 : Int)), undef] H_2
   else
   f72.K1 k x2 x3 x4 i i_1 x3 (x3 == (11 : Int)) [.agg #[.slice a0_0 l0_0 c0_0, .slice a0_1 l0_1 c0_1, .slice a0_2 l0_2 c0_2, .slice a0_3 l0_3 c0_3, .slice a0_4 l0_4 c0_4, .slice a0_5 l0_5 c0_5], .agg #[.slice a1_0 l1_0 c1_0, .int .i64 x1_1, .slice a1_2 l1_2 c1_2, .slice a1_3 l1_3 c1_3], .bool false, .bool (x3 == (6 : Int)), .bool (x3 == (7 : Int)), .bool (x3 == (8 : Int)), .bool (x3 == (9 : Int)), .bool (x3 == (10 : Int)), .bool (x3 == (11 : Int))] H_2) := by kernel_rfl

/- f39 "interleave/object.Enabled"  names:  -/
noncomputable def f39.Q0 (k : Nat)  : Kont (Value × AHeap) := retQ Try.prog Try.f39
noncomputable def f39.K1 (k : Nat)  (x2 : Int) (x3 : Int) (x4 : Int) (p5 : Nat) (p6 : Nat) (D : List Value) (H : AHeap) : Option (Value × AHeap) :=
  gateC (Sub (bodyOf Try.f39) [1, 0]) (Sub (bodyOf Try.f39) [1, 1]) k (run Try.prog (C k) k (Sub (bodyOf Try.f39) [1, 1]) (f39.Q0 k )) [(D.getD 0 undef), (D.getD 1 undef), .int .i64 x2, .int .i64 x3, .int .i64 x4, .pointer (some ⟨p5, 0, none⟩), .pointer (some ⟨p6, 0, none⟩), undef, undef, undef, (D.getD 2 undef), undef, (D.getD 3 undef), (D.getD 4 undef), (D.getD 5 undef), (D.getD 6 undef), (D.getD 7 undef), (D.getD 8 undef), (D.getD 9 undef), (D.getD 10 undef), (D.getD 11 undef), (D.getD 12 undef), (D.getD 13 undef), (D.getD 14 undef), (D.getD 15 undef), (D.getD 16 undef), (D.getD 17 undef), (D.getD 18 undef), (D.getD 19 undef), (D.getD 20 undef), (D.getD 21 undef), undef, undef, undef, undef, undef, undef, undef, undef, undef, undef, undef, undef, undef, undef, undef, undef, undef, undef, undef, undef, undef, undef, undef, undef, undef, undef, undef, undef, undef, undef, undef, undef, undef, undef, undef, undef, undef, undef, undef, undef, undef, undef, undef, undef, undef, undef, undef] H
theorem f39.K1_eq (k : Nat)  (x2 : Int) (x3 : Int) (x4 : Int) (p5 : Nat) (p6 : Nat) (D : List Value) (H : AHeap) : f39.K1 k  x2 x3 x4 p5 p6 D H =
  (bSl (ldSl H p6 (3)) fun a l c =>
   a.bind fun q =>
   if 0 ≤ x2 ∧ x2 < (l : Int) then
   (AHeap.row H q.block (q.off + x2.toNat * 3) 3).bind fun g =>
   alK none H ⟨[.int .i64 0, .int .i64 0, .bool false], 0, .rw, 0⟩ fun i H_1 =>
   if notTup (.agg (g : List Value).toArray) = true ∧ (g).length = 3 then
   (AHeap.wr H_1 i (0) g).bind fun H_2 =>
   bif (x3 == (1 : Int)) then
   (ldI .i64 H_2 i (0)).bind fun x =>
   some (.bool (x == (1 : Int)), H_2)
   else
   bif (x3 == (17 : Int)) then
   bif sameB H_2 (H_2.bump 24) i then
   (ldI .i64 (H_2.bump 24) i (0)).bind fun x_1 =>
   bif (x_1 == (4 : Int)) then
   bif sameB H_2 (H_2.bump 24) i then
   (ldI .i64 (H_2.bump 24) i (1)).bind fun x_2 =>
   bif (x_2 == x4) then
   bif sameB H_2 (H_2.bump 24) p6 then
   bSl (ldSl (H_2.bump 24) p6 (0)) fun a_1 l_1 c_1 =>
   bif sameB H_2 (H_2.bump 24) p5 then
   bSl (ldSl (H_2.bump 24) p5 (2)) fun a_2 l_2 c_2 =>
   a_2.bind fun q_1 =>
   if 0 ≤ x4 ∧ x4 < (l_2 : Int) then
   bif sameB H_2 (H_2.bump 24) q_1.block then
   (ldI .i64 (H_2.bump 24) q_1.block (q_1.off + x4.toNat * 2 + 1)).bind fun x_3 =>
   a_1.bind fun q_2 =>
   if 0 ≤ x_3 ∧ x_3 < (l_1 : Int) then
   bif sameB H_2 (H_2.bump 24) q_2.block then
   (ldI .i64 (H_2.bump 24) q_2.block (q_2.off + x_3.toNat * 2 + 0)).bind fun x_4 =>
   some (.bool (x_4 == ((-1) : Int)), (H_2.bump 24))
   else none
   else none
   else none
   else none
   else none
   else none
   else
   some (.bool false, (H_2.bump 24))
   else none
   else
   some (.bool false, (H_2.bump 24))
   else none
   else
   (ldI .i64 H_2 i (0)).bind fun x_5 =>
   bif (x_5 == (2 : Int)) then
   (AHeap.row H_2 p5 (0) 6).bind fun g_1 =>
   (AHeap.row H_2 p6 (0) 4).bind fun g_2 =>
   cB (C k 72 [.agg (g_1 : List Value).toArray, .agg (g_2 : List Value).toArray, .int .i64 x2, .int .i64 x3, .int .i64 x4] H_2) fun b H_3 =>
   some (.bool b, H_3)
   else
   some (.bool false, H_2)
   else none
   else none) := by
  unfold f39.K1
  rw [gateC_eq]
  kernel_rfl
theorem f39_eq (k : Nat) (a0_0 : Option Addr) (l0_0 : Nat) (c0_0 : Nat) (a0_1 : Option Addr) (l0_1 : Nat) (c0_1 : Nat) (a0_2 : Option Addr) (l0_2 : Nat) (c0_2 : Nat) (a0_3 : Option Addr) (l0_3 : Nat) (c0_3 : Nat) (a0_4 : Option Addr) (l0_4 : Nat) (c0_4 : Nat) (a0_5 : Option Addr) (l0_5 : Nat) (c0_5 : Nat) (a1_0 : Option Addr) (l1_0 : Nat) (c1_0 : Nat) (x1_1 : Int) (a1_2 : Option Addr) (l1_2 : Nat) (c1_2 : Nat) (a1_3 : Option Addr) (l1_3 : Nat) (c1_3 : Nat) (x2 : Int) (x3 : Int) (x4 : Int) (H : AHeap) : C (k + 1) 39 [.agg #[.slice a0_0 l0_0 c0_0, .slice a0_1 l0_1 c0_1, .slice a0_2 l0_2 c0_2, .slice a0_3 l0_3 c0_3, .slice a0_4 l0_4 c0_4, .slice a0_5 l0_5 c0_5], .agg #[.slice a1_0 l1_0 c1_0, .int .i64 x1_1, .slice a1_2 l1_2 c1_2, .slice a1_3 l1_3 c1_3], .int .i64 x2, .int .i64 x3, .int .i64 x4] H =
  (alK none H ⟨[.slice a0_0 l0_0 c0_0, .slice a0_1 l0_1 c0_1, .slice a0_2 l0_2 c0_2, .slice a0_3 l0_3 c0_3, .slice a0_4 l0_4 c0_4, .slice a0_5 l0_5 c0_5], 0, .rw, 0⟩ fun i H_1 =>
   alK none H_1 ⟨[.slice a1_0 l1_0 c1_0, .int .i64 x1_1, .slice a1_2 l1_2 c1_2, .slice a1_3 l1_3 c1_3], 0, .rw, 0⟩ fun i_1 H_2 =>
   (AHeap.row H_2 i (0) 6).bind fun g =>
   (AHeap.row H_2 i_1 (0) 4).bind fun g_1 =>
   cB (C k 65 [.agg (g : List Value).toArray, .agg (g_1 : List Value).toArray] H_2) fun b H_3 =>
   bif (!b) then
   some (.bool false, H_3)
   else
   bSl (ldSl H_3 i (4)) fun a l c =>
   cB (C k 70 [.int .i64 x2, .int .i64 (l : Int)] H_3) fun b_1 H_4 =>
   bif (!b_1) then
   some (.bool false, H_4)
   else
   (AHeap.row H_4 i (0) 6).bind fun g_2 =>
   cB (C k 71 [.agg (g_2 : List Value).toArray, .int .i64 x3, .int .i64 x4] H_4) fun b_2 H_5 =>
   bif (!b_2) then
   some (.bool false, H_5)
   else
   f39.K1 k x2 x3 x4 i i_1 [.agg #[.slice a0_0 l0_0 c0_0, .slice a0_1 l0_1 c0_1, .slice a0_2 l0_2 c0_2, .slice a0_3 l0_3 c0_3, .slice a0_4 l0_4 c0_4, .slice a0_5 l0_5 c0_5], .agg #[.slice a1_0 l1_0 c1_0, .int .i64 x1_1, .slice a1_2 l1_2 c1_2, .slice a1_3 l1_3 c1_3], .bool false, .agg (g : List Value).toArray, .agg (g_1 : List Value).toArray, .bool b, .bool (!b), .bool false, .int .i64 x2, .pointer (some ⟨i, 4, none⟩), .slice a l c, .int .i64 (l : Int), .bool b_1, .bool (!b_1), .bool (!b_1), .bool false, .agg (g_2 : List Value).toArray, .int .i64 x3, .int .i64 x4, .bool b_2, .bool (!b_2), .bool (!b_2)] H_5) := by kernel_rfl

/- f73 "interleave/interleaveref08.Enabled"  names:  -/
noncomputable def f73.Q0 (k : Nat)  : Kont (Value × AHeap) := retQ Try.prog Try.f73
noncomputable def f73.Q1 (k : Nat)  : Kont (Value × AHeap) := seqQ (gateC (Sub (bodyOf Try.f73) [1, 1, 1, 1, 1, 0]) (Sub (bodyOf Try.f73) [1, 1, 1, 1, 1, 1]) k (run Try.prog (C k) k (Sub (bodyOf Try.f73) [1, 1, 1, 1, 1, 1]) (f73.Q0 k ))) (f73.Q0 k )
noncomputable def f73.Q2 (k : Nat)  : Kont (Value × AHeap) := blkQ 1 (f73.Q1 k )
noncomputable def f73.K1 (k : Nat)  (x2 : Int) (x3 : Int) (x4 : Int) (p5 : Nat) (p6 : Nat) (D : List Value) (H : AHeap) : Option (Value × AHeap) :=
  gateC (Sub (bodyOf Try.f73) [1, 0]) (Sub (bodyOf Try.f73) [1, 1]) k (run Try.prog (C k) k (Sub (bodyOf Try.f73) [1, 1]) (f73.Q0 k )) [(D.getD 0 undef), (D.getD 1 undef), .int .i64 x2, .int .i64 x3, .int .i64 x4, .pointer (some ⟨p5, 0, none⟩), .pointer (some ⟨p6, 0, none⟩), undef, undef, undef, (D.getD 2 undef), undef, (D.getD 3 undef), (D.getD 4 undef), (D.getD 5 undef), (D.getD 6 undef), (D.getD 7 undef), (D.getD 8 undef), (D.getD 9 undef), (D.getD 10 undef), (D.getD 11 undef), (D.getD 12 undef), (D.getD 13 undef), (D.getD 14 undef), (D.getD 15 undef), (D.getD 16 undef), (D.getD 17 undef), (D.getD 18 undef), (D.getD 19 undef), (D.getD 20 undef), (D.getD 21 undef), undef, undef, undef, undef, undef, undef, undef, undef, undef, undef, undef, undef, undef, undef, undef, undef, undef, undef, undef, undef, undef, undef, undef, undef, undef, undef, undef, undef, undef, undef, undef, undef, undef, undef, undef, undef, undef, undef, undef, undef, undef, undef, undef, undef, undef, undef, undef, undef, undef, undef, undef, undef, undef, undef, undef, undef, undef, undef, undef, undef, undef, undef, undef, undef, undef, undef, undef, undef, undef, undef, undef, undef, undef, undef, undef, undef, undef, undef, undef, undef, undef, undef, undef, undef, undef, undef, undef, undef, undef, undef, undef, undef, undef, undef, undef, undef, undef, undef, undef, undef, undef, undef, undef, undef, undef, undef, undef, undef, undef, undef, undef, undef, undef, undef, undef, undef, undef, undef, undef, undef, undef, undef, undef, undef, undef, undef, undef, undef, undef, undef, undef, undef, undef, undef, undef, undef, undef, undef, undef, undef, undef, undef, undef, undef, undef, undef, undef, undef, undef, undef, undef, undef, undef, undef, undef, undef, undef, undef, undef, undef, undef, undef, undef, undef, undef, undef, undef, undef, undef, undef, undef, undef, undef, undef, undef, undef, undef, undef, undef, undef, undef, undef, undef, undef, undef, undef, undef, undef, undef] H
noncomputable def f73.K2 (k : Nat)  (x2 : Int) (x4 : Int) (p5 : Nat) (p6 : Nat) (p11 : Nat) (x70 : Int) (b119 : Bool) (D : List Value) (H : AHeap) : Option (Value × AHeap) :=
  gateC (Sub (bodyOf Try.f73) [1, 1, 1, 1, 1, 0, 1, 0, 1, 1, 1, 1, 1, 1, 0]) (Sub (bodyOf Try.f73) [1, 1, 1, 1, 1, 0, 1, 0, 1, 1, 1, 1, 1, 1, 1]) k (run Try.prog (C k) k (Sub (bodyOf Try.f73) [1, 1, 1, 1, 1, 0, 1, 0, 1, 1, 1, 1, 1, 1, 1]) (f73.Q2 k )) [(D.getD 0 undef), (D.getD 1 undef), .int .i64 x2, (D.getD 2 undef), .int .i64 x4, .pointer (some ⟨p5, 0, none⟩), .pointer (some ⟨p6, 0, none⟩), undef, undef, undef, (D.getD 3 undef), .pointer (some ⟨p11, 0, none⟩), (D.getD 4 undef), (D.getD 5 undef), (D.getD 6 undef), (D.getD 7 undef), (D.getD 8 undef), (D.getD 9 undef), (D.getD 10 undef), (D.getD 11 undef), (D.getD 12 undef), (D.getD 13 undef), (D.getD 14 undef), (D.getD 15 undef), (D.getD 16 undef), (D.getD 17 undef), (D.getD 18 undef), (D.getD 19 undef), (D.getD 20 undef), (D.getD 21 undef), (D.getD 22 undef), (D.getD 23 undef), (D.getD 24 undef), (D.getD 25 undef), (D.getD 26 undef), (D.getD 27 undef), (D.getD 28 undef), (D.getD 29 undef), (D.getD 30 undef), undef, undef, undef, (D.getD 31 undef), (D.getD 32 undef), undef, undef, undef, undef, undef, undef, undef, undef, undef, undef, undef, undef, undef, undef, undef, undef, undef, undef, undef, undef, undef, undef, undef, (D.getD 33 undef), (D.getD 34 undef), (D.getD 35 undef), .int .i64 x70, (D.getD 36 undef), (D.getD 37 undef), undef, undef, undef, undef, undef, undef, undef, (D.getD 38 undef), (D.getD 39 undef), undef, undef, undef, undef, undef, undef, undef, undef, undef, undef, undef, undef, undef, undef, undef, undef, undef, (D.getD 40 undef), (D.getD 41 undef), undef, undef, undef, undef, undef, undef, undef, undef, undef, undef, undef, undef, undef, undef, undef, undef, undef, undef, .bool b119, (D.getD 42 undef), (D.getD 43 undef), undef, undef, undef, undef, undef, undef, undef, undef, undef, undef, undef, undef, undef, undef, undef, undef, undef, undef, undef, undef, undef, undef, undef, undef, undef, undef, undef, undef, undef, undef, undef, undef, undef, undef, undef, undef, undef, undef, undef, undef, undef, undef, undef, undef, undef, undef, undef, undef, undef, undef, undef, undef, undef, undef, undef, undef, undef, undef, undef, undef, undef, undef, undef, undef, undef, undef, undef, undef, undef, undef, undef, undef, undef, undef, undef, undef, undef, undef, undef, undef, undef, undef, undef, undef, undef, undef, undef, undef, undef, undef, undef, undef, undef, undef, undef, undef, undef, undef] H
noncomputable def f73.K3 (k : Nat)  (x2 : Int) (x4 : Int) (p5 : Nat) (p6 : Nat) (x70 : Int) (b160 : Bool) (D : List Value) (H : AHeap) : Option (Value × AHeap) :=
  gateC (Sub (bodyOf Try.f73) [1, 1, 1, 1, 1, 0, 1, 0, 1, 1, 1, 1, 1, 1, 1, 1, 1, 1, 1, 1, 1, 1, 1, 1, 1, 1, 0]) (Sub (bodyOf Try.f73) [1, 1, 1, 1, 1, 0, 1, 0, 1, 1, 1, 1, 1, 1, 1, 1, 1, 1, 1, 1, 1, 1, 1, 1, 1, 1, 1]) k (run Try.prog (C k) k (Sub (bodyOf Try.f73) [1, 1, 1, 1, 1, 0, 1, 0, 1, 1, 1, 1, 1, 1, 1, 1, 1, 1, 1, 1, 1, 1, 1, 1, 1, 1, 1]) (f73.Q2 k )) [(D.getD 0 undef), (D.getD 1 undef), .int .i64 x2, (D.getD 2 undef), .int .i64 x4, .pointer (some ⟨p5, 0, none⟩), .pointer (some ⟨p6, 0, none⟩), undef, undef, undef, (D.getD 3 undef), (D.getD 4 undef), (D.getD 5 undef), (D.getD 6 undef), (D.getD 7 undef), (D.getD 8 undef), (D.getD 9 undef), (D.getD 10 undef), (D.getD 11 undef), (D.getD 12 undef), (D.getD 13 undef), (D.getD 14 undef), (D.getD 15 undef), (D.getD 16 undef), (D.getD 17 undef), (D.getD 18 undef), (D.getD 19 undef), (D.getD 20 undef), (D.getD 21 undef), (D.getD 22 undef), (D.getD 23 undef), (D.getD 24 undef), (D.getD 25 undef), (D.getD 26 undef), (D.getD 27 undef), (D.getD 28 undef), (D.getD 29 undef), (D.getD 30 undef), (D.getD 31 undef), undef, undef, undef, (D.getD 32 undef), (D.getD 33 undef), undef, undef, undef, undef, undef, undef, undef, undef, undef, undef, undef, undef, undef, undef, undef, undef, undef, undef, undef, undef, undef, undef, undef, (D.getD 34 undef), (D.getD 35 undef), (D.getD 36 undef), .int .i64 x70, (D.getD 37 undef), (D.getD 38 undef), undef, undef, undef, undef, undef, undef, undef, (D.getD 39 undef), (D.getD 40 undef), undef, undef, undef, undef, undef, undef, undef, undef, undef, undef, undef, undef, undef, undef, undef, undef, undef, (D.getD 41 undef), (D.getD 42 undef), undef, undef, undef, undef, undef, undef, undef, undef, undef, undef, undef, undef, undef, undef, undef, undef, undef, undef, (D.getD 43 undef), (D.getD 44 undef), (D.getD 45 undef), undef, undef, undef, undef, undef, undef, undef, undef, (D.getD 46 undef), (D.getD 47 undef), undef, undef, undef, undef, undef, undef, undef, undef, (D.getD 48 undef), (D.getD 49 undef), undef, undef, undef, (D.getD 50 undef), (D.getD 51 undef), undef, undef, undef, undef, (D.getD 52 undef), (D.getD 53 undef), undef, undef, undef, (D.getD 54 undef), (D.getD 55 undef), undef, undef, .bool b160, (D.getD 56 undef), (D.getD 57 undef), (D.getD 58 undef), undef, undef, undef, undef, undef, undef, undef, undef, undef, undef, undef, undef, undef, undef, undef, undef, undef, undef, undef, undef, undef, undef, undef, undef, undef, undef, undef, undef, undef, undef, undef, undef, undef, undef, undef, undef, undef, undef, undef, undef, undef, undef, undef, undef, undef, undef, undef, undef, undef, undef, undef, undef, undef, undef, undef, undef] H
theorem f73.K1_eq (k : Nat)  (x2 : Int) (x3 : Int) (x4 : Int) (p5 : Nat) (p6 : Nat) (D : List Value) (H : AHeap) : f73.K1 k  x2 x3 x4 p5 p6 D H =
  (bSl (ldSl H p6 (3)) fun a l c =>
   a.bind fun q =>
   if 0 ≤ x2 ∧ x2 < (l : Int) then
   (AHeap.row H q.block (q.off + x2.toNat * 3) 3).bind fun g =>
   alK none H ⟨[.int .i64 0, .int .i64 0, .bool false], 0, .rw, 0⟩ fun i H_1 =>
   if notTup (.agg (g : List Value).toArray) = true ∧ (g).length = 3 then
   (AHeap.wr H_1 i (0) g).bind fun H_2 =>
   bif (x3 == (1 : Int)) then
   (ldI .i64 H_2 i (0)).bind fun x =>
   some (.bool (x == (1 : Int)), H_2)
   else
   bif (x3 == (17 : Int)) then
   bif sameB H_2 (H_2.bump 24) i then
   (ldI .i64 (H_2.bump 24) i (0)).bind fun x_1 =>
   bif (x_1 == (4 : Int)) then
   bif sameB H_2 (H_2.bump 24) i then
   (ldI .i64 (H_2.bump 24) i (1)).bind fun x_2 =>
   bif (x_2 == x4) then
   bif sameB H_2 (H_2.bump 24) p6 then
   bSl (ldSl (H_2.bump 24) p6 (0)) fun a_1 l_1 c_1 =>
   bif sameB H_2 (H_2.bump 24) p5 then
   bSl (ldSl (H_2.bump 24) p5 (2)) fun a_2 l_2 c_2 =>
   a_2.bind fun q_1 =>
   if 0 ≤ x4 ∧ x4 < (l_2 : Int) then
   bif sameB H_2 (H_2.bump 24) q_1.block then
   (ldI .i64 (H_2.bump 24) q_1.block (q_1.off + x4.toNat * 2 + 1)).bind fun x_3 =>
   a_1.bind fun q_2 =>
   if 0 ≤ x_3 ∧ x_3 < (l_1 : Int) then
   bif sameB H_2 (H_2.bump 24) q_2.block then
   (ldI .i64 (H_2.bump 24) q_2.block (q_2.off + x_3.toNat * 2 + 0)).bind fun x_4 =>
   some (.bool (x_4 == ((-1) : Int)), (H_2.bump 24))
   else none
   else none
   else none
   else none
   else none
   else none
   else
   some (.bool false, (H_2.bump 24))
   else none
   else
   some (.bool false, (H_2.bump 24))
   else none
   else
   (ldI .i64 H_2 i (0)).bind fun x_5 =>
   bif (x_5 != (2 : Int)) then
   some (.bool false, H_2)
   else
   bif (x3 == (6 : Int)) then
   bSl (ldSl H_2 p6 (0)) fun a_3 l_3 c_3 =>
   a_3.bind fun q_3 =>
   if 0 ≤ x4 ∧ x4 < (l_3 : Int) then
   (ldI .i64 H_2 q_3.block (q_3.off + x4.toNat * 2 + 0)).bind fun x_6 =>
   some (.bool (x_6 == ((-1) : Int)), H_2)
   else none
   else
   bif (x3 == (10 : Int)) then
   bSl (ldSl H_2 p6 (0)) fun a_4 l_4 c_4 =>
   a_4.bind fun q_4 =>
   if 0 ≤ x4 ∧ x4 < (l_4 : Int) then
   (ldI .i64 H_2 q_4.block (q_4.off + x4.toNat * 2 + 0)).bind fun x_7 =>
   bif (x_7 == ((-1) : Int)) then
   bSl (ldSl H_2 p6 (0)) fun a_5 l_5 c_5 =>
   a_5.bind fun q_5 =>
   if 0 ≤ x4 ∧ x4 < (l_5 : Int) then
   bSl (ldSl H_2 q_5.block (q_5.off + x4.toNat * 2 + 1)) fun a_6 l_6 c_6 =>
   some (.bool ((l_6 : Int) == (0 : Int)), H_2)
   else none
   else
   some (.bool false, H_2)
   else none
   else
   bif (x3 == (8 : Int)) then
   bSl (ldSl H_2 p6 (0)) fun a_7 l_7 c_7 =>
   a_7.bind fun q_6 =>
   if 0 ≤ x4 ∧ x4 < (l_7 : Int) then
   (ldI .i64 H_2 q_6.block (q_6.off + x4.toNat * 2 + 0)).bind fun x_8 =>
   bif (x_8 == ((-1) : Int)) then
   bSl (ldSl H_2 p6 (0)) fun a_8 l_8 c_8 =>
   a_8.bind fun q_7 =>
   if 0 ≤ x4 ∧ x4 < (l_8 : Int) then
   bSl (ldSl H_2 q_7.block (q_7.off + x4.toNat * 2 + 1)) fun a_9 l_9 c_9 =>
   cB (C k 78 [.slice a_9 l_9 c_9, .int .i64 x2] H_2) fun b H_3 =>
   some (.bool (!b), H_3)
   else none
   else
   some (.bool false, H_2)
   else none
   else
   bif (x3 == (7 : Int)) then
   f73.K2 k x2 x4 p5 p6 i x3 (x3 == (7 : Int)) [(D.getD 0 undef), (D.getD 1 undef), .int .i64 x3, (D.getD 2 undef), (D.getD 3 undef), (D.getD 4 undef), (D.getD 5 undef), (D.getD 6 undef), (D.getD 7 undef), (D.getD 8 undef), (D.getD 9 undef), (D.getD 10 undef), (D.getD 11 undef), (D.getD 12 undef), (D.getD 13 undef), (D.getD 14 undef), (D.getD 15 undef), (D.getD 16 undef), (D.getD 17 undef), (D.getD 18 undef), (D.getD 19 undef), (D.getD 20 undef), (D.getD 21 undef), .pointer (some ⟨p6, 3, none⟩), .slice a l c, .int .i64 x2, .pointer (some ⟨q.block, q.off + x2.toNat * 3, none⟩), .agg (g : List Value).toArray, .int .i64 x3, .bool (x3 == (1 : Int)), .bool (x3 == (1 : Int)), .bool (x3 == (17 : Int)), .bool (x3 == (17 : Int)), .pointer (some ⟨i, 0, none⟩), .int .i64 x_5, .bool (x_5 != (2 : Int)), .bool (x3 == (6 : Int)), .bool (x3 == (6 : Int)), .bool (x3 == (10 : Int)), .bool (x3 == (10 : Int)), .bool (x3 == (8 : Int)), .bool (x3 == (8 : Int)), .bool (x3 == (7 : Int)), undef] H_2
   else
   f73.K2 k x2 x4 p5 p6 i x3 (x3 == (11 : Int)) [(D.getD 0 undef), (D.getD 1 undef), .int .i64 x3, (D.getD 2 undef), (D.getD 3 undef), (D.getD 4 undef), (D.getD 5 undef), (D.getD 6 undef), (D.getD 7 undef), (D.getD 8 undef), (D.getD 9 undef), (D.getD 10 undef), (D.getD 11 undef), (D.getD 12 undef), (D.getD 13 undef), (D.getD 14 undef), (D.getD 15 undef), (D.getD 16 undef), (D.getD 17 undef), (D.getD 18 undef), (D.getD 19 undef), (D.getD 20 undef), (D.getD 21 undef), .pointer (some ⟨p6, 3, none⟩), .slice a l c, .int .i64 x2, .pointer (some ⟨q.block, q.off + x2.toNat * 3, none⟩), .agg (g : List Value).toArray, .int .i64 x3, .bool (x3 == (1 : Int)), .bool (x3 == (1 : Int)), .bool (x3 == (17 : Int)), .bool (x3 == (17 : Int)), .pointer (some ⟨i, 0, none⟩), .int .i64 x_5, .bool (x_5 != (2 : Int)), .bool (x3 == (6 : Int)), .bool (x3 == (6 : Int)), .bool (x3 == (10 : Int)), .bool (x3 == (10 : Int)), .bool (x3 == (8 : Int)), .bool (x3 == (8 : Int)), .bool (x3 == (7 : Int)), .bool (x3 == (11 : Int))] H_2
   else none
   else none) := by
  unfold f73.K1
  rw [gateC_eq]
  kernel_rfl
theorem f73.K2_eq (k : Nat)  (x2 : Int) (x4 : Int) (p5 : Nat) (p6 : Nat) (p11 : Nat) (x70 : Int) (b119 : Bool) (D : List Value) (H : AHeap) : f73.K2 k  x2 x4 p5 p6 p11 x70 b119 D H =
  (bif b119 then
   bSl (ldSl H p6 (0)) fun a l c =>
   a.bind fun q =>
   if 0 ≤ x4 ∧ x4 < (l : Int) then
   (ldI .i64 H q.block (q.off + x4.toNat * 2 + 0)).bind fun x =>
   some (.bool (x == x2), H)
   else none
   else
   bif (x70 == (9 : Int)) then
   bSl (ldSl H p6 (0)) fun a_1 l_1 c_1 =>
   a_1.bind fun q_1 =>
   if 0 ≤ x4 ∧ x4 < (l_1 : Int) then
   bSl (ldSl H q_1.block (q_1.off + x4.toNat * 2 + 1)) fun a_2 l_2 c_2 =>
   cB (C k 78 [.slice a_2 l_2 c_2, .int .i64 x2] H) fun b H_1 =>
   some (.bool b, H_1)
   else none
   else
   bif (x70 == (12 : Int)) then
   (ldI .i64 H p6 (1)).bind fun x_1 =>
   some (.bool (x_1 == ((-1) : Int)), H)
   else
   bif (x70 == (13 : Int)) then
   (ldI .i64 H p6 (1)).bind fun x_2 =>
   some (.bool (x_2 == x2), H)
   else
   bif (x70 == (14 : Int)) then
   (ldB H p11 (2)).bind fun b_1 =>
   some (.bool (!b_1), H)
   else
   bif (x70 == (15 : Int)) then
   (ldB H p11 (2)).bind fun b_2 =>
   some (.bool b_2, H)
   else
   bif (x70 == (16 : Int)) then
   f73.K3 k x2 x4 p5 p6 x70 (x70 == (16 : Int)) [(D.getD 0 undef), (D.getD 1 undef), (D.getD 2 undef), (D.getD 3 undef), .pointer (some ⟨p11, 0, none⟩), (D.getD 4 undef), (D.getD 5 undef), (D.getD 6 undef), (D.getD 7 undef), (D.getD 8 undef), (D.getD 9 undef), (D.getD 10 undef), (D.getD 11 undef), (D.getD 12 undef), (D.getD 13 undef), (D.getD 14 undef), (D.getD 15 undef), (D.getD 16 undef), (D.getD 17 undef), (D.getD 18 undef), (D.getD 19 undef), (D.getD 20 undef), (D.getD 21 undef), (D.getD 22 undef), (D.getD 23 undef), (D.getD 24 undef), (D.getD 25 undef), (D.getD 26 undef), (D.getD 27 undef), (D.getD 28 undef), (D.getD 29 undef), (D.getD 30 undef), (D.getD 31 undef), (D.getD 32 undef), (D.getD 33 undef), (D.getD 34 undef), (D.getD 35 undef), (D.getD 36 undef), (D.getD 37 undef), (D.getD 38 undef), (D.getD 39 undef), (D.getD 40 undef), (D.getD 41 undef), .bool b119, (D.getD 42 undef), (D.getD 43 undef), .bool (x70 == (9 : Int)), .bool (x70 == (9 : Int)), .bool (x70 == (12 : Int)), .bool (x70 == (12 : Int)), .bool (x70 == (13 : Int)), .bool (x70 == (13 : Int)), .bool (x70 == (14 : Int)), .bool (x70 == (14 : Int)), .bool (x70 == (15 : Int)), .bool (x70 == (15 : Int)), .bool (x70 == (16 : Int)), undef, undef] H
   else
   bif (x70 == (18 : Int)) then
   f73.K3 k x2 x4 p5 p6 x70 (x70 == (18 : Int)) [(D.getD 0 undef), (D.getD 1 undef), (D.getD 2 undef), (D.getD 3 undef), .pointer (some ⟨p11, 0, none⟩), (D.getD 4 undef), (D.getD 5 undef), (D.getD 6 undef), (D.getD 7 undef), (D.getD 8 undef), (D.getD 9 undef), (D.getD 10 undef), (D.getD 11 undef), (D.getD 12 undef), (D.getD 13 undef), (D.getD 14 undef), (D.getD 15 undef), (D.getD 16 undef), (D.getD 17 undef), (D.getD 18 undef), (D.getD 19 undef), (D.getD 20 undef), (D.getD 21 undef), (D.getD 22 undef), (D.getD 23 undef), (D.getD 24 undef), (D.getD 25 undef), (D.getD 26 undef), (D.getD 27 undef), (D.getD 28 undef), (D.getD 29 undef), (D.getD 30 undef), (D.getD 31 undef), (D.getD 32 undef), (D.getD 33 undef), (D.getD 34 undef), (D.getD 35 undef), (D.getD 36 undef), (D.getD 37 undef), (D.getD 38 undef), (D.getD 39 undef), (D.getD 40 undef), (D.getD 41 undef), .bool b119, (D.getD 42 undef), (D.getD 43 undef), .bool (x70 == (9 : Int)), .bool (x70 == (9 : Int)), .bool (x70 == (12 : Int)), .bool (x70 == (12 : Int)), .bool (x70 == (13 : Int)), .bool (x70 == (13 : Int)), .bool (x70 == (14 : Int)), .bool (x70 == (14 : Int)), .bool (x70 == (15 : Int)), .bool (x70 == (15 : Int)), .bool (x70 == (16 : Int)), .bool (x70 == (18 : Int)), undef] H
   else
   f73.K3 k x2 x4 p5 p6 x70 (x70 == (19 : Int)) [(D.getD 0 undef), (D.getD 1 undef), (D.getD 2 undef), (D.getD 3 undef), .pointer (some ⟨p11, 0, none⟩), (D.getD 4 undef), (D.getD 5 undef), (D.getD 6 undef), (D.getD 7 undef), (D.getD 8 undef), (D.getD 9 undef), (D.getD 10 undef), (D.getD 11 undef), (D.getD 12 undef), (D.getD 13 undef), (D.getD 14 undef), (D.getD 15 undef), (D.getD 16 undef), (D.getD 17 undef), (D.getD 18 undef), (D.getD 19 undef), (D.getD 20 undef), (D.getD 21 undef), (D.getD 22 undef), (D.getD 23 undef), (D.getD 24 undef), (D.getD 25 undef), (D.getD 26 undef), (D.getD 27 undef), (D.getD 28 undef), (D.getD 29 undef), (D.getD 30 undef), (D.getD 31 undef), (D.getD 32 undef), (D.getD 33 undef), (D.getD 34 undef), (D.getD 35 undef), (D.getD 36 undef), (D.getD 37 undef), (D.getD 38 undef), (D.getD 39 undef), (D.getD 40 undef), (D.getD 41 undef), .bool b119, (D.getD 42 undef), (D.getD 43 undef), .bool (x70 == (9 : Int)), .bool (x70 == (9 : Int)), .bool (x70 == (12 : Int)), .bool (x70 == (12 : Int)), .bool (x70 == (13 : Int)), .bool (x70 == (13 : Int)), .bool (x70 == (14 : Int)), .bool (x70 == (14 : Int)), .bool (x70 == (15 : Int)), .bool (x70 == (15 : Int)), .bool (x70 == (16 : Int)), .bool (x70 == (18 : Int)), .bool (x70 == (19 : Int))] H) := by
  unfold f73.K2
  rw [gateC_eq]
  kernel_rfl
theorem f73.K3_eq (k : Nat)  (x2 : Int) (x4 : Int) (p5 : Nat) (p6 : Nat) (x70 : Int) (b160 : Bool) (D : List Value) (H : AHeap) : f73.K3 k  x2 x4 p5 p6 x70 b160 D H =
  (bif b160 then
   bif sameB H (H.bump 14) p6 then
   bSl (ldSl (H.bump 14) p6 (0)) fun a l c =>
   bif sameB H (H.bump 14) p5 then
   bSl (ldSl (H.bump 14) p5 (2)) fun a_1 l_1 c_1 =>
   a_1.bind fun q =>
   if 0 ≤ x4 ∧ x4 < (l_1 : Int) then
   bif sameB H (H.bump 14) q.block then
   (ldI .i64 (H.bump 14) q.block (q.off + x4.toNat * 2 + 1)).bind fun x =>
   a.bind fun q_1 =>
   if 0 ≤ x ∧ x < (l : Int) then
   bif sameB H (H.bump 14) q_1.block then
   (ldI .i64 (H.bump 14) q_1.block (q_1.off + x.toNat * 2 + 0)).bind fun x_1 =>
   some (.bool (x_1 == x2), (H.bump 14))
   else none
   else none
   else none
   else none
   else none
   else none
   else
   bif (x70 == (20 : Int)) then
   bif (x4 != x2) then
   bSl (ldSl H p6 (3)) fun a_2 l_2 c_2 =>
   a_2.bind fun q_2 =>
   if 0 ≤ x4 ∧ x4 < (l_2 : Int) then
   (ldI .i64 H q_2.block (q_2.off + x4.toNat * 3 + 0)).bind fun x_2 =>
   some (.bool (x_2 == (0 : Int)), H)
   else none
   else
   some (.bool false, H)
   else
   bif (x70 == (21 : Int)) then
   bif (x4 != x2) then
   bSl (ldSl H p6 (3)) fun a_3 l_3 c_3 =>
   a_3.bind fun q_3 =>
   if 0 ≤ x4 ∧ x4 < (l_3 : Int) then
   (ldI .i64 H q_3.block (q_3.off + x4.toNat * 3 + 0)).bind fun x_3 =>
   some (.bool (x_3 == (5 : Int)), H)
   else none
   else
   some (.bool false, H)
   else
   bif (x70 == (22 : Int)) then
   bSl (ldSl H p6 (2)) fun a_4 l_4 c_4 =>
   a_4.bind fun q_4 =>
   if 0 ≤ x4 ∧ x4 < (l_4 : Int) then
   (ldB H q_4.block (q_4.off + x4.toNat * 1)).bind fun b =>
   some (.bool (!b), H)
   else none
   else
   bif (x70 == (23 : Int)) then
   bSl (ldSl H p6 (2)) fun a_5 l_5 c_5 =>
   a_5.bind fun q_5 =>
   if 0 ≤ x4 ∧ x4 < (l_5 : Int) then
   (ldB H q_5.block (q_5.off + x4.toNat * 1)).bind fun b_1 =>
   some (.bool b_1, H)
   else none
   else
   some (.bool true, H)) := by
  unfold f73.K3
  rw [gateC_eq]
  kernel_rfl
theorem f73_eq (k : Nat) (a0_0 : Option Addr) (l0_0 : Nat) (c0_0 : Nat) (a0_1 : Option Addr) (l0_1 : Nat) (c0_1 : Nat) (a0_2 : Option Addr) (l0_2 : Nat) (c0_2 : Nat) (a0_3 : Option Addr) (l0_3 : Nat) (c0_3 : Nat) (a0_4 : Option Addr) (l0_4 : Nat) (c0_4 : Nat) (a0_5 : Option Addr) (l0_5 : Nat) (c0_5 : Nat) (a1_0 : Option Addr) (l1_0 : Nat) (c1_0 : Nat) (x1_1 : Int) (a1_2 : Option Addr) (l1_2 : Nat) (c1_2 : Nat) (a1_3 : Option Addr) (l1_3 : Nat) (c1_3 : Nat) (x2 : Int) (x3 : Int) (x4 : Int) (H : AHeap) : C (k + 1) 73 [.agg #[.slice a0_0 l0_0 c0_0, .slice a0_1 l0_1 c0_1, .slice a0_2 l0_2 c0_2, .slice a0_3 l0_3 c0_3, .slice a0_4 l0_4 c0_4, .slice a0_5 l0_5 c0_5], .agg #[.slice a1_0 l1_0 c1_0, .int .i64 x1_1, .slice a1_2 l1_2 c1_2, .slice a1_3 l1_3 c1_3], .int .i64 x2, .int .i64 x3, .int .i64 x4] H =
  (alK none H ⟨[.slice a0_0 l0_0 c0_0, .slice a0_1 l0_1 c0_1, .slice a0_2 l0_2 c0_2, .slice a0_3 l0_3 c0_3, .slice a0_4 l0_4 c0_4, .slice a0_5 l0_5 c0_5], 0, .rw, 0⟩ fun i H_1 =>
   alK none H_1 ⟨[.slice a1_0 l1_0 c1_0, .int .i64 x1_1, .slice a1_2 l1_2 c1_2, .slice a1_3 l1_3 c1_3], 0, .rw, 0⟩ fun i_1 H_2 =>
   (AHeap.row H_2 i (0) 6).bind fun g =>
   (AHeap.row H_2 i_1 (0) 4).bind fun g_1 =>
   cB (C k 79 [.agg (g : List Value).toArray, .agg (g_1 : List Value).toArray] H_2) fun b H_3 =>
   bif (!b) then
   some (.bool false, H_3)
   else
   bSl (ldSl H_3 i (4)) fun a l c =>
   cB (C k 93 [.int .i64 x2, .int .i64 (l : Int)] H_3) fun b_1 H_4 =>
   bif (!b_1) then
   some (.bool false, H_4)
   else
   (AHeap.row H_4 i (0) 6).bind fun g_2 =>
   cB (C k 94 [.agg (g_2 : List Value).toArray, .int .i64 x3, .int .i64 x4] H_4) fun b_2 H_5 =>
   bif (!b_2) then
   some (.bool false, H_5)
   else
   f73.K1 k x2 x3 x4 i i_1 [.agg #[.slice a0_0 l0_0 c0_0, .slice a0_1 l0_1 c0_1, .slice a0_2 l0_2 c0_2, .slice a0_3 l0_3 c0_3, .slice a0_4 l0_4 c0_4, .slice a0_5 l0_5 c0_5], .agg #[.slice a1_0 l1_0 c1_0, .int .i64 x1_1, .slice a1_2 l1_2 c1_2, .slice a1_3 l1_3 c1_3], .bool false, .agg (g : List Value).toArray, .agg (g_1 : List Value).toArray, .bool b, .bool (!b), .bool false, .int .i64 x2, .pointer (some ⟨i, 4, none⟩), .slice a l c, .int .i64 (l : Int), .bool b_1, .bool (!b_1), .bool (!b_1), .bool false, .agg (g_2 : List Value).toArray, .int .i64 x3, .int .i64 x4, .bool b_2, .bool (!b_2), .bool (!b_2)] H_5) := by kernel_rfl

end Go.Proofs.MxF
end
