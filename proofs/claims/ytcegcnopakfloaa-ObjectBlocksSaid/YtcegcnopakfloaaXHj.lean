/- Texts of this claim, laid together: Og O32 O33 O34. -/
import Derived.Test.YtcegcnopakfloaaXHc
import Derived.Test.YtcegcnopakfloaaXHi
section
set_option linter.unusedSimpArgs false
/- Functions of the program as the machine comes to them: printed by a program of this workplace (px.py); the kernel checks each line. -/
set_option linter.unusedVariables false
namespace Go.Proofs.MxF
open Go Go.Mx Go.Proofs

/- f82 "interleave/object.Blockers$1"  names: 0:t 2:t -/
theorem f82_eq (k : Nat) (x0 : Int) (pc0 : Nat) (H : AHeap) : C (k + 1) 82 [.int .i64 x0, .pointer (some ⟨pc0, 0, none⟩)] H =
  (bSl (ldSl H pc0 (4)) fun a l c =>
   cB (C k 70 [.int .i64 x0, .int .i64 (l : Int)] H) fun b H_1 =>
   some (.bool (!b), H_1)) := by kernel_rfl

/- f81x82 "slices.DeleteFunc[[]int,int]"  names: 0:s 1:del 2:s 3:del 5:i 6:j 7:v -/
noncomputable def f81x82.Q0 (k : Nat)  : Kont (Value × AHeap) := retQ Try.prog Try.f81
noncomputable def f81x82.Q1 (k : Nat)  : Kont (Value × AHeap) := seqQ (gateC (Sub (bodyOf Try.f81) [1, 1, 1, 0]) (Sub (bodyOf Try.f81) [1, 1, 1, 1]) k (run Try.prog (C k) k (Sub (bodyOf Try.f81) [1, 1, 1, 1]) (f81x82.Q0 k ))) (f81x82.Q0 k )
noncomputable def f81x82.Q2 (k : Nat)  : Kont (Value × AHeap) := blkQ 0 (f81x82.Q1 k )
noncomputable def f81x82.L1 (k : Nat) (n1 : Nat) (a0 : Option Addr) (l0 : Nat) (c0 : Nat) (p1_0 : Nat) (x5 : Int) (x6 : Int) (D : List Value) (H : AHeap) : Option (Value × AHeap) :=
  iter (run Try.prog (C k) k (Sub (bodyOf Try.f81) [1, 1, 1, 0, 1, 0, 0])) (f81x82.Q2 k ) n1 [.slice a0 l0 c0, .func (.func 82) #[] #[.pointer (some ⟨p1_0, 0, none⟩)], undef, undef, (D.getD 0 undef), .int .i64 x5, .int .i64 x6, (D.getD 1 undef), (D.getD 2 undef), (D.getD 3 undef), (D.getD 4 undef), (D.getD 5 undef), (D.getD 6 undef), undef, (D.getD 7 undef), (D.getD 8 undef), (D.getD 9 undef), (D.getD 10 undef), (D.getD 11 undef), (D.getD 12 undef), (D.getD 13 undef), (D.getD 14 undef), (D.getD 15 undef), (D.getD 16 undef), (D.getD 17 undef), (D.getD 18 undef), (D.getD 19 undef), (D.getD 20 undef), (D.getD 21 undef), (D.getD 22 undef), (D.getD 23 undef), (D.getD 24 undef), (D.getD 25 undef), (D.getD 26 undef), (D.getD 27 undef), (D.getD 28 undef), undef, undef, undef, undef, undef, undef] H
theorem f81x82.L1_z (k : Nat)  (a0 : Option Addr) (l0 : Nat) (c0 : Nat) (p1_0 : Nat) (x5 : Int) (x6 : Int) (D : List Value) (H : AHeap) : f81x82.L1 k 0 a0 l0 c0 p1_0 x5 x6 D H = none := by kernel_rfl
theorem f81x82.L1_s (k : Nat) (n1 : Nat) (a0 : Option Addr) (l0 : Nat) (c0 : Nat) (p1_0 : Nat) (x5 : Int) (x6 : Int) (D : List Value) (H : AHeap) : f81x82.L1 k (n1 + 1) a0 l0 c0 p1_0 x5 x6 D H =
  (bif (decide (x6 < (l0 : Int))) then
   a0.bind fun q =>
   if 0 ≤ x6 ∧ x6 < (l0 : Int) then
   (ldI .i64 H q.block (q.off + x6.toNat * 1)).bind fun x =>
   cB (C k 82 [.int .i64 x, .pointer (some ⟨p1_0, 0, none⟩)] H) fun b H_1 =>
   bif (!b) then
   a0.bind fun q_1 =>
   if 0 ≤ x5 ∧ x5 < (l0 : Int) then
   (AHeap.wr H_1 q_1.block (q_1.off + x5.toNat * 1) [.int .i64 x]).bind fun H_2 =>
   f81x82.L1 k n1 a0 l0 c0 p1_0 (IntKind.i64.wrap (x5 + (1 : Int))) (IntKind.i64.wrap (x6 + (1 : Int))) [(D.getD 0 undef), .int .i64 x, (D.getD 2 undef), (D.getD 3 undef), (D.getD 4 undef), (D.getD 5 undef), (D.getD 6 undef), (D.getD 7 undef), (D.getD 8 undef), .int .i64 x6, .slice a0 l0 c0, .int .i64 (l0 : Int), .bool (decide (x6 < (l0 : Int))), .int .i64 x6, .int .i64 (IntKind.i64.wrap (x6 + (1 : Int))), .slice a0 l0 c0, .int .i64 x6, .pointer (some ⟨q.block, q.off + x6.toNat * 1, none⟩), .int .i64 x, .func (.func 82) #[] #[.pointer (some ⟨p1_0, 0, none⟩)], .int .i64 x, .bool b, .bool (!b), .slice a0 l0 c0, .int .i64 x5, .int .i64 x, .pointer (some ⟨q_1.block, q_1.off + x5.toNat * 1, none⟩), .int .i64 x5, .int .i64 (IntKind.i64.wrap (x5 + (1 : Int)))] H_2
   else none
   else
   f81x82.L1 k n1 a0 l0 c0 p1_0 x5 (IntKind.i64.wrap (x6 + (1 : Int))) [(D.getD 0 undef), .int .i64 x, (D.getD 2 undef), (D.getD 3 undef), (D.getD 4 undef), (D.getD 5 undef), (D.getD 6 undef), (D.getD 7 undef), (D.getD 8 undef), .int .i64 x6, .slice a0 l0 c0, .int .i64 (l0 : Int), .bool (decide (x6 < (l0 : Int))), .int .i64 x6, .int .i64 (IntKind.i64.wrap (x6 + (1 : Int))), .slice a0 l0 c0, .int .i64 x6, .pointer (some ⟨q.block, q.off + x6.toNat * 1, none⟩), .int .i64 x, .func (.func 82) #[] #[.pointer (some ⟨p1_0, 0, none⟩)], .int .i64 x, .bool b, .bool (!b), (D.getD 23 undef), (D.getD 24 undef), (D.getD 25 undef), (D.getD 26 undef), (D.getD 27 undef), (D.getD 28 undef)] H_1
   else none
   else
   bSl (cutSl 1 a0 l0 c0 (some x5) none none) fun a l c =>
   (clearV Try.prog [26] H (.slice a l c)).bind fun H_3 =>
   bSl (cutSl 1 a0 l0 c0 none (some x5) none) fun a_1 l_1 c_1 =>
   some (.slice a_1 l_1 c_1, H_3)) := by kernel_rfl
theorem f81x82_eq (k : Nat) (a0 : Option Addr) (l0 : Nat) (c0 : Nat) (pc0 : Nat) (H : AHeap) : C (k + 1) 81 [.slice a0 l0 c0, .func (.func 82) #[] #[.pointer (some ⟨pc0, 0, none⟩)]] H =
  (cI .i64 (C k 86 [.slice a0 l0 c0, .func (.func 82) #[] #[.pointer (some ⟨pc0, 0, none⟩)]] H) fun x H_1 =>
   bif (x == ((-1) : Int)) then
   some (.slice a0 l0 c0, H_1)
   else
   f81x82.L1 k k a0 l0 c0 pc0 x (IntKind.i64.wrap (x + (1 : Int))) [.slice none 0 0, undef, .slice a0 l0 c0, .func (.func 82) #[] #[.pointer (some ⟨pc0, 0, none⟩)], .int .i64 x, .int .i64 x, .bool (x == ((-1) : Int)), .int .i64 x, .int .i64 (IntKind.i64.wrap (x + (1 : Int))), undef, undef, undef, undef, undef, undef, undef, undef, undef, undef, undef, undef, undef, undef, undef, undef, undef, undef, undef, undef] H_1) := by kernel_rfl

/- f86x82 "slices.IndexFunc[[]int,int]"  names: 0:s 1:f 2:s 3:f 5:i -/
noncomputable def f86x82.Q0 (k : Nat)  : Kont (Value × AHeap) := retQ Try.prog Try.f86
noncomputable def f86x82.Q1 (k : Nat)  : Kont (Value × AHeap) := seqQ (gateC (Sub (bodyOf Try.f86) [1, 0]) (Sub (bodyOf Try.f86) [1, 1]) k (run Try.prog (C k) k (Sub (bodyOf Try.f86) [1, 1]) (f86x82.Q0 k ))) (f86x82.Q0 k )
noncomputable def f86x82.Q2 (k : Nat)  : Kont (Value × AHeap) := blkQ 0 (f86x82.Q1 k )
noncomputable def f86x82.L1 (k : Nat) (n1 : Nat) (a0 : Option Addr) (l0 : Nat) (c0 : Nat) (p1_0 : Nat) (x7 : Int) (x8 : Int) (D : List Value) (H : AHeap) : Option (Value × AHeap) :=
  iter (run Try.prog (C k) k (Sub (bodyOf Try.f86) [1, 0, 1, 0, 0])) (f86x82.Q2 k ) n1 [.slice a0 l0 c0, .func (.func 82) #[] #[.pointer (some ⟨p1_0, 0, none⟩)], undef, undef, (D.getD 0 undef), (D.getD 1 undef), (D.getD 2 undef), .int .i64 x7, .int .i64 x8, (D.getD 3 undef), (D.getD 4 undef), (D.getD 5 undef), (D.getD 6 undef), (D.getD 7 undef), (D.getD 8 undef), (D.getD 9 undef), (D.getD 10 undef), undef, (D.getD 11 undef)] H
theorem f86x82.L1_z (k : Nat)  (a0 : Option Addr) (l0 : Nat) (c0 : Nat) (p1_0 : Nat) (x7 : Int) (x8 : Int) (D : List Value) (H : AHeap) : f86x82.L1 k 0 a0 l0 c0 p1_0 x7 x8 D H = none := by kernel_rfl
theorem f86x82.L1_s (k : Nat) (n1 : Nat) (a0 : Option Addr) (l0 : Nat) (c0 : Nat) (p1_0 : Nat) (x7 : Int) (x8 : Int) (D : List Value) (H : AHeap) : f86x82.L1 k (n1 + 1) a0 l0 c0 p1_0 x7 x8 D H =
  (bif (decide (x8 < x7)) then
   a0.bind fun q =>
   if 0 ≤ x8 ∧ x8 < (l0 : Int) then
   (ldI .i64 H q.block (q.off + x8.toNat * 1)).bind fun x =>
   cB (C k 82 [.int .i64 x, .pointer (some ⟨p1_0, 0, none⟩)] H) fun b H_1 =>
   bif b then
   some (.int .i64 x8, H_1)
   else
   f86x82.L1 k n1 a0 l0 c0 p1_0 x7 (IntKind.i64.wrap (x8 + (1 : Int))) [(D.getD 0 undef), .int .i64 x8, (D.getD 2 undef), .bool (decide (x8 < x7)), .int .i64 x8, .func (.func 82) #[] #[.pointer (some ⟨p1_0, 0, none⟩)], .slice a0 l0 c0, .int .i64 x8, .pointer (some ⟨q.block, q.off + x8.toNat * 1, none⟩), .int .i64 x, .bool b, .int .i64 (IntKind.i64.wrap (x8 + (1 : Int)))] H_1
   else none
   else
   some (.int .i64 (-1), H)) := by kernel_rfl
theorem f86x82_eq (k : Nat) (a0 : Option Addr) (l0 : Nat) (c0 : Nat) (pc0 : Nat) (H : AHeap) : C (k + 1) 86 [.slice a0 l0 c0, .func (.func 82) #[] #[.pointer (some ⟨pc0, 0, none⟩)]] H =
  (f86x82.L1 k k a0 l0 c0 pc0 (l0 : Int) 0 [.int .i64 0, undef, .slice a0 l0 c0, undef, undef, undef, undef, undef, undef, undef, undef, undef] H) := by kernel_rfl

/- f43 "interleave/object.Blockers"  names:  -/
noncomputable def f43.Q0 (k : Nat)  : Kont (Value × AHeap) := retQ Try.prog Try.f43
noncomputable def f43.Q1 (k : Nat)  : Kont (Value × AHeap) := seqQ (gateC (Sub (bodyOf Try.f43) [1, 1, 1, 0]) (Sub (bodyOf Try.f43) [1, 1, 1, 1]) k (run Try.prog (C k) k (Sub (bodyOf Try.f43) [1, 1, 1, 1]) (f43.Q0 k ))) (f43.Q0 k )
noncomputable def f43.Q2 (k : Nat)  : Kont (Value × AHeap) := blkQ 0 (f43.Q1 k )
noncomputable def f43.K1 (k : Nat)  (x2 : Int) (x3 : Int) (x4 : Int) (p5 : Nat) (p6 : Nat) (D : List Value) (H : AHeap) : Option (Value × AHeap) :=
  gateC (Sub (bodyOf Try.f43) [1, 0]) (Sub (bodyOf Try.f43) [1, 1]) k (run Try.prog (C k) k (Sub (bodyOf Try.f43) [1, 1]) (f43.Q0 k )) [(D.getD 0 undef), (D.getD 1 undef), .int .i64 x2, .int .i64 x3, .int .i64 x4, .pointer (some ⟨p5, 0, none⟩), .pointer (some ⟨p6, 0, none⟩), undef, undef, undef, (D.getD 2 undef), undef, (D.getD 3 undef), (D.getD 4 undef), (D.getD 5 undef), (D.getD 6 undef), (D.getD 7 undef), (D.getD 8 undef), (D.getD 9 undef), (D.getD 10 undef), (D.getD 11 undef), (D.getD 12 undef), (D.getD 13 undef), (D.getD 14 undef), (D.getD 15 undef), (D.getD 16 undef), (D.getD 17 undef), (D.getD 18 undef), (D.getD 19 undef), (D.getD 20 undef), (D.getD 21 undef), undef, undef, undef, undef, undef, undef, undef, undef, undef, undef, undef, undef, undef, undef, undef, undef, undef, undef, undef, undef, undef, undef, undef, undef, undef, undef, undef, undef, undef, undef, undef, undef, undef, undef, undef, undef, undef, undef, undef, undef, undef, undef, undef, undef, undef, undef, undef, undef, undef, undef, undef, undef, undef, undef, undef, undef, undef, undef, undef, undef, undef, undef, undef, undef, undef] H
noncomputable def f43.K2 (k : Nat)  (x2 : Int) (x4 : Int) (p5 : Nat) (p6 : Nat) (a11 : Option Addr) (l11 : Nat) (c11 : Nat) (x31 : Int) (b32 : Bool) (D : List Value) (H : AHeap) : Option (Value × AHeap) :=
  gateC (Sub (bodyOf Try.f43) [1, 1, 1, 0, 1, 0, 0]) (Sub (bodyOf Try.f43) [1, 1, 1, 0, 1, 0, 1]) k (run Try.prog (C k) k (Sub (bodyOf Try.f43) [1, 1, 1, 0, 1, 0, 1]) (f43.Q2 k )) [(D.getD 0 undef), (D.getD 1 undef), .int .i64 x2, (D.getD 2 undef), .int .i64 x4, .pointer (some ⟨p5, 0, none⟩), .pointer (some ⟨p6, 0, none⟩), undef, undef, undef, (D.getD 3 undef), .slice a11 l11 c11, (D.getD 4 undef), (D.getD 5 undef), (D.getD 6 undef), (D.getD 7 undef), (D.getD 8 undef), (D.getD 9 undef), (D.getD 10 undef), (D.getD 11 undef), (D.getD 12 undef), (D.getD 13 undef), (D.getD 14 undef), (D.getD 15 undef), (D.getD 16 undef), (D.getD 17 undef), (D.getD 18 undef), (D.getD 19 undef), (D.getD 20 undef), (D.getD 21 undef), (D.getD 22 undef), .int .i64 x31, .bool b32, (D.getD 23 undef), (D.getD 24 undef), undef, undef, undef, undef, undef, undef, undef, undef, undef, undef, undef, undef, undef, undef, undef, undef, undef, undef, undef, undef, undef, undef, undef, undef, undef, undef, undef, undef, undef, undef, undef, undef, undef, undef, undef, undef, undef, undef, undef, undef, undef, undef, undef, undef, undef, undef, undef, undef, undef, undef, undef, undef, undef, undef, undef, undef, undef, undef, undef, undef, undef] H
noncomputable def f43.K3 (k : Nat)  (p5 : Nat) (a11 : Option Addr) (l11 : Nat) (c11 : Nat) (D : List Value) (H : AHeap) : Option (Value × AHeap) :=
  gateC (Sub (bodyOf Try.f43) [1, 1, 1, 0]) (Sub (bodyOf Try.f43) [1, 1, 1, 1]) k (run Try.prog (C k) k (Sub (bodyOf Try.f43) [1, 1, 1, 1]) (f43.Q0 k )) [(D.getD 0 undef), (D.getD 1 undef), (D.getD 2 undef), (D.getD 3 undef), (D.getD 4 undef), .pointer (some ⟨p5, 0, none⟩), (D.getD 5 undef), undef, undef, undef, (D.getD 6 undef), .slice a11 l11 c11, (D.getD 7 undef), (D.getD 8 undef), (D.getD 9 undef), (D.getD 10 undef), (D.getD 11 undef), (D.getD 12 undef), (D.getD 13 undef), (D.getD 14 undef), (D.getD 15 undef), (D.getD 16 undef), (D.getD 17 undef), (D.getD 18 undef), (D.getD 19 undef), (D.getD 20 undef), (D.getD 21 undef), (D.getD 22 undef), (D.getD 23 undef), (D.getD 24 undef), (D.getD 25 undef), (D.getD 26 undef), (D.getD 27 undef), (D.getD 28 undef), (D.getD 29 undef), (D.getD 30 undef), (D.getD 31 undef), (D.getD 32 undef), (D.getD 33 undef), (D.getD 34 undef), (D.getD 35 undef), (D.getD 36 undef), (D.getD 37 undef), (D.getD 38 undef), (D.getD 39 undef), (D.getD 40 undef), (D.getD 41 undef), (D.getD 42 undef), (D.getD 43 undef), (D.getD 44 undef), (D.getD 45 undef), (D.getD 46 undef), (D.getD 47 undef), (D.getD 48 undef), (D.getD 49 undef), (D.getD 50 undef), (D.getD 51 undef), (D.getD 52 undef), (D.getD 53 undef), (D.getD 54 undef), (D.getD 55 undef), (D.getD 56 undef), (D.getD 57 undef), (D.getD 58 undef), (D.getD 59 undef), (D.getD 60 undef), (D.getD 61 undef), (D.getD 62 undef), (D.getD 63 undef), (D.getD 64 undef), (D.getD 65 undef), (D.getD 66 undef), (D.getD 67 undef), (D.getD 68 undef), (D.getD 69 undef), (D.getD 70 undef), (D.getD 71 undef), (D.getD 72 undef), (D.getD 73 undef), (D.getD 74 undef), (D.getD 75 undef), (D.getD 76 undef), (D.getD 77 undef), (D.getD 78 undef), (D.getD 79 undef), (D.getD 80 undef), (D.getD 81 undef), (D.getD 82 undef), (D.getD 83 undef), undef, undef, undef, undef, undef, undef, undef] H
theorem f43.K1_eq (k : Nat)  (x2 : Int) (x3 : Int) (x4 : Int) (p5 : Nat) (p6 : Nat) (D : List Value) (H : AHeap) : f43.K1 k  x2 x3 x4 p5 p6 D H =
  (bif (x3 == (6 : Int)) then
   f43.K2 k x2 x4 p5 p6 none 0 0 x3 (x3 == (6 : Int)) [(D.getD 0 undef), (D.getD 1 undef), .int .i64 x3, (D.getD 2 undef), (D.getD 3 undef), (D.getD 4 undef), (D.getD 5 undef), (D.getD 6 undef), (D.getD 7 undef), (D.getD 8 undef), (D.getD 9 undef), (D.getD 10 undef), (D.getD 11 undef), (D.getD 12 undef), (D.getD 13 undef), (D.getD 14 undef), (D.getD 15 undef), (D.getD 16 undef), (D.getD 17 undef), (D.getD 18 undef), (D.getD 19 undef), (D.getD 20 undef), (D.getD 21 undef), .bool (x3 == (6 : Int)), undef] H
   else
   f43.K2 k x2 x4 p5 p6 none 0 0 x3 (x3 == (8 : Int)) [(D.getD 0 undef), (D.getD 1 undef), .int .i64 x3, (D.getD 2 undef), (D.getD 3 undef), (D.getD 4 undef), (D.getD 5 undef), (D.getD 6 undef), (D.getD 7 undef), (D.getD 8 undef), (D.getD 9 undef), (D.getD 10 undef), (D.getD 11 undef), (D.getD 12 undef), (D.getD 13 undef), (D.getD 14 undef), (D.getD 15 undef), (D.getD 16 undef), (D.getD 17 undef), (D.getD 18 undef), (D.getD 19 undef), (D.getD 20 undef), (D.getD 21 undef), .bool (x3 == (6 : Int)), .bool (x3 == (8 : Int))] H) := by
  unfold f43.K1
  rw [gateC_eq]
  kernel_rfl
theorem f43.K2_eq (k : Nat)  (x2 : Int) (x4 : Int) (p5 : Nat) (p6 : Nat) (a11 : Option Addr) (l11 : Nat) (c11 : Nat) (x31 : Int) (b32 : Bool) (D : List Value) (H : AHeap) : f43.K2 k  x2 x4 p5 p6 a11 l11 c11 x31 b32 D H =
  (bif b32 then
   bSl (ldSl H p6 (0)) fun a l c =>
   a.bind fun q =>
   if 0 ≤ x4 ∧ x4 < (l : Int) then
   (ldI .i64 H q.block (q.off + x4.toNat * 2 + 0)).bind fun x =>
   alK none H ⟨[.int .i64 x], 1, .rw, 0⟩ fun i H_1 =>
   f43.K3 k p5 (some ⟨i, 0, none⟩) 1 1 [(D.getD 0 undef), (D.getD 1 undef), .int .i64 x2, (D.getD 2 undef), .int .i64 x4, .pointer (some ⟨p6, 0, none⟩), (D.getD 3 undef), (D.getD 4 undef), (D.getD 5 undef), (D.getD 6 undef), (D.getD 7 undef), (D.getD 8 undef), (D.getD 9 undef), (D.getD 10 undef), (D.getD 11 undef), (D.getD 12 undef), (D.getD 13 undef), (D.getD 14 undef), (D.getD 15 undef), (D.getD 16 undef), (D.getD 17 undef), (D.getD 18 undef), (D.getD 19 undef), (D.getD 20 undef), (D.getD 21 undef), (D.getD 22 undef), .int .i64 x31, .bool b32, (D.getD 23 undef), (D.getD 24 undef), .pointer (some ⟨p6, 0, none⟩), .slice a l c, .int .i64 x4, .pointer (some ⟨q.block, q.off + x4.toNat * 2, none⟩), .pointer (some ⟨q.block, q.off + x4.toNat * 2 + 0, none⟩), .int .i64 x, .slice (some ⟨i, 0, none⟩) 1 1, undef, undef, undef, undef, undef, undef, undef, undef, undef, undef, undef, undef, undef, undef, undef, undef, undef, undef, undef, undef, undef, undef, undef, undef, undef, undef, undef, undef, undef, undef, undef, undef, undef, undef, undef, undef, undef, undef, undef, undef, undef, undef, undef, undef, undef, undef, undef] H_1
   else none
   else
   bif (x31 == (17 : Int)) then
   bif sameB H (H.bump 13) p6 then
   bSl (ldSl (H.bump 13) p6 (0)) fun a_1 l_1 c_1 =>
   bif sameB H (H.bump 13) p5 then
   bSl (ldSl (H.bump 13) p5 (2)) fun a_2 l_2 c_2 =>
   a_2.bind fun q_1 =>
   if 0 ≤ x4 ∧ x4 < (l_2 : Int) then
   bif sameB H (H.bump 13) q_1.block then
   (ldI .i64 (H.bump 13) q_1.block (q_1.off + x4.toNat * 2 + 1)).bind fun x_1 =>
   a_1.bind fun q_2 =>
   if 0 ≤ x_1 ∧ x_1 < (l_1 : Int) then
   bif sameB H (H.bump 13) q_2.block then
   (ldI .i64 (H.bump 13) q_2.block (q_2.off + x_1.toNat * 2 + 0)).bind fun x_2 =>
   alK (some (H.next + 11)) (H.bump 13) ⟨[.int .i64 x_2], 1, .rw, 0⟩ fun i_1 H_2 =>
   f43.K3 k p5 (some ⟨i_1, 0, none⟩) 1 1 [(D.getD 0 undef), (D.getD 1 undef), .int .i64 x2, (D.getD 2 undef), .int .i64 x4, .pointer (some ⟨p6, 0, none⟩), (D.getD 3 undef), (D.getD 4 undef), (D.getD 5 undef), (D.getD 6 undef), (D.getD 7 undef), (D.getD 8 undef), (D.getD 9 undef), (D.getD 10 undef), (D.getD 11 undef), (D.getD 12 undef), (D.getD 13 undef), (D.getD 14 undef), (D.getD 15 undef), (D.getD 16 undef), (D.getD 17 undef), (D.getD 18 undef), (D.getD 19 undef), (D.getD 20 undef), (D.getD 21 undef), (D.getD 22 undef), .int .i64 x31, .bool b32, (D.getD 23 undef), (D.getD 24 undef), undef, undef, undef, undef, undef, undef, undef, .bool (x31 == (17 : Int)), .bool (x31 == (17 : Int)), .pointer (some ⟨p6, 0, none⟩), .slice a_1 l_1 c_1, .pointer (some ⟨p5, 2, none⟩), .slice a_2 l_2 c_2, .int .i64 x4, .pointer (some ⟨q_1.block, q_1.off + x4.toNat * 2, none⟩), .pointer (some ⟨q_1.block, q_1.off + x4.toNat * 2 + 1, none⟩), .int .i64 x_1, .pointer (some ⟨q_2.block, q_2.off + x_1.toNat * 2, none⟩), .pointer (some ⟨q_2.block, q_2.off + x_1.toNat * 2 + 0, none⟩), .int .i64 x_2, .slice (some ⟨i_1, 0, none⟩) 1 1, undef, undef, undef, undef, undef, undef, undef, undef, undef, undef, undef, undef, undef, undef, undef, undef, undef, undef, undef, undef, undef, undef, undef, undef, undef, undef, undef, undef, undef, undef, undef, undef, undef] H_2
   else none
   else none
   else none
   else none
   else none
   else none
   else
   bif (x31 == (10 : Int)) then
   bif sameB H (H.bump 16) p6 then
   bSl (ldSl (H.bump 16) p6 (0)) fun a_3 l_3 c_3 =>
   a_3.bind fun q_3 =>
   if 0 ≤ x4 ∧ x4 < (l_3 : Int) then
   bif sameB H (H.bump 16) q_3.block then
   bSl (ldSl (H.bump 16) q_3.block (q_3.off + x4.toNat * 2 + 1)) fun a_4 l_4 c_4 =>
   cSl (C k 80 [.slice a_4 l_4 c_4] (H.bump 16)) fun a_5 l_5 c_5 H_3 =>
   bif sameB H H_3 p6 then
   bSl (ldSl H_3 p6 (0)) fun a_6 l_6 c_6 =>
   a_6.bind fun q_4 =>
   if 0 ≤ x4 ∧ x4 < (l_6 : Int) then
   bif sameB H H_3 q_4.block then
   (ldI .i64 H_3 q_4.block (q_4.off + x4.toNat * 2 + 0)).bind fun x_3 =>
   alK (some (H.next + 13)) H_3 ⟨[.int .i64 x_3], 1, .rw, 0⟩ fun i_2 H_4 =>
   cSl (apndV Try.prog [26, 26] H_4 (.slice a_5 l_5 c_5) (.slice (some ⟨i_2, 0, none⟩) 1 1)) fun a_7 l_7 c_7 H_5 =>
   f43.K3 k p5 a_7 l_7 c_7 [(D.getD 0 undef), (D.getD 1 undef), .int .i64 x2, (D.getD 2 undef), .int .i64 x4, .pointer (some ⟨p6, 0, none⟩), (D.getD 3 undef), (D.getD 4 undef), (D.getD 5 undef), (D.getD 6 undef), (D.getD 7 undef), (D.getD 8 undef), (D.getD 9 undef), (D.getD 10 undef), (D.getD 11 undef), (D.getD 12 undef), (D.getD 13 undef), (D.getD 14 undef), (D.getD 15 undef), (D.getD 16 undef), (D.getD 17 undef), (D.getD 18 undef), (D.getD 19 undef), (D.getD 20 undef), (D.getD 21 undef), (D.getD 22 undef), .int .i64 x31, .bool b32, (D.getD 23 undef), (D.getD 24 undef), undef, undef, undef, undef, undef, undef, undef, .bool (x31 == (17 : Int)), .bool (x31 == (17 : Int)), undef, undef, undef, undef, undef, undef, undef, undef, undef, undef, undef, undef, .bool (x31 == (10 : Int)), .bool (x31 == (10 : Int)), .pointer (some ⟨p6, 0, none⟩), .slice a_3 l_3 c_3, .int .i64 x4, .pointer (some ⟨q_3.block, q_3.off + x4.toNat * 2, none⟩), .pointer (some ⟨q_3.block, q_3.off + x4.toNat * 2 + 1, none⟩), .slice a_4 l_4 c_4, .slice a_5 l_5 c_5, .pointer (some ⟨p6, 0, none⟩), .slice a_6 l_6 c_6, .int .i64 x4, .pointer (some ⟨q_4.block, q_4.off + x4.toNat * 2, none⟩), .pointer (some ⟨q_4.block, q_4.off + x4.toNat * 2 + 0, none⟩), .int .i64 x_3, .slice (some ⟨i_2, 0, none⟩) 1 1, .slice a_7 l_7 c_7, undef, undef, undef, undef, undef, undef, undef, undef, undef, undef, undef, undef, undef, undef, undef, undef] H_5
   else none
   else none
   else none
   else none
   else none
   else none
   else
   bif (x31 == (21 : Int)) then
   bif (x4 != x2) then
   bSl (ldSl H p6 (3)) fun a_8 l_8 c_8 =>
   a_8.bind fun q_5 =>
   if 0 ≤ x4 ∧ x4 < (l_8 : Int) then
   (ldI .i64 H q_5.block (q_5.off + x4.toNat * 3 + 0)).bind fun x_4 =>
   bif (x_4 != (5 : Int)) then
   alK none H ⟨[.int .i64 x4], 1, .rw, 0⟩ fun i_3 H_6 =>
   f43.K3 k p5 (some ⟨i_3, 0, none⟩) 1 1 [(D.getD 0 undef), (D.getD 1 undef), .int .i64 x2, (D.getD 2 undef), .int .i64 x4, .pointer (some ⟨p6, 0, none⟩), (D.getD 3 undef), (D.getD 4 undef), (D.getD 5 undef), (D.getD 6 undef), (D.getD 7 undef), (D.getD 8 undef), (D.getD 9 undef), (D.getD 10 undef), (D.getD 11 undef), (D.getD 12 undef), (D.getD 13 undef), (D.getD 14 undef), (D.getD 15 undef), (D.getD 16 undef), (D.getD 17 undef), (D.getD 18 undef), (D.getD 19 undef), (D.getD 20 undef), (D.getD 21 undef), (D.getD 22 undef), .int .i64 x31, .bool b32, (D.getD 23 undef), (D.getD 24 undef), undef, undef, undef, undef, undef, undef, undef, .bool (x31 == (17 : Int)), .bool (x31 == (17 : Int)), undef, undef, undef, undef, undef, undef, undef, undef, undef, undef, undef, undef, .bool (x31 == (10 : Int)), .bool (x31 == (10 : Int)), undef, undef, undef, undef, undef, undef, undef, undef, undef, undef, undef, undef, undef, undef, undef, .bool (x31 == (21 : Int)), .bool (x31 == (21 : Int)), .int .i64 x4, .int .i64 x2, .bool (x4 != x2), .bool true, .pointer (some ⟨p6, 3, none⟩), .slice a_8 l_8 c_8, .int .i64 x4, .pointer (some ⟨q_5.block, q_5.off + x4.toNat * 3, none⟩), .pointer (some ⟨q_5.block, q_5.off + x4.toNat * 3 + 0, none⟩), .int .i64 x_4, .bool (x_4 != (5 : Int)), .bool (x_4 != (5 : Int)), .int .i64 x4, .slice (some ⟨i_3, 0, none⟩) 1 1] H_6
   else
   f43.K3 k p5 a11 l11 c11 [(D.getD 0 undef), (D.getD 1 undef), .int .i64 x2, (D.getD 2 undef), .int .i64 x4, .pointer (some ⟨p6, 0, none⟩), (D.getD 3 undef), (D.getD 4 undef), (D.getD 5 undef), (D.getD 6 undef), (D.getD 7 undef), (D.getD 8 undef), (D.getD 9 undef), (D.getD 10 undef), (D.getD 11 undef), (D.getD 12 undef), (D.getD 13 undef), (D.getD 14 undef), (D.getD 15 undef), (D.getD 16 undef), (D.getD 17 undef), (D.getD 18 undef), (D.getD 19 undef), (D.getD 20 undef), (D.getD 21 undef), (D.getD 22 undef), .int .i64 x31, .bool b32, (D.getD 23 undef), (D.getD 24 undef), undef, undef, undef, undef, undef, undef, undef, .bool (x31 == (17 : Int)), .bool (x31 == (17 : Int)), undef, undef, undef, undef, undef, undef, undef, undef, undef, undef, undef, undef, .bool (x31 == (10 : Int)), .bool (x31 == (10 : Int)), undef, undef, undef, undef, undef, undef, undef, undef, undef, undef, undef, undef, undef, undef, undef, .bool (x31 == (21 : Int)), .bool (x31 == (21 : Int)), .int .i64 x4, .int .i64 x2, .bool (x4 != x2), .bool true, .pointer (some ⟨p6, 3, none⟩), .slice a_8 l_8 c_8, .int .i64 x4, .pointer (some ⟨q_5.block, q_5.off + x4.toNat * 3, none⟩), .pointer (some ⟨q_5.block, q_5.off + x4.toNat * 3 + 0, none⟩), .int .i64 x_4, .bool (x_4 != (5 : Int)), .bool (x_4 != (5 : Int)), undef, undef] H
   else none
   else
   f43.K3 k p5 a11 l11 c11 [(D.getD 0 undef), (D.getD 1 undef), .int .i64 x2, (D.getD 2 undef), .int .i64 x4, .pointer (some ⟨p6, 0, none⟩), (D.getD 3 undef), (D.getD 4 undef), (D.getD 5 undef), (D.getD 6 undef), (D.getD 7 undef), (D.getD 8 undef), (D.getD 9 undef), (D.getD 10 undef), (D.getD 11 undef), (D.getD 12 undef), (D.getD 13 undef), (D.getD 14 undef), (D.getD 15 undef), (D.getD 16 undef), (D.getD 17 undef), (D.getD 18 undef), (D.getD 19 undef), (D.getD 20 undef), (D.getD 21 undef), (D.getD 22 undef), .int .i64 x31, .bool b32, (D.getD 23 undef), (D.getD 24 undef), undef, undef, undef, undef, undef, undef, undef, .bool (x31 == (17 : Int)), .bool (x31 == (17 : Int)), undef, undef, undef, undef, undef, undef, undef, undef, undef, undef, undef, undef, .bool (x31 == (10 : Int)), .bool (x31 == (10 : Int)), undef, undef, undef, undef, undef, undef, undef, undef, undef, undef, undef, undef, undef, undef, undef, .bool (x31 == (21 : Int)), .bool (x31 == (21 : Int)), .int .i64 x4, .int .i64 x2, .bool (x4 != x2), .bool false, undef, undef, undef, undef, undef, undef, undef, .bool false, undef, undef] H
   else
   f43.K3 k p5 a11 l11 c11 [(D.getD 0 undef), (D.getD 1 undef), .int .i64 x2, (D.getD 2 undef), .int .i64 x4, .pointer (some ⟨p6, 0, none⟩), (D.getD 3 undef), (D.getD 4 undef), (D.getD 5 undef), (D.getD 6 undef), (D.getD 7 undef), (D.getD 8 undef), (D.getD 9 undef), (D.getD 10 undef), (D.getD 11 undef), (D.getD 12 undef), (D.getD 13 undef), (D.getD 14 undef), (D.getD 15 undef), (D.getD 16 undef), (D.getD 17 undef), (D.getD 18 undef), (D.getD 19 undef), (D.getD 20 undef), (D.getD 21 undef), (D.getD 22 undef), .int .i64 x31, .bool b32, (D.getD 23 undef), (D.getD 24 undef), undef, undef, undef, undef, undef, undef, undef, .bool (x31 == (17 : Int)), .bool (x31 == (17 : Int)), undef, undef, undef, undef, undef, undef, undef, undef, undef, undef, undef, undef, .bool (x31 == (10 : Int)), .bool (x31 == (10 : Int)), undef, undef, undef, undef, undef, undef, undef, undef, undef, undef, undef, undef, undef, undef, undef, .bool (x31 == (21 : Int)), .bool (x31 == (21 : Int)), undef, undef, undef, undef, undef, undef, undef, undef, undef, undef, undef, undef, undef, undef] H) := by
  unfold f43.K2
  rw [gateC_eq]
  kernel_rfl
theorem f43.K3_eq (k : Nat)  (p5 : Nat) (a11 : Option Addr) (l11 : Nat) (c11 : Nat) (D : List Value) (H : AHeap) : f43.K3 k  p5 a11 l11 c11 D H =
  (cSl (C k 81 [.slice a11 l11 c11, .func (.func 82) #[] #[.pointer (some ⟨p5, 0, none⟩)]] H) fun a l c H_1 =>
   cT (C k 83 [.slice a l c] H_1) fun u H_2 =>
   cSl (C k 84 [.slice a l c] H_2) fun a_1 l_1 c_1 H_3 =>
   some (.slice a_1 l_1 c_1, H_3)) := by
  unfold f43.K3
  rw [gateC_eq]
  kernel_rfl
theorem f43_eq (k : Nat) (a0_0 : Option Addr) (l0_0 : Nat) (c0_0 : Nat) (a0_1 : Option Addr) (l0_1 : Nat) (c0_1 : Nat) (a0_2 : Option Addr) (l0_2 : Nat) (c0_2 : Nat) (a0_3 : Option Addr) (l0_3 : Nat) (c0_3 : Nat) (a0_4 : Option Addr) (l0_4 : Nat) (c0_4 : Nat) (a0_5 : Option Addr) (l0_5 : Nat) (c0_5 : Nat) (a1_0 : Option Addr) (l1_0 : Nat) (c1_0 : Nat) (x1_1 : Int) (a1_2 : Option Addr) (l1_2 : Nat) (c1_2 : Nat) (a1_3 : Option Addr) (l1_3 : Nat) (c1_3 : Nat) (x2 : Int) (x3 : Int) (x4 : Int) (H : AHeap) : C (k + 1) 43 [.agg #[.slice a0_0 l0_0 c0_0, .slice a0_1 l0_1 c0_1, .slice a0_2 l0_2 c0_2, .slice a0_3 l0_3 c0_3, .slice a0_4 l0_4 c0_4, .slice a0_5 l0_5 c0_5], .agg #[.slice a1_0 l1_0 c1_0, .int .i64 x1_1, .slice a1_2 l1_2 c1_2, .slice a1_3 l1_3 c1_3], .int .i64 x2, .int .i64 x3, .int .i64 x4] H =
  (alK none H ⟨[.slice a0_0 l0_0 c0_0, .slice a0_1 l0_1 c0_1, .slice a0_2 l0_2 c0_2, .slice a0_3 l0_3 c0_3, .slice a0_4 l0_4 c0_4, .slice a0_5 l0_5 c0_5], 0, .rw, 0⟩ fun i H_1 =>
   alK none H_1 ⟨[.slice a1_0 l1_0 c1_0, .int .i64 x1_1, .slice a1_2 l1_2 c1_2, .slice a1_3 l1_3 c1_3], 0, .rw, 0⟩ fun i_1 H_2 =>
   (AHeap.row H_2 i (0) 6).bind fun g =>
   (AHeap.row H_2 i_1 (0) 4).bind fun g_1 =>
   cB (C k 65 [.agg (g : List Value).toArray, .agg (g_1 : List Value).toArray] H_2) fun b H_3 =>
   bif (!b) then
   some (.slice none 0 0, H_3)
   else
   bSl (ldSl H_3 i (4)) fun a l c =>
   cB (C k 70 [.int .i64 x2, .int .i64 (l : Int)] H_3) fun b_1 H_4 =>
   bif (!b_1) then
   some (.slice none 0 0, H_4)
   else
   (AHeap.row H_4 i (0) 6).bind fun g_2 =>
   cB (C k 71 [.agg (g_2 : List Value).toArray, .int .i64 x3, .int .i64 x4] H_4) fun b_2 H_5 =>
   bif (!b_2) then
   some (.slice none 0 0, H_5)
   else
   f43.K1 k x2 x3 x4 i i_1 [.agg #[.slice a0_0 l0_0 c0_0, .slice a0_1 l0_1 c0_1, .slice a0_2 l0_2 c0_2, .slice a0_3 l0_3 c0_3, .slice a0_4 l0_4 c0_4, .slice a0_5 l0_5 c0_5], .agg #[.slice a1_0 l1_0 c1_0, .int .i64 x1_1, .slice a1_2 l1_2 c1_2, .slice a1_3 l1_3 c1_3], .slice none 0 0, .agg (g : List Value).toArray, .agg (g_1 : List Value).toArray, .bool b, .bool (!b), .bool false, .int .i64 x2, .pointer (some ⟨i, 4, none⟩), .slice a l c, .int .i64 (l : Int), .bool b_1, .bool (!b_1), .bool (!b_1), .bool false, .agg (g_2 : List Value).toArray, .int .i64 x3, .int .i64 x4, .bool b_2, .bool (!b_2), .bool (!b_2)] H_5) := by kernel_rfl

/- f14 "interleave/interleavelaw08.ObjectBlocks"  names:  -/
noncomputable def f14.Q0 (k : Nat)  : Kont (Value × AHeap) := retQ Try.prog Try.f14
noncomputable def f14.K1 (k : Nat)  (p7 : Nat) (p8 : Nat) (x9 : Int) (x11 : Int) (b12 : Bool) (b13 : Bool) (b16 : Bool) (D : List Value) (H : AHeap) : Option (Value × AHeap) :=
  gateC (Sub (bodyOf Try.f14) [1, 1, 1, 1, 1, 1, 1, 1, 1, 1, 1, 1, 0]) (Sub (bodyOf Try.f14) [1, 1, 1, 1, 1, 1, 1, 1, 1, 1, 1, 1, 1]) k (run Try.prog (C k) k (Sub (bodyOf Try.f14) [1, 1, 1, 1, 1, 1, 1, 1, 1, 1, 1, 1, 1]) (f14.Q0 k )) [(D.getD 0 undef), (D.getD 1 undef), (D.getD 2 undef), undef, undef, undef, (D.getD 3 undef), .pointer (some ⟨p7, 0, none⟩), .pointer (some ⟨p8, 0, none⟩), .int .i64 x9, (D.getD 4 undef), .int .i64 x11, .bool b12, .bool b13, (D.getD 5 undef), (D.getD 6 undef), .bool b16, undef, (D.getD 7 undef), (D.getD 8 undef), (D.getD 9 undef), (D.getD 10 undef), (D.getD 11 undef), (D.getD 12 undef), (D.getD 13 undef), (D.getD 14 undef), (D.getD 15 undef), (D.getD 16 undef), (D.getD 17 undef), (D.getD 18 undef), (D.getD 19 undef), (D.getD 20 undef), (D.getD 21 undef), (D.getD 22 undef), (D.getD 23 undef), (D.getD 24 undef), (D.getD 25 undef), (D.getD 26 undef), (D.getD 27 undef), undef, (D.getD 28 undef), (D.getD 29 undef), (D.getD 30 undef), (D.getD 31 undef), (D.getD 32 undef), (D.getD 33 undef), (D.getD 34 undef), (D.getD 35 undef), (D.getD 36 undef), (D.getD 37 undef), (D.getD 38 undef), (D.getD 39 undef), (D.getD 40 undef), (D.getD 41 undef), (D.getD 42 undef), (D.getD 43 undef), (D.getD 44 undef), (D.getD 45 undef), (D.getD 46 undef), (D.getD 47 undef), (D.getD 48 undef), (D.getD 49 undef), (D.getD 50 undef), (D.getD 51 undef), (D.getD 52 undef), (D.getD 53 undef), (D.getD 54 undef), (D.getD 55 undef), (D.getD 56 undef), (D.getD 57 undef), (D.getD 58 undef), (D.getD 59 undef), (D.getD 60 undef), (D.getD 61 undef), (D.getD 62 undef), (D.getD 63 undef), (D.getD 64 undef), (D.getD 65 undef), (D.getD 66 undef), (D.getD 67 undef), (D.getD 68 undef), (D.getD 69 undef), (D.getD 70 undef), (D.getD 71 undef), (D.getD 72 undef), (D.getD 73 undef), (D.getD 74 undef), (D.getD 75 undef), (D.getD 76 undef), (D.getD 77 undef), (D.getD 78 undef), (D.getD 79 undef), (D.getD 80 undef), undef, undef, undef, undef, undef, undef, undef, undef, undef, undef, undef, undef, undef, undef, undef, undef, undef, undef, undef, undef, undef, undef, undef, undef, undef, undef, undef, undef, undef, undef, undef] H
noncomputable def f14.K2 (k : Nat)  (b12 : Bool) (b13 : Bool) (b16 : Bool) (b17 : Bool) (D : List Value) (H : AHeap) : Option (Value × AHeap) :=
  gateC (Sub (bodyOf Try.f14) [1, 1, 1, 1, 1, 1, 1, 1, 1, 1, 1, 1, 1, 0]) (Sub (bodyOf Try.f14) [1, 1, 1, 1, 1, 1, 1, 1, 1, 1, 1, 1, 1, 1]) k (run Try.prog (C k) k (Sub (bodyOf Try.f14) [1, 1, 1, 1, 1, 1, 1, 1, 1, 1, 1, 1, 1, 1]) (f14.Q0 k )) [(D.getD 0 undef), (D.getD 1 undef), (D.getD 2 undef), undef, undef, undef, (D.getD 3 undef), (D.getD 4 undef), (D.getD 5 undef), (D.getD 6 undef), (D.getD 7 undef), (D.getD 8 undef), .bool b12, .bool b13, (D.getD 9 undef), (D.getD 10 undef), .bool b16, .bool b17, (D.getD 11 undef), (D.getD 12 undef), (D.getD 13 undef), (D.getD 14 undef), (D.getD 15 undef), (D.getD 16 undef), (D.getD 17 undef), (D.getD 18 undef), (D.getD 19 undef), (D.getD 20 undef), (D.getD 21 undef), (D.getD 22 undef), (D.getD 23 undef), (D.getD 24 undef), (D.getD 25 undef), (D.getD 26 undef), (D.getD 27 undef), (D.getD 28 undef), (D.getD 29 undef), (D.getD 30 undef), (D.getD 31 undef), undef, (D.getD 32 undef), (D.getD 33 undef), (D.getD 34 undef), (D.getD 35 undef), (D.getD 36 undef), (D.getD 37 undef), (D.getD 38 undef), (D.getD 39 undef), (D.getD 40 undef), (D.getD 41 undef), (D.getD 42 undef), (D.getD 43 undef), (D.getD 44 undef), (D.getD 45 undef), (D.getD 46 undef), (D.getD 47 undef), (D.getD 48 undef), (D.getD 49 undef), (D.getD 50 undef), (D.getD 51 undef), (D.getD 52 undef), (D.getD 53 undef), (D.getD 54 undef), (D.getD 55 undef), (D.getD 56 undef), (D.getD 57 undef), (D.getD 58 undef), (D.getD 59 undef), (D.getD 60 undef), (D.getD 61 undef), (D.getD 62 undef), (D.getD 63 undef), (D.getD 64 undef), (D.getD 65 undef), (D.getD 66 undef), (D.getD 67 undef), (D.getD 68 undef), (D.getD 69 undef), (D.getD 70 undef), (D.getD 71 undef), (D.getD 72 undef), (D.getD 73 undef), (D.getD 74 undef), (D.getD 75 undef), (D.getD 76 undef), (D.getD 77 undef), (D.getD 78 undef), (D.getD 79 undef), (D.getD 80 undef), (D.getD 81 undef), (D.getD 82 undef), (D.getD 83 undef), (D.getD 84 undef), (D.getD 85 undef), (D.getD 86 undef), (D.getD 87 undef), (D.getD 88 undef), (D.getD 89 undef), (D.getD 90 undef), (D.getD 91 undef), (D.getD 92 undef), (D.getD 93 undef), (D.getD 94 undef), (D.getD 95 undef), (D.getD 96 undef), (D.getD 97 undef), (D.getD 98 undef), (D.getD 99 undef), (D.getD 100 undef), (D.getD 101 undef), (D.getD 102 undef), undef, undef, undef, undef, undef, undef, undef, undef, undef, undef, undef, undef, undef] H
theorem f14.K1_eq (k : Nat)  (p7 : Nat) (p8 : Nat) (x9 : Int) (x11 : Int) (b12 : Bool) (b13 : Bool) (b16 : Bool) (D : List Value) (H : AHeap) : f14.K1 k  p7 p8 x9 x11 b12 b13 b16 D H =
  (bif (x11 == x9) then
   f14.K2 k b12 b13 b16 true [(D.getD 0 undef), (D.getD 1 undef), (D.getD 2 undef), (D.getD 3 undef), .pointer (some ⟨p7, 0, none⟩), .pointer (some ⟨p8, 0, none⟩), .int .i64 x9, (D.getD 4 undef), .int .i64 x11, (D.getD 5 undef), (D.getD 6 undef), (D.getD 7 undef), (D.getD 8 undef), (D.getD 9 undef), (D.getD 10 undef), (D.getD 11 undef), (D.getD 12 undef), (D.getD 13 undef), (D.getD 14 undef), (D.getD 15 undef), (D.getD 16 undef), (D.getD 17 undef), (D.getD 18 undef), (D.getD 19 undef), (D.getD 20 undef), (D.getD 21 undef), (D.getD 22 undef), (D.getD 23 undef), (D.getD 24 undef), (D.getD 25 undef), (D.getD 26 undef), (D.getD 27 undef), (D.getD 28 undef), (D.getD 29 undef), (D.getD 30 undef), (D.getD 31 undef), (D.getD 32 undef), (D.getD 33 undef), (D.getD 34 undef), (D.getD 35 undef), (D.getD 36 undef), (D.getD 37 undef), (D.getD 38 undef), (D.getD 39 undef), (D.getD 40 undef), (D.getD 41 undef), (D.getD 42 undef), (D.getD 43 undef), (D.getD 44 undef), (D.getD 45 undef), (D.getD 46 undef), (D.getD 47 undef), (D.getD 48 undef), (D.getD 49 undef), (D.getD 50 undef), (D.getD 51 undef), (D.getD 52 undef), (D.getD 53 undef), (D.getD 54 undef), (D.getD 55 undef), (D.getD 56 undef), (D.getD 57 undef), (D.getD 58 undef), (D.getD 59 undef), (D.getD 60 undef), (D.getD 61 undef), (D.getD 62 undef), (D.getD 63 undef), (D.getD 64 undef), (D.getD 65 undef), (D.getD 66 undef), (D.getD 67 undef), (D.getD 68 undef), (D.getD 69 undef), (D.getD 70 undef), (D.getD 71 undef), (D.getD 72 undef), (D.getD 73 undef), (D.getD 74 undef), (D.getD 75 undef), (D.getD 76 undef), (D.getD 77 undef), (D.getD 78 undef), (D.getD 79 undef), (D.getD 80 undef), .int .i64 x11, .int .i64 x9, .bool (x11 == x9), .bool true, undef, undef, undef, undef, undef, undef, undef, undef, undef, undef, undef, undef, undef, .bool true] (H.bump 19)
   else
   bif sameB H (H.bump 19) p7 then
   (AHeap.row (H.bump 19) p7 (0) 6).bind fun g =>
   bif sameB H (H.bump 19) p8 then
   (AHeap.row (H.bump 19) p8 (0) 4).bind fun g_1 =>
   cB (C k 39 [.agg (g : List Value).toArray, .agg (g_1 : List Value).toArray, .int .i64 x9, .int .i64 21, .int .i64 x11] (H.bump 19)) fun b H_1 =>
   bif sameB H H_1 p7 then
   (AHeap.row H_1 p7 (0) 6).bind fun g_2 =>
   bif sameB H H_1 p8 then
   (AHeap.row H_1 p8 (0) 4).bind fun g_3 =>
   cSl (C k 43 [.agg (g_2 : List Value).toArray, .agg (g_3 : List Value).toArray, .int .i64 x9, .int .i64 21, .int .i64 x11] H_1) fun a l c H_2 =>
   f14.K2 k b12 b13 b16 (b == ((l : Int) == (0 : Int))) [(D.getD 0 undef), (D.getD 1 undef), (D.getD 2 undef), (D.getD 3 undef), .pointer (some ⟨p7, 0, none⟩), .pointer (some ⟨p8, 0, none⟩), .int .i64 x9, (D.getD 4 undef), .int .i64 x11, (D.getD 5 undef), (D.getD 6 undef), (D.getD 7 undef), (D.getD 8 undef), (D.getD 9 undef), (D.getD 10 undef), (D.getD 11 undef), (D.getD 12 undef), (D.getD 13 undef), (D.getD 14 undef), (D.getD 15 undef), (D.getD 16 undef), (D.getD 17 undef), (D.getD 18 undef), (D.getD 19 undef), (D.getD 20 undef), (D.getD 21 undef), (D.getD 22 undef), (D.getD 23 undef), (D.getD 24 undef), (D.getD 25 undef), (D.getD 26 undef), (D.getD 27 undef), (D.getD 28 undef), (D.getD 29 undef), (D.getD 30 undef), (D.getD 31 undef), (D.getD 32 undef), (D.getD 33 undef), (D.getD 34 undef), (D.getD 35 undef), (D.getD 36 undef), (D.getD 37 undef), (D.getD 38 undef), (D.getD 39 undef), (D.getD 40 undef), (D.getD 41 undef), (D.getD 42 undef), (D.getD 43 undef), (D.getD 44 undef), (D.getD 45 undef), (D.getD 46 undef), (D.getD 47 undef), (D.getD 48 undef), (D.getD 49 undef), (D.getD 50 undef), (D.getD 51 undef), (D.getD 52 undef), (D.getD 53 undef), (D.getD 54 undef), (D.getD 55 undef), (D.getD 56 undef), (D.getD 57 undef), (D.getD 58 undef), (D.getD 59 undef), (D.getD 60 undef), (D.getD 61 undef), (D.getD 62 undef), (D.getD 63 undef), (D.getD 64 undef), (D.getD 65 undef), (D.getD 66 undef), (D.getD 67 undef), (D.getD 68 undef), (D.getD 69 undef), (D.getD 70 undef), (D.getD 71 undef), (D.getD 72 undef), (D.getD 73 undef), (D.getD 74 undef), (D.getD 75 undef), (D.getD 76 undef), (D.getD 77 undef), (D.getD 78 undef), (D.getD 79 undef), (D.getD 80 undef), .int .i64 x11, .int .i64 x9, .bool (x11 == x9), .bool false, .agg (g : List Value).toArray, .agg (g_1 : List Value).toArray, .int .i64 x9, .int .i64 x11, .bool b, .agg (g_2 : List Value).toArray, .agg (g_3 : List Value).toArray, .int .i64 x9, .int .i64 x11, .slice a l c, .int .i64 (l : Int), .bool ((l : Int) == (0 : Int)), .bool (b == ((l : Int) == (0 : Int))), .bool (b == ((l : Int) == (0 : Int)))] H_2
   else none
   else none
   else none
   else none) := by
  unfold f14.K1
  rw [gateC_eq]
  kernel_rfl
theorem f14.K2_eq (k : Nat)  (b12 : Bool) (b13 : Bool) (b16 : Bool) (b17 : Bool) (D : List Value) (H : AHeap) : f14.K2 k  b12 b13 b16 b17 D H =
  (bif b12 then
   bif b13 then
   bif b16 then
   bif b17 then
   cB (C k 35 [] H) fun b H_1 =>
   some (.bool b, H_1)
   else
   some (.bool false, H)
   else
   some (.bool false, H)
   else
   some (.bool false, H)
   else
   some (.bool false, H)) := by
  unfold f14.K2
  rw [gateC_eq]
  kernel_rfl
theorem f14_eq (k : Nat) (a0 : Option Addr) (l0 : Nat) (c0 : Nat) (x1 : Int) (x2 : Int) (H : AHeap) : C (k + 1) 14 [.slice a0 l0 c0, .int .u8 x1, .int .u8 x2] H =
  (bif (decide ((l0 : Int) > (100 : Int))) then
   some (.bool true, H)
   else
   cG (C k 36 [] H) fun g H_1 =>
   alK none H_1 ⟨[.slice none 0 0, .slice none 0 0, .slice none 0 0, .slice none 0 0, .slice none 0 0, .slice none 0 0], 0, .rw, 0⟩ fun i H_2 =>
   if notTup (.agg g) = true ∧ (g.toList).length = 6 then
   (AHeap.wr H_2 i (0) g.toList).bind fun H_3 =>
   (AHeap.row H_3 i (0) 6).bind fun g_1 =>
   cG (C k 37 [.agg (g_1 : List Value).toArray, .slice a0 l0 c0] H_3) fun g_2 H_4 =>
   alK none H_4 ⟨[.slice none 0 0, .int .i64 0, .slice none 0 0, .slice none 0 0], 0, .rw, 0⟩ fun i_1 H_5 =>
   if notTup (.agg g_2) = true ∧ (g_2.toList).length = 4 then
   (AHeap.wr H_5 i_1 (0) g_2.toList).bind fun H_6 =>
   (AHeap.row H_6 i (0) 6).bind fun g_3 =>
   (AHeap.row H_6 i_1 (0) 4).bind fun g_4 =>
   cB (C k 42 [.agg (g_3 : List Value).toArray, .agg (g_4 : List Value).toArray] H_6) fun b H_7 =>
   bif (!b) then
   some (.bool false, H_7)
   else
   bSl (ldSl H_7 i_1 (3)) fun a l c =>
   a.bind fun q =>
   if 0 ≤ ((IntKind.i64.wrap x1).tmod (3 : Int)) ∧ ((IntKind.i64.wrap x1).tmod (3 : Int)) < (l : Int) then
   (ldI .i64 H_7 q.block (q.off + ((IntKind.i64.wrap x1).tmod (3 : Int)).toNat * 3 + 0)).bind fun x =>
   bif (x != (2 : Int)) then
   cB (C k 35 [] H_7) fun b_1 H_8 =>
   some (.bool b_1, H_8)
   else
   bif sameB H_7 (H_7.bump 14) i then
   (AHeap.row (H_7.bump 14) i (0) 6).bind fun g_5 =>
   bif sameB H_7 (H_7.bump 14) i_1 then
   (AHeap.row (H_7.bump 14) i_1 (0) 4).bind fun g_6 =>
   cB (C k 39 [.agg (g_5 : List Value).toArray, .agg (g_6 : List Value).toArray, .int .i64 ((IntKind.i64.wrap x1).tmod (3 : Int)), .int .i64 6, .int .i64 ((IntKind.i64.wrap x2).tmod (2 : Int))] (H_7.bump 14)) fun b_2 H_9 =>
   bif sameB H_7 H_9 i then
   (AHeap.row H_9 i (0) 6).bind fun g_7 =>
   bif sameB H_7 H_9 i_1 then
   (AHeap.row H_9 i_1 (0) 4).bind fun g_8 =>
   cSl (C k 43 [.agg (g_7 : List Value).toArray, .agg (g_8 : List Value).toArray, .int .i64 ((IntKind.i64.wrap x1).tmod (3 : Int)), .int .i64 6, .int .i64 ((IntKind.i64.wrap x2).tmod (2 : Int))] H_9) fun a_1 l_1 c_1 H_10 =>
   bif sameB H_10 (H_10.bump 12) i then
   (AHeap.row (H_10.bump 12) i (0) 6).bind fun g_9 =>
   bif sameB H_10 (H_10.bump 12) i_1 then
   (AHeap.row (H_10.bump 12) i_1 (0) 4).bind fun g_10 =>
   cB (C k 39 [.agg (g_9 : List Value).toArray, .agg (g_10 : List Value).toArray, .int .i64 ((IntKind.i64.wrap x1).tmod (3 : Int)), .int .i64 10, .int .i64 2] (H_10.bump 12)) fun b_3 H_11 =>
   bif sameB H_10 H_11 i then
   (AHeap.row H_11 i (0) 6).bind fun g_11 =>
   bif sameB H_10 H_11 i_1 then
   (AHeap.row H_11 i_1 (0) 4).bind fun g_12 =>
   cSl (C k 43 [.agg (g_11 : List Value).toArray, .agg (g_12 : List Value).toArray, .int .i64 ((IntKind.i64.wrap x1).tmod (3 : Int)), .int .i64 10, .int .i64 2] H_11) fun a_2 l_2 c_2 H_12 =>
   (AHeap.row H_12 i (0) 6).bind fun g_13 =>
   (AHeap.row H_12 i_1 (0) 4).bind fun g_14 =>
   cT (C k 44 [.agg (g_13 : List Value).toArray, .agg (g_14 : List Value).toArray, .int .i64 ((IntKind.i64.wrap x1).tmod (3 : Int))] H_12) fun u H_13 =>
   exSl (u.toList[0]?) fun a_3 l_3 c_3 =>
   exSl (u.toList[1]?) fun a_4 l_4 c_4 =>
   bif sameB H_13 (H_13.bump 17) i then
   (AHeap.row (H_13.bump 17) i (0) 6).bind fun g_15 =>
   bif sameB H_13 (H_13.bump 17) i_1 then
   (AHeap.row (H_13.bump 17) i_1 (0) 4).bind fun g_16 =>
   cB (C k 39 [.agg (g_15 : List Value).toArray, .agg (g_16 : List Value).toArray, .int .i64 ((IntKind.i64.wrap x1).tmod (3 : Int)), .int .i64 8, .int .i64 2] (H_13.bump 17)) fun b_4 H_14 =>
   bif sameB H_13 H_14 i then
   (AHeap.row H_14 i (0) 6).bind fun g_17 =>
   bif sameB H_13 H_14 i_1 then
   (AHeap.row H_14 i_1 (0) 4).bind fun g_18 =>
   cSl (C k 43 [.agg (g_17 : List Value).toArray, .agg (g_18 : List Value).toArray, .int .i64 ((IntKind.i64.wrap x1).tmod (3 : Int)), .int .i64 8, .int .i64 2] H_14) fun a_5 l_5 c_5 H_15 =>
   bif ((l_5 : Int) == (0 : Int)) then
   f14.K1 k i i_1 ((IntKind.i64.wrap x1).tmod (3 : Int)) ((IntKind.i64.wrap x2).tmod (3 : Int)) (b_2 == ((l_1 : Int) == (0 : Int))) (b_3 == ((l_2 : Int) == (0 : Int))) (b_4 == ((l_4 : Int) == (0 : Int))) [.slice a0 l0 c0, .int .u8 x1, .int .u8 x2, .bool false, .int .i64 ((IntKind.i64.wrap x2).tmod (2 : Int)), .slice a_3 l_3 c_3, .slice a_4 l_4 c_4, .slice a0 l0 c0, .int .i64 (l0 : Int), .bool (decide ((l0 : Int) > (100 : Int))), .agg g, .agg (g_1 : List Value).toArray, .slice a0 l0 c0, .agg g_2, .int .u8 x1, .int .i64 (IntKind.i64.wrap x1), .int .i64 ((IntKind.i64.wrap x1).tmod (3 : Int)), .agg (g_3 : List Value).toArray, .agg (g_4 : List Value).toArray, .bool b, .bool (!b), .pointer (some ⟨i_1, 3, none⟩), .slice a l c, .int .i64 ((IntKind.i64.wrap x1).tmod (3 : Int)), .pointer (some ⟨q.block, q.off + ((IntKind.i64.wrap x1).tmod (3 : Int)).toNat * 3, none⟩), .pointer (some ⟨q.block, q.off + ((IntKind.i64.wrap x1).tmod (3 : Int)).toNat * 3 + 0, none⟩), .int .i64 x, .bool (x != (2 : Int)), .int .u8 x2, .int .i64 (IntKind.i64.wrap x2), .int .i64 ((IntKind.i64.wrap x2).tmod (2 : Int)), .int .u8 x2, .int .i64 (IntKind.i64.wrap x2), .int .i64 ((IntKind.i64.wrap x2).tmod (3 : Int)), .agg (g_5 : List Value).toArray, .agg (g_6 : List Value).toArray, .int .i64 ((IntKind.i64.wrap x1).tmod (3 : Int)), .int .i64 ((IntKind.i64.wrap x2).tmod (2 : Int)), .bool b_2, .agg (g_7 : List Value).toArray, .agg (g_8 : List Value).toArray, .int .i64 ((IntKind.i64.wrap x1).tmod (3 : Int)), .int .i64 ((IntKind.i64.wrap x2).tmod (2 : Int)), .slice a_1 l_1 c_1, .int .i64 (l_1 : Int), .bool ((l_1 : Int) == (0 : Int)), .bool (b_2 == ((l_1 : Int) == (0 : Int))), .agg (g_9 : List Value).toArray, .agg (g_10 : List Value).toArray, .int .i64 ((IntKind.i64.wrap x1).tmod (3 : Int)), .bool b_3, .agg (g_11 : List Value).toArray, .agg (g_12 : List Value).toArray, .int .i64 ((IntKind.i64.wrap x1).tmod (3 : Int)), .slice a_2 l_2 c_2, .int .i64 (l_2 : Int), .bool ((l_2 : Int) == (0 : Int)), .bool (b_3 == ((l_2 : Int) == (0 : Int))), .tuple u, .agg (g_13 : List Value).toArray, .agg (g_14 : List Value).toArray, .int .i64 ((IntKind.i64.wrap x1).tmod (3 : Int)), .tuple u, .slice a_3 l_3 c_3, .slice a_4 l_4 c_4, .agg (g_15 : List Value).toArray, .agg (g_16 : List Value).toArray, .int .i64 ((IntKind.i64.wrap x1).tmod (3 : Int)), .bool b_4, .agg (g_17 : List Value).toArray, .agg (g_18 : List Value).toArray, .int .i64 ((IntKind.i64.wrap x1).tmod (3 : Int)), .slice a_5 l_5 c_5, .int .i64 (l_5 : Int), .bool ((l_5 : Int) == (0 : Int)), .bool true, .slice a_4 l_4 c_4, .int .i64 (l_4 : Int), .bool ((l_4 : Int) == (0 : Int)), .bool ((l_4 : Int) == (0 : Int)), .bool (b_4 == ((l_4 : Int) == (0 : Int)))] H_15
   else
   f14.K1 k i i_1 ((IntKind.i64.wrap x1).tmod (3 : Int)) ((IntKind.i64.wrap x2).tmod (3 : Int)) (b_2 == ((l_1 : Int) == (0 : Int))) (b_3 == ((l_2 : Int) == (0 : Int))) (b_4 == false) [.slice a0 l0 c0, .int .u8 x1, .int .u8 x2, .bool false, .int .i64 ((IntKind.i64.wrap x2).tmod (2 : Int)), .slice a_3 l_3 c_3, .slice a_4 l_4 c_4, .slice a0 l0 c0, .int .i64 (l0 : Int), .bool (decide ((l0 : Int) > (100 : Int))), .agg g, .agg (g_1 : List Value).toArray, .slice a0 l0 c0, .agg g_2, .int .u8 x1, .int .i64 (IntKind.i64.wrap x1), .int .i64 ((IntKind.i64.wrap x1).tmod (3 : Int)), .agg (g_3 : List Value).toArray, .agg (g_4 : List Value).toArray, .bool b, .bool (!b), .pointer (some ⟨i_1, 3, none⟩), .slice a l c, .int .i64 ((IntKind.i64.wrap x1).tmod (3 : Int)), .pointer (some ⟨q.block, q.off + ((IntKind.i64.wrap x1).tmod (3 : Int)).toNat * 3, none⟩), .pointer (some ⟨q.block, q.off + ((IntKind.i64.wrap x1).tmod (3 : Int)).toNat * 3 + 0, none⟩), .int .i64 x, .bool (x != (2 : Int)), .int .u8 x2, .int .i64 (IntKind.i64.wrap x2), .int .i64 ((IntKind.i64.wrap x2).tmod (2 : Int)), .int .u8 x2, .int .i64 (IntKind.i64.wrap x2), .int .i64 ((IntKind.i64.wrap x2).tmod (3 : Int)), .agg (g_5 : List Value).toArray, .agg (g_6 : List Value).toArray, .int .i64 ((IntKind.i64.wrap x1).tmod (3 : Int)), .int .i64 ((IntKind.i64.wrap x2).tmod (2 : Int)), .bool b_2, .agg (g_7 : List Value).toArray, .agg (g_8 : List Value).toArray, .int .i64 ((IntKind.i64.wrap x1).tmod (3 : Int)), .int .i64 ((IntKind.i64.wrap x2).tmod (2 : Int)), .slice a_1 l_1 c_1, .int .i64 (l_1 : Int), .bool ((l_1 : Int) == (0 : Int)), .bool (b_2 == ((l_1 : Int) == (0 : Int))), .agg (g_9 : List Value).toArray, .agg (g_10 : List Value).toArray, .int .i64 ((IntKind.i64.wrap x1).tmod (3 : Int)), .bool b_3, .agg (g_11 : List Value).toArray, .agg (g_12 : List Value).toArray, .int .i64 ((IntKind.i64.wrap x1).tmod (3 : Int)), .slice a_2 l_2 c_2, .int .i64 (l_2 : Int), .bool ((l_2 : Int) == (0 : Int)), .bool (b_3 == ((l_2 : Int) == (0 : Int))), .tuple u, .agg (g_13 : List Value).toArray, .agg (g_14 : List Value).toArray, .int .i64 ((IntKind.i64.wrap x1).tmod (3 : Int)), .tuple u, .slice a_3 l_3 c_3, .slice a_4 l_4 c_4, .agg (g_15 : List Value).toArray, .agg (g_16 : List Value).toArray, .int .i64 ((IntKind.i64.wrap x1).tmod (3 : Int)), .bool b_4, .agg (g_17 : List Value).toArray, .agg (g_18 : List Value).toArray, .int .i64 ((IntKind.i64.wrap x1).tmod (3 : Int)), .slice a_5 l_5 c_5, .int .i64 (l_5 : Int), .bool ((l_5 : Int) == (0 : Int)), .bool false, undef, undef, undef, .bool false, .bool (b_4 == false)] H_15
   else none
   else none
   else none
   else none
   else none
   else none
   else none
   else none
   else none
   else none
   else none
   else none
   else none
   else none
   else none) := by kernel_rfl

end Go.Proofs.MxF
end

section
set_option linter.unusedSimpArgs false
/- Blockers. -/
set_option linter.unusedVariables false
namespace Go.Proofs.MxF
open Go Go.Mx Go.Proofs
/-- threads that there are -/
def delW (xs : List Int) : List Int := xs.filter fun x => !(!inR x 3)
section
variable {k N : Nat} {a : Option Addr} {l c : Nat} {xs : List Int} {p e v0 : Nat} {wc : List Value} {aw : Option Addr} {cw : Nat}
theorem f82_spec (hk : 2 ≤ k) {H : AHeap} (hp : At H p ⟨wc, e, .rw, v0⟩) (hw4 : wc[4]? = some (.slice aw 3 cw)) (v : Int) : C k 82 [.int .i64 v, .pointer (some ⟨p, 0, none⟩)] H = some (.bool (!inR v 3), H) := by
  obtain ⟨k, rfl⟩ : ∃ j, k = j + 1 := ⟨k - 1, by omega⟩
  rw [f82_eq]
  exact eq_of_ok (ok_bSl (ldSl_at hp (by simp) hw4) (ok_cB0 (f70_spec (by omega) v 3 H) (Ok.ret rfl)))
theorem f86w_l1 (hw4 : wc[4]? = some (.slice aw 3 cw)) (hl : l < maxLen) (hk : 2 ≤ k) {H : AHeap} (h : Ints H a l xs) (hp : At H p ⟨wc, e, .rw, v0⟩) : ∀ (m i n : Nat) (D : List Value), i + m = l → m < n →
    delW (xs.take i) = xs.take i →
    Ok (f86x82.L1 k n a l c p (l : Int) (i : Int) D H) fun r => (r = (.int .i64 (-1), H) ∧ delW xs = xs) ∨ ∃ (j : Nat) (x : Int), r = (.int .i64 (j : Int), H) ∧ delW (xs.take j) = xs.take j ∧ xs[j]? = some x ∧ (!inR x 3) = true := by
  intro m
  induction m with
  | zero =>
    intro i n D hm hn hf
    obtain ⟨n, rfl⟩ : ∃ j, n = j + 1 := ⟨n - 1, by omega⟩
    rw [f86x82.L1_s]
    refine ok_biff (by simp only [decide_eq_false_iff_not]; omega) (Ok.ret (.inl ⟨rfl, ?_⟩))
    rw [List.take_of_length_le (by have := h.len; omega)] at hf
    exact hf
  | succ m ih =>
    intro i n D hm hn hf
    obtain ⟨n, rfl⟩ : ∃ j, n = j + 1 := ⟨n - 1, by omega⟩
    rw [f86x82.L1_s]
    obtain ⟨q, x, hx, eq, hq⟩ := Ints.at h (i := i) (by omega)
    refine ok_bift (by simp only [decide_eq_true_eq]; omega) (ok_bind eq (ok_if (by omega) (ok_bind hq ?_)))
    refine ok_cB0 (f82_spec hk hp hw4 x) (ok_bif (fun hc => Ok.ret (.inr ⟨i, x, rfl, hf, hx, hc⟩)) (fun hc => ?_))
    rw [wrapS (l := l) (by omega) (Nat.le_of_lt hl)]
    refine ih (i + 1) n _ (by omega) (by omega) ?_
    unfold delW at hf ⊢
    rw [filter_take hx, if_pos (by rw [hc]; rfl), hf, List.take_add_one, hx]
    rfl
theorem f81w_l1 (hw4 : wc[4]? = some (.slice aw 3 cw)) (hl : l < maxLen) (hk : 2 ≤ k) (hne : ∀ q, a = some q → q.block ≠ p) (hxl : xs.length = l) :
    ∀ (m j w n : Nat) (zs : List Int) (H : AHeap) (D : List Value), j + m = l → m < n → w < j → Own N 1 H a l c (ints zs) → zs.take w = delW (xs.take j) → zs.drop j = xs.drop j →
    At H p ⟨wc, e, .rw, v0⟩ →
    Ok (f81x82.L1 k n a l c p (w : Int) (j : Int) D H) fun r => ∃ l', r.1 = .slice a l' c ∧ (Own N 1 r.2 a l' c (ints (delW xs)) ∧ Keep a H r.2) := by
  intro m
  induction m with
  | zero =>
    intro j w n zs H D hm hn hw h ht hd hp
    obtain ⟨n, rfl⟩ : ∃ j, n = j + 1 := ⟨n - 1, by omega⟩
    rw [f81x82.L1_s]
    have hlen := h.len
    obtain ⟨q, hq, _⟩ := own_get h (t := 0) (x := zs[0]) (List.getElem?_eq_getElem (by omega))
    refine ok_biff (by simp only [decide_eq_false_iff_not]; omega) (ok_bSl (cutLo (by omega) h.2.1) ?_)
    obtain ⟨H', e, h1, h2⟩ := own_clear h (k := w) (by omega) hq (c - w)
    subst hq
    refine ok_bind e (ok_bSl (cutHi (by omega) h.2.1) (Ok.ret ⟨w, rfl, ?_, h2⟩))
    rw [ht, List.take_of_length_le (by omega)] at h1
    exact h1
  | succ m ih =>
    intro j w n zs H D hm hn hw h ht hd hp
    obtain ⟨n, rfl⟩ : ∃ j, n = j + 1 := ⟨n - 1, by omega⟩
    rw [f81x82.L1_s]
    have hlen := h.len
    have g1 : xs[j]? = some xs[j] := List.getElem?_eq_getElem (by omega)
    revert g1
    generalize xs[j] = x
    intro g1
    have gz : zs[j]? = some x := by
      have : (zs.drop j)[0]? = (xs.drop j)[0]? := by rw [hd]
      rw [List.getElem?_drop, List.getElem?_drop] at this
      exact this.trans g1
    have hft := filter_take (kp := fun x => !(!inR x 3)) g1
    have hd1 : zs.drop (j + 1) = xs.drop (j + 1) := by
      have := congrArg (List.drop 1) hd
      rw [List.drop_drop, List.drop_drop] at this
      exact this
    obtain ⟨q, eq, lq, _⟩ := own_get h gz
    refine ok_bift (by simp only [decide_eq_true_eq]; omega) (ok_bind eq (ok_if (by omega) (ok_bind lq (ok_cB0 (f82_spec hk hp hw4 x) ?_))))
    rw [wrapS (i := j) (l := l) (by omega) (Nat.le_of_lt hl)]
    refine ok_bif (fun hc => ?_) (fun hc => ?_)
    · refine ok_bind eq (ok_if (by omega) ?_)
      obtain ⟨s, H2, es, hwr, h2, k2, n2'⟩ := own_set h (t := w) (by omega) (.int .i64 x)
      rw [eq] at es
      cases es
      refine ok_bind hwr ?_
      rw [ints_set'] at h2
      rw [wrapS (i := w) (l := l) (by omega) (Nat.le_of_lt hl)]
      rw [if_pos hc] at hft
      have t2 : (zs.set w x).take (w + 1) = delW (xs.take (j + 1)) := by
        unfold delW at ht ⊢
        rw [hft, ← ht, List.take_add_one, List.getElem?_set_self (by omega), List.take_set, List.set_eq_of_length_le (by rw [List.length_take]; omega)]
        rfl
      have d2 : (zs.set w x).drop (j + 1) = xs.drop (j + 1) := by rw [List.drop_set_of_lt (by omega)]; exact hd1
      obtain ⟨r, er, l', r1, r2, r3⟩ := ih (j + 1) (w + 1) n (zs.set w x) H2 _ (by omega) (by omega) (by omega) h2 t2 d2 (hp.keep k2 hne)
      exact ⟨r, er, l', r1, r2, k2.trans (Orig.refl _ _) r3⟩
    · rw [if_neg (by rw [hc]; decide)] at hft
      obtain ⟨r, er, l', r1, r2, r3⟩ := ih (j + 1) w n zs H _ (by omega) (by omega) (by omega) h (by unfold delW at ht ⊢; rw [hft]; exact ht) hd1 hp
      exact ⟨r, er, l', r1, r2, r3⟩
theorem f81w_spec (hw4 : wc[4]? = some (.slice aw 3 cw)) {H : AHeap} (hl : l < maxLen) (hk : l + 10 ≤ k) (hne : ∀ q, a = some q → q.block ≠ p) (h : Own N 1 H a l c (ints xs)) (hp : At H p ⟨wc, e, .rw, v0⟩) :
    ∃ a' l' c' H', C k 81 [.slice a l c, .func (.func 82) #[] #[.pointer (some ⟨p, 0, none⟩)]] H = some (.slice a' l' c', H') ∧ (a' = a ∧ Own N 1 H' a' l' c' (ints (delW xs)) ∧ Keep a H H') := by
  obtain ⟨k, rfl⟩ : ∃ j, k = j + 1 + 1 := ⟨k - 2, by omega⟩
  have hlen := h.len
  rw [f81x82_eq, f86x82_eq]
  obtain ⟨r, er, hr⟩ := f86w_l1 hw4 (k := k) (a := a) (c := c) hl (by omega) h.ints hp l 0 k [.int .i64 0, undef, .slice a l c, undef, undef, undef, undef, undef, undef, undef, undef, undef] (by omega) (by omega) rfl
  rcases hr with ⟨rfl, hx⟩ | ⟨j, x, rfl, hj, gx, hx⟩
  · refine callsl_of_ok (ok_cI0 (n := -1) er (ok_bift rfl (Ok.ret ⟨a, l, c, rfl, rfl, ?_, (Agree.refl H).keep⟩)))
    rw [hx]; exact h
  · have hjl : j < xs.length := (List.getElem?_eq_some_iff.1 gx).1
    refine callsl_of_ok (ok_cI0 (n := (j : Int)) er (ok_biff (by simp only [beq_eq_false_iff_ne, ne_eq]; omega) ?_))
    rw [wrapS (l := l) (by omega) (Nat.le_of_lt hl)]
    have hft := filter_take (kp := fun x => !(!inR x 3)) gx
    unfold delW at hj
    rw [if_neg (by rw [hx]; decide), hj] at hft
    have key := fun D => f81w_l1 hw4 (k := k + 1) (N := N) (e := e) (v0 := v0) (c := c) hl (by omega) hne hlen.symm (l - (j + 1)) (j + 1) j (k + 1) xs H D (by omega) (by omega) (by omega) h hft.symm rfl hp
    obtain ⟨r, e, l', r1, r2, r3⟩ := key _
    exact ⟨r, e, a, l', c, r1, rfl, r2, r3⟩
end
end Go.Proofs.MxF
end

section
set_option linter.unusedSimpArgs false
/- ObjectBlocks. -/
set_option linter.unusedVariables false
namespace Go.Proofs.MxF
open Go Go.Mx Go.Proofs
/-- who stands in the way, before those are left out that are no threads -/
def rawB (s : SyncS) (th kind obj : Int) : List Int :=
  bif kind == 10 then (lkS s obj).rd ++ [(lkS s obj).own] else bif kind == 21 then (bif (obj != th && (thS s obj).st != 5) then [obj] else []) else [(lkS s obj).own]
theorem cmp_nil {zs xs : List Int} (h : zs.Perm xs) : (cmp zs).length = 0 ↔ xs = [] := by
  constructor
  · intro hc
    have hc := List.eq_nil_of_length_eq_zero hc
    cases xs with
    | nil => rfl
    | cons x xs =>
      have : x ∈ cmp zs := mem_cmp.2 (h.mem_iff.2 (by simp))
      rw [hc] at this
      cases this
  · intro hx
    subst hx
    rw [h.eq_nil]; rfl
section
variable {k N : Nat} {F G : Nat → Prop} {H0 : AHeap} {p5 p6 : Nat} {a0 : Option Addr} {l0 c0 : Nat} {a1 : Option Addr} {l1 c1 : Nat} {a2 : Option Addr} {l2 c2 : Nat} {a3 : Option Addr} {l3 c3 : Nat} {a4 : Option Addr} {l4 c4 : Nat} {a5 : Option Addr} {l5 c5 : Nat} {ks : List (ByteArray × Bool)} {ncs : List (ByteArray × Int)}
  {aL : Option Addr} {lL cL : Nat} {aD : Option Addr} {lD cD : Nat} {aT : Option Addr} {lT cT : Nat} {ls : List LkV} {s : SyncS} {th : Int}
/-- the end of Blockers -/
def Blk' (H0 : AHeap) (xs : List Int) (r : Value × AHeap) : Prop := ∃ a l c, r.1 = .slice a l c ∧ ((l = 0 ↔ delW xs = []) ∧ Agree H0 r.2)
theorem f43_K3 (hk : 100 ≤ k) {H : AHeap} {a : Option Addr} {l c e v : Nat} {xs : List Int} {wc : List Value} {aw : Option Addr} {cw : Nat} {D : List Value} (A : Agree H0 H) (h : Own H0.next 1 H a l c (ints xs)) (hl : l ≤ 12) (bp : At H p5 ⟨wc, e, .rw, v⟩) (hw4 : wc[4]? = some (.slice aw 3 cw)) (hne : ∀ q, a = some q → q.block ≠ p5) :
    Ok (f43.K3 k p5 a l c D H) (Blk' H0 xs) := by
  rw [f43.K3_eq]
  have hm : maxLen = 9223372036854775807 := rfl
  have hlen := h.len
  refine ok_cSl (f81w_spec hw4 (by omega) (by omega) hne h bp) fun a' l' c' H1 hp => ?_
  obtain ⟨rfl, o1, k1⟩ := hp
  have hl' := o1.len
  have hle : (delW xs).length ≤ xs.length := List.length_filter_le _ _
  refine ok_cT1 (f83_short (by omega) (by omega) o1) fun H2 hp => ?_
  obtain ⟨⟨zs, o2, s2, p2⟩, k2⟩ := hp
  refine ok_cSl (f84_spec (by omega) (by omega) o2) fun a3 l3 c3 H3 hp => ?_
  obtain ⟨rfl, o3, k3⟩ := hp
  have ho := h.block
  refine Ok.ret ⟨_, _, _, rfl, ?_, k3.agree (k2.agree (k1.agree A ho) ho) ho⟩
  rw [o3.len]
  exact cmp_nil p2
/-- Blockers, of an event that is named -/
theorem f43_spec (hk : 1300 ≤ k) {H : AHeap} (hF : ∀ i, H.next ≤ i → H.get i = none) {wc sc : List Value} (hw : WorldR F H wc w0) (hs : SyncR G H sc s) (hI : InvS s) (hth : inR th 3 = true) {kind obj : Int} (hkd : kind = 6 ∨ kind = 8 ∨ kind = 10 ∨ kind = 21) (hn : namedS w0 kind obj = true) :
    ∃ a l c H', C k 43 [.agg wc.toArray, .agg sc.toArray, .int .i64 th, .int .i64 kind, .int .i64 obj] H = some (.slice a l c, H') ∧ ((l = 0 ↔ delW (rawB s th kind obj) = []) ∧ Agree H H') := by
  obtain ⟨k, rfl⟩ : ∃ j, k = j + 1 := ⟨k - 1, by omega⟩
  have hw0 := hw
  have hs0 := hs
  obtain ⟨a0, l0, c0, a1, l1, c1, a2, l2, c2, a3, l3, c3, a4, l4, c4, a5, l5, c5, ks, ncs, rfl, hw⟩ := hw
  obtain ⟨aL, lL, cL, aD, lD, cD, aT, lT, cT, ls, rfl, hs⟩ := hs
  rw [f43_eq]
  refine callsl_of_ok (ok_al fun i H1 hi n1 A1 B1 => ok_al fun i' H2 hi' n2 A2 B2 => ?_)
  have A02 := A1.trans A2
  have h4 : l4 = 3 := hw.t
  subst h4
  refine ok_bind (row_at (B1.agree A2) (by simp) (by simp)) (ok_bind (row_at B2 (by simp) (by simp)) ?_)
  refine ok_cB (f65_spec (by omega) (hw0.agree A02) (hs0.agree A02)) fun H3 A3 => ok_biff (by rw [hI.fits]; rfl) ?_
  have A03 := A02.trans A3
  have B13 := (B1.agree A2).agree A3
  refine ok_bSl (ldSl_at B13 (by simp) rfl) (ok_cB0 (f70_spec (by omega) _ _ _) (ok_biff (by rw [hth]; rfl) (ok_bind (row_at B13 (by simp) (by simp)) ?_)))
  refine ok_cB (f71_spec (by omega) (hw0.agree A03) kind obj) fun H4 A4 => ok_biff (by rw [hn]; rfl) ?_
  have A04 := A03.trans A4
  have B1' := B13.agree A4
  have B2' := (B2.agree A3).agree A4
  have hP := hs.agree A04
  have lL' := hs.lenL'
  have lT' := hs.lenT
  have h3l := hI.nl
  have h3t := hI.nt
  have n4 := (A2.trans (A3.trans A4)).next
  have n4' := ((A3.trans A4)).next
  have F4 := A04.fresh hF
  have w4 : ([.slice a0 l0 c0, .slice a1 l1 c1, .slice a2 l2 c2, .slice a3 l3 c3, .slice a4 3 c4, .slice a5 l5 c5] : List Value)[4]? = some (.slice a4 3 c4) := rfl
  rw [f43.K1_eq]
  rcases hkd with rfl | rfl | rfl | rfl
  · have ho : inR obj lL = true := by rw [lL', h3l]; exact (named_lk hn (.inl rfl)).1
    obtain ⟨q, eq, hq⟩ := hP.lkOwn ho
    refine ok_bift rfl ?_
    rw [f43.K2_eq]
    refine ok_bift rfl (ok_bSl (ldSl_at B2' (by simp) rfl) (ok_bind eq (ok_if (inR_iff.1 ho) (ok_bind hq (ok_al fun j H5 hj n5 A5 B5 => ?_)))))
    exact f43_K3 (by omega) (A04.trans A5) (own_block B5 (by have := A04.next; omega) rfl) (by omega) (B1'.agree A5) w4 (fun q e => by cases e; show j ≠ i; omega)
  · have ho : inR obj lL = true := by rw [lL', h3l, named_rw hn (.inl rfl)]; rfl
    obtain ⟨q, eq, hq⟩ := hP.lkOwn ho
    refine ok_biff rfl ?_
    rw [f43.K2_eq]
    refine ok_bift rfl (ok_bSl (ldSl_at B2' (by simp) rfl) (ok_bind eq (ok_if (inR_iff.1 ho) (ok_bind hq (ok_al fun j H5 hj n5 A5 B5 => ?_)))))
    exact f43_K3 (by omega) (A04.trans A5) (own_block B5 (by have := A04.next; omega) rfl) (by omega) (B1'.agree A5) w4 (fun q e => by cases e; show j ≠ i; omega)
  · have ho3 : inR obj 3 = true := by rw [named_rw hn (.inr (.inr (.inl rfl)))]; rfl
    have ho : inR obj lL = true := by rw [lL', h3l]; exact ho3
    have ro := inR_iff.1 ho
    have Ab := agree_bump H4 16
    obtain ⟨q, a, l, c, eq, hq, ix⟩ := (hP.agree Ab).lkRd ho
    have hrd := Ints.len ix.1
    have hr3 : (lkS s obj).rd.length ≤ 3 := by
      have := strict_len' (hI.lk obj ho3).str (xs := [0, 1, 2]) (fun v hv => by have := inR_iff.1 ((hI.lk obj ho3).mem v hv); simp; omega)
      exact this
    have st := hP.L.1.stay eq
    refine ok_biff rfl ?_
    rw [f43.K2_eq]
    refine ok_biff rfl (ok_biff rfl (ok_bift rfl (ok_bift (sameB_agree B2' Ab) (ok_bSl (ldSl_at (B2'.agree Ab) (by simp) rfl) (ok_bind eq (ok_if ro (ok_bift (st _ Ab) (ok_bSl hq ?_))))))))
    refine ok_cSl (f80_spec (by omega) (by omega) ix.1) fun a' l' c' H5 hp => ?_
    obtain ⟨rfl, o5, A5⟩ := hp
    have A45 := Ab.trans A5
    obtain ⟨q2, eq2, hq2⟩ := (hP.agree A45).lkOwn ho
    rw [eq] at eq2
    cases eq2
    refine ok_bift (sameB_agree B2' A45) (ok_bSl (ldSl_at (B2'.agree A45) (by simp) rfl) (ok_bind eq (ok_if ro (ok_bift (st _ A45) (ok_bind hq2 ?_)))))
    have f13 : Free (H4.bump 16) (H4.next + 13) := free_bump F4 (by omega)
    refine ok_als A45 (f13.agree A5) (by omega) fun H6 n6 A6 B6 S6 G6 => ?_
    have nb : (H4.bump 16).next = H4.next + 16 := rfl
    have nn5 := A5.next
    have o6 : Own H.next 1 H6 a' _ c' _ := (o5.sub S6).lower (by have := A04.next; omega)
    have ob := o5.block
    refine ok_cSl (app_own (by decide) (app26' _ _ _ _ _ _ _) o6 (cs' := ints [(lkS s obj).own]) ⟨rfl, .inr ⟨H4.next + 13, 0, none, _, rfl, B6, by simp, by simp, by simp [ints]⟩⟩ (by have := A04.next; omega) (by omega) (by omega)) fun a7 l7 c7 H7 hp => ?_
    obtain ⟨rfl, o7, k7, or7⟩ := hp
    rw [ints_app] at o7
    have A7 : Agree H H7 := k7.agree (A04.trans A6) (fun q e => by have := ob q e; have := A04.next; omega)
    refine f43_K3 (xs := (lkS s obj).rd ++ [(lkS s obj).own]) (by omega) A7 o7 (by omega) ((B1'.agree A6).keep k7 (fun q e => by have := ob q e; omega)) w4 (fun q e => ?_)
    rcases or7 q e with ⟨q', e1, e2⟩ | h1
    · have := ob q' e1; omega
    · omega
  · have ho : inR obj lT = true := by
      have h' : inR obj 3 = true := hn
      rw [lT', h3t]; exact h'
    have ro := inR_iff.1 ho
    obtain ⟨q, eq, hq⟩ := hP.thSt ho
    refine ok_biff rfl ?_
    rw [f43.K2_eq]
    have none' : ∀ D, (obj != th && (thS s obj).st != 5) = false → Ok (f43.K3 k i none 0 0 D H4) (Blk' H (rawB s th 21 obj)) := by
      intro D hc
      have : rawB s th 21 obj = [] := by
        show (bif (obj != th && (thS s obj).st != 5) then [obj] else []) = []
        rw [hc]; rfl
      rw [this]
      exact f43_K3 (by omega) A04 (Own.nil _ _ _) (by omega) B1' w4 (fun q e => by cases e)
    refine ok_biff rfl (ok_biff rfl (ok_biff rfl (ok_bift rfl (ok_bif (fun h1 => ?_) (fun h1 => none' _ (by rw [h1]; rfl))))))
    refine ok_bSl (ldSl_at B2' (by simp) rfl) (ok_bind eq (ok_if ro (ok_bind hq (ok_bif (fun h2 => ?_) (fun h2 => none' _ (by rw [h1, h2]; rfl))))))
    refine ok_al fun j H5 hj n5 A5 B5 => ?_
    have : rawB s th 21 obj = [obj] := by
      show (bif (obj != th && (thS s obj).st != 5) then [obj] else []) = [obj]
      rw [h1, h2]; rfl
    rw [this]
    exact f43_K3 (by omega) (A04.trans A5) (own_block B5 (by have := A04.next; omega) rfl) (by omega) (B1'.agree A5) w4 (fun q e => by cases e; show j ≠ i; omega)
end
end Go.Proofs.MxF
end

section
set_option linter.unusedSimpArgs false
/- ObjectBlocks. -/
set_option linter.unusedVariables false
namespace Go.Proofs.MxF
open Go Go.Mx Go.Proofs
theorem eq_zero {b : Bool} {l : Nat} (h : b = true ↔ l = 0) : (b == ((l : Int) == 0)) = true := by
  cases b
  · have : l ≠ 0 := fun e => by have := h.2 e; cases this
    rw [show ((l : Int) == 0) = false from by rw [beq_eq_false_iff_ne]; omega]; rfl
  · rw [h.1 rfl]; rfl
theorem delW_nil {xs : List Int} : delW xs = [] ↔ ∀ x ∈ xs, inR x 3 = false := by
  unfold delW
  rw [List.filter_eq_nil_iff]
  constructor
  · intro h x hx
    have := h x hx
    simpa using this
  · intro h x hx
    rw [h x hx]; decide
theorem own_free {s : SyncS} (h : InvS s) {i : Int} (hi : inR i 3 = true) : inR (lkS s i).own 3 = false ↔ (lkS s i).own = -1 := by
  have hl := h.lk i hi
  have h1 := hl.lo
  have h2 := hl.hi
  rw [inR_f]
  omega
section
variable {s : SyncS} {th : Int}
theorem blocks_lock (h : InvS s) (hth : inR th 3 = true) (hst : (thS s th).st = 2) {m : Int} (hm : m = 0 ∨ m = 1) : namedS w0 6 m = true ∧ (enabledS w0 s th 6 m = true ↔ delW (rawB s th 6 m) = []) := by
  have hn : namedS w0 6 m = true := by rcases hm with rfl | rfl <;> rfl
  have hin : inR m 3 = true := by rcases hm with rfl | rfl <;> rfl
  refine ⟨hn, ?_⟩
  rw [en_iff h rfl rfl, delW_nil]
  have hr : runningS w0 s th 6 m = ((lkS s m).own == -1) := rfl
  have hb : rawB s th 6 m = [(lkS s m).own] := rfl
  rw [hr, hb, beq_iff_eq, ← own_free h hin]
  constructor
  · rintro ⟨_, _, _, h4⟩ x hx
    rw [List.mem_singleton] at hx
    rw [hx]; exact h4
  · intro hx
    exact ⟨hth, hn, hst, hx _ (by simp)⟩
theorem blocks_write (h : InvS s) (hth : inR th 3 = true) (hst : (thS s th).st = 2) : namedS w0 10 2 = true ∧ (enabledS w0 s th 10 2 = true ↔ delW (rawB s th 10 2) = []) := by
  have hn : namedS w0 10 2 = true := rfl
  refine ⟨hn, ?_⟩
  rw [en_iff h rfl rfl, delW_nil]
  have hr : runningS w0 s th 10 2 = (((lkS s 2).own == -1) && (((lkS s 2).rd.length : Int) == 0)) := rfl
  have hb : rawB s th 10 2 = (lkS s 2).rd ++ [(lkS s 2).own] := rfl
  rw [hr, hb, Bool.and_eq_true, beq_iff_eq, beq_iff_eq, ← own_free h (by decide)]
  have hl := h.lk 2 (by decide)
  constructor
  · rintro ⟨_, _, _, h4, h5⟩ x hx
    rw [List.mem_append, List.mem_singleton] at hx
    rcases hx with hx | hx
    · have := List.length_pos_of_mem hx
      omega
    · rw [hx]; exact h4
  · intro hx
    refine ⟨hth, hn, hst, hx _ (by simp), ?_⟩
    cases hrd : (lkS s 2).rd with
    | nil => rfl
    | cons x xs =>
      have hm : x ∈ (lkS s 2).rd := by rw [hrd]; simp
      have := hx x (List.mem_append.2 (.inl hm))
      rw [hl.mem x hm] at this
      cases this
theorem rdL_zero (h : InvS s) (t : Int) : (rdL s t).length = 0 ↔ hasI (lkS s 2).rd t = false := by
  have hl := h.nl
  have e0 := (h.lk 0 (by decide)).norw (by decide)
  have e1 := (h.lk 1 (by decide)).norw (by decide)
  unfold rdL
  unfold lkS at e0 e1 ⊢
  match hh : s.locks, hl with
  | [x0, x1, x2], _ =>
    rw [hh] at e0 e1
    have e0 : x0.rd = [] := e0
    have e1 : x1.rd = [] := e1
    rw [pickF_cons, pickF_cons, pickF_cons, e0, e1]
    show (([] : List Int) ++ ([] ++ ((if hasI x2.rd t = true then [((0 + 1 + 1 : Nat) : Int)] else []) ++ []))).length = 0 ↔ hasI x2.rd t = false
    cases hasI x2.rd t <;> simp
theorem blocks_read (h : InvS s) (hth : inR th 3 = true) (hst : (thS s th).st = 2) : namedS w0 8 2 = true ∧ (enabledS w0 s th 8 2 = true ↔ delW (rawB s th 8 2) = [] ∧ (rdL s th).length = 0) := by
  have hn : namedS w0 8 2 = true := rfl
  refine ⟨hn, ?_⟩
  rw [en_iff h rfl rfl, delW_nil, rdL_zero h]
  have hr : runningS w0 s th 8 2 = (((lkS s 2).own == -1) && !hasI (lkS s 2).rd th) := rfl
  have hb : rawB s th 8 2 = [(lkS s 2).own] := rfl
  rw [hr, hb, Bool.and_eq_true, beq_iff_eq, ← own_free h (by decide)]
  constructor
  · rintro ⟨_, _, _, h4, h5⟩
    refine ⟨fun x hx => ?_, by simpa using h5⟩
    rw [List.mem_singleton] at hx
    rw [hx]; exact h4
  · rintro ⟨hx, h5⟩
    exact ⟨hth, hn, hst, hx _ (by simp), by rw [h5]; rfl⟩
theorem blocks_join (h : InvS s) (hth : inR th 3 = true) (hst : (thS s th).st = 2) {u : Int} (hu : inR u 3 = true) (hne : u ≠ th) : namedS w0 21 u = true ∧ (enabledS w0 s th 21 u = true ↔ delW (rawB s th 21 u) = []) := by
  have hn : namedS w0 21 u = true := hu
  refine ⟨hn, ?_⟩
  rw [en_iff h rfl rfl, delW_nil]
  have hr : runningS w0 s th 21 u = ((u != th) && ((thS s u).st == 5)) := rfl
  have hb : rawB s th 21 u = bif (u != th && (thS s u).st != 5) then [u] else [] := rfl
  have hne' : (u != th) = true := by simpa using hne
  rw [hr, hb, hne', Bool.true_and, Bool.true_and]
  cases hs : ((thS s u).st == 5)
  · have e : ((thS s u).st != 5) = true := by rw [bne, hs]; rfl
    rw [e]
    constructor
    · rintro ⟨_, _, _, h4⟩
      cases h4
    · intro hx
      have := hx u (by simp)
      rw [hu] at this
      cases this
  · have e : ((thS s u).st != 5) = false := by rw [bne, hs]; rfl
    rw [e]
    exact ⟨fun _ x hx => (by cases hx), fun _ => ⟨hth, hn, hst, rfl⟩⟩
end
/-- Enabled and Blockers, in a region -/
theorem ok_pair {k : Nat} {R : Type} {Q : R → Prop} (hk : 1400 ≤ k) {H : AHeap} (n : Nat) (hF : ∀ i, H.next ≤ i → H.get i = none) {F G : Nat → Prop} {wc cs : List Value} {s : SyncS} {p q ep vp eq vq : Nat} (hw : WorldR F H wc w0) (hs : SyncR G H cs s) (hI : InvS s) (bp : At H p ⟨wc, ep, .rw, vp⟩) (bq : At H q ⟨cs, eq, .rw, vq⟩)
    {th kd ob : Int} (hth : inR th 3 = true) (hkd : kd = 6 ∨ kd = 8 ∨ kd = 10 ∨ kd = 21) (hn : namedS w0 kd ob = true) {K : List Value → List Value → Bool → List Value → List Value → Option Addr → Nat → Nat → AHeap → Option R}
    (c : ∀ a l c H', (l = 0 ↔ delW (rawB s th kd ob) = []) → Agree H H' → Ok (K wc cs (enabledS w0 s th kd ob) wc cs a l c H') Q) :
    Ok (bif sameB H (H.bump n) p then (AHeap.row (H.bump n) p 0 6).bind fun g => bif sameB H (H.bump n) q then (AHeap.row (H.bump n) q 0 4).bind fun g1 =>
      cB (C k 39 [.agg (g : List Value).toArray, .agg (g1 : List Value).toArray, .int .i64 th, .int .i64 kd, .int .i64 ob] (H.bump n)) fun b H1 =>
      bif sameB H H1 p then (AHeap.row H1 p 0 6).bind fun g2 => bif sameB H H1 q then (AHeap.row H1 q 0 4).bind fun g3 =>
      cSl (C k 43 [.agg (g2 : List Value).toArray, .agg (g3 : List Value).toArray, .int .i64 th, .int .i64 kd, .int .i64 ob] H1) fun a l c H2 => K g g1 b g2 g3 a l c H2 else none else none else none else none) Q := by
  obtain ⟨hwl, hwn⟩ := hw.len
  obtain ⟨hcl, hcn⟩ := hs.len
  have Ab := agree_bump H n
  refine ok_bift (sameB_agree bp Ab) (ok_bind (box_row (bp.agree Ab) hwl) (ok_bift (sameB_agree bq Ab) (ok_bind (box_row (bq.agree Ab) hcl) ?_)))
  refine ok_cB (f39_spec (by omega) (hw.agree Ab) (hs.agree Ab) (inv_small hI).2.2.2 th kd ob) fun H1 A1 => ?_
  have A := Ab.trans A1
  refine ok_bift (sameB_agree bp A) (ok_bind (box_row (bp.agree A) hwl) (ok_bift (sameB_agree bq A) (ok_bind (box_row (bq.agree A) hcl) ?_)))
  refine ok_cSl (f43_spec (by omega) (A.fresh hF) (hw.agree A) (hs.agree A) hI hth hkd hn) fun a l c' H2 hp => ?_
  exact c a l c' H2 hp.1 (A.trans hp.2)
theorem f14_K2 {k : Nat} (hk : 1 ≤ k) {H : AHeap} {b12 b13 b16 b17 : Bool} (h1 : b12 = true) (h2 : b13 = true) (h3 : b16 = true) (h4 : b17 = true) (D : List Value) : Ok (f14.K2 k b12 b13 b16 b17 D H) fun r => r.1 = .bool true ∧ True := by
  rw [f14.K2_eq]
  exact ok_bift h1 (ok_bift h2 (ok_bift h3 (ok_bift h4 (ok_cB0 (awake35 hk H) (Ok.ret ⟨rfl, trivial⟩)))))
theorem f14_K1 {k : Nat} (hk : 1400 ≤ k) {H : AHeap} (hF : ∀ i, H.next ≤ i → H.get i = none) {F G : Nat → Prop} {wc cs : List Value} {s : SyncS} {p q ep vp eq vq : Nat} (hw : WorldR F H wc w0) (hs : SyncR G H cs s) (hI : InvS s) (bp : At H p ⟨wc, ep, .rw, vp⟩) (bq : At H q ⟨cs, eq, .rw, vq⟩)
    {th u : Int} (hth : inR th 3 = true) (hu : inR u 3 = true) (hst : (thS s th).st = 2) {b12 b13 b16 : Bool} (h1 : b12 = true) (h2 : b13 = true) (h3 : b16 = true) (D : List Value) : Ok (f14.K1 k p q th u b12 b13 b16 D H) fun r => r.1 = .bool true ∧ True := by
  rw [f14.K1_eq]
  refine ok_bif (fun _ => f14_K2 (by omega) h1 h2 h3 rfl _) (fun hne => ?_)
  obtain ⟨hn, hb⟩ := blocks_join hI hth hst hu (by simpa using hne)
  exact ok_pair hk 19 hF hw hs hI bp bq hth (by omega) hn fun a l c H' hl A => f14_K2 (by omega) h1 h2 h3 (eq_zero (hb.trans hl.symm)) _
theorem f14_any {H : AHeap} (hF : ∀ i, H.next ≤ i → H.get i = none) {a : Option Addr} {l c : Nat} {es : List Value} (hes : Cells H a (l * 4) es) (hev : Evs es l) {x1 x2 : Int} (h1 : 0 ≤ x1 ∧ x1 ≤ 255) (h2 : 0 ≤ x2 ∧ x2 ≤ 255) :
    ∃ k H', C k 14 [.slice a l c, .int .u8 x1, .int .u8 x2] H = some (.bool true, H') := by
  have hk : ∀ k, 3000 ≤ k → ∃ H', C (k + 1) 14 [.slice a l c, .int .u8 x1, .int .u8 x2] H = some (.bool true, H') ∧ True := by
    intro k hk
    rw [f14_eq]
    refine call_of_ok (P := fun _ => True) (ok_bif (fun _ => Ok.ret ⟨rfl, trivial⟩) (fun hl => ?_))
    rw [decide_eq_false_iff_not] at hl
    refine ok_reach (by omega) hF hes hev (by omega) fun wc cs p q H1 s hw hs hI bp bq A1 np nq => ?_
    obtain ⟨hwl, hwn⟩ := hw.len
    obtain ⟨hcl, hcn⟩ := hs.len
    have F1 := A1.fresh hF
    rw [wrap_u8 h1.1 h1.2, wrap_u8 h2.1 h2.2]
    have t1 : inR (x1.tmod 3) 3 = true := by rw [Int.tmod_eq_emod_of_nonneg h1.1, inR_iff]; omega
    have t2 : inR (x2.tmod 3) 3 = true := by rw [Int.tmod_eq_emod_of_nonneg h2.1, inR_iff]; omega
    have t3 : x2.tmod 2 = 0 ∨ x2.tmod 2 = 1 := by rw [Int.tmod_eq_emod_of_nonneg h2.1]; omega
    revert t1 t2 t3
    generalize x1.tmod 3 = th
    generalize x2.tmod 3 = u
    generalize x2.tmod 2 = m
    intro t1 t2 t3
    refine ok_bind (box_row bp hwl) (ok_bind (box_row bq hcl) ?_)
    refine ok_cB (f42_spec (by omega) hw hs hI) fun H7 A7 => ok_biff rfl ?_
    have F7 := A7.fresh F1
    replace hw := hw.agree A7
    replace hs := hs.agree A7
    replace bp := bp.agree A7
    replace bq := bq.agree A7
    have hst : ∃ a c q', ldSl H7 q 3 = some (a, 3, c) ∧ a = some q' ∧ ldI .i64 H7 q'.block (q'.off + th.toNat * 3 + 0) = some (thS s th).st := by
      obtain ⟨aL, lL, cL, aD, lD, cD, aT, lT, cT, ls, rfl, h⟩ := hs
      have hl : lT = 3 := by have := h.lenT; have := hI.nt; omega
      subst hl
      obtain ⟨q', e, hq⟩ := h.thSt (i := th) t1
      exact ⟨aT, cT, q', ldSl_at bq (by simp) rfl, e, hq⟩
    obtain ⟨aT, cT, q', g1, g2, g3⟩ := hst
    refine ok_bSl g1 (ok_bind g2 (ok_if (inR_iff.1 t1) (ok_bind g3 (ok_bif (fun _ => ok_cB0 (awake35 (by omega) H7) (Ok.ret ⟨rfl, trivial⟩)) (fun hrun => ?_)))))
    have hrun : (thS s th).st = 2 := by simpa using hrun
    obtain ⟨n1, e1⟩ := blocks_lock hI t1 hrun t3
    obtain ⟨n2, e2⟩ := blocks_write hI t1 hrun
    obtain ⟨n3, e3⟩ := blocks_read hI t1 hrun
    refine ok_pair (by omega) 14 F7 hw hs hI bp bq t1 (.inl rfl) n1 fun aa la ca Ha hla Aa => ?_
    replace hw := hw.agree Aa
    replace hs := hs.agree Aa
    replace bp := bp.agree Aa
    replace bq := bq.agree Aa
    have Fa := Aa.fresh F7
    refine ok_pair (by omega) 12 Fa hw hs hI bp bq t1 (.inr (.inr (.inl rfl))) n2 fun ab lb cb Hb hlb Ab => ?_
    replace hw := hw.agree Ab
    replace hs := hs.agree Ab
    replace bp := bp.agree Ab
    replace bq := bq.agree Ab
    have Fb := Ab.fresh Fa
    refine ok_bind (box_row bp hwl) (ok_bind (box_row bq hcl) ?_)
    refine ok_cTs (f44_spec (by omega) hw hs hI.fits (inv_small hI).2.2.2 t1) fun w Hc hp => ?_
    obtain ⟨a3, l3, c3, a4, l4, c4, hv, hl3, hl4, Ac⟩ := hp
    replace Ac : Agree Hb Hc := Ac
    refine ⟨[.slice a3 l3 c3, .slice a4 l4 c4], hv, ok_exSl rfl (ok_exSl rfl ?_)⟩
    replace hw := hw.agree Ac
    replace hs := hs.agree Ac
    replace bp := bp.agree Ac
    replace bq := bq.agree Ac
    have Fc := Ac.fresh Fb
    refine ok_pair (by omega) 17 Fc hw hs hI bp bq t1 (.inr (.inl rfl)) n3 fun ad ld cd Hd hld Ad => ?_
    have q1 := eq_zero (e1.trans hla.symm)
    have q2 := eq_zero (e2.trans hlb.symm)
    rw [← hl4, ← hld] at e3
    refine ok_bif (fun hz => ?_) (fun hz => ?_)
    · have hz : ld = 0 := by have := beq_iff_eq.1 hz; omega
      have q3 := eq_zero (l := l4) (e3.trans ⟨fun h => h.2, fun h => ⟨hz, h⟩⟩)
      exact f14_K1 (by omega) (Ad.fresh Fc) (hw.agree Ad) (hs.agree Ad) hI (bp.agree Ad) (bq.agree Ad) t1 t2 hrun q1 q2 q3 _
    · have hz : ld ≠ 0 := by intro e; rw [e] at hz; cases hz
      have q3 : (enabledS w0 s th 8 2 == false) = true := by
        cases he : enabledS w0 s th 8 2
        · rfl
        · exact absurd (e3.1 he).1 hz
      exact f14_K1 (by omega) (Ad.fresh Fc) (hw.agree Ad) (hs.agree Ad) hI (bp.agree Ad) (bq.agree Ad) t1 t2 hrun q1 q2 q3 _
  obtain ⟨H', e, _⟩ := hk 3000 (Nat.le_refl _)
  exact ⟨_, H', e⟩
theorem objectBlocks_ok (n : Nat) : LawOk awk Try.prog 14 (n + 1 + 1 + 1) [67, 5, 5] := by
  intro H vs hF hA
  obtain ⟨v0, _, rfl, h0, hA⟩ := argsV_cons hA
  obtain ⟨v1, _, rfl, h1, hA⟩ := argsV_cons hA
  obtain ⟨v2, _, rfl, h2, hA⟩ := argsV_cons hA
  obtain rfl := argsV_nil hA
  obtain ⟨a, l, c, es, rfl, hes, hev⟩ := arg_events hF h0
  obtain ⟨x1, rfl, g1⟩ := arg_u8 h1
  obtain ⟨x2, rfl, g2⟩ := arg_u8 h2
  exact f14_any hF hes hev g1 g2
end Go.Proofs.MxF
end
