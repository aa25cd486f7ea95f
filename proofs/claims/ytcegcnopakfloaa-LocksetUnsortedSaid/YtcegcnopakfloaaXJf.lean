/- Texts of this claim, laid together: Sq5 Sq6 Q5 Sq3 Q6 Q7. -/
import Derived.Test.YtcegcnopakfloaaXJc
import Derived.Test.YtcegcnopakfloaaXJe
section
set_option linter.unusedSimpArgs false
/- Functions of the program as the machine comes to them: printed by a program of this workplace (px.py); the kernel checks each line. -/
set_option linter.unusedVariables false
namespace Go.Proofs.MxF
open Go Go.Mx Go.Proofs

/- f105 "slices.partitionEqualOrdered[int]"  names:  -/
noncomputable def f105.Q0 (k : Nat)  : Kont (Value × AHeap) := retQ Try.prog Try.f105
noncomputable def f105.Q1 (k : Nat)  : Kont (Value × AHeap) := seqQ (gateC (Sub (bodyOf Try.f105) [1, 1, 1, 0]) (Sub (bodyOf Try.f105) [1, 1, 1, 1]) k (run Try.prog (C k) k (Sub (bodyOf Try.f105) [1, 1, 1, 1]) (f105.Q0 k ))) (f105.Q0 k )
noncomputable def f105.Q2 (k : Nat)  : Kont (Value × AHeap) := blkQ 0 (f105.Q1 k )
noncomputable def f105.Q3 (k : Nat) (n1 : Nat) : Kont (Value × AHeap) := seqQ (iter (run Try.prog (C k) k (Sub (bodyOf Try.f105) [1, 1, 1, 0, 0, 0])) (f105.Q2 k ) n1) (f105.Q2 k )
noncomputable def f105.Q4 (k : Nat) (n1 : Nat) : Kont (Value × AHeap) := blkQ 1 (f105.Q3 k n1)
noncomputable def f105.Q5 (k : Nat) (n1 : Nat) : Kont (Value × AHeap) := seqQ (gateC (Sub (bodyOf Try.f105) [1, 1, 1, 0, 0, 0, 0, 0]) (Sub (bodyOf Try.f105) [1, 1, 1, 0, 0, 0, 0, 1]) k (run Try.prog (C k) k (Sub (bodyOf Try.f105) [1, 1, 1, 0, 0, 0, 0, 1]) (f105.Q4 k n1))) (f105.Q4 k n1)
noncomputable def f105.Q6 (k : Nat) (n1 : Nat) : Kont (Value × AHeap) := blkQ 2 (f105.Q5 k n1)
noncomputable def f105.Q7 (k : Nat) (n1 : Nat) : Kont (Value × AHeap) := seqQ (gateC (Sub (bodyOf Try.f105) [1, 1, 1, 0, 0, 0, 0, 1, 0]) (Sub (bodyOf Try.f105) [1, 1, 1, 0, 0, 0, 0, 1, 1]) k (run Try.prog (C k) k (Sub (bodyOf Try.f105) [1, 1, 1, 0, 0, 0, 0, 1, 1]) (f105.Q4 k n1))) (f105.Q4 k n1)
noncomputable def f105.Q8 (k : Nat) (n1 : Nat) : Kont (Value × AHeap) := blkQ 4 (f105.Q7 k n1)
noncomputable def f105.Q9 (k : Nat) (n1 : Nat) (n2 : Nat) : Kont (Value × AHeap) := seqQ (iter (run Try.prog (C k) k (Sub (bodyOf Try.f105) [1, 1, 1, 0, 0, 0, 0, 1, 0, 0, 0])) (f105.Q8 k n1) n2) (f105.Q8 k n1)
noncomputable def f105.L1 (k : Nat) (n1 : Nat) (a0 : Option Addr) (l0 : Nat) (c0 : Nat) (x1 : Int) (x9 : Int) (x10 : Int) (D : List Value) (H : AHeap) : Option (Value × AHeap) :=
  iter (run Try.prog (C k) k (Sub (bodyOf Try.f105) [1, 1, 1, 0, 0, 0])) (f105.Q2 k ) n1 [.slice a0 l0 c0, .int .i64 x1, (D.getD 0 undef), (D.getD 1 undef), undef, undef, undef, undef, (D.getD 2 undef), .int .i64 x9, .int .i64 x10, (D.getD 3 undef), (D.getD 4 undef), (D.getD 5 undef), (D.getD 6 undef), (D.getD 7 undef), (D.getD 8 undef), (D.getD 9 undef), (D.getD 10 undef), (D.getD 11 undef), (D.getD 12 undef), (D.getD 13 undef), (D.getD 14 undef), (D.getD 15 undef), (D.getD 16 undef), (D.getD 17 undef), (D.getD 18 undef), (D.getD 19 undef), (D.getD 20 undef), (D.getD 21 undef), (D.getD 22 undef), (D.getD 23 undef), (D.getD 24 undef), (D.getD 25 undef), (D.getD 26 undef), (D.getD 27 undef), (D.getD 28 undef), (D.getD 29 undef), (D.getD 30 undef), (D.getD 31 undef), (D.getD 32 undef), (D.getD 33 undef), (D.getD 34 undef), (D.getD 35 undef), (D.getD 36 undef), (D.getD 37 undef), (D.getD 38 undef), (D.getD 39 undef), (D.getD 40 undef), (D.getD 41 undef), (D.getD 42 undef), (D.getD 43 undef), (D.getD 44 undef), (D.getD 45 undef), (D.getD 46 undef), (D.getD 47 undef), (D.getD 48 undef), (D.getD 49 undef), (D.getD 50 undef), (D.getD 51 undef), (D.getD 52 undef), (D.getD 53 undef), (D.getD 54 undef), (D.getD 55 undef), (D.getD 56 undef), (D.getD 57 undef), (D.getD 58 undef), (D.getD 59 undef), (D.getD 60 undef), (D.getD 61 undef), (D.getD 62 undef), (D.getD 63 undef), (D.getD 64 undef), (D.getD 65 undef), (D.getD 66 undef), (D.getD 67 undef), (D.getD 68 undef), (D.getD 69 undef), (D.getD 70 undef), (D.getD 71 undef), (D.getD 72 undef), (D.getD 73 undef), (D.getD 74 undef), undef] H
noncomputable def f105.L2 (k : Nat) (n1 : Nat) (n2 : Nat) (a0 : Option Addr) (l0 : Nat) (c0 : Nat) (x1 : Int) (x9 : Int) (x10 : Int) (D : List Value) (H : AHeap) : Option (Value × AHeap) :=
  iter (run Try.prog (C k) k (Sub (bodyOf Try.f105) [1, 1, 1, 0, 0, 0, 0, 0, 0, 0])) (f105.Q6 k n1) n2 [.slice a0 l0 c0, .int .i64 x1, (D.getD 0 undef), (D.getD 1 undef), undef, undef, undef, undef, (D.getD 2 undef), .int .i64 x9, .int .i64 x10, (D.getD 3 undef), (D.getD 4 undef), (D.getD 5 undef), (D.getD 6 undef), (D.getD 7 undef), (D.getD 8 undef), (D.getD 9 undef), (D.getD 10 undef), (D.getD 11 undef), (D.getD 12 undef), (D.getD 13 undef), (D.getD 14 undef), (D.getD 15 undef), (D.getD 16 undef), (D.getD 17 undef), (D.getD 18 undef), (D.getD 19 undef), (D.getD 20 undef), (D.getD 21 undef), (D.getD 22 undef), (D.getD 23 undef), (D.getD 24 undef), (D.getD 25 undef), (D.getD 26 undef), (D.getD 27 undef), (D.getD 28 undef), (D.getD 29 undef), (D.getD 30 undef), (D.getD 31 undef), (D.getD 32 undef), (D.getD 33 undef), (D.getD 34 undef), (D.getD 35 undef), (D.getD 36 undef), (D.getD 37 undef), (D.getD 38 undef), (D.getD 39 undef), (D.getD 40 undef), (D.getD 41 undef), (D.getD 42 undef), (D.getD 43 undef), (D.getD 44 undef), (D.getD 45 undef), (D.getD 46 undef), (D.getD 47 undef), (D.getD 48 undef), (D.getD 49 undef), (D.getD 50 undef), (D.getD 51 undef), (D.getD 52 undef), (D.getD 53 undef), (D.getD 54 undef), (D.getD 55 undef), (D.getD 56 undef), (D.getD 57 undef), (D.getD 58 undef), (D.getD 59 undef), (D.getD 60 undef), (D.getD 61 undef), (D.getD 62 undef), (D.getD 63 undef), (D.getD 64 undef), (D.getD 65 undef), (D.getD 66 undef), (D.getD 67 undef), (D.getD 68 undef), (D.getD 69 undef), (D.getD 70 undef), (D.getD 71 undef), (D.getD 72 undef), (D.getD 73 undef), (D.getD 74 undef), undef] H
noncomputable def f105.K1 (k : Nat) (n1 : Nat) (a0 : Option Addr) (l0 : Nat) (c0 : Nat) (x1 : Int) (x9 : Int) (x10 : Int) (D : List Value) (H : AHeap) : Option (Value × AHeap) :=
  gateC (Sub (bodyOf Try.f105) [1, 1, 1, 0, 0, 0, 0, 0]) (Sub (bodyOf Try.f105) [1, 1, 1, 0, 0, 0, 0, 1]) k (run Try.prog (C k) k (Sub (bodyOf Try.f105) [1, 1, 1, 0, 0, 0, 0, 1]) (f105.Q4 k n1)) [.slice a0 l0 c0, .int .i64 x1, (D.getD 0 undef), (D.getD 1 undef), undef, undef, undef, undef, (D.getD 2 undef), .int .i64 x9, .int .i64 x10, (D.getD 3 undef), (D.getD 4 undef), (D.getD 5 undef), (D.getD 6 undef), (D.getD 7 undef), (D.getD 8 undef), (D.getD 9 undef), (D.getD 10 undef), (D.getD 11 undef), (D.getD 12 undef), (D.getD 13 undef), (D.getD 14 undef), (D.getD 15 undef), (D.getD 16 undef), (D.getD 17 undef), (D.getD 18 undef), (D.getD 19 undef), (D.getD 20 undef), (D.getD 21 undef), (D.getD 22 undef), (D.getD 23 undef), (D.getD 24 undef), (D.getD 25 undef), (D.getD 26 undef), (D.getD 27 undef), (D.getD 28 undef), (D.getD 29 undef), (D.getD 30 undef), (D.getD 31 undef), (D.getD 32 undef), (D.getD 33 undef), (D.getD 34 undef), (D.getD 35 undef), (D.getD 36 undef), (D.getD 37 undef), (D.getD 38 undef), (D.getD 39 undef), (D.getD 40 undef), (D.getD 41 undef), (D.getD 42 undef), (D.getD 43 undef), (D.getD 44 undef), (D.getD 45 undef), (D.getD 46 undef), (D.getD 47 undef), (D.getD 48 undef), (D.getD 49 undef), (D.getD 50 undef), (D.getD 51 undef), (D.getD 52 undef), (D.getD 53 undef), (D.getD 54 undef), (D.getD 55 undef), (D.getD 56 undef), (D.getD 57 undef), (D.getD 58 undef), (D.getD 59 undef), (D.getD 60 undef), (D.getD 61 undef), (D.getD 62 undef), (D.getD 63 undef), (D.getD 64 undef), (D.getD 65 undef), (D.getD 66 undef), (D.getD 67 undef), (D.getD 68 undef), (D.getD 69 undef), (D.getD 70 undef), (D.getD 71 undef), (D.getD 72 undef), (D.getD 73 undef), (D.getD 74 undef), undef] H
noncomputable def f105.L3 (k : Nat) (n1 : Nat) (n2 : Nat) (a0 : Option Addr) (l0 : Nat) (c0 : Nat) (x1 : Int) (x9 : Int) (x10 : Int) (D : List Value) (H : AHeap) : Option (Value × AHeap) :=
  iter (run Try.prog (C k) k (Sub (bodyOf Try.f105) [1, 1, 1, 0, 0, 0, 0, 1, 0, 0, 0])) (f105.Q8 k n1) n2 [.slice a0 l0 c0, .int .i64 x1, (D.getD 0 undef), (D.getD 1 undef), undef, undef, undef, undef, (D.getD 2 undef), .int .i64 x9, .int .i64 x10, (D.getD 3 undef), (D.getD 4 undef), (D.getD 5 undef), (D.getD 6 undef), (D.getD 7 undef), (D.getD 8 undef), (D.getD 9 undef), (D.getD 10 undef), (D.getD 11 undef), (D.getD 12 undef), (D.getD 13 undef), (D.getD 14 undef), (D.getD 15 undef), (D.getD 16 undef), (D.getD 17 undef), (D.getD 18 undef), (D.getD 19 undef), (D.getD 20 undef), (D.getD 21 undef), (D.getD 22 undef), (D.getD 23 undef), (D.getD 24 undef), (D.getD 25 undef), (D.getD 26 undef), (D.getD 27 undef), (D.getD 28 undef), (D.getD 29 undef), (D.getD 30 undef), (D.getD 31 undef), (D.getD 32 undef), (D.getD 33 undef), (D.getD 34 undef), (D.getD 35 undef), (D.getD 36 undef), (D.getD 37 undef), (D.getD 38 undef), (D.getD 39 undef), (D.getD 40 undef), (D.getD 41 undef), (D.getD 42 undef), (D.getD 43 undef), (D.getD 44 undef), (D.getD 45 undef), (D.getD 46 undef), (D.getD 47 undef), (D.getD 48 undef), (D.getD 49 undef), (D.getD 50 undef), (D.getD 51 undef), (D.getD 52 undef), (D.getD 53 undef), (D.getD 54 undef), (D.getD 55 undef), (D.getD 56 undef), (D.getD 57 undef), (D.getD 58 undef), (D.getD 59 undef), (D.getD 60 undef), (D.getD 61 undef), (D.getD 62 undef), (D.getD 63 undef), (D.getD 64 undef), (D.getD 65 undef), (D.getD 66 undef), (D.getD 67 undef), (D.getD 68 undef), (D.getD 69 undef), (D.getD 70 undef), (D.getD 71 undef), (D.getD 72 undef), (D.getD 73 undef), (D.getD 74 undef), undef] H
noncomputable def f105.K2 (k : Nat) (n1 : Nat) (a0 : Option Addr) (l0 : Nat) (c0 : Nat) (x1 : Int) (x9 : Int) (x10 : Int) (D : List Value) (H : AHeap) : Option (Value × AHeap) :=
  gateC (Sub (bodyOf Try.f105) [1, 1, 1, 0, 0, 0, 0, 1, 0]) (Sub (bodyOf Try.f105) [1, 1, 1, 0, 0, 0, 0, 1, 1]) k (run Try.prog (C k) k (Sub (bodyOf Try.f105) [1, 1, 1, 0, 0, 0, 0, 1, 1]) (f105.Q4 k n1)) [.slice a0 l0 c0, .int .i64 x1, (D.getD 0 undef), (D.getD 1 undef), undef, undef, undef, undef, (D.getD 2 undef), .int .i64 x9, .int .i64 x10, (D.getD 3 undef), (D.getD 4 undef), (D.getD 5 undef), (D.getD 6 undef), (D.getD 7 undef), (D.getD 8 undef), (D.getD 9 undef), (D.getD 10 undef), (D.getD 11 undef), (D.getD 12 undef), (D.getD 13 undef), (D.getD 14 undef), (D.getD 15 undef), (D.getD 16 undef), (D.getD 17 undef), (D.getD 18 undef), (D.getD 19 undef), (D.getD 20 undef), (D.getD 21 undef), (D.getD 22 undef), (D.getD 23 undef), (D.getD 24 undef), (D.getD 25 undef), (D.getD 26 undef), (D.getD 27 undef), (D.getD 28 undef), (D.getD 29 undef), (D.getD 30 undef), (D.getD 31 undef), (D.getD 32 undef), (D.getD 33 undef), (D.getD 34 undef), (D.getD 35 undef), (D.getD 36 undef), (D.getD 37 undef), (D.getD 38 undef), (D.getD 39 undef), (D.getD 40 undef), (D.getD 41 undef), (D.getD 42 undef), (D.getD 43 undef), (D.getD 44 undef), (D.getD 45 undef), (D.getD 46 undef), (D.getD 47 undef), (D.getD 48 undef), (D.getD 49 undef), (D.getD 50 undef), (D.getD 51 undef), (D.getD 52 undef), (D.getD 53 undef), (D.getD 54 undef), (D.getD 55 undef), (D.getD 56 undef), (D.getD 57 undef), (D.getD 58 undef), (D.getD 59 undef), (D.getD 60 undef), (D.getD 61 undef), (D.getD 62 undef), (D.getD 63 undef), (D.getD 64 undef), (D.getD 65 undef), (D.getD 66 undef), (D.getD 67 undef), (D.getD 68 undef), (D.getD 69 undef), (D.getD 70 undef), (D.getD 71 undef), (D.getD 72 undef), (D.getD 73 undef), (D.getD 74 undef), undef] H
theorem f105.L1_z (k : Nat)  (a0 : Option Addr) (l0 : Nat) (c0 : Nat) (x1 : Int) (x9 : Int) (x10 : Int) (D : List Value) (H : AHeap) : f105.L1 k 0 a0 l0 c0 x1 x9 x10 D H = none := by kernel_rfl
theorem f105.L1_s (k : Nat) (n1 : Nat) (a0 : Option Addr) (l0 : Nat) (c0 : Nat) (x1 : Int) (x9 : Int) (x10 : Int) (D : List Value) (H : AHeap) : f105.L1 k (n1 + 1) a0 l0 c0 x1 x9 x10 D H =
  (f105.L2 k n1 k a0 l0 c0 x1 x9 x10 [(D.getD 0 undef), (D.getD 1 undef), (D.getD 2 undef), (D.getD 3 undef), (D.getD 4 undef), (D.getD 5 undef), (D.getD 6 undef), (D.getD 7 undef), (D.getD 8 undef), (D.getD 9 undef), (D.getD 10 undef), (D.getD 11 undef), (D.getD 12 undef), (D.getD 13 undef), (D.getD 14 undef), (D.getD 15 undef), (D.getD 16 undef), (D.getD 17 undef), (D.getD 18 undef), (D.getD 19 undef), (D.getD 20 undef), (D.getD 21 undef), (D.getD 22 undef), (D.getD 23 undef), (D.getD 24 undef), (D.getD 25 undef), (D.getD 26 undef), (D.getD 27 undef), (D.getD 28 undef), (D.getD 29 undef), (D.getD 30 undef), (D.getD 31 undef), (D.getD 32 undef), (D.getD 33 undef), (D.getD 34 undef), (D.getD 35 undef), (D.getD 36 undef), (D.getD 37 undef), (D.getD 38 undef), (D.getD 39 undef), (D.getD 40 undef), (D.getD 41 undef), (D.getD 42 undef), (D.getD 43 undef), (D.getD 44 undef), (D.getD 45 undef), (D.getD 46 undef), (D.getD 47 undef), (D.getD 48 undef), (D.getD 49 undef), (D.getD 50 undef), (D.getD 51 undef), (D.getD 52 undef), (D.getD 53 undef), (D.getD 54 undef), (D.getD 55 undef), (D.getD 56 undef), (D.getD 57 undef), (D.getD 58 undef), (D.getD 59 undef), (D.getD 60 undef), (D.getD 61 undef), (D.getD 62 undef), (D.getD 63 undef), (D.getD 64 undef), (D.getD 65 undef), (D.getD 66 undef), (D.getD 67 undef), (D.getD 68 undef), (D.getD 69 undef), (D.getD 70 undef), (D.getD 71 undef), (D.getD 72 undef), (D.getD 73 undef), (D.getD 74 undef)] H) := by kernel_rfl
theorem f105.L2_z (k : Nat) (n1 : Nat) (a0 : Option Addr) (l0 : Nat) (c0 : Nat) (x1 : Int) (x9 : Int) (x10 : Int) (D : List Value) (H : AHeap) : f105.L2 k n1 0 a0 l0 c0 x1 x9 x10 D H = none := by kernel_rfl
theorem f105.L2_s (k : Nat) (n1 : Nat) (n2 : Nat) (a0 : Option Addr) (l0 : Nat) (c0 : Nat) (x1 : Int) (x9 : Int) (x10 : Int) (D : List Value) (H : AHeap) : f105.L2 k n1 (n2 + 1) a0 l0 c0 x1 x9 x10 D H =
  (bif (decide (x9 ≤ x10)) then
   a0.bind fun q =>
   if 0 ≤ x1 ∧ x1 < (l0 : Int) then
   bif sameB H (H.bump 15) q.block then
   (ldI .i64 (H.bump 15) q.block (q.off + x1.toNat * 1)).bind fun x =>
   a0.bind fun q_1 =>
   if 0 ≤ x9 ∧ x9 < (l0 : Int) then
   bif sameB H (H.bump 15) q_1.block then
   (ldI .i64 (H.bump 15) q_1.block (q_1.off + x9.toNat * 1)).bind fun x_1 =>
   cB (C k 104 [.int .i64 x, .int .i64 x_1] (H.bump 15)) fun b H_1 =>
   bif (!b) then
   f105.L2 k n1 n2 a0 l0 c0 x1 (IntKind.i64.wrap (x9 + (1 : Int))) x10 [(D.getD 0 undef), (D.getD 1 undef), (D.getD 2 undef), (D.getD 3 undef), (D.getD 4 undef), (D.getD 5 undef), (D.getD 6 undef), (D.getD 7 undef), (D.getD 8 undef), (D.getD 9 undef), (D.getD 10 undef), (D.getD 11 undef), (D.getD 12 undef), (D.getD 13 undef), (D.getD 14 undef), (D.getD 15 undef), (D.getD 16 undef), (D.getD 17 undef), (D.getD 18 undef), (D.getD 19 undef), (D.getD 20 undef), .int .i64 x9, .int .i64 x10, .bool (decide (x9 ≤ x10)), .bool true, .slice a0 l0 c0, .int .i64 x1, .pointer (some ⟨q.block, q.off + x1.toNat * 1, none⟩), .int .i64 x, .slice a0 l0 c0, .int .i64 x9, .pointer (some ⟨q_1.block, q_1.off + x9.toNat * 1, none⟩), .int .i64 x_1, .bool b, .bool (!b), .bool (!b), .int .i64 x9, .int .i64 (IntKind.i64.wrap (x9 + (1 : Int))), (D.getD 38 undef), (D.getD 39 undef), (D.getD 40 undef), (D.getD 41 undef), (D.getD 42 undef), (D.getD 43 undef), (D.getD 44 undef), (D.getD 45 undef), (D.getD 46 undef), (D.getD 47 undef), (D.getD 48 undef), (D.getD 49 undef), (D.getD 50 undef), (D.getD 51 undef), (D.getD 52 undef), (D.getD 53 undef), (D.getD 54 undef), (D.getD 55 undef), (D.getD 56 undef), (D.getD 57 undef), (D.getD 58 undef), (D.getD 59 undef), (D.getD 60 undef), (D.getD 61 undef), (D.getD 62 undef), (D.getD 63 undef), (D.getD 64 undef), (D.getD 65 undef), (D.getD 66 undef), (D.getD 67 undef), (D.getD 68 undef), (D.getD 69 undef), (D.getD 70 undef), (D.getD 71 undef), (D.getD 72 undef), (D.getD 73 undef), (D.getD 74 undef)] H_1
   else
   f105.K1 k n1 a0 l0 c0 x1 x9 x10 [(D.getD 0 undef), (D.getD 1 undef), (D.getD 2 undef), (D.getD 3 undef), (D.getD 4 undef), (D.getD 5 undef), (D.getD 6 undef), (D.getD 7 undef), (D.getD 8 undef), (D.getD 9 undef), (D.getD 10 undef), (D.getD 11 undef), (D.getD 12 undef), (D.getD 13 undef), (D.getD 14 undef), (D.getD 15 undef), (D.getD 16 undef), (D.getD 17 undef), (D.getD 18 undef), (D.getD 19 undef), (D.getD 20 undef), .int .i64 x9, .int .i64 x10, .bool (decide (x9 ≤ x10)), .bool true, .slice a0 l0 c0, .int .i64 x1, .pointer (some ⟨q.block, q.off + x1.toNat * 1, none⟩), .int .i64 x, .slice a0 l0 c0, .int .i64 x9, .pointer (some ⟨q_1.block, q_1.off + x9.toNat * 1, none⟩), .int .i64 x_1, .bool b, .bool (!b), .bool (!b), (D.getD 36 undef), (D.getD 37 undef), (D.getD 38 undef), (D.getD 39 undef), (D.getD 40 undef), (D.getD 41 undef), (D.getD 42 undef), (D.getD 43 undef), (D.getD 44 undef), (D.getD 45 undef), (D.getD 46 undef), (D.getD 47 undef), (D.getD 48 undef), (D.getD 49 undef), (D.getD 50 undef), (D.getD 51 undef), (D.getD 52 undef), (D.getD 53 undef), (D.getD 54 undef), (D.getD 55 undef), (D.getD 56 undef), (D.getD 57 undef), (D.getD 58 undef), (D.getD 59 undef), (D.getD 60 undef), (D.getD 61 undef), (D.getD 62 undef), (D.getD 63 undef), (D.getD 64 undef), (D.getD 65 undef), (D.getD 66 undef), (D.getD 67 undef), (D.getD 68 undef), (D.getD 69 undef), (D.getD 70 undef), (D.getD 71 undef), (D.getD 72 undef), (D.getD 73 undef), (D.getD 74 undef)] H_1
   else none
   else none
   else none
   else none
   else
   f105.K1 k n1 a0 l0 c0 x1 x9 x10 [(D.getD 0 undef), (D.getD 1 undef), (D.getD 2 undef), (D.getD 3 undef), (D.getD 4 undef), (D.getD 5 undef), (D.getD 6 undef), (D.getD 7 undef), (D.getD 8 undef), (D.getD 9 undef), (D.getD 10 undef), (D.getD 11 undef), (D.getD 12 undef), (D.getD 13 undef), (D.getD 14 undef), (D.getD 15 undef), (D.getD 16 undef), (D.getD 17 undef), (D.getD 18 undef), (D.getD 19 undef), (D.getD 20 undef), .int .i64 x9, .int .i64 x10, .bool (decide (x9 ≤ x10)), .bool false, undef, undef, undef, undef, undef, undef, undef, undef, undef, undef, .bool false, (D.getD 36 undef), (D.getD 37 undef), (D.getD 38 undef), (D.getD 39 undef), (D.getD 40 undef), (D.getD 41 undef), (D.getD 42 undef), (D.getD 43 undef), (D.getD 44 undef), (D.getD 45 undef), (D.getD 46 undef), (D.getD 47 undef), (D.getD 48 undef), (D.getD 49 undef), (D.getD 50 undef), (D.getD 51 undef), (D.getD 52 undef), (D.getD 53 undef), (D.getD 54 undef), (D.getD 55 undef), (D.getD 56 undef), (D.getD 57 undef), (D.getD 58 undef), (D.getD 59 undef), (D.getD 60 undef), (D.getD 61 undef), (D.getD 62 undef), (D.getD 63 undef), (D.getD 64 undef), (D.getD 65 undef), (D.getD 66 undef), (D.getD 67 undef), (D.getD 68 undef), (D.getD 69 undef), (D.getD 70 undef), (D.getD 71 undef), (D.getD 72 undef), (D.getD 73 undef), (D.getD 74 undef)] (H.bump 15)) := by kernel_rfl
theorem f105.K1_eq (k : Nat) (n1 : Nat) (a0 : Option Addr) (l0 : Nat) (c0 : Nat) (x1 : Int) (x9 : Int) (x10 : Int) (D : List Value) (H : AHeap) : f105.K1 k n1 a0 l0 c0 x1 x9 x10 D H =
  (f105.L3 k n1 k a0 l0 c0 x1 x9 x10 [(D.getD 0 undef), (D.getD 1 undef), (D.getD 2 undef), (D.getD 3 undef), (D.getD 4 undef), (D.getD 5 undef), (D.getD 6 undef), (D.getD 7 undef), (D.getD 8 undef), (D.getD 9 undef), (D.getD 10 undef), (D.getD 11 undef), (D.getD 12 undef), (D.getD 13 undef), (D.getD 14 undef), (D.getD 15 undef), (D.getD 16 undef), (D.getD 17 undef), (D.getD 18 undef), (D.getD 19 undef), (D.getD 20 undef), (D.getD 21 undef), (D.getD 22 undef), (D.getD 23 undef), (D.getD 24 undef), (D.getD 25 undef), (D.getD 26 undef), (D.getD 27 undef), (D.getD 28 undef), (D.getD 29 undef), (D.getD 30 undef), (D.getD 31 undef), (D.getD 32 undef), (D.getD 33 undef), (D.getD 34 undef), (D.getD 35 undef), (D.getD 36 undef), (D.getD 37 undef), (D.getD 38 undef), (D.getD 39 undef), (D.getD 40 undef), (D.getD 41 undef), (D.getD 42 undef), (D.getD 43 undef), (D.getD 44 undef), (D.getD 45 undef), (D.getD 46 undef), (D.getD 47 undef), (D.getD 48 undef), (D.getD 49 undef), (D.getD 50 undef), (D.getD 51 undef), (D.getD 52 undef), (D.getD 53 undef), (D.getD 54 undef), (D.getD 55 undef), (D.getD 56 undef), (D.getD 57 undef), (D.getD 58 undef), (D.getD 59 undef), (D.getD 60 undef), (D.getD 61 undef), (D.getD 62 undef), (D.getD 63 undef), (D.getD 64 undef), (D.getD 65 undef), (D.getD 66 undef), (D.getD 67 undef), (D.getD 68 undef), (D.getD 69 undef), (D.getD 70 undef), (D.getD 71 undef), (D.getD 72 undef), (D.getD 73 undef), (D.getD 74 undef)] H) := by
  unfold f105.K1
  rw [gateC_eq]
  kernel_rfl
theorem f105.L3_z (k : Nat) (n1 : Nat) (a0 : Option Addr) (l0 : Nat) (c0 : Nat) (x1 : Int) (x9 : Int) (x10 : Int) (D : List Value) (H : AHeap) : f105.L3 k n1 0 a0 l0 c0 x1 x9 x10 D H = none := by kernel_rfl
theorem f105.L3_b (k : Nat) (a0 : Option Addr) (l0 : Nat) (c0 : Nat) (x1 : Int) (x9 : Int) (x10 : Int) (D : List Value) (H : AHeap) (Q : Kont (Value × AHeap)) : run Try.prog (C k) k (Sub (bodyOf Try.f105) [1, 1, 1, 0, 0, 0, 0, 1, 0, 0, 0]) Q [.slice a0 l0 c0, .int .i64 x1, (D.getD 0 undef), (D.getD 1 undef), undef, undef, undef, undef, (D.getD 2 undef), .int .i64 x9, .int .i64 x10, (D.getD 3 undef), (D.getD 4 undef), (D.getD 5 undef), (D.getD 6 undef), (D.getD 7 undef), (D.getD 8 undef), (D.getD 9 undef), (D.getD 10 undef), (D.getD 11 undef), (D.getD 12 undef), (D.getD 13 undef), (D.getD 14 undef), (D.getD 15 undef), (D.getD 16 undef), (D.getD 17 undef), (D.getD 18 undef), (D.getD 19 undef), (D.getD 20 undef), (D.getD 21 undef), (D.getD 22 undef), (D.getD 23 undef), (D.getD 24 undef), (D.getD 25 undef), (D.getD 26 undef), (D.getD 27 undef), (D.getD 28 undef), (D.getD 29 undef), (D.getD 30 undef), (D.getD 31 undef), (D.getD 32 undef), (D.getD 33 undef), (D.getD 34 undef), (D.getD 35 undef), (D.getD 36 undef), (D.getD 37 undef), (D.getD 38 undef), (D.getD 39 undef), (D.getD 40 undef), (D.getD 41 undef), (D.getD 42 undef), (D.getD 43 undef), (D.getD 44 undef), (D.getD 45 undef), (D.getD 46 undef), (D.getD 47 undef), (D.getD 48 undef), (D.getD 49 undef), (D.getD 50 undef), (D.getD 51 undef), (D.getD 52 undef), (D.getD 53 undef), (D.getD 54 undef), (D.getD 55 undef), (D.getD 56 undef), (D.getD 57 undef), (D.getD 58 undef), (D.getD 59 undef), (D.getD 60 undef), (D.getD 61 undef), (D.getD 62 undef), (D.getD 63 undef), (D.getD 64 undef), (D.getD 65 undef), (D.getD 66 undef), (D.getD 67 undef), (D.getD 68 undef), (D.getD 69 undef), (D.getD 70 undef), (D.getD 71 undef), (D.getD 72 undef), (D.getD 73 undef), (D.getD 74 undef), undef] H =
  (bif (decide (x9 ≤ x10)) then
   a0.bind fun q =>
   if 0 ≤ x1 ∧ x1 < (l0 : Int) then
   bif sameB H (H.bump 14) q.block then
   (ldI .i64 (H.bump 14) q.block (q.off + x1.toNat * 1)).bind fun x =>
   a0.bind fun q_1 =>
   if 0 ≤ x10 ∧ x10 < (l0 : Int) then
   bif sameB H (H.bump 14) q_1.block then
   (ldI .i64 (H.bump 14) q_1.block (q_1.off + x10.toNat * 1)).bind fun x_1 =>
   cB (C k 104 [.int .i64 x, .int .i64 x_1] (H.bump 14)) fun b H_1 =>
   bif b then
   Q .normal [.slice a0 l0 c0, .int .i64 x1, (D.getD 0 undef), (D.getD 1 undef), undef, undef, undef, undef, (D.getD 2 undef), .int .i64 x9, .int .i64 (IntKind.i64.wrap (x10 - (1 : Int))), (D.getD 3 undef), (D.getD 4 undef), (D.getD 5 undef), (D.getD 6 undef), (D.getD 7 undef), (D.getD 8 undef), (D.getD 9 undef), (D.getD 10 undef), (D.getD 11 undef), (D.getD 12 undef), (D.getD 13 undef), (D.getD 14 undef), (D.getD 15 undef), (D.getD 16 undef), (D.getD 17 undef), (D.getD 18 undef), (D.getD 19 undef), (D.getD 20 undef), (D.getD 21 undef), (D.getD 22 undef), (D.getD 23 undef), (D.getD 24 undef), (D.getD 25 undef), (D.getD 26 undef), (D.getD 27 undef), (D.getD 28 undef), (D.getD 29 undef), (D.getD 30 undef), (D.getD 31 undef), (D.getD 32 undef), (D.getD 33 undef), (D.getD 34 undef), (D.getD 35 undef), (D.getD 36 undef), (D.getD 37 undef), .int .i64 x9, .int .i64 x10, .bool (decide (x9 ≤ x10)), .bool true, .slice a0 l0 c0, .int .i64 x1, .pointer (some ⟨q.block, q.off + x1.toNat * 1, none⟩), .int .i64 x, .slice a0 l0 c0, .int .i64 x10, .pointer (some ⟨q_1.block, q_1.off + x10.toNat * 1, none⟩), .int .i64 x_1, .bool b, .bool b, .int .i64 x10, .int .i64 (IntKind.i64.wrap (x10 - (1 : Int))), (D.getD 54 undef), (D.getD 55 undef), (D.getD 56 undef), (D.getD 57 undef), (D.getD 58 undef), (D.getD 59 undef), (D.getD 60 undef), (D.getD 61 undef), (D.getD 62 undef), (D.getD 63 undef), (D.getD 64 undef), (D.getD 65 undef), (D.getD 66 undef), (D.getD 67 undef), (D.getD 68 undef), (D.getD 69 undef), (D.getD 70 undef), (D.getD 71 undef), (D.getD 72 undef), (D.getD 73 undef), (D.getD 74 undef), undef] H_1
   else
   Q (.exit 4) [.slice a0 l0 c0, .int .i64 x1, (D.getD 0 undef), (D.getD 1 undef), undef, undef, undef, undef, (D.getD 2 undef), .int .i64 x9, .int .i64 x10, (D.getD 3 undef), (D.getD 4 undef), (D.getD 5 undef), (D.getD 6 undef), (D.getD 7 undef), (D.getD 8 undef), (D.getD 9 undef), (D.getD 10 undef), (D.getD 11 undef), (D.getD 12 undef), (D.getD 13 undef), (D.getD 14 undef), (D.getD 15 undef), (D.getD 16 undef), (D.getD 17 undef), (D.getD 18 undef), (D.getD 19 undef), (D.getD 20 undef), (D.getD 21 undef), (D.getD 22 undef), (D.getD 23 undef), (D.getD 24 undef), (D.getD 25 undef), (D.getD 26 undef), (D.getD 27 undef), (D.getD 28 undef), (D.getD 29 undef), (D.getD 30 undef), (D.getD 31 undef), (D.getD 32 undef), (D.getD 33 undef), (D.getD 34 undef), (D.getD 35 undef), (D.getD 36 undef), (D.getD 37 undef), .int .i64 x9, .int .i64 x10, .bool (decide (x9 ≤ x10)), .bool true, .slice a0 l0 c0, .int .i64 x1, .pointer (some ⟨q.block, q.off + x1.toNat * 1, none⟩), .int .i64 x, .slice a0 l0 c0, .int .i64 x10, .pointer (some ⟨q_1.block, q_1.off + x10.toNat * 1, none⟩), .int .i64 x_1, .bool b, .bool b, (D.getD 52 undef), (D.getD 53 undef), (D.getD 54 undef), (D.getD 55 undef), (D.getD 56 undef), (D.getD 57 undef), (D.getD 58 undef), (D.getD 59 undef), (D.getD 60 undef), (D.getD 61 undef), (D.getD 62 undef), (D.getD 63 undef), (D.getD 64 undef), (D.getD 65 undef), (D.getD 66 undef), (D.getD 67 undef), (D.getD 68 undef), (D.getD 69 undef), (D.getD 70 undef), (D.getD 71 undef), (D.getD 72 undef), (D.getD 73 undef), (D.getD 74 undef), undef] H_1
   else none
   else none
   else none
   else none
   else
   Q (.exit 4) [.slice a0 l0 c0, .int .i64 x1, (D.getD 0 undef), (D.getD 1 undef), undef, undef, undef, undef, (D.getD 2 undef), .int .i64 x9, .int .i64 x10, (D.getD 3 undef), (D.getD 4 undef), (D.getD 5 undef), (D.getD 6 undef), (D.getD 7 undef), (D.getD 8 undef), (D.getD 9 undef), (D.getD 10 undef), (D.getD 11 undef), (D.getD 12 undef), (D.getD 13 undef), (D.getD 14 undef), (D.getD 15 undef), (D.getD 16 undef), (D.getD 17 undef), (D.getD 18 undef), (D.getD 19 undef), (D.getD 20 undef), (D.getD 21 undef), (D.getD 22 undef), (D.getD 23 undef), (D.getD 24 undef), (D.getD 25 undef), (D.getD 26 undef), (D.getD 27 undef), (D.getD 28 undef), (D.getD 29 undef), (D.getD 30 undef), (D.getD 31 undef), (D.getD 32 undef), (D.getD 33 undef), (D.getD 34 undef), (D.getD 35 undef), (D.getD 36 undef), (D.getD 37 undef), .int .i64 x9, .int .i64 x10, .bool (decide (x9 ≤ x10)), .bool false, undef, undef, undef, undef, undef, undef, undef, undef, undef, .bool false, (D.getD 52 undef), (D.getD 53 undef), (D.getD 54 undef), (D.getD 55 undef), (D.getD 56 undef), (D.getD 57 undef), (D.getD 58 undef), (D.getD 59 undef), (D.getD 60 undef), (D.getD 61 undef), (D.getD 62 undef), (D.getD 63 undef), (D.getD 64 undef), (D.getD 65 undef), (D.getD 66 undef), (D.getD 67 undef), (D.getD 68 undef), (D.getD 69 undef), (D.getD 70 undef), (D.getD 71 undef), (D.getD 72 undef), (D.getD 73 undef), (D.getD 74 undef), undef] (H.bump 14)) := by kernel_rfl
theorem f105.L3_s (k : Nat) (n1 : Nat) (n2 : Nat) (a0 : Option Addr) (l0 : Nat) (c0 : Nat) (x1 : Int) (x9 : Int) (x10 : Int) (D : List Value) (H : AHeap) : f105.L3 k n1 (n2 + 1) a0 l0 c0 x1 x9 x10 D H =
  (bif (decide (x9 ≤ x10)) then
   a0.bind fun q =>
   if 0 ≤ x1 ∧ x1 < (l0 : Int) then
   bif sameB H (H.bump 14) q.block then
   (ldI .i64 (H.bump 14) q.block (q.off + x1.toNat * 1)).bind fun x =>
   a0.bind fun q_1 =>
   if 0 ≤ x10 ∧ x10 < (l0 : Int) then
   bif sameB H (H.bump 14) q_1.block then
   (ldI .i64 (H.bump 14) q_1.block (q_1.off + x10.toNat * 1)).bind fun x_1 =>
   cB (C k 104 [.int .i64 x, .int .i64 x_1] (H.bump 14)) fun b H_1 =>
   bif b then
   f105.L3 k n1 n2 a0 l0 c0 x1 x9 (IntKind.i64.wrap (x10 - (1 : Int))) [(D.getD 0 undef), (D.getD 1 undef), (D.getD 2 undef), (D.getD 3 undef), (D.getD 4 undef), (D.getD 5 undef), (D.getD 6 undef), (D.getD 7 undef), (D.getD 8 undef), (D.getD 9 undef), (D.getD 10 undef), (D.getD 11 undef), (D.getD 12 undef), (D.getD 13 undef), (D.getD 14 undef), (D.getD 15 undef), (D.getD 16 undef), (D.getD 17 undef), (D.getD 18 undef), (D.getD 19 undef), (D.getD 20 undef), (D.getD 21 undef), (D.getD 22 undef), (D.getD 23 undef), (D.getD 24 undef), (D.getD 25 undef), (D.getD 26 undef), (D.getD 27 undef), (D.getD 28 undef), (D.getD 29 undef), (D.getD 30 undef), (D.getD 31 undef), (D.getD 32 undef), (D.getD 33 undef), (D.getD 34 undef), (D.getD 35 undef), (D.getD 36 undef), (D.getD 37 undef), .int .i64 x9, .int .i64 x10, .bool (decide (x9 ≤ x10)), .bool true, .slice a0 l0 c0, .int .i64 x1, .pointer (some ⟨q.block, q.off + x1.toNat * 1, none⟩), .int .i64 x, .slice a0 l0 c0, .int .i64 x10, .pointer (some ⟨q_1.block, q_1.off + x10.toNat * 1, none⟩), .int .i64 x_1, .bool b, .bool b, .int .i64 x10, .int .i64 (IntKind.i64.wrap (x10 - (1 : Int))), (D.getD 54 undef), (D.getD 55 undef), (D.getD 56 undef), (D.getD 57 undef), (D.getD 58 undef), (D.getD 59 undef), (D.getD 60 undef), (D.getD 61 undef), (D.getD 62 undef), (D.getD 63 undef), (D.getD 64 undef), (D.getD 65 undef), (D.getD 66 undef), (D.getD 67 undef), (D.getD 68 undef), (D.getD 69 undef), (D.getD 70 undef), (D.getD 71 undef), (D.getD 72 undef), (D.getD 73 undef), (D.getD 74 undef)] H_1
   else
   f105.K2 k n1 a0 l0 c0 x1 x9 x10 [(D.getD 0 undef), (D.getD 1 undef), (D.getD 2 undef), (D.getD 3 undef), (D.getD 4 undef), (D.getD 5 undef), (D.getD 6 undef), (D.getD 7 undef), (D.getD 8 undef), (D.getD 9 undef), (D.getD 10 undef), (D.getD 11 undef), (D.getD 12 undef), (D.getD 13 undef), (D.getD 14 undef), (D.getD 15 undef), (D.getD 16 undef), (D.getD 17 undef), (D.getD 18 undef), (D.getD 19 undef), (D.getD 20 undef), (D.getD 21 undef), (D.getD 22 undef), (D.getD 23 undef), (D.getD 24 undef), (D.getD 25 undef), (D.getD 26 undef), (D.getD 27 undef), (D.getD 28 undef), (D.getD 29 undef), (D.getD 30 undef), (D.getD 31 undef), (D.getD 32 undef), (D.getD 33 undef), (D.getD 34 undef), (D.getD 35 undef), (D.getD 36 undef), (D.getD 37 undef), .int .i64 x9, .int .i64 x10, .bool (decide (x9 ≤ x10)), .bool true, .slice a0 l0 c0, .int .i64 x1, .pointer (some ⟨q.block, q.off + x1.toNat * 1, none⟩), .int .i64 x, .slice a0 l0 c0, .int .i64 x10, .pointer (some ⟨q_1.block, q_1.off + x10.toNat * 1, none⟩), .int .i64 x_1, .bool b, .bool b, (D.getD 52 undef), (D.getD 53 undef), (D.getD 54 undef), (D.getD 55 undef), (D.getD 56 undef), (D.getD 57 undef), (D.getD 58 undef), (D.getD 59 undef), (D.getD 60 undef), (D.getD 61 undef), (D.getD 62 undef), (D.getD 63 undef), (D.getD 64 undef), (D.getD 65 undef), (D.getD 66 undef), (D.getD 67 undef), (D.getD 68 undef), (D.getD 69 undef), (D.getD 70 undef), (D.getD 71 undef), (D.getD 72 undef), (D.getD 73 undef), (D.getD 74 undef)] H_1
   else none
   else none
   else none
   else none
   else
   f105.K2 k n1 a0 l0 c0 x1 x9 x10 [(D.getD 0 undef), (D.getD 1 undef), (D.getD 2 undef), (D.getD 3 undef), (D.getD 4 undef), (D.getD 5 undef), (D.getD 6 undef), (D.getD 7 undef), (D.getD 8 undef), (D.getD 9 undef), (D.getD 10 undef), (D.getD 11 undef), (D.getD 12 undef), (D.getD 13 undef), (D.getD 14 undef), (D.getD 15 undef), (D.getD 16 undef), (D.getD 17 undef), (D.getD 18 undef), (D.getD 19 undef), (D.getD 20 undef), (D.getD 21 undef), (D.getD 22 undef), (D.getD 23 undef), (D.getD 24 undef), (D.getD 25 undef), (D.getD 26 undef), (D.getD 27 undef), (D.getD 28 undef), (D.getD 29 undef), (D.getD 30 undef), (D.getD 31 undef), (D.getD 32 undef), (D.getD 33 undef), (D.getD 34 undef), (D.getD 35 undef), (D.getD 36 undef), (D.getD 37 undef), .int .i64 x9, .int .i64 x10, .bool (decide (x9 ≤ x10)), .bool false, undef, undef, undef, undef, undef, undef, undef, undef, undef, .bool false, (D.getD 52 undef), (D.getD 53 undef), (D.getD 54 undef), (D.getD 55 undef), (D.getD 56 undef), (D.getD 57 undef), (D.getD 58 undef), (D.getD 59 undef), (D.getD 60 undef), (D.getD 61 undef), (D.getD 62 undef), (D.getD 63 undef), (D.getD 64 undef), (D.getD 65 undef), (D.getD 66 undef), (D.getD 67 undef), (D.getD 68 undef), (D.getD 69 undef), (D.getD 70 undef), (D.getD 71 undef), (D.getD 72 undef), (D.getD 73 undef), (D.getD 74 undef)] (H.bump 14)) := by
  refine Eq.trans ?_ (Eq.trans (f105.L3_b k a0 l0 c0 x1 x9 x10 D H (f105.Q9 k n1 n2)) ?_)
  · kernel_rfl
  · kernel_rfl
theorem f105.K2_eq (k : Nat) (n1 : Nat) (a0 : Option Addr) (l0 : Nat) (c0 : Nat) (x1 : Int) (x9 : Int) (x10 : Int) (D : List Value) (H : AHeap) : f105.K2 k n1 a0 l0 c0 x1 x9 x10 D H =
  (bif (decide (x9 > x10)) then
   some (.int .i64 x9, H)
   else
   a0.bind fun q =>
   if 0 ≤ x10 ∧ x10 < (l0 : Int) then
   bif sameB H (H.bump 16) q.block then
   (ldI .i64 (H.bump 16) q.block (q.off + x10.toNat * 1)).bind fun x =>
   a0.bind fun q_1 =>
   if 0 ≤ x9 ∧ x9 < (l0 : Int) then
   bif sameB H (H.bump 16) q_1.block then
   (ldI .i64 (H.bump 16) q_1.block (q_1.off + x9.toNat * 1)).bind fun x_1 =>
   a0.bind fun q_2 =>
   if 0 ≤ x9 ∧ x9 < (l0 : Int) then
   (AHeap.wr (H.bump 16) q_2.block (q_2.off + x9.toNat * 1) [.int .i64 x]).bind fun H_1 =>
   a0.bind fun q_3 =>
   if 0 ≤ x10 ∧ x10 < (l0 : Int) then
   (AHeap.wr H_1 q_3.block (q_3.off + x10.toNat * 1) [.int .i64 x_1]).bind fun H_2 =>
   f105.L1 k n1 a0 l0 c0 x1 (IntKind.i64.wrap (x9 + (1 : Int))) (IntKind.i64.wrap (x10 - (1 : Int))) [(D.getD 0 undef), (D.getD 1 undef), (D.getD 2 undef), (D.getD 3 undef), (D.getD 4 undef), (D.getD 5 undef), (D.getD 6 undef), (D.getD 7 undef), (D.getD 8 undef), (D.getD 9 undef), (D.getD 10 undef), (D.getD 11 undef), (D.getD 12 undef), (D.getD 13 undef), (D.getD 14 undef), (D.getD 15 undef), (D.getD 16 undef), (D.getD 17 undef), (D.getD 18 undef), (D.getD 19 undef), (D.getD 20 undef), (D.getD 21 undef), (D.getD 22 undef), (D.getD 23 undef), (D.getD 24 undef), (D.getD 25 undef), (D.getD 26 undef), (D.getD 27 undef), (D.getD 28 undef), (D.getD 29 undef), (D.getD 30 undef), (D.getD 31 undef), (D.getD 32 undef), (D.getD 33 undef), (D.getD 34 undef), (D.getD 35 undef), (D.getD 36 undef), (D.getD 37 undef), (D.getD 38 undef), (D.getD 39 undef), (D.getD 40 undef), (D.getD 41 undef), (D.getD 42 undef), (D.getD 43 undef), (D.getD 44 undef), (D.getD 45 undef), (D.getD 46 undef), (D.getD 47 undef), (D.getD 48 undef), (D.getD 49 undef), (D.getD 50 undef), (D.getD 51 undef), (D.getD 52 undef), (D.getD 53 undef), .int .i64 x9, .int .i64 x10, .bool (decide (x9 > x10)), .slice a0 l0 c0, .int .i64 x9, .slice a0 l0 c0, .int .i64 x10, .slice a0 l0 c0, .int .i64 x10, .pointer (some ⟨q.block, q.off + x10.toNat * 1, none⟩), .int .i64 x, .slice a0 l0 c0, .int .i64 x9, .pointer (some ⟨q_1.block, q_1.off + x9.toNat * 1, none⟩), .int .i64 x_1, .pointer (some ⟨q_2.block, q_2.off + x9.toNat * 1, none⟩), .pointer (some ⟨q_3.block, q_3.off + x10.toNat * 1, none⟩), .int .i64 x9, .int .i64 (IntKind.i64.wrap (x9 + (1 : Int))), .int .i64 x10, .int .i64 (IntKind.i64.wrap (x10 - (1 : Int)))] H_2
   else none
   else none
   else none
   else none
   else none
   else none) := by
  unfold f105.K2
  rw [gateC_eq]
  kernel_rfl
theorem f105_eq (k : Nat) (a0 : Option Addr) (l0 : Nat) (c0 : Nat) (x1 : Int) (x2 : Int) (x3 : Int) (H : AHeap) : C (k + 1) 105 [.slice a0 l0 c0, .int .i64 x1, .int .i64 x2, .int .i64 x3] H =
  (a0.bind fun q =>
   if 0 ≤ x3 ∧ x3 < (l0 : Int) then
   bif sameB H (H.bump 16) q.block then
   (ldI .i64 (H.bump 16) q.block (q.off + x3.toNat * 1)).bind fun x =>
   a0.bind fun q_1 =>
   if 0 ≤ x1 ∧ x1 < (l0 : Int) then
   bif sameB H (H.bump 16) q_1.block then
   (ldI .i64 (H.bump 16) q_1.block (q_1.off + x1.toNat * 1)).bind fun x_1 =>
   a0.bind fun q_2 =>
   if 0 ≤ x1 ∧ x1 < (l0 : Int) then
   (AHeap.wr (H.bump 16) q_2.block (q_2.off + x1.toNat * 1) [.int .i64 x]).bind fun H_1 =>
   a0.bind fun q_3 =>
   if 0 ≤ x3 ∧ x3 < (l0 : Int) then
   (AHeap.wr H_1 q_3.block (q_3.off + x3.toNat * 1) [.int .i64 x_1]).bind fun H_2 =>
   f105.L1 k k a0 l0 c0 x1 (IntKind.i64.wrap (x1 + (1 : Int))) (IntKind.i64.wrap (x2 - (1 : Int))) [.int .i64 x2, .int .i64 x3, .int .i64 0, .slice a0 l0 c0, .int .i64 x1, .slice a0 l0 c0, .int .i64 x3, .slice a0 l0 c0, .int .i64 x3, .pointer (some ⟨q.block, q.off + x3.toNat * 1, none⟩), .int .i64 x, .slice a0 l0 c0, .int .i64 x1, .pointer (some ⟨q_1.block, q_1.off + x1.toNat * 1, none⟩), .int .i64 x_1, .pointer (some ⟨q_2.block, q_2.off + x1.toNat * 1, none⟩), .pointer (some ⟨q_3.block, q_3.off + x3.toNat * 1, none⟩), .int .i64 x1, .int .i64 (IntKind.i64.wrap (x1 + (1 : Int))), .int .i64 x2, .int .i64 (IntKind.i64.wrap (x2 - (1 : Int))), undef, undef, undef, undef, undef, undef, undef, undef, undef, undef, undef, undef, undef, undef, undef, undef, undef, undef, undef, undef, undef, undef, undef, undef, undef, undef, undef, undef, undef, undef, undef, undef, undef, undef, undef, undef, undef, undef, undef, undef, undef, undef, undef, undef, undef, undef, undef, undef, undef, undef, undef, undef, undef, undef] H_2
   else none
   else none
   else none
   else none
   else none
   else none) := by kernel_rfl

end Go.Proofs.MxF
end

section
set_option linter.unusedSimpArgs false
/- Functions of the program as the machine comes to them: printed by a program of this workplace (px.py); the kernel checks each line. -/
set_option linter.unusedVariables false
namespace Go.Proofs.MxF
open Go Go.Mx Go.Proofs

/- f106 "slices.partitionOrdered[int]"  names:  -/
noncomputable def f106.Q0 (k : Nat)  : Kont (Value × AHeap) := retQ Try.prog Try.f106
noncomputable def f106.Q1 (k : Nat)  : Kont (Value × AHeap) := seqQ (gateC (Sub (bodyOf Try.f106) [1, 1, 1, 0]) (Sub (bodyOf Try.f106) [1, 1, 1, 1]) k (run Try.prog (C k) k (Sub (bodyOf Try.f106) [1, 1, 1, 1]) (f106.Q0 k ))) (f106.Q0 k )
noncomputable def f106.Q2 (k : Nat)  : Kont (Value × AHeap) := blkQ 0 (f106.Q1 k )
noncomputable def f106.Q3 (k : Nat)  : Kont (Value × AHeap) := seqQ (gateC (Sub (bodyOf Try.f106) [1, 1, 1, 1, 0]) (Sub (bodyOf Try.f106) [1, 1, 1, 1, 1]) k (run Try.prog (C k) k (Sub (bodyOf Try.f106) [1, 1, 1, 1, 1]) (f106.Q0 k ))) (f106.Q0 k )
noncomputable def f106.Q4 (k : Nat)  : Kont (Value × AHeap) := blkQ 2 (f106.Q3 k )
noncomputable def f106.Q5 (k : Nat) (n1 : Nat) : Kont (Value × AHeap) := seqQ (iter (run Try.prog (C k) k (Sub (bodyOf Try.f106) [1, 1, 1, 1, 0, 0, 0])) (f106.Q4 k ) n1) (f106.Q4 k )
noncomputable def f106.Q6 (k : Nat)  : Kont (Value × AHeap) := seqQ (gateC (Sub (bodyOf Try.f106) [1, 1, 1, 1, 1, 1, 1, 1, 1, 0]) (Sub (bodyOf Try.f106) [1, 1, 1, 1, 1, 1, 1, 1, 1, 1]) k (run Try.prog (C k) k (Sub (bodyOf Try.f106) [1, 1, 1, 1, 1, 1, 1, 1, 1, 1]) (f106.Q0 k ))) (f106.Q0 k )
noncomputable def f106.Q7 (k : Nat)  : Kont (Value × AHeap) := blkQ 4 (f106.Q6 k )
noncomputable def f106.Q8 (k : Nat) (n1 : Nat) : Kont (Value × AHeap) := seqQ (iter (run Try.prog (C k) k (Sub (bodyOf Try.f106) [1, 1, 1, 1, 1, 1, 1, 1, 1, 0, 0, 0])) (f106.Q7 k ) n1) (f106.Q7 k )
noncomputable def f106.Q9 (k : Nat) (n1 : Nat) : Kont (Value × AHeap) := blkQ 5 (f106.Q8 k n1)
noncomputable def f106.Q10 (k : Nat) (n1 : Nat) : Kont (Value × AHeap) := seqQ (gateC (Sub (bodyOf Try.f106) [1, 1, 1, 1, 1, 1, 1, 1, 1, 0, 0, 0, 0, 0]) (Sub (bodyOf Try.f106) [1, 1, 1, 1, 1, 1, 1, 1, 1, 0, 0, 0, 0, 1]) k (run Try.prog (C k) k (Sub (bodyOf Try.f106) [1, 1, 1, 1, 1, 1, 1, 1, 1, 0, 0, 0, 0, 1]) (f106.Q9 k n1))) (f106.Q9 k n1)
noncomputable def f106.Q11 (k : Nat) (n1 : Nat) : Kont (Value × AHeap) := blkQ 6 (f106.Q10 k n1)
noncomputable def f106.Q12 (k : Nat) (n1 : Nat) : Kont (Value × AHeap) := seqQ (gateC (Sub (bodyOf Try.f106) [1, 1, 1, 1, 1, 1, 1, 1, 1, 0, 0, 0, 0, 1, 0]) (Sub (bodyOf Try.f106) [1, 1, 1, 1, 1, 1, 1, 1, 1, 0, 0, 0, 0, 1, 1]) k (run Try.prog (C k) k (Sub (bodyOf Try.f106) [1, 1, 1, 1, 1, 1, 1, 1, 1, 0, 0, 0, 0, 1, 1]) (f106.Q9 k n1))) (f106.Q9 k n1)
noncomputable def f106.Q13 (k : Nat) (n1 : Nat) : Kont (Value × AHeap) := blkQ 8 (f106.Q12 k n1)
noncomputable def f106.Q14 (k : Nat) (n1 : Nat) (n2 : Nat) : Kont (Value × AHeap) := seqQ (iter (run Try.prog (C k) k (Sub (bodyOf Try.f106) [1, 1, 1, 1, 1, 1, 1, 1, 1, 0, 0, 0, 0, 1, 0, 0, 0])) (f106.Q13 k n1) n2) (f106.Q13 k n1)
noncomputable def f106.L1 (k : Nat) (n1 : Nat) (a0 : Option Addr) (l0 : Nat) (c0 : Nat) (x1 : Int) (x10 : Int) (x11 : Int) (D : List Value) (H : AHeap) : Option (Value × AHeap) :=
  iter (run Try.prog (C k) k (Sub (bodyOf Try.f106) [1, 1, 1, 0, 0, 0])) (f106.Q2 k ) n1 [.slice a0 l0 c0, .int .i64 x1, (D.getD 0 undef), (D.getD 1 undef), undef, undef, undef, undef, (D.getD 2 undef), (D.getD 3 undef), .int .i64 x10, .int .i64 x11, (D.getD 4 undef), (D.getD 5 undef), (D.getD 6 undef), (D.getD 7 undef), (D.getD 8 undef), (D.getD 9 undef), (D.getD 10 undef), (D.getD 11 undef), (D.getD 12 undef), (D.getD 13 undef), (D.getD 14 undef), (D.getD 15 undef), (D.getD 16 undef), (D.getD 17 undef), (D.getD 18 undef), (D.getD 19 undef), (D.getD 20 undef), (D.getD 21 undef), (D.getD 22 undef), (D.getD 23 undef), (D.getD 24 undef), (D.getD 25 undef), (D.getD 26 undef), (D.getD 27 undef), (D.getD 28 undef), (D.getD 29 undef), (D.getD 30 undef), (D.getD 31 undef), (D.getD 32 undef), (D.getD 33 undef), (D.getD 34 undef), (D.getD 35 undef), (D.getD 36 undef), (D.getD 37 undef), undef, undef, undef, undef, undef, undef, undef, undef, undef, undef, undef, undef, undef, undef, undef, undef, undef, undef, undef, undef, undef, undef, undef, undef, undef, undef, undef, undef, undef, undef, undef, undef, undef, undef, undef, undef, undef, undef, undef, undef, undef, undef, undef, undef, undef, undef, undef, undef, undef, undef, undef, undef, undef, undef, undef, undef, undef, undef, undef, undef, undef, undef, undef, undef, undef, undef, undef, undef, undef, undef, undef, undef, undef, undef, undef, undef, undef, undef, undef, undef, undef, undef, undef, undef, undef, undef, undef, undef, undef, undef, undef, undef, undef, undef, undef, undef, undef, undef, undef, undef, undef, undef, undef, undef, undef, undef, undef, undef, undef, undef, undef, undef, undef, undef, undef, undef, undef, undef, undef, undef, undef, undef] H
noncomputable def f106.K1 (k : Nat)  (a0 : Option Addr) (l0 : Nat) (c0 : Nat) (x1 : Int) (x10 : Int) (x11 : Int) (D : List Value) (H : AHeap) : Option (Value × AHeap) :=
  gateC (Sub (bodyOf Try.f106) [1, 1, 1, 0]) (Sub (bodyOf Try.f106) [1, 1, 1, 1]) k (run Try.prog (C k) k (Sub (bodyOf Try.f106) [1, 1, 1, 1]) (f106.Q0 k )) [.slice a0 l0 c0, .int .i64 x1, (D.getD 0 undef), (D.getD 1 undef), undef, undef, undef, undef, (D.getD 2 undef), (D.getD 3 undef), .int .i64 x10, .int .i64 x11, (D.getD 4 undef), (D.getD 5 undef), (D.getD 6 undef), (D.getD 7 undef), (D.getD 8 undef), (D.getD 9 undef), (D.getD 10 undef), (D.getD 11 undef), (D.getD 12 undef), (D.getD 13 undef), (D.getD 14 undef), (D.getD 15 undef), (D.getD 16 undef), (D.getD 17 undef), (D.getD 18 undef), (D.getD 19 undef), (D.getD 20 undef), (D.getD 21 undef), (D.getD 22 undef), (D.getD 23 undef), (D.getD 24 undef), (D.getD 25 undef), (D.getD 26 undef), (D.getD 27 undef), (D.getD 28 undef), (D.getD 29 undef), (D.getD 30 undef), (D.getD 31 undef), (D.getD 32 undef), (D.getD 33 undef), (D.getD 34 undef), (D.getD 35 undef), (D.getD 36 undef), (D.getD 37 undef), undef, undef, undef, undef, undef, undef, undef, undef, undef, undef, undef, undef, undef, undef, undef, undef, undef, undef, undef, undef, undef, undef, undef, undef, undef, undef, undef, undef, undef, undef, undef, undef, undef, undef, undef, undef, undef, undef, undef, undef, undef, undef, undef, undef, undef, undef, undef, undef, undef, undef, undef, undef, undef, undef, undef, undef, undef, undef, undef, undef, undef, undef, undef, undef, undef, undef, undef, undef, undef, undef, undef, undef, undef, undef, undef, undef, undef, undef, undef, undef, undef, undef, undef, undef, undef, undef, undef, undef, undef, undef, undef, undef, undef, undef, undef, undef, undef, undef, undef, undef, undef, undef, undef, undef, undef, undef, undef, undef, undef, undef, undef, undef, undef, undef, undef, undef, undef, undef, undef, undef, undef, undef] H
noncomputable def f106.L2 (k : Nat) (n1 : Nat) (a0 : Option Addr) (l0 : Nat) (c0 : Nat) (x1 : Int) (x10 : Int) (x11 : Int) (D : List Value) (H : AHeap) : Option (Value × AHeap) :=
  iter (run Try.prog (C k) k (Sub (bodyOf Try.f106) [1, 1, 1, 1, 0, 0, 0])) (f106.Q4 k ) n1 [.slice a0 l0 c0, .int .i64 x1, (D.getD 0 undef), (D.getD 1 undef), undef, undef, undef, undef, (D.getD 2 undef), (D.getD 3 undef), .int .i64 x10, .int .i64 x11, (D.getD 4 undef), (D.getD 5 undef), (D.getD 6 undef), (D.getD 7 undef), (D.getD 8 undef), (D.getD 9 undef), (D.getD 10 undef), (D.getD 11 undef), (D.getD 12 undef), (D.getD 13 undef), (D.getD 14 undef), (D.getD 15 undef), (D.getD 16 undef), (D.getD 17 undef), (D.getD 18 undef), (D.getD 19 undef), (D.getD 20 undef), (D.getD 21 undef), (D.getD 22 undef), (D.getD 23 undef), (D.getD 24 undef), (D.getD 25 undef), (D.getD 26 undef), (D.getD 27 undef), (D.getD 28 undef), (D.getD 29 undef), (D.getD 30 undef), (D.getD 31 undef), (D.getD 32 undef), (D.getD 33 undef), (D.getD 34 undef), (D.getD 35 undef), (D.getD 36 undef), (D.getD 37 undef), (D.getD 38 undef), (D.getD 39 undef), (D.getD 40 undef), (D.getD 41 undef), (D.getD 42 undef), (D.getD 43 undef), (D.getD 44 undef), (D.getD 45 undef), (D.getD 46 undef), (D.getD 47 undef), (D.getD 48 undef), (D.getD 49 undef), (D.getD 50 undef), (D.getD 51 undef), (D.getD 52 undef), (D.getD 53 undef), (D.getD 54 undef), undef, undef, undef, undef, undef, undef, undef, undef, undef, undef, undef, undef, undef, undef, undef, undef, undef, undef, undef, undef, undef, undef, undef, undef, undef, undef, undef, undef, undef, undef, undef, undef, undef, undef, undef, undef, undef, undef, undef, undef, undef, undef, undef, undef, undef, undef, undef, undef, undef, undef, undef, undef, undef, undef, undef, undef, undef, undef, undef, undef, undef, undef, undef, undef, undef, undef, undef, undef, undef, undef, undef, undef, undef, undef, undef, undef, undef, undef, undef, undef, undef, undef, undef, undef, undef, undef, undef, undef, undef, undef, undef, undef, undef, undef, undef, undef, undef, undef, undef, undef, undef, undef, undef, undef, undef] H
noncomputable def f106.K2 (k : Nat)  (a0 : Option Addr) (l0 : Nat) (c0 : Nat) (x1 : Int) (x10 : Int) (x11 : Int) (D : List Value) (H : AHeap) : Option (Value × AHeap) :=
  gateC (Sub (bodyOf Try.f106) [1, 1, 1, 1, 0]) (Sub (bodyOf Try.f106) [1, 1, 1, 1, 1]) k (run Try.prog (C k) k (Sub (bodyOf Try.f106) [1, 1, 1, 1, 1]) (f106.Q0 k )) [.slice a0 l0 c0, .int .i64 x1, (D.getD 0 undef), (D.getD 1 undef), undef, undef, undef, undef, (D.getD 2 undef), (D.getD 3 undef), .int .i64 x10, .int .i64 x11, (D.getD 4 undef), (D.getD 5 undef), (D.getD 6 undef), (D.getD 7 undef), (D.getD 8 undef), (D.getD 9 undef), (D.getD 10 undef), (D.getD 11 undef), (D.getD 12 undef), (D.getD 13 undef), (D.getD 14 undef), (D.getD 15 undef), (D.getD 16 undef), (D.getD 17 undef), (D.getD 18 undef), (D.getD 19 undef), (D.getD 20 undef), (D.getD 21 undef), (D.getD 22 undef), (D.getD 23 undef), (D.getD 24 undef), (D.getD 25 undef), (D.getD 26 undef), (D.getD 27 undef), (D.getD 28 undef), (D.getD 29 undef), (D.getD 30 undef), (D.getD 31 undef), (D.getD 32 undef), (D.getD 33 undef), (D.getD 34 undef), (D.getD 35 undef), (D.getD 36 undef), (D.getD 37 undef), (D.getD 38 undef), (D.getD 39 undef), (D.getD 40 undef), (D.getD 41 undef), (D.getD 42 undef), (D.getD 43 undef), (D.getD 44 undef), (D.getD 45 undef), (D.getD 46 undef), (D.getD 47 undef), (D.getD 48 undef), (D.getD 49 undef), (D.getD 50 undef), (D.getD 51 undef), (D.getD 52 undef), (D.getD 53 undef), (D.getD 54 undef), undef, undef, undef, undef, undef, undef, undef, undef, undef, undef, undef, undef, undef, undef, undef, undef, undef, undef, undef, undef, undef, undef, undef, undef, undef, undef, undef, undef, undef, undef, undef, undef, undef, undef, undef, undef, undef, undef, undef, undef, undef, undef, undef, undef, undef, undef, undef, undef, undef, undef, undef, undef, undef, undef, undef, undef, undef, undef, undef, undef, undef, undef, undef, undef, undef, undef, undef, undef, undef, undef, undef, undef, undef, undef, undef, undef, undef, undef, undef, undef, undef, undef, undef, undef, undef, undef, undef, undef, undef, undef, undef, undef, undef, undef, undef, undef, undef, undef, undef, undef, undef, undef, undef, undef, undef] H
noncomputable def f106.L3 (k : Nat) (n1 : Nat) (a0 : Option Addr) (l0 : Nat) (c0 : Nat) (x1 : Int) (x10 : Int) (x11 : Int) (D : List Value) (H : AHeap) : Option (Value × AHeap) :=
  iter (run Try.prog (C k) k (Sub (bodyOf Try.f106) [1, 1, 1, 1, 1, 1, 1, 1, 1, 0, 0, 0])) (f106.Q7 k ) n1 [.slice a0 l0 c0, .int .i64 x1, (D.getD 0 undef), (D.getD 1 undef), undef, undef, undef, undef, (D.getD 2 undef), (D.getD 3 undef), .int .i64 x10, .int .i64 x11, (D.getD 4 undef), (D.getD 5 undef), (D.getD 6 undef), (D.getD 7 undef), (D.getD 8 undef), (D.getD 9 undef), (D.getD 10 undef), (D.getD 11 undef), (D.getD 12 undef), (D.getD 13 undef), (D.getD 14 undef), (D.getD 15 undef), (D.getD 16 undef), (D.getD 17 undef), (D.getD 18 undef), (D.getD 19 undef), (D.getD 20 undef), (D.getD 21 undef), (D.getD 22 undef), (D.getD 23 undef), (D.getD 24 undef), (D.getD 25 undef), (D.getD 26 undef), (D.getD 27 undef), (D.getD 28 undef), (D.getD 29 undef), (D.getD 30 undef), (D.getD 31 undef), (D.getD 32 undef), (D.getD 33 undef), (D.getD 34 undef), (D.getD 35 undef), (D.getD 36 undef), (D.getD 37 undef), (D.getD 38 undef), (D.getD 39 undef), (D.getD 40 undef), (D.getD 41 undef), (D.getD 42 undef), (D.getD 43 undef), (D.getD 44 undef), (D.getD 45 undef), (D.getD 46 undef), (D.getD 47 undef), (D.getD 48 undef), (D.getD 49 undef), (D.getD 50 undef), (D.getD 51 undef), (D.getD 52 undef), (D.getD 53 undef), (D.getD 54 undef), (D.getD 55 undef), (D.getD 56 undef), (D.getD 57 undef), undef, undef, undef, undef, undef, undef, undef, undef, undef, undef, undef, undef, undef, undef, undef, (D.getD 58 undef), (D.getD 59 undef), (D.getD 60 undef), (D.getD 61 undef), (D.getD 62 undef), (D.getD 63 undef), (D.getD 64 undef), (D.getD 65 undef), (D.getD 66 undef), (D.getD 67 undef), (D.getD 68 undef), (D.getD 69 undef), (D.getD 70 undef), (D.getD 71 undef), (D.getD 72 undef), (D.getD 73 undef), (D.getD 74 undef), (D.getD 75 undef), (D.getD 76 undef), (D.getD 77 undef), (D.getD 78 undef), (D.getD 79 undef), (D.getD 80 undef), (D.getD 81 undef), (D.getD 82 undef), (D.getD 83 undef), (D.getD 84 undef), (D.getD 85 undef), (D.getD 86 undef), (D.getD 87 undef), (D.getD 88 undef), (D.getD 89 undef), (D.getD 90 undef), (D.getD 91 undef), (D.getD 92 undef), (D.getD 93 undef), (D.getD 94 undef), (D.getD 95 undef), (D.getD 96 undef), (D.getD 97 undef), (D.getD 98 undef), (D.getD 99 undef), (D.getD 100 undef), (D.getD 101 undef), (D.getD 102 undef), (D.getD 103 undef), (D.getD 104 undef), (D.getD 105 undef), (D.getD 106 undef), (D.getD 107 undef), (D.getD 108 undef), (D.getD 109 undef), (D.getD 110 undef), (D.getD 111 undef), (D.getD 112 undef), (D.getD 113 undef), (D.getD 114 undef), (D.getD 115 undef), (D.getD 116 undef), (D.getD 117 undef), (D.getD 118 undef), (D.getD 119 undef), (D.getD 120 undef), (D.getD 121 undef), (D.getD 122 undef), (D.getD 123 undef), (D.getD 124 undef), (D.getD 125 undef), (D.getD 126 undef), (D.getD 127 undef), (D.getD 128 undef), (D.getD 129 undef), undef, undef, undef, undef, undef, undef, undef, undef, undef, undef, undef, undef, undef, undef, undef] H
noncomputable def f106.L4 (k : Nat) (n1 : Nat) (n2 : Nat) (a0 : Option Addr) (l0 : Nat) (c0 : Nat) (x1 : Int) (x10 : Int) (x11 : Int) (D : List Value) (H : AHeap) : Option (Value × AHeap) :=
  iter (run Try.prog (C k) k (Sub (bodyOf Try.f106) [1, 1, 1, 1, 1, 1, 1, 1, 1, 0, 0, 0, 0, 0, 0, 0])) (f106.Q11 k n1) n2 [.slice a0 l0 c0, .int .i64 x1, (D.getD 0 undef), (D.getD 1 undef), undef, undef, undef, undef, (D.getD 2 undef), (D.getD 3 undef), .int .i64 x10, .int .i64 x11, (D.getD 4 undef), (D.getD 5 undef), (D.getD 6 undef), (D.getD 7 undef), (D.getD 8 undef), (D.getD 9 undef), (D.getD 10 undef), (D.getD 11 undef), (D.getD 12 undef), (D.getD 13 undef), (D.getD 14 undef), (D.getD 15 undef), (D.getD 16 undef), (D.getD 17 undef), (D.getD 18 undef), (D.getD 19 undef), (D.getD 20 undef), (D.getD 21 undef), (D.getD 22 undef), (D.getD 23 undef), (D.getD 24 undef), (D.getD 25 undef), (D.getD 26 undef), (D.getD 27 undef), (D.getD 28 undef), (D.getD 29 undef), (D.getD 30 undef), (D.getD 31 undef), (D.getD 32 undef), (D.getD 33 undef), (D.getD 34 undef), (D.getD 35 undef), (D.getD 36 undef), (D.getD 37 undef), (D.getD 38 undef), (D.getD 39 undef), (D.getD 40 undef), (D.getD 41 undef), (D.getD 42 undef), (D.getD 43 undef), (D.getD 44 undef), (D.getD 45 undef), (D.getD 46 undef), (D.getD 47 undef), (D.getD 48 undef), (D.getD 49 undef), (D.getD 50 undef), (D.getD 51 undef), (D.getD 52 undef), (D.getD 53 undef), (D.getD 54 undef), (D.getD 55 undef), (D.getD 56 undef), (D.getD 57 undef), undef, undef, undef, undef, undef, undef, undef, undef, undef, undef, undef, undef, undef, undef, undef, (D.getD 58 undef), (D.getD 59 undef), (D.getD 60 undef), (D.getD 61 undef), (D.getD 62 undef), (D.getD 63 undef), (D.getD 64 undef), (D.getD 65 undef), (D.getD 66 undef), (D.getD 67 undef), (D.getD 68 undef), (D.getD 69 undef), (D.getD 70 undef), (D.getD 71 undef), (D.getD 72 undef), (D.getD 73 undef), (D.getD 74 undef), (D.getD 75 undef), (D.getD 76 undef), (D.getD 77 undef), (D.getD 78 undef), (D.getD 79 undef), (D.getD 80 undef), (D.getD 81 undef), (D.getD 82 undef), (D.getD 83 undef), (D.getD 84 undef), (D.getD 85 undef), (D.getD 86 undef), (D.getD 87 undef), (D.getD 88 undef), (D.getD 89 undef), (D.getD 90 undef), (D.getD 91 undef), (D.getD 92 undef), (D.getD 93 undef), (D.getD 94 undef), (D.getD 95 undef), (D.getD 96 undef), (D.getD 97 undef), (D.getD 98 undef), (D.getD 99 undef), (D.getD 100 undef), (D.getD 101 undef), (D.getD 102 undef), (D.getD 103 undef), (D.getD 104 undef), (D.getD 105 undef), (D.getD 106 undef), (D.getD 107 undef), (D.getD 108 undef), (D.getD 109 undef), (D.getD 110 undef), (D.getD 111 undef), (D.getD 112 undef), (D.getD 113 undef), (D.getD 114 undef), (D.getD 115 undef), (D.getD 116 undef), (D.getD 117 undef), (D.getD 118 undef), (D.getD 119 undef), (D.getD 120 undef), (D.getD 121 undef), (D.getD 122 undef), (D.getD 123 undef), (D.getD 124 undef), (D.getD 125 undef), (D.getD 126 undef), (D.getD 127 undef), (D.getD 128 undef), (D.getD 129 undef), undef, undef, undef, undef, undef, undef, undef, undef, undef, undef, undef, undef, undef, undef, undef] H
noncomputable def f106.K3 (k : Nat) (n1 : Nat) (a0 : Option Addr) (l0 : Nat) (c0 : Nat) (x1 : Int) (x10 : Int) (x11 : Int) (D : List Value) (H : AHeap) : Option (Value × AHeap) :=
  gateC (Sub (bodyOf Try.f106) [1, 1, 1, 1, 1, 1, 1, 1, 1, 0, 0, 0, 0, 0]) (Sub (bodyOf Try.f106) [1, 1, 1, 1, 1, 1, 1, 1, 1, 0, 0, 0, 0, 1]) k (run Try.prog (C k) k (Sub (bodyOf Try.f106) [1, 1, 1, 1, 1, 1, 1, 1, 1, 0, 0, 0, 0, 1]) (f106.Q9 k n1)) [.slice a0 l0 c0, .int .i64 x1, (D.getD 0 undef), (D.getD 1 undef), undef, undef, undef, undef, (D.getD 2 undef), (D.getD 3 undef), .int .i64 x10, .int .i64 x11, (D.getD 4 undef), (D.getD 5 undef), (D.getD 6 undef), (D.getD 7 undef), (D.getD 8 undef), (D.getD 9 undef), (D.getD 10 undef), (D.getD 11 undef), (D.getD 12 undef), (D.getD 13 undef), (D.getD 14 undef), (D.getD 15 undef), (D.getD 16 undef), (D.getD 17 undef), (D.getD 18 undef), (D.getD 19 undef), (D.getD 20 undef), (D.getD 21 undef), (D.getD 22 undef), (D.getD 23 undef), (D.getD 24 undef), (D.getD 25 undef), (D.getD 26 undef), (D.getD 27 undef), (D.getD 28 undef), (D.getD 29 undef), (D.getD 30 undef), (D.getD 31 undef), (D.getD 32 undef), (D.getD 33 undef), (D.getD 34 undef), (D.getD 35 undef), (D.getD 36 undef), (D.getD 37 undef), (D.getD 38 undef), (D.getD 39 undef), (D.getD 40 undef), (D.getD 41 undef), (D.getD 42 undef), (D.getD 43 undef), (D.getD 44 undef), (D.getD 45 undef), (D.getD 46 undef), (D.getD 47 undef), (D.getD 48 undef), (D.getD 49 undef), (D.getD 50 undef), (D.getD 51 undef), (D.getD 52 undef), (D.getD 53 undef), (D.getD 54 undef), (D.getD 55 undef), (D.getD 56 undef), (D.getD 57 undef), undef, undef, undef, undef, undef, undef, undef, undef, undef, undef, undef, undef, undef, undef, undef, (D.getD 58 undef), (D.getD 59 undef), (D.getD 60 undef), (D.getD 61 undef), (D.getD 62 undef), (D.getD 63 undef), (D.getD 64 undef), (D.getD 65 undef), (D.getD 66 undef), (D.getD 67 undef), (D.getD 68 undef), (D.getD 69 undef), (D.getD 70 undef), (D.getD 71 undef), (D.getD 72 undef), (D.getD 73 undef), (D.getD 74 undef), (D.getD 75 undef), (D.getD 76 undef), (D.getD 77 undef), (D.getD 78 undef), (D.getD 79 undef), (D.getD 80 undef), (D.getD 81 undef), (D.getD 82 undef), (D.getD 83 undef), (D.getD 84 undef), (D.getD 85 undef), (D.getD 86 undef), (D.getD 87 undef), (D.getD 88 undef), (D.getD 89 undef), (D.getD 90 undef), (D.getD 91 undef), (D.getD 92 undef), (D.getD 93 undef), (D.getD 94 undef), (D.getD 95 undef), (D.getD 96 undef), (D.getD 97 undef), (D.getD 98 undef), (D.getD 99 undef), (D.getD 100 undef), (D.getD 101 undef), (D.getD 102 undef), (D.getD 103 undef), (D.getD 104 undef), (D.getD 105 undef), (D.getD 106 undef), (D.getD 107 undef), (D.getD 108 undef), (D.getD 109 undef), (D.getD 110 undef), (D.getD 111 undef), (D.getD 112 undef), (D.getD 113 undef), (D.getD 114 undef), (D.getD 115 undef), (D.getD 116 undef), (D.getD 117 undef), (D.getD 118 undef), (D.getD 119 undef), (D.getD 120 undef), (D.getD 121 undef), (D.getD 122 undef), (D.getD 123 undef), (D.getD 124 undef), (D.getD 125 undef), (D.getD 126 undef), (D.getD 127 undef), (D.getD 128 undef), (D.getD 129 undef), undef, undef, undef, undef, undef, undef, undef, undef, undef, undef, undef, undef, undef, undef, undef] H
noncomputable def f106.L5 (k : Nat) (n1 : Nat) (n2 : Nat) (a0 : Option Addr) (l0 : Nat) (c0 : Nat) (x1 : Int) (x10 : Int) (x11 : Int) (D : List Value) (H : AHeap) : Option (Value × AHeap) :=
  iter (run Try.prog (C k) k (Sub (bodyOf Try.f106) [1, 1, 1, 1, 1, 1, 1, 1, 1, 0, 0, 0, 0, 1, 0, 0, 0])) (f106.Q13 k n1) n2 [.slice a0 l0 c0, .int .i64 x1, (D.getD 0 undef), (D.getD 1 undef), undef, undef, undef, undef, (D.getD 2 undef), (D.getD 3 undef), .int .i64 x10, .int .i64 x11, (D.getD 4 undef), (D.getD 5 undef), (D.getD 6 undef), (D.getD 7 undef), (D.getD 8 undef), (D.getD 9 undef), (D.getD 10 undef), (D.getD 11 undef), (D.getD 12 undef), (D.getD 13 undef), (D.getD 14 undef), (D.getD 15 undef), (D.getD 16 undef), (D.getD 17 undef), (D.getD 18 undef), (D.getD 19 undef), (D.getD 20 undef), (D.getD 21 undef), (D.getD 22 undef), (D.getD 23 undef), (D.getD 24 undef), (D.getD 25 undef), (D.getD 26 undef), (D.getD 27 undef), (D.getD 28 undef), (D.getD 29 undef), (D.getD 30 undef), (D.getD 31 undef), (D.getD 32 undef), (D.getD 33 undef), (D.getD 34 undef), (D.getD 35 undef), (D.getD 36 undef), (D.getD 37 undef), (D.getD 38 undef), (D.getD 39 undef), (D.getD 40 undef), (D.getD 41 undef), (D.getD 42 undef), (D.getD 43 undef), (D.getD 44 undef), (D.getD 45 undef), (D.getD 46 undef), (D.getD 47 undef), (D.getD 48 undef), (D.getD 49 undef), (D.getD 50 undef), (D.getD 51 undef), (D.getD 52 undef), (D.getD 53 undef), (D.getD 54 undef), (D.getD 55 undef), (D.getD 56 undef), (D.getD 57 undef), undef, undef, undef, undef, undef, undef, undef, undef, undef, undef, undef, undef, undef, undef, undef, (D.getD 58 undef), (D.getD 59 undef), (D.getD 60 undef), (D.getD 61 undef), (D.getD 62 undef), (D.getD 63 undef), (D.getD 64 undef), (D.getD 65 undef), (D.getD 66 undef), (D.getD 67 undef), (D.getD 68 undef), (D.getD 69 undef), (D.getD 70 undef), (D.getD 71 undef), (D.getD 72 undef), (D.getD 73 undef), (D.getD 74 undef), (D.getD 75 undef), (D.getD 76 undef), (D.getD 77 undef), (D.getD 78 undef), (D.getD 79 undef), (D.getD 80 undef), (D.getD 81 undef), (D.getD 82 undef), (D.getD 83 undef), (D.getD 84 undef), (D.getD 85 undef), (D.getD 86 undef), (D.getD 87 undef), (D.getD 88 undef), (D.getD 89 undef), (D.getD 90 undef), (D.getD 91 undef), (D.getD 92 undef), (D.getD 93 undef), (D.getD 94 undef), (D.getD 95 undef), (D.getD 96 undef), (D.getD 97 undef), (D.getD 98 undef), (D.getD 99 undef), (D.getD 100 undef), (D.getD 101 undef), (D.getD 102 undef), (D.getD 103 undef), (D.getD 104 undef), (D.getD 105 undef), (D.getD 106 undef), (D.getD 107 undef), (D.getD 108 undef), (D.getD 109 undef), (D.getD 110 undef), (D.getD 111 undef), (D.getD 112 undef), (D.getD 113 undef), (D.getD 114 undef), (D.getD 115 undef), (D.getD 116 undef), (D.getD 117 undef), (D.getD 118 undef), (D.getD 119 undef), (D.getD 120 undef), (D.getD 121 undef), (D.getD 122 undef), (D.getD 123 undef), (D.getD 124 undef), (D.getD 125 undef), (D.getD 126 undef), (D.getD 127 undef), (D.getD 128 undef), (D.getD 129 undef), undef, undef, undef, undef, undef, undef, undef, undef, undef, undef, undef, undef, undef, undef, undef] H
noncomputable def f106.K4 (k : Nat) (n1 : Nat) (a0 : Option Addr) (l0 : Nat) (c0 : Nat) (x1 : Int) (x10 : Int) (x11 : Int) (D : List Value) (H : AHeap) : Option (Value × AHeap) :=
  gateC (Sub (bodyOf Try.f106) [1, 1, 1, 1, 1, 1, 1, 1, 1, 0, 0, 0, 0, 1, 0]) (Sub (bodyOf Try.f106) [1, 1, 1, 1, 1, 1, 1, 1, 1, 0, 0, 0, 0, 1, 1]) k (run Try.prog (C k) k (Sub (bodyOf Try.f106) [1, 1, 1, 1, 1, 1, 1, 1, 1, 0, 0, 0, 0, 1, 1]) (f106.Q9 k n1)) [.slice a0 l0 c0, .int .i64 x1, (D.getD 0 undef), (D.getD 1 undef), undef, undef, undef, undef, (D.getD 2 undef), (D.getD 3 undef), .int .i64 x10, .int .i64 x11, (D.getD 4 undef), (D.getD 5 undef), (D.getD 6 undef), (D.getD 7 undef), (D.getD 8 undef), (D.getD 9 undef), (D.getD 10 undef), (D.getD 11 undef), (D.getD 12 undef), (D.getD 13 undef), (D.getD 14 undef), (D.getD 15 undef), (D.getD 16 undef), (D.getD 17 undef), (D.getD 18 undef), (D.getD 19 undef), (D.getD 20 undef), (D.getD 21 undef), (D.getD 22 undef), (D.getD 23 undef), (D.getD 24 undef), (D.getD 25 undef), (D.getD 26 undef), (D.getD 27 undef), (D.getD 28 undef), (D.getD 29 undef), (D.getD 30 undef), (D.getD 31 undef), (D.getD 32 undef), (D.getD 33 undef), (D.getD 34 undef), (D.getD 35 undef), (D.getD 36 undef), (D.getD 37 undef), (D.getD 38 undef), (D.getD 39 undef), (D.getD 40 undef), (D.getD 41 undef), (D.getD 42 undef), (D.getD 43 undef), (D.getD 44 undef), (D.getD 45 undef), (D.getD 46 undef), (D.getD 47 undef), (D.getD 48 undef), (D.getD 49 undef), (D.getD 50 undef), (D.getD 51 undef), (D.getD 52 undef), (D.getD 53 undef), (D.getD 54 undef), (D.getD 55 undef), (D.getD 56 undef), (D.getD 57 undef), undef, undef, undef, undef, undef, undef, undef, undef, undef, undef, undef, undef, undef, undef, undef, (D.getD 58 undef), (D.getD 59 undef), (D.getD 60 undef), (D.getD 61 undef), (D.getD 62 undef), (D.getD 63 undef), (D.getD 64 undef), (D.getD 65 undef), (D.getD 66 undef), (D.getD 67 undef), (D.getD 68 undef), (D.getD 69 undef), (D.getD 70 undef), (D.getD 71 undef), (D.getD 72 undef), (D.getD 73 undef), (D.getD 74 undef), (D.getD 75 undef), (D.getD 76 undef), (D.getD 77 undef), (D.getD 78 undef), (D.getD 79 undef), (D.getD 80 undef), (D.getD 81 undef), (D.getD 82 undef), (D.getD 83 undef), (D.getD 84 undef), (D.getD 85 undef), (D.getD 86 undef), (D.getD 87 undef), (D.getD 88 undef), (D.getD 89 undef), (D.getD 90 undef), (D.getD 91 undef), (D.getD 92 undef), (D.getD 93 undef), (D.getD 94 undef), (D.getD 95 undef), (D.getD 96 undef), (D.getD 97 undef), (D.getD 98 undef), (D.getD 99 undef), (D.getD 100 undef), (D.getD 101 undef), (D.getD 102 undef), (D.getD 103 undef), (D.getD 104 undef), (D.getD 105 undef), (D.getD 106 undef), (D.getD 107 undef), (D.getD 108 undef), (D.getD 109 undef), (D.getD 110 undef), (D.getD 111 undef), (D.getD 112 undef), (D.getD 113 undef), (D.getD 114 undef), (D.getD 115 undef), (D.getD 116 undef), (D.getD 117 undef), (D.getD 118 undef), (D.getD 119 undef), (D.getD 120 undef), (D.getD 121 undef), (D.getD 122 undef), (D.getD 123 undef), (D.getD 124 undef), (D.getD 125 undef), (D.getD 126 undef), (D.getD 127 undef), (D.getD 128 undef), (D.getD 129 undef), undef, undef, undef, undef, undef, undef, undef, undef, undef, undef, undef, undef, undef, undef, undef] H
noncomputable def f106.K5 (k : Nat)  (a0 : Option Addr) (l0 : Nat) (c0 : Nat) (x1 : Int) (x11 : Int) (D : List Value) (H : AHeap) : Option (Value × AHeap) :=
  gateC (Sub (bodyOf Try.f106) [1, 1, 1, 1, 1, 1, 1, 1, 1, 0]) (Sub (bodyOf Try.f106) [1, 1, 1, 1, 1, 1, 1, 1, 1, 1]) k (run Try.prog (C k) k (Sub (bodyOf Try.f106) [1, 1, 1, 1, 1, 1, 1, 1, 1, 1]) (f106.Q0 k )) [.slice a0 l0 c0, .int .i64 x1, (D.getD 0 undef), (D.getD 1 undef), undef, undef, undef, undef, (D.getD 2 undef), (D.getD 3 undef), (D.getD 4 undef), .int .i64 x11, (D.getD 5 undef), (D.getD 6 undef), (D.getD 7 undef), (D.getD 8 undef), (D.getD 9 undef), (D.getD 10 undef), (D.getD 11 undef), (D.getD 12 undef), (D.getD 13 undef), (D.getD 14 undef), (D.getD 15 undef), (D.getD 16 undef), (D.getD 17 undef), (D.getD 18 undef), (D.getD 19 undef), (D.getD 20 undef), (D.getD 21 undef), (D.getD 22 undef), (D.getD 23 undef), (D.getD 24 undef), (D.getD 25 undef), (D.getD 26 undef), (D.getD 27 undef), (D.getD 28 undef), (D.getD 29 undef), (D.getD 30 undef), (D.getD 31 undef), (D.getD 32 undef), (D.getD 33 undef), (D.getD 34 undef), (D.getD 35 undef), (D.getD 36 undef), (D.getD 37 undef), (D.getD 38 undef), (D.getD 39 undef), (D.getD 40 undef), (D.getD 41 undef), (D.getD 42 undef), (D.getD 43 undef), (D.getD 44 undef), (D.getD 45 undef), (D.getD 46 undef), (D.getD 47 undef), (D.getD 48 undef), (D.getD 49 undef), (D.getD 50 undef), (D.getD 51 undef), (D.getD 52 undef), (D.getD 53 undef), (D.getD 54 undef), (D.getD 55 undef), (D.getD 56 undef), (D.getD 57 undef), (D.getD 58 undef), undef, undef, undef, undef, undef, undef, undef, undef, undef, undef, undef, undef, undef, undef, undef, (D.getD 59 undef), (D.getD 60 undef), (D.getD 61 undef), (D.getD 62 undef), (D.getD 63 undef), (D.getD 64 undef), (D.getD 65 undef), (D.getD 66 undef), (D.getD 67 undef), (D.getD 68 undef), (D.getD 69 undef), (D.getD 70 undef), (D.getD 71 undef), (D.getD 72 undef), (D.getD 73 undef), (D.getD 74 undef), (D.getD 75 undef), (D.getD 76 undef), (D.getD 77 undef), (D.getD 78 undef), (D.getD 79 undef), (D.getD 80 undef), (D.getD 81 undef), (D.getD 82 undef), (D.getD 83 undef), (D.getD 84 undef), (D.getD 85 undef), (D.getD 86 undef), (D.getD 87 undef), (D.getD 88 undef), (D.getD 89 undef), (D.getD 90 undef), (D.getD 91 undef), (D.getD 92 undef), (D.getD 93 undef), (D.getD 94 undef), (D.getD 95 undef), (D.getD 96 undef), (D.getD 97 undef), (D.getD 98 undef), (D.getD 99 undef), (D.getD 100 undef), (D.getD 101 undef), (D.getD 102 undef), (D.getD 103 undef), (D.getD 104 undef), (D.getD 105 undef), (D.getD 106 undef), (D.getD 107 undef), (D.getD 108 undef), (D.getD 109 undef), (D.getD 110 undef), (D.getD 111 undef), (D.getD 112 undef), (D.getD 113 undef), (D.getD 114 undef), (D.getD 115 undef), (D.getD 116 undef), (D.getD 117 undef), (D.getD 118 undef), (D.getD 119 undef), (D.getD 120 undef), (D.getD 121 undef), (D.getD 122 undef), (D.getD 123 undef), (D.getD 124 undef), (D.getD 125 undef), (D.getD 126 undef), (D.getD 127 undef), (D.getD 128 undef), (D.getD 129 undef), (D.getD 130 undef), undef, undef, undef, undef, undef, undef, undef, undef, undef, undef, undef, undef, undef, undef, undef] H
theorem f106.L1_z (k : Nat)  (a0 : Option Addr) (l0 : Nat) (c0 : Nat) (x1 : Int) (x10 : Int) (x11 : Int) (D : List Value) (H : AHeap) : f106.L1 k 0 a0 l0 c0 x1 x10 x11 D H = none := by kernel_rfl
theorem f106.L1_s (k : Nat) (n1 : Nat) (a0 : Option Addr) (l0 : Nat) (c0 : Nat) (x1 : Int) (x10 : Int) (x11 : Int) (D : List Value) (H : AHeap) : f106.L1 k (n1 + 1) a0 l0 c0 x1 x10 x11 D H =
  (bif (decide (x10 ≤ x11)) then
   a0.bind fun q =>
   if 0 ≤ x10 ∧ x10 < (l0 : Int) then
   bif sameB H (H.bump 14) q.block then
   (ldI .i64 (H.bump 14) q.block (q.off + x10.toNat * 1)).bind fun x =>
   a0.bind fun q_1 =>
   if 0 ≤ x1 ∧ x1 < (l0 : Int) then
   bif sameB H (H.bump 14) q_1.block then
   (ldI .i64 (H.bump 14) q_1.block (q_1.off + x1.toNat * 1)).bind fun x_1 =>
   cB (C k 104 [.int .i64 x, .int .i64 x_1] (H.bump 14)) fun b H_1 =>
   bif b then
   f106.L1 k n1 a0 l0 c0 x1 (IntKind.i64.wrap (x10 + (1 : Int))) x11 [(D.getD 0 undef), (D.getD 1 undef), (D.getD 2 undef), (D.getD 3 undef), (D.getD 4 undef), (D.getD 5 undef), (D.getD 6 undef), (D.getD 7 undef), (D.getD 8 undef), (D.getD 9 undef), (D.getD 10 undef), (D.getD 11 undef), (D.getD 12 undef), (D.getD 13 undef), (D.getD 14 undef), (D.getD 15 undef), (D.getD 16 undef), (D.getD 17 undef), (D.getD 18 undef), (D.getD 19 undef), (D.getD 20 undef), (D.getD 21 undef), .int .i64 x10, .int .i64 x11, .bool (decide (x10 ≤ x11)), .bool true, .slice a0 l0 c0, .int .i64 x10, .pointer (some ⟨q.block, q.off + x10.toNat * 1, none⟩), .int .i64 x, .slice a0 l0 c0, .int .i64 x1, .pointer (some ⟨q_1.block, q_1.off + x1.toNat * 1, none⟩), .int .i64 x_1, .bool b, .bool b, .int .i64 x10, .int .i64 (IntKind.i64.wrap (x10 + (1 : Int)))] H_1
   else
   f106.K1 k a0 l0 c0 x1 x10 x11 [(D.getD 0 undef), (D.getD 1 undef), (D.getD 2 undef), (D.getD 3 undef), (D.getD 4 undef), (D.getD 5 undef), (D.getD 6 undef), (D.getD 7 undef), (D.getD 8 undef), (D.getD 9 undef), (D.getD 10 undef), (D.getD 11 undef), (D.getD 12 undef), (D.getD 13 undef), (D.getD 14 undef), (D.getD 15 undef), (D.getD 16 undef), (D.getD 17 undef), (D.getD 18 undef), (D.getD 19 undef), (D.getD 20 undef), (D.getD 21 undef), .int .i64 x10, .int .i64 x11, .bool (decide (x10 ≤ x11)), .bool true, .slice a0 l0 c0, .int .i64 x10, .pointer (some ⟨q.block, q.off + x10.toNat * 1, none⟩), .int .i64 x, .slice a0 l0 c0, .int .i64 x1, .pointer (some ⟨q_1.block, q_1.off + x1.toNat * 1, none⟩), .int .i64 x_1, .bool b, .bool b, (D.getD 36 undef), (D.getD 37 undef)] H_1
   else none
   else none
   else none
   else none
   else
   f106.K1 k a0 l0 c0 x1 x10 x11 [(D.getD 0 undef), (D.getD 1 undef), (D.getD 2 undef), (D.getD 3 undef), (D.getD 4 undef), (D.getD 5 undef), (D.getD 6 undef), (D.getD 7 undef), (D.getD 8 undef), (D.getD 9 undef), (D.getD 10 undef), (D.getD 11 undef), (D.getD 12 undef), (D.getD 13 undef), (D.getD 14 undef), (D.getD 15 undef), (D.getD 16 undef), (D.getD 17 undef), (D.getD 18 undef), (D.getD 19 undef), (D.getD 20 undef), (D.getD 21 undef), .int .i64 x10, .int .i64 x11, .bool (decide (x10 ≤ x11)), .bool false, undef, undef, undef, undef, undef, undef, undef, undef, undef, .bool false, (D.getD 36 undef), (D.getD 37 undef)] (H.bump 14)) := by kernel_rfl
theorem f106.K1_eq (k : Nat)  (a0 : Option Addr) (l0 : Nat) (c0 : Nat) (x1 : Int) (x10 : Int) (x11 : Int) (D : List Value) (H : AHeap) : f106.K1 k  a0 l0 c0 x1 x10 x11 D H =
  (f106.L2 k k a0 l0 c0 x1 x10 x11 [(D.getD 0 undef), (D.getD 1 undef), (D.getD 2 undef), (D.getD 3 undef), (D.getD 4 undef), (D.getD 5 undef), (D.getD 6 undef), (D.getD 7 undef), (D.getD 8 undef), (D.getD 9 undef), (D.getD 10 undef), (D.getD 11 undef), (D.getD 12 undef), (D.getD 13 undef), (D.getD 14 undef), (D.getD 15 undef), (D.getD 16 undef), (D.getD 17 undef), (D.getD 18 undef), (D.getD 19 undef), (D.getD 20 undef), (D.getD 21 undef), (D.getD 22 undef), (D.getD 23 undef), (D.getD 24 undef), (D.getD 25 undef), (D.getD 26 undef), (D.getD 27 undef), (D.getD 28 undef), (D.getD 29 undef), (D.getD 30 undef), (D.getD 31 undef), (D.getD 32 undef), (D.getD 33 undef), (D.getD 34 undef), (D.getD 35 undef), (D.getD 36 undef), (D.getD 37 undef), undef, undef, undef, undef, undef, undef, undef, undef, undef, undef, undef, undef, undef, undef, undef, undef, undef] H) := by
  unfold f106.K1
  rw [gateC_eq]
  kernel_rfl
theorem f106.L2_z (k : Nat)  (a0 : Option Addr) (l0 : Nat) (c0 : Nat) (x1 : Int) (x10 : Int) (x11 : Int) (D : List Value) (H : AHeap) : f106.L2 k 0 a0 l0 c0 x1 x10 x11 D H = none := by kernel_rfl
theorem f106.L2_b (k : Nat) (a0 : Option Addr) (l0 : Nat) (c0 : Nat) (x1 : Int) (x10 : Int) (x11 : Int) (D : List Value) (H : AHeap) (Q : Kont (Value × AHeap)) : run Try.prog (C k) k (Sub (bodyOf Try.f106) [1, 1, 1, 1, 0, 0, 0]) Q [.slice a0 l0 c0, .int .i64 x1, (D.getD 0 undef), (D.getD 1 undef), undef, undef, undef, undef, (D.getD 2 undef), (D.getD 3 undef), .int .i64 x10, .int .i64 x11, (D.getD 4 undef), (D.getD 5 undef), (D.getD 6 undef), (D.getD 7 undef), (D.getD 8 undef), (D.getD 9 undef), (D.getD 10 undef), (D.getD 11 undef), (D.getD 12 undef), (D.getD 13 undef), (D.getD 14 undef), (D.getD 15 undef), (D.getD 16 undef), (D.getD 17 undef), (D.getD 18 undef), (D.getD 19 undef), (D.getD 20 undef), (D.getD 21 undef), (D.getD 22 undef), (D.getD 23 undef), (D.getD 24 undef), (D.getD 25 undef), (D.getD 26 undef), (D.getD 27 undef), (D.getD 28 undef), (D.getD 29 undef), (D.getD 30 undef), (D.getD 31 undef), (D.getD 32 undef), (D.getD 33 undef), (D.getD 34 undef), (D.getD 35 undef), (D.getD 36 undef), (D.getD 37 undef), (D.getD 38 undef), (D.getD 39 undef), (D.getD 40 undef), (D.getD 41 undef), (D.getD 42 undef), (D.getD 43 undef), (D.getD 44 undef), (D.getD 45 undef), (D.getD 46 undef), (D.getD 47 undef), (D.getD 48 undef), (D.getD 49 undef), (D.getD 50 undef), (D.getD 51 undef), (D.getD 52 undef), (D.getD 53 undef), (D.getD 54 undef), undef, undef, undef, undef, undef, undef, undef, undef, undef, undef, undef, undef, undef, undef, undef, undef, undef, undef, undef, undef, undef, undef, undef, undef, undef, undef, undef, undef, undef, undef, undef, undef, undef, undef, undef, undef, undef, undef, undef, undef, undef, undef, undef, undef, undef, undef, undef, undef, undef, undef, undef, undef, undef, undef, undef, undef, undef, undef, undef, undef, undef, undef, undef, undef, undef, undef, undef, undef, undef, undef, undef, undef, undef, undef, undef, undef, undef, undef, undef, undef, undef, undef, undef, undef, undef, undef, undef, undef, undef, undef, undef, undef, undef, undef, undef, undef, undef, undef, undef, undef, undef, undef, undef, undef, undef] H =
  (bif (decide (x10 ≤ x11)) then
   a0.bind fun q =>
   if 0 ≤ x11 ∧ x11 < (l0 : Int) then
   bif sameB H (H.bump 15) q.block then
   (ldI .i64 (H.bump 15) q.block (q.off + x11.toNat * 1)).bind fun x =>
   a0.bind fun q_1 =>
   if 0 ≤ x1 ∧ x1 < (l0 : Int) then
   bif sameB H (H.bump 15) q_1.block then
   (ldI .i64 (H.bump 15) q_1.block (q_1.off + x1.toNat * 1)).bind fun x_1 =>
   cB (C k 104 [.int .i64 x, .int .i64 x_1] (H.bump 15)) fun b H_1 =>
   bif (!b) then
   Q .normal [.slice a0 l0 c0, .int .i64 x1, (D.getD 0 undef), (D.getD 1 undef), undef, undef, undef, undef, (D.getD 2 undef), (D.getD 3 undef), .int .i64 x10, .int .i64 (IntKind.i64.wrap (x11 - (1 : Int))), (D.getD 4 undef), (D.getD 5 undef), (D.getD 6 undef), (D.getD 7 undef), (D.getD 8 undef), (D.getD 9 undef), (D.getD 10 undef), (D.getD 11 undef), (D.getD 12 undef), (D.getD 13 undef), (D.getD 14 undef), (D.getD 15 undef), (D.getD 16 undef), (D.getD 17 undef), (D.getD 18 undef), (D.getD 19 undef), (D.getD 20 undef), (D.getD 21 undef), (D.getD 22 undef), (D.getD 23 undef), (D.getD 24 undef), (D.getD 25 undef), (D.getD 26 undef), (D.getD 27 undef), (D.getD 28 undef), (D.getD 29 undef), (D.getD 30 undef), (D.getD 31 undef), (D.getD 32 undef), (D.getD 33 undef), (D.getD 34 undef), (D.getD 35 undef), (D.getD 36 undef), (D.getD 37 undef), .int .i64 x10, .int .i64 x11, .bool (decide (x10 ≤ x11)), .bool true, .slice a0 l0 c0, .int .i64 x11, .pointer (some ⟨q.block, q.off + x11.toNat * 1, none⟩), .int .i64 x, .slice a0 l0 c0, .int .i64 x1, .pointer (some ⟨q_1.block, q_1.off + x1.toNat * 1, none⟩), .int .i64 x_1, .bool b, .bool (!b), .bool (!b), .int .i64 x11, .int .i64 (IntKind.i64.wrap (x11 - (1 : Int))), undef, undef, undef, undef, undef, undef, undef, undef, undef, undef, undef, undef, undef, undef, undef, undef, undef, undef, undef, undef, undef, undef, undef, undef, undef, undef, undef, undef, undef, undef, undef, undef, undef, undef, undef, undef, undef, undef, undef, undef, undef, undef, undef, undef, undef, undef, undef, undef, undef, undef, undef, undef, undef, undef, undef, undef, undef, undef, undef, undef, undef, undef, undef, undef, undef, undef, undef, undef, undef, undef, undef, undef, undef, undef, undef, undef, undef, undef, undef, undef, undef, undef, undef, undef, undef, undef, undef, undef, undef, undef, undef, undef, undef, undef, undef, undef, undef, undef, undef, undef, undef, undef, undef, undef, undef] H_1
   else
   Q (.exit 2) [.slice a0 l0 c0, .int .i64 x1, (D.getD 0 undef), (D.getD 1 undef), undef, undef, undef, undef, (D.getD 2 undef), (D.getD 3 undef), .int .i64 x10, .int .i64 x11, (D.getD 4 undef), (D.getD 5 undef), (D.getD 6 undef), (D.getD 7 undef), (D.getD 8 undef), (D.getD 9 undef), (D.getD 10 undef), (D.getD 11 undef), (D.getD 12 undef), (D.getD 13 undef), (D.getD 14 undef), (D.getD 15 undef), (D.getD 16 undef), (D.getD 17 undef), (D.getD 18 undef), (D.getD 19 undef), (D.getD 20 undef), (D.getD 21 undef), (D.getD 22 undef), (D.getD 23 undef), (D.getD 24 undef), (D.getD 25 undef), (D.getD 26 undef), (D.getD 27 undef), (D.getD 28 undef), (D.getD 29 undef), (D.getD 30 undef), (D.getD 31 undef), (D.getD 32 undef), (D.getD 33 undef), (D.getD 34 undef), (D.getD 35 undef), (D.getD 36 undef), (D.getD 37 undef), .int .i64 x10, .int .i64 x11, .bool (decide (x10 ≤ x11)), .bool true, .slice a0 l0 c0, .int .i64 x11, .pointer (some ⟨q.block, q.off + x11.toNat * 1, none⟩), .int .i64 x, .slice a0 l0 c0, .int .i64 x1, .pointer (some ⟨q_1.block, q_1.off + x1.toNat * 1, none⟩), .int .i64 x_1, .bool b, .bool (!b), .bool (!b), (D.getD 53 undef), (D.getD 54 undef), undef, undef, undef, undef, undef, undef, undef, undef, undef, undef, undef, undef, undef, undef, undef, undef, undef, undef, undef, undef, undef, undef, undef, undef, undef, undef, undef, undef, undef, undef, undef, undef, undef, undef, undef, undef, undef, undef, undef, undef, undef, undef, undef, undef, undef, undef, undef, undef, undef, undef, undef, undef, undef, undef, undef, undef, undef, undef, undef, undef, undef, undef, undef, undef, undef, undef, undef, undef, undef, undef, undef, undef, undef, undef, undef, undef, undef, undef, undef, undef, undef, undef, undef, undef, undef, undef, undef, undef, undef, undef, undef, undef, undef, undef, undef, undef, undef, undef, undef, undef, undef, undef, undef, undef, undef] H_1
   else none
   else none
   else none
   else none
   else
   Q (.exit 2) [.slice a0 l0 c0, .int .i64 x1, (D.getD 0 undef), (D.getD 1 undef), undef, undef, undef, undef, (D.getD 2 undef), (D.getD 3 undef), .int .i64 x10, .int .i64 x11, (D.getD 4 undef), (D.getD 5 undef), (D.getD 6 undef), (D.getD 7 undef), (D.getD 8 undef), (D.getD 9 undef), (D.getD 10 undef), (D.getD 11 undef), (D.getD 12 undef), (D.getD 13 undef), (D.getD 14 undef), (D.getD 15 undef), (D.getD 16 undef), (D.getD 17 undef), (D.getD 18 undef), (D.getD 19 undef), (D.getD 20 undef), (D.getD 21 undef), (D.getD 22 undef), (D.getD 23 undef), (D.getD 24 undef), (D.getD 25 undef), (D.getD 26 undef), (D.getD 27 undef), (D.getD 28 undef), (D.getD 29 undef), (D.getD 30 undef), (D.getD 31 undef), (D.getD 32 undef), (D.getD 33 undef), (D.getD 34 undef), (D.getD 35 undef), (D.getD 36 undef), (D.getD 37 undef), .int .i64 x10, .int .i64 x11, .bool (decide (x10 ≤ x11)), .bool false, undef, undef, undef, undef, undef, undef, undef, undef, undef, undef, .bool false, (D.getD 53 undef), (D.getD 54 undef), undef, undef, undef, undef, undef, undef, undef, undef, undef, undef, undef, undef, undef, undef, undef, undef, undef, undef, undef, undef, undef, undef, undef, undef, undef, undef, undef, undef, undef, undef, undef, undef, undef, undef, undef, undef, undef, undef, undef, undef, undef, undef, undef, undef, undef, undef, undef, undef, undef, undef, undef, undef, undef, undef, undef, undef, undef, undef, undef, undef, undef, undef, undef, undef, undef, undef, undef, undef, undef, undef, undef, undef, undef, undef, undef, undef, undef, undef, undef, undef, undef, undef, undef, undef, undef, undef, undef, undef, undef, undef, undef, undef, undef, undef, undef, undef, undef, undef, undef, undef, undef, undef, undef, undef, undef] (H.bump 15)) := by kernel_rfl
theorem f106.L2_s (k : Nat) (n1 : Nat) (a0 : Option Addr) (l0 : Nat) (c0 : Nat) (x1 : Int) (x10 : Int) (x11 : Int) (D : List Value) (H : AHeap) : f106.L2 k (n1 + 1) a0 l0 c0 x1 x10 x11 D H =
  (bif (decide (x10 ≤ x11)) then
   a0.bind fun q =>
   if 0 ≤ x11 ∧ x11 < (l0 : Int) then
   bif sameB H (H.bump 15) q.block then
   (ldI .i64 (H.bump 15) q.block (q.off + x11.toNat * 1)).bind fun x =>
   a0.bind fun q_1 =>
   if 0 ≤ x1 ∧ x1 < (l0 : Int) then
   bif sameB H (H.bump 15) q_1.block then
   (ldI .i64 (H.bump 15) q_1.block (q_1.off + x1.toNat * 1)).bind fun x_1 =>
   cB (C k 104 [.int .i64 x, .int .i64 x_1] (H.bump 15)) fun b H_1 =>
   bif (!b) then
   f106.L2 k n1 a0 l0 c0 x1 x10 (IntKind.i64.wrap (x11 - (1 : Int))) [(D.getD 0 undef), (D.getD 1 undef), (D.getD 2 undef), (D.getD 3 undef), (D.getD 4 undef), (D.getD 5 undef), (D.getD 6 undef), (D.getD 7 undef), (D.getD 8 undef), (D.getD 9 undef), (D.getD 10 undef), (D.getD 11 undef), (D.getD 12 undef), (D.getD 13 undef), (D.getD 14 undef), (D.getD 15 undef), (D.getD 16 undef), (D.getD 17 undef), (D.getD 18 undef), (D.getD 19 undef), (D.getD 20 undef), (D.getD 21 undef), (D.getD 22 undef), (D.getD 23 undef), (D.getD 24 undef), (D.getD 25 undef), (D.getD 26 undef), (D.getD 27 undef), (D.getD 28 undef), (D.getD 29 undef), (D.getD 30 undef), (D.getD 31 undef), (D.getD 32 undef), (D.getD 33 undef), (D.getD 34 undef), (D.getD 35 undef), (D.getD 36 undef), (D.getD 37 undef), .int .i64 x10, .int .i64 x11, .bool (decide (x10 ≤ x11)), .bool true, .slice a0 l0 c0, .int .i64 x11, .pointer (some ⟨q.block, q.off + x11.toNat * 1, none⟩), .int .i64 x, .slice a0 l0 c0, .int .i64 x1, .pointer (some ⟨q_1.block, q_1.off + x1.toNat * 1, none⟩), .int .i64 x_1, .bool b, .bool (!b), .bool (!b), .int .i64 x11, .int .i64 (IntKind.i64.wrap (x11 - (1 : Int)))] H_1
   else
   f106.K2 k a0 l0 c0 x1 x10 x11 [(D.getD 0 undef), (D.getD 1 undef), (D.getD 2 undef), (D.getD 3 undef), (D.getD 4 undef), (D.getD 5 undef), (D.getD 6 undef), (D.getD 7 undef), (D.getD 8 undef), (D.getD 9 undef), (D.getD 10 undef), (D.getD 11 undef), (D.getD 12 undef), (D.getD 13 undef), (D.getD 14 undef), (D.getD 15 undef), (D.getD 16 undef), (D.getD 17 undef), (D.getD 18 undef), (D.getD 19 undef), (D.getD 20 undef), (D.getD 21 undef), (D.getD 22 undef), (D.getD 23 undef), (D.getD 24 undef), (D.getD 25 undef), (D.getD 26 undef), (D.getD 27 undef), (D.getD 28 undef), (D.getD 29 undef), (D.getD 30 undef), (D.getD 31 undef), (D.getD 32 undef), (D.getD 33 undef), (D.getD 34 undef), (D.getD 35 undef), (D.getD 36 undef), (D.getD 37 undef), .int .i64 x10, .int .i64 x11, .bool (decide (x10 ≤ x11)), .bool true, .slice a0 l0 c0, .int .i64 x11, .pointer (some ⟨q.block, q.off + x11.toNat * 1, none⟩), .int .i64 x, .slice a0 l0 c0, .int .i64 x1, .pointer (some ⟨q_1.block, q_1.off + x1.toNat * 1, none⟩), .int .i64 x_1, .bool b, .bool (!b), .bool (!b), (D.getD 53 undef), (D.getD 54 undef)] H_1
   else none
   else none
   else none
   else none
   else
   f106.K2 k a0 l0 c0 x1 x10 x11 [(D.getD 0 undef), (D.getD 1 undef), (D.getD 2 undef), (D.getD 3 undef), (D.getD 4 undef), (D.getD 5 undef), (D.getD 6 undef), (D.getD 7 undef), (D.getD 8 undef), (D.getD 9 undef), (D.getD 10 undef), (D.getD 11 undef), (D.getD 12 undef), (D.getD 13 undef), (D.getD 14 undef), (D.getD 15 undef), (D.getD 16 undef), (D.getD 17 undef), (D.getD 18 undef), (D.getD 19 undef), (D.getD 20 undef), (D.getD 21 undef), (D.getD 22 undef), (D.getD 23 undef), (D.getD 24 undef), (D.getD 25 undef), (D.getD 26 undef), (D.getD 27 undef), (D.getD 28 undef), (D.getD 29 undef), (D.getD 30 undef), (D.getD 31 undef), (D.getD 32 undef), (D.getD 33 undef), (D.getD 34 undef), (D.getD 35 undef), (D.getD 36 undef), (D.getD 37 undef), .int .i64 x10, .int .i64 x11, .bool (decide (x10 ≤ x11)), .bool false, undef, undef, undef, undef, undef, undef, undef, undef, undef, undef, .bool false, (D.getD 53 undef), (D.getD 54 undef)] (H.bump 15)) := by
  refine Eq.trans ?_ (Eq.trans (f106.L2_b k a0 l0 c0 x1 x10 x11 D H (f106.Q5 k n1)) ?_)
  · kernel_rfl
  · kernel_rfl
theorem f106.K2_eq (k : Nat)  (a0 : Option Addr) (l0 : Nat) (c0 : Nat) (x1 : Int) (x10 : Int) (x11 : Int) (D : List Value) (H : AHeap) : f106.K2 k  a0 l0 c0 x1 x10 x11 D H =
  (bif (decide (x10 > x11)) then
   a0.bind fun q =>
   if 0 ≤ x1 ∧ x1 < (l0 : Int) then
   bif sameB H (H.bump 16) q.block then
   (ldI .i64 (H.bump 16) q.block (q.off + x1.toNat * 1)).bind fun x =>
   a0.bind fun q_1 =>
   if 0 ≤ x11 ∧ x11 < (l0 : Int) then
   bif sameB H (H.bump 16) q_1.block then
   (ldI .i64 (H.bump 16) q_1.block (q_1.off + x11.toNat * 1)).bind fun x_1 =>
   a0.bind fun q_2 =>
   if 0 ≤ x11 ∧ x11 < (l0 : Int) then
   (AHeap.wr (H.bump 16) q_2.block (q_2.off + x11.toNat * 1) [.int .i64 x]).bind fun H_1 =>
   a0.bind fun q_3 =>
   if 0 ≤ x1 ∧ x1 < (l0 : Int) then
   (AHeap.wr H_1 q_3.block (q_3.off + x1.toNat * 1) [.int .i64 x_1]).bind fun H_2 =>
   some (.tuple #[.int .i64 x11, .bool true], H_2)
   else none
   else none
   else none
   else none
   else none
   else none
   else
   a0.bind fun q_4 =>
   if 0 ≤ x11 ∧ x11 < (l0 : Int) then
   bif sameB H (H.bump 16) q_4.block then
   (ldI .i64 (H.bump 16) q_4.block (q_4.off + x11.toNat * 1)).bind fun x_2 =>
   a0.bind fun q_5 =>
   if 0 ≤ x10 ∧ x10 < (l0 : Int) then
   bif sameB H (H.bump 16) q_5.block then
   (ldI .i64 (H.bump 16) q_5.block (q_5.off + x10.toNat * 1)).bind fun x_3 =>
   a0.bind fun q_6 =>
   if 0 ≤ x10 ∧ x10 < (l0 : Int) then
   (AHeap.wr (H.bump 16) q_6.block (q_6.off + x10.toNat * 1) [.int .i64 x_2]).bind fun H_3 =>
   a0.bind fun q_7 =>
   if 0 ≤ x11 ∧ x11 < (l0 : Int) then
   (AHeap.wr H_3 q_7.block (q_7.off + x11.toNat * 1) [.int .i64 x_3]).bind fun H_4 =>
   f106.L3 k k a0 l0 c0 x1 (IntKind.i64.wrap (x10 + (1 : Int))) (IntKind.i64.wrap (x11 - (1 : Int))) [(D.getD 0 undef), (D.getD 1 undef), (D.getD 2 undef), (D.getD 3 undef), (D.getD 4 undef), (D.getD 5 undef), (D.getD 6 undef), (D.getD 7 undef), (D.getD 8 undef), (D.getD 9 undef), (D.getD 10 undef), (D.getD 11 undef), (D.getD 12 undef), (D.getD 13 undef), (D.getD 14 undef), (D.getD 15 undef), (D.getD 16 undef), (D.getD 17 undef), (D.getD 18 undef), (D.getD 19 undef), (D.getD 20 undef), (D.getD 21 undef), (D.getD 22 undef), (D.getD 23 undef), (D.getD 24 undef), (D.getD 25 undef), (D.getD 26 undef), (D.getD 27 undef), (D.getD 28 undef), (D.getD 29 undef), (D.getD 30 undef), (D.getD 31 undef), (D.getD 32 undef), (D.getD 33 undef), (D.getD 34 undef), (D.getD 35 undef), (D.getD 36 undef), (D.getD 37 undef), (D.getD 38 undef), (D.getD 39 undef), (D.getD 40 undef), (D.getD 41 undef), (D.getD 42 undef), (D.getD 43 undef), (D.getD 44 undef), (D.getD 45 undef), (D.getD 46 undef), (D.getD 47 undef), (D.getD 48 undef), (D.getD 49 undef), (D.getD 50 undef), (D.getD 51 undef), (D.getD 52 undef), (D.getD 53 undef), (D.getD 54 undef), .int .i64 x10, .int .i64 x11, .bool (decide (x10 > x11)), .slice a0 l0 c0, .int .i64 x10, .slice a0 l0 c0, .int .i64 x11, .slice a0 l0 c0, .int .i64 x11, .pointer (some ⟨q_4.block, q_4.off + x11.toNat * 1, none⟩), .int .i64 x_2, .slice a0 l0 c0, .int .i64 x10, .pointer (some ⟨q_5.block, q_5.off + x10.toNat * 1, none⟩), .int .i64 x_3, .pointer (some ⟨q_6.block, q_6.off + x10.toNat * 1, none⟩), .pointer (some ⟨q_7.block, q_7.off + x11.toNat * 1, none⟩), .int .i64 x10, .int .i64 (IntKind.i64.wrap (x10 + (1 : Int))), .int .i64 x11, .int .i64 (IntKind.i64.wrap (x11 - (1 : Int))), undef, undef, undef, undef, undef, undef, undef, undef, undef, undef, undef, undef, undef, undef, undef, undef, undef, undef, undef, undef, undef, undef, undef, undef, undef, undef, undef, undef, undef, undef, undef, undef, undef, undef, undef, undef, undef, undef, undef, undef, undef, undef, undef, undef, undef, undef, undef, undef, undef, undef, undef, undef, undef, undef] H_4
   else none
   else none
   else none
   else none
   else none
   else none) := by
  unfold f106.K2
  rw [gateC_eq]
  kernel_rfl
theorem f106.L3_z (k : Nat)  (a0 : Option Addr) (l0 : Nat) (c0 : Nat) (x1 : Int) (x10 : Int) (x11 : Int) (D : List Value) (H : AHeap) : f106.L3 k 0 a0 l0 c0 x1 x10 x11 D H = none := by kernel_rfl
theorem f106.L3_s (k : Nat) (n1 : Nat) (a0 : Option Addr) (l0 : Nat) (c0 : Nat) (x1 : Int) (x10 : Int) (x11 : Int) (D : List Value) (H : AHeap) : f106.L3 k (n1 + 1) a0 l0 c0 x1 x10 x11 D H =
  (f106.L4 k n1 k a0 l0 c0 x1 x10 x11 [(D.getD 0 undef), (D.getD 1 undef), (D.getD 2 undef), (D.getD 3 undef), (D.getD 4 undef), (D.getD 5 undef), (D.getD 6 undef), (D.getD 7 undef), (D.getD 8 undef), (D.getD 9 undef), (D.getD 10 undef), (D.getD 11 undef), (D.getD 12 undef), (D.getD 13 undef), (D.getD 14 undef), (D.getD 15 undef), (D.getD 16 undef), (D.getD 17 undef), (D.getD 18 undef), (D.getD 19 undef), (D.getD 20 undef), (D.getD 21 undef), (D.getD 22 undef), (D.getD 23 undef), (D.getD 24 undef), (D.getD 25 undef), (D.getD 26 undef), (D.getD 27 undef), (D.getD 28 undef), (D.getD 29 undef), (D.getD 30 undef), (D.getD 31 undef), (D.getD 32 undef), (D.getD 33 undef), (D.getD 34 undef), (D.getD 35 undef), (D.getD 36 undef), (D.getD 37 undef), (D.getD 38 undef), (D.getD 39 undef), (D.getD 40 undef), (D.getD 41 undef), (D.getD 42 undef), (D.getD 43 undef), (D.getD 44 undef), (D.getD 45 undef), (D.getD 46 undef), (D.getD 47 undef), (D.getD 48 undef), (D.getD 49 undef), (D.getD 50 undef), (D.getD 51 undef), (D.getD 52 undef), (D.getD 53 undef), (D.getD 54 undef), (D.getD 55 undef), (D.getD 56 undef), (D.getD 57 undef), (D.getD 58 undef), (D.getD 59 undef), (D.getD 60 undef), (D.getD 61 undef), (D.getD 62 undef), (D.getD 63 undef), (D.getD 64 undef), (D.getD 65 undef), (D.getD 66 undef), (D.getD 67 undef), (D.getD 68 undef), (D.getD 69 undef), (D.getD 70 undef), (D.getD 71 undef), (D.getD 72 undef), (D.getD 73 undef), (D.getD 74 undef), (D.getD 75 undef), (D.getD 76 undef), (D.getD 77 undef), (D.getD 78 undef), (D.getD 79 undef), (D.getD 80 undef), (D.getD 81 undef), (D.getD 82 undef), (D.getD 83 undef), (D.getD 84 undef), (D.getD 85 undef), (D.getD 86 undef), (D.getD 87 undef), (D.getD 88 undef), (D.getD 89 undef), (D.getD 90 undef), (D.getD 91 undef), (D.getD 92 undef), (D.getD 93 undef), (D.getD 94 undef), (D.getD 95 undef), (D.getD 96 undef), (D.getD 97 undef), (D.getD 98 undef), (D.getD 99 undef), (D.getD 100 undef), (D.getD 101 undef), (D.getD 102 undef), (D.getD 103 undef), (D.getD 104 undef), (D.getD 105 undef), (D.getD 106 undef), (D.getD 107 undef), (D.getD 108 undef), (D.getD 109 undef), (D.getD 110 undef), (D.getD 111 undef), (D.getD 112 undef), (D.getD 113 undef), (D.getD 114 undef), (D.getD 115 undef), (D.getD 116 undef), (D.getD 117 undef), (D.getD 118 undef), (D.getD 119 undef), (D.getD 120 undef), (D.getD 121 undef), (D.getD 122 undef), (D.getD 123 undef), (D.getD 124 undef), (D.getD 125 undef), (D.getD 126 undef), (D.getD 127 undef), (D.getD 128 undef), (D.getD 129 undef)] H) := by kernel_rfl
theorem f106.L4_z (k : Nat) (n1 : Nat) (a0 : Option Addr) (l0 : Nat) (c0 : Nat) (x1 : Int) (x10 : Int) (x11 : Int) (D : List Value) (H : AHeap) : f106.L4 k n1 0 a0 l0 c0 x1 x10 x11 D H = none := by kernel_rfl
theorem f106.L4_s (k : Nat) (n1 : Nat) (n2 : Nat) (a0 : Option Addr) (l0 : Nat) (c0 : Nat) (x1 : Int) (x10 : Int) (x11 : Int) (D : List Value) (H : AHeap) : f106.L4 k n1 (n2 + 1) a0 l0 c0 x1 x10 x11 D H =
  (bif (decide (x10 ≤ x11)) then
   a0.bind fun q =>
   if 0 ≤ x10 ∧ x10 < (l0 : Int) then
   bif sameB H (H.bump 14) q.block then
   (ldI .i64 (H.bump 14) q.block (q.off + x10.toNat * 1)).bind fun x =>
   a0.bind fun q_1 =>
   if 0 ≤ x1 ∧ x1 < (l0 : Int) then
   bif sameB H (H.bump 14) q_1.block then
   (ldI .i64 (H.bump 14) q_1.block (q_1.off + x1.toNat * 1)).bind fun x_1 =>
   cB (C k 104 [.int .i64 x, .int .i64 x_1] (H.bump 14)) fun b H_1 =>
   bif b then
   f106.L4 k n1 n2 a0 l0 c0 x1 (IntKind.i64.wrap (x10 + (1 : Int))) x11 [(D.getD 0 undef), (D.getD 1 undef), (D.getD 2 undef), (D.getD 3 undef), (D.getD 4 undef), (D.getD 5 undef), (D.getD 6 undef), (D.getD 7 undef), (D.getD 8 undef), (D.getD 9 undef), (D.getD 10 undef), (D.getD 11 undef), (D.getD 12 undef), (D.getD 13 undef), (D.getD 14 undef), (D.getD 15 undef), (D.getD 16 undef), (D.getD 17 undef), (D.getD 18 undef), (D.getD 19 undef), (D.getD 20 undef), (D.getD 21 undef), (D.getD 22 undef), (D.getD 23 undef), (D.getD 24 undef), (D.getD 25 undef), (D.getD 26 undef), (D.getD 27 undef), (D.getD 28 undef), (D.getD 29 undef), (D.getD 30 undef), (D.getD 31 undef), (D.getD 32 undef), (D.getD 33 undef), (D.getD 34 undef), (D.getD 35 undef), (D.getD 36 undef), (D.getD 37 undef), (D.getD 38 undef), (D.getD 39 undef), (D.getD 40 undef), (D.getD 41 undef), (D.getD 42 undef), (D.getD 43 undef), (D.getD 44 undef), (D.getD 45 undef), (D.getD 46 undef), (D.getD 47 undef), (D.getD 48 undef), (D.getD 49 undef), (D.getD 50 undef), (D.getD 51 undef), (D.getD 52 undef), (D.getD 53 undef), (D.getD 54 undef), (D.getD 55 undef), (D.getD 56 undef), (D.getD 57 undef), (D.getD 58 undef), (D.getD 59 undef), (D.getD 60 undef), (D.getD 61 undef), (D.getD 62 undef), (D.getD 63 undef), (D.getD 64 undef), (D.getD 65 undef), (D.getD 66 undef), (D.getD 67 undef), (D.getD 68 undef), (D.getD 69 undef), (D.getD 70 undef), (D.getD 71 undef), (D.getD 72 undef), (D.getD 73 undef), (D.getD 74 undef), (D.getD 75 undef), .int .i64 x10, .int .i64 x11, .bool (decide (x10 ≤ x11)), .bool true, .slice a0 l0 c0, .int .i64 x10, .pointer (some ⟨q.block, q.off + x10.toNat * 1, none⟩), .int .i64 x, .slice a0 l0 c0, .int .i64 x1, .pointer (some ⟨q_1.block, q_1.off + x1.toNat * 1, none⟩), .int .i64 x_1, .bool b, .bool b, .int .i64 x10, .int .i64 (IntKind.i64.wrap (x10 + (1 : Int))), (D.getD 92 undef), (D.getD 93 undef), (D.getD 94 undef), (D.getD 95 undef), (D.getD 96 undef), (D.getD 97 undef), (D.getD 98 undef), (D.getD 99 undef), (D.getD 100 undef), (D.getD 101 undef), (D.getD 102 undef), (D.getD 103 undef), (D.getD 104 undef), (D.getD 105 undef), (D.getD 106 undef), (D.getD 107 undef), (D.getD 108 undef), (D.getD 109 undef), (D.getD 110 undef), (D.getD 111 undef), (D.getD 112 undef), (D.getD 113 undef), (D.getD 114 undef), (D.getD 115 undef), (D.getD 116 undef), (D.getD 117 undef), (D.getD 118 undef), (D.getD 119 undef), (D.getD 120 undef), (D.getD 121 undef), (D.getD 122 undef), (D.getD 123 undef), (D.getD 124 undef), (D.getD 125 undef), (D.getD 126 undef), (D.getD 127 undef), (D.getD 128 undef), (D.getD 129 undef)] H_1
   else
   f106.K3 k n1 a0 l0 c0 x1 x10 x11 [(D.getD 0 undef), (D.getD 1 undef), (D.getD 2 undef), (D.getD 3 undef), (D.getD 4 undef), (D.getD 5 undef), (D.getD 6 undef), (D.getD 7 undef), (D.getD 8 undef), (D.getD 9 undef), (D.getD 10 undef), (D.getD 11 undef), (D.getD 12 undef), (D.getD 13 undef), (D.getD 14 undef), (D.getD 15 undef), (D.getD 16 undef), (D.getD 17 undef), (D.getD 18 undef), (D.getD 19 undef), (D.getD 20 undef), (D.getD 21 undef), (D.getD 22 undef), (D.getD 23 undef), (D.getD 24 undef), (D.getD 25 undef), (D.getD 26 undef), (D.getD 27 undef), (D.getD 28 undef), (D.getD 29 undef), (D.getD 30 undef), (D.getD 31 undef), (D.getD 32 undef), (D.getD 33 undef), (D.getD 34 undef), (D.getD 35 undef), (D.getD 36 undef), (D.getD 37 undef), (D.getD 38 undef), (D.getD 39 undef), (D.getD 40 undef), (D.getD 41 undef), (D.getD 42 undef), (D.getD 43 undef), (D.getD 44 undef), (D.getD 45 undef), (D.getD 46 undef), (D.getD 47 undef), (D.getD 48 undef), (D.getD 49 undef), (D.getD 50 undef), (D.getD 51 undef), (D.getD 52 undef), (D.getD 53 undef), (D.getD 54 undef), (D.getD 55 undef), (D.getD 56 undef), (D.getD 57 undef), (D.getD 58 undef), (D.getD 59 undef), (D.getD 60 undef), (D.getD 61 undef), (D.getD 62 undef), (D.getD 63 undef), (D.getD 64 undef), (D.getD 65 undef), (D.getD 66 undef), (D.getD 67 undef), (D.getD 68 undef), (D.getD 69 undef), (D.getD 70 undef), (D.getD 71 undef), (D.getD 72 undef), (D.getD 73 undef), (D.getD 74 undef), (D.getD 75 undef), .int .i64 x10, .int .i64 x11, .bool (decide (x10 ≤ x11)), .bool true, .slice a0 l0 c0, .int .i64 x10, .pointer (some ⟨q.block, q.off + x10.toNat * 1, none⟩), .int .i64 x, .slice a0 l0 c0, .int .i64 x1, .pointer (some ⟨q_1.block, q_1.off + x1.toNat * 1, none⟩), .int .i64 x_1, .bool b, .bool b, (D.getD 90 undef), (D.getD 91 undef), (D.getD 92 undef), (D.getD 93 undef), (D.getD 94 undef), (D.getD 95 undef), (D.getD 96 undef), (D.getD 97 undef), (D.getD 98 undef), (D.getD 99 undef), (D.getD 100 undef), (D.getD 101 undef), (D.getD 102 undef), (D.getD 103 undef), (D.getD 104 undef), (D.getD 105 undef), (D.getD 106 undef), (D.getD 107 undef), (D.getD 108 undef), (D.getD 109 undef), (D.getD 110 undef), (D.getD 111 undef), (D.getD 112 undef), (D.getD 113 undef), (D.getD 114 undef), (D.getD 115 undef), (D.getD 116 undef), (D.getD 117 undef), (D.getD 118 undef), (D.getD 119 undef), (D.getD 120 undef), (D.getD 121 undef), (D.getD 122 undef), (D.getD 123 undef), (D.getD 124 undef), (D.getD 125 undef), (D.getD 126 undef), (D.getD 127 undef), (D.getD 128 undef), (D.getD 129 undef)] H_1
   else none
   else none
   else none
   else none
   else
   f106.K3 k n1 a0 l0 c0 x1 x10 x11 [(D.getD 0 undef), (D.getD 1 undef), (D.getD 2 undef), (D.getD 3 undef), (D.getD 4 undef), (D.getD 5 undef), (D.getD 6 undef), (D.getD 7 undef), (D.getD 8 undef), (D.getD 9 undef), (D.getD 10 undef), (D.getD 11 undef), (D.getD 12 undef), (D.getD 13 undef), (D.getD 14 undef), (D.getD 15 undef), (D.getD 16 undef), (D.getD 17 undef), (D.getD 18 undef), (D.getD 19 undef), (D.getD 20 undef), (D.getD 21 undef), (D.getD 22 undef), (D.getD 23 undef), (D.getD 24 undef), (D.getD 25 undef), (D.getD 26 undef), (D.getD 27 undef), (D.getD 28 undef), (D.getD 29 undef), (D.getD 30 undef), (D.getD 31 undef), (D.getD 32 undef), (D.getD 33 undef), (D.getD 34 undef), (D.getD 35 undef), (D.getD 36 undef), (D.getD 37 undef), (D.getD 38 undef), (D.getD 39 undef), (D.getD 40 undef), (D.getD 41 undef), (D.getD 42 undef), (D.getD 43 undef), (D.getD 44 undef), (D.getD 45 undef), (D.getD 46 undef), (D.getD 47 undef), (D.getD 48 undef), (D.getD 49 undef), (D.getD 50 undef), (D.getD 51 undef), (D.getD 52 undef), (D.getD 53 undef), (D.getD 54 undef), (D.getD 55 undef), (D.getD 56 undef), (D.getD 57 undef), (D.getD 58 undef), (D.getD 59 undef), (D.getD 60 undef), (D.getD 61 undef), (D.getD 62 undef), (D.getD 63 undef), (D.getD 64 undef), (D.getD 65 undef), (D.getD 66 undef), (D.getD 67 undef), (D.getD 68 undef), (D.getD 69 undef), (D.getD 70 undef), (D.getD 71 undef), (D.getD 72 undef), (D.getD 73 undef), (D.getD 74 undef), (D.getD 75 undef), .int .i64 x10, .int .i64 x11, .bool (decide (x10 ≤ x11)), .bool false, undef, undef, undef, undef, undef, undef, undef, undef, undef, .bool false, (D.getD 90 undef), (D.getD 91 undef), (D.getD 92 undef), (D.getD 93 undef), (D.getD 94 undef), (D.getD 95 undef), (D.getD 96 undef), (D.getD 97 undef), (D.getD 98 undef), (D.getD 99 undef), (D.getD 100 undef), (D.getD 101 undef), (D.getD 102 undef), (D.getD 103 undef), (D.getD 104 undef), (D.getD 105 undef), (D.getD 106 undef), (D.getD 107 undef), (D.getD 108 undef), (D.getD 109 undef), (D.getD 110 undef), (D.getD 111 undef), (D.getD 112 undef), (D.getD 113 undef), (D.getD 114 undef), (D.getD 115 undef), (D.getD 116 undef), (D.getD 117 undef), (D.getD 118 undef), (D.getD 119 undef), (D.getD 120 undef), (D.getD 121 undef), (D.getD 122 undef), (D.getD 123 undef), (D.getD 124 undef), (D.getD 125 undef), (D.getD 126 undef), (D.getD 127 undef), (D.getD 128 undef), (D.getD 129 undef)] (H.bump 14)) := by kernel_rfl
theorem f106.K3_eq (k : Nat) (n1 : Nat) (a0 : Option Addr) (l0 : Nat) (c0 : Nat) (x1 : Int) (x10 : Int) (x11 : Int) (D : List Value) (H : AHeap) : f106.K3 k n1 a0 l0 c0 x1 x10 x11 D H =
  (f106.L5 k n1 k a0 l0 c0 x1 x10 x11 [(D.getD 0 undef), (D.getD 1 undef), (D.getD 2 undef), (D.getD 3 undef), (D.getD 4 undef), (D.getD 5 undef), (D.getD 6 undef), (D.getD 7 undef), (D.getD 8 undef), (D.getD 9 undef), (D.getD 10 undef), (D.getD 11 undef), (D.getD 12 undef), (D.getD 13 undef), (D.getD 14 undef), (D.getD 15 undef), (D.getD 16 undef), (D.getD 17 undef), (D.getD 18 undef), (D.getD 19 undef), (D.getD 20 undef), (D.getD 21 undef), (D.getD 22 undef), (D.getD 23 undef), (D.getD 24 undef), (D.getD 25 undef), (D.getD 26 undef), (D.getD 27 undef), (D.getD 28 undef), (D.getD 29 undef), (D.getD 30 undef), (D.getD 31 undef), (D.getD 32 undef), (D.getD 33 undef), (D.getD 34 undef), (D.getD 35 undef), (D.getD 36 undef), (D.getD 37 undef), (D.getD 38 undef), (D.getD 39 undef), (D.getD 40 undef), (D.getD 41 undef), (D.getD 42 undef), (D.getD 43 undef), (D.getD 44 undef), (D.getD 45 undef), (D.getD 46 undef), (D.getD 47 undef), (D.getD 48 undef), (D.getD 49 undef), (D.getD 50 undef), (D.getD 51 undef), (D.getD 52 undef), (D.getD 53 undef), (D.getD 54 undef), (D.getD 55 undef), (D.getD 56 undef), (D.getD 57 undef), (D.getD 58 undef), (D.getD 59 undef), (D.getD 60 undef), (D.getD 61 undef), (D.getD 62 undef), (D.getD 63 undef), (D.getD 64 undef), (D.getD 65 undef), (D.getD 66 undef), (D.getD 67 undef), (D.getD 68 undef), (D.getD 69 undef), (D.getD 70 undef), (D.getD 71 undef), (D.getD 72 undef), (D.getD 73 undef), (D.getD 74 undef), (D.getD 75 undef), (D.getD 76 undef), (D.getD 77 undef), (D.getD 78 undef), (D.getD 79 undef), (D.getD 80 undef), (D.getD 81 undef), (D.getD 82 undef), (D.getD 83 undef), (D.getD 84 undef), (D.getD 85 undef), (D.getD 86 undef), (D.getD 87 undef), (D.getD 88 undef), (D.getD 89 undef), (D.getD 90 undef), (D.getD 91 undef), (D.getD 92 undef), (D.getD 93 undef), (D.getD 94 undef), (D.getD 95 undef), (D.getD 96 undef), (D.getD 97 undef), (D.getD 98 undef), (D.getD 99 undef), (D.getD 100 undef), (D.getD 101 undef), (D.getD 102 undef), (D.getD 103 undef), (D.getD 104 undef), (D.getD 105 undef), (D.getD 106 undef), (D.getD 107 undef), (D.getD 108 undef), (D.getD 109 undef), (D.getD 110 undef), (D.getD 111 undef), (D.getD 112 undef), (D.getD 113 undef), (D.getD 114 undef), (D.getD 115 undef), (D.getD 116 undef), (D.getD 117 undef), (D.getD 118 undef), (D.getD 119 undef), (D.getD 120 undef), (D.getD 121 undef), (D.getD 122 undef), (D.getD 123 undef), (D.getD 124 undef), (D.getD 125 undef), (D.getD 126 undef), (D.getD 127 undef), (D.getD 128 undef), (D.getD 129 undef)] H) := by
  unfold f106.K3
  rw [gateC_eq]
  kernel_rfl
theorem f106.L5_z (k : Nat) (n1 : Nat) (a0 : Option Addr) (l0 : Nat) (c0 : Nat) (x1 : Int) (x10 : Int) (x11 : Int) (D : List Value) (H : AHeap) : f106.L5 k n1 0 a0 l0 c0 x1 x10 x11 D H = none := by kernel_rfl
theorem f106.L5_b (k : Nat) (a0 : Option Addr) (l0 : Nat) (c0 : Nat) (x1 : Int) (x10 : Int) (x11 : Int) (D : List Value) (H : AHeap) (Q : Kont (Value × AHeap)) : run Try.prog (C k) k (Sub (bodyOf Try.f106) [1, 1, 1, 1, 1, 1, 1, 1, 1, 0, 0, 0, 0, 1, 0, 0, 0]) Q [.slice a0 l0 c0, .int .i64 x1, (D.getD 0 undef), (D.getD 1 undef), undef, undef, undef, undef, (D.getD 2 undef), (D.getD 3 undef), .int .i64 x10, .int .i64 x11, (D.getD 4 undef), (D.getD 5 undef), (D.getD 6 undef), (D.getD 7 undef), (D.getD 8 undef), (D.getD 9 undef), (D.getD 10 undef), (D.getD 11 undef), (D.getD 12 undef), (D.getD 13 undef), (D.getD 14 undef), (D.getD 15 undef), (D.getD 16 undef), (D.getD 17 undef), (D.getD 18 undef), (D.getD 19 undef), (D.getD 20 undef), (D.getD 21 undef), (D.getD 22 undef), (D.getD 23 undef), (D.getD 24 undef), (D.getD 25 undef), (D.getD 26 undef), (D.getD 27 undef), (D.getD 28 undef), (D.getD 29 undef), (D.getD 30 undef), (D.getD 31 undef), (D.getD 32 undef), (D.getD 33 undef), (D.getD 34 undef), (D.getD 35 undef), (D.getD 36 undef), (D.getD 37 undef), (D.getD 38 undef), (D.getD 39 undef), (D.getD 40 undef), (D.getD 41 undef), (D.getD 42 undef), (D.getD 43 undef), (D.getD 44 undef), (D.getD 45 undef), (D.getD 46 undef), (D.getD 47 undef), (D.getD 48 undef), (D.getD 49 undef), (D.getD 50 undef), (D.getD 51 undef), (D.getD 52 undef), (D.getD 53 undef), (D.getD 54 undef), (D.getD 55 undef), (D.getD 56 undef), (D.getD 57 undef), undef, undef, undef, undef, undef, undef, undef, undef, undef, undef, undef, undef, undef, undef, undef, (D.getD 58 undef), (D.getD 59 undef), (D.getD 60 undef), (D.getD 61 undef), (D.getD 62 undef), (D.getD 63 undef), (D.getD 64 undef), (D.getD 65 undef), (D.getD 66 undef), (D.getD 67 undef), (D.getD 68 undef), (D.getD 69 undef), (D.getD 70 undef), (D.getD 71 undef), (D.getD 72 undef), (D.getD 73 undef), (D.getD 74 undef), (D.getD 75 undef), (D.getD 76 undef), (D.getD 77 undef), (D.getD 78 undef), (D.getD 79 undef), (D.getD 80 undef), (D.getD 81 undef), (D.getD 82 undef), (D.getD 83 undef), (D.getD 84 undef), (D.getD 85 undef), (D.getD 86 undef), (D.getD 87 undef), (D.getD 88 undef), (D.getD 89 undef), (D.getD 90 undef), (D.getD 91 undef), (D.getD 92 undef), (D.getD 93 undef), (D.getD 94 undef), (D.getD 95 undef), (D.getD 96 undef), (D.getD 97 undef), (D.getD 98 undef), (D.getD 99 undef), (D.getD 100 undef), (D.getD 101 undef), (D.getD 102 undef), (D.getD 103 undef), (D.getD 104 undef), (D.getD 105 undef), (D.getD 106 undef), (D.getD 107 undef), (D.getD 108 undef), (D.getD 109 undef), (D.getD 110 undef), (D.getD 111 undef), (D.getD 112 undef), (D.getD 113 undef), (D.getD 114 undef), (D.getD 115 undef), (D.getD 116 undef), (D.getD 117 undef), (D.getD 118 undef), (D.getD 119 undef), (D.getD 120 undef), (D.getD 121 undef), (D.getD 122 undef), (D.getD 123 undef), (D.getD 124 undef), (D.getD 125 undef), (D.getD 126 undef), (D.getD 127 undef), (D.getD 128 undef), (D.getD 129 undef), undef, undef, undef, undef, undef, undef, undef, undef, undef, undef, undef, undef, undef, undef, undef] H =
  (bif (decide (x10 ≤ x11)) then
   a0.bind fun q =>
   if 0 ≤ x11 ∧ x11 < (l0 : Int) then
   bif sameB H (H.bump 15) q.block then
   (ldI .i64 (H.bump 15) q.block (q.off + x11.toNat * 1)).bind fun x =>
   a0.bind fun q_1 =>
   if 0 ≤ x1 ∧ x1 < (l0 : Int) then
   bif sameB H (H.bump 15) q_1.block then
   (ldI .i64 (H.bump 15) q_1.block (q_1.off + x1.toNat * 1)).bind fun x_1 =>
   cB (C k 104 [.int .i64 x, .int .i64 x_1] (H.bump 15)) fun b H_1 =>
   bif (!b) then
   Q .normal [.slice a0 l0 c0, .int .i64 x1, (D.getD 0 undef), (D.getD 1 undef), undef, undef, undef, undef, (D.getD 2 undef), (D.getD 3 undef), .int .i64 x10, .int .i64 (IntKind.i64.wrap (x11 - (1 : Int))), (D.getD 4 undef), (D.getD 5 undef), (D.getD 6 undef), (D.getD 7 undef), (D.getD 8 undef), (D.getD 9 undef), (D.getD 10 undef), (D.getD 11 undef), (D.getD 12 undef), (D.getD 13 undef), (D.getD 14 undef), (D.getD 15 undef), (D.getD 16 undef), (D.getD 17 undef), (D.getD 18 undef), (D.getD 19 undef), (D.getD 20 undef), (D.getD 21 undef), (D.getD 22 undef), (D.getD 23 undef), (D.getD 24 undef), (D.getD 25 undef), (D.getD 26 undef), (D.getD 27 undef), (D.getD 28 undef), (D.getD 29 undef), (D.getD 30 undef), (D.getD 31 undef), (D.getD 32 undef), (D.getD 33 undef), (D.getD 34 undef), (D.getD 35 undef), (D.getD 36 undef), (D.getD 37 undef), (D.getD 38 undef), (D.getD 39 undef), (D.getD 40 undef), (D.getD 41 undef), (D.getD 42 undef), (D.getD 43 undef), (D.getD 44 undef), (D.getD 45 undef), (D.getD 46 undef), (D.getD 47 undef), (D.getD 48 undef), (D.getD 49 undef), (D.getD 50 undef), (D.getD 51 undef), (D.getD 52 undef), (D.getD 53 undef), (D.getD 54 undef), (D.getD 55 undef), (D.getD 56 undef), (D.getD 57 undef), undef, undef, undef, undef, undef, undef, undef, undef, undef, undef, undef, undef, undef, undef, undef, (D.getD 58 undef), (D.getD 59 undef), (D.getD 60 undef), (D.getD 61 undef), (D.getD 62 undef), (D.getD 63 undef), (D.getD 64 undef), (D.getD 65 undef), (D.getD 66 undef), (D.getD 67 undef), (D.getD 68 undef), (D.getD 69 undef), (D.getD 70 undef), (D.getD 71 undef), (D.getD 72 undef), (D.getD 73 undef), (D.getD 74 undef), (D.getD 75 undef), (D.getD 76 undef), (D.getD 77 undef), (D.getD 78 undef), (D.getD 79 undef), (D.getD 80 undef), (D.getD 81 undef), (D.getD 82 undef), (D.getD 83 undef), (D.getD 84 undef), (D.getD 85 undef), (D.getD 86 undef), (D.getD 87 undef), (D.getD 88 undef), (D.getD 89 undef), (D.getD 90 undef), (D.getD 91 undef), .int .i64 x10, .int .i64 x11, .bool (decide (x10 ≤ x11)), .bool true, .slice a0 l0 c0, .int .i64 x11, .pointer (some ⟨q.block, q.off + x11.toNat * 1, none⟩), .int .i64 x, .slice a0 l0 c0, .int .i64 x1, .pointer (some ⟨q_1.block, q_1.off + x1.toNat * 1, none⟩), .int .i64 x_1, .bool b, .bool (!b), .bool (!b), .int .i64 x11, .int .i64 (IntKind.i64.wrap (x11 - (1 : Int))), (D.getD 109 undef), (D.getD 110 undef), (D.getD 111 undef), (D.getD 112 undef), (D.getD 113 undef), (D.getD 114 undef), (D.getD 115 undef), (D.getD 116 undef), (D.getD 117 undef), (D.getD 118 undef), (D.getD 119 undef), (D.getD 120 undef), (D.getD 121 undef), (D.getD 122 undef), (D.getD 123 undef), (D.getD 124 undef), (D.getD 125 undef), (D.getD 126 undef), (D.getD 127 undef), (D.getD 128 undef), (D.getD 129 undef), undef, undef, undef, undef, undef, undef, undef, undef, undef, undef, undef, undef, undef, undef, undef] H_1
   else
   Q (.exit 8) [.slice a0 l0 c0, .int .i64 x1, (D.getD 0 undef), (D.getD 1 undef), undef, undef, undef, undef, (D.getD 2 undef), (D.getD 3 undef), .int .i64 x10, .int .i64 x11, (D.getD 4 undef), (D.getD 5 undef), (D.getD 6 undef), (D.getD 7 undef), (D.getD 8 undef), (D.getD 9 undef), (D.getD 10 undef), (D.getD 11 undef), (D.getD 12 undef), (D.getD 13 undef), (D.getD 14 undef), (D.getD 15 undef), (D.getD 16 undef), (D.getD 17 undef), (D.getD 18 undef), (D.getD 19 undef), (D.getD 20 undef), (D.getD 21 undef), (D.getD 22 undef), (D.getD 23 undef), (D.getD 24 undef), (D.getD 25 undef), (D.getD 26 undef), (D.getD 27 undef), (D.getD 28 undef), (D.getD 29 undef), (D.getD 30 undef), (D.getD 31 undef), (D.getD 32 undef), (D.getD 33 undef), (D.getD 34 undef), (D.getD 35 undef), (D.getD 36 undef), (D.getD 37 undef), (D.getD 38 undef), (D.getD 39 undef), (D.getD 40 undef), (D.getD 41 undef), (D.getD 42 undef), (D.getD 43 undef), (D.getD 44 undef), (D.getD 45 undef), (D.getD 46 undef), (D.getD 47 undef), (D.getD 48 undef), (D.getD 49 undef), (D.getD 50 undef), (D.getD 51 undef), (D.getD 52 undef), (D.getD 53 undef), (D.getD 54 undef), (D.getD 55 undef), (D.getD 56 undef), (D.getD 57 undef), undef, undef, undef, undef, undef, undef, undef, undef, undef, undef, undef, undef, undef, undef, undef, (D.getD 58 undef), (D.getD 59 undef), (D.getD 60 undef), (D.getD 61 undef), (D.getD 62 undef), (D.getD 63 undef), (D.getD 64 undef), (D.getD 65 undef), (D.getD 66 undef), (D.getD 67 undef), (D.getD 68 undef), (D.getD 69 undef), (D.getD 70 undef), (D.getD 71 undef), (D.getD 72 undef), (D.getD 73 undef), (D.getD 74 undef), (D.getD 75 undef), (D.getD 76 undef), (D.getD 77 undef), (D.getD 78 undef), (D.getD 79 undef), (D.getD 80 undef), (D.getD 81 undef), (D.getD 82 undef), (D.getD 83 undef), (D.getD 84 undef), (D.getD 85 undef), (D.getD 86 undef), (D.getD 87 undef), (D.getD 88 undef), (D.getD 89 undef), (D.getD 90 undef), (D.getD 91 undef), .int .i64 x10, .int .i64 x11, .bool (decide (x10 ≤ x11)), .bool true, .slice a0 l0 c0, .int .i64 x11, .pointer (some ⟨q.block, q.off + x11.toNat * 1, none⟩), .int .i64 x, .slice a0 l0 c0, .int .i64 x1, .pointer (some ⟨q_1.block, q_1.off + x1.toNat * 1, none⟩), .int .i64 x_1, .bool b, .bool (!b), .bool (!b), (D.getD 107 undef), (D.getD 108 undef), (D.getD 109 undef), (D.getD 110 undef), (D.getD 111 undef), (D.getD 112 undef), (D.getD 113 undef), (D.getD 114 undef), (D.getD 115 undef), (D.getD 116 undef), (D.getD 117 undef), (D.getD 118 undef), (D.getD 119 undef), (D.getD 120 undef), (D.getD 121 undef), (D.getD 122 undef), (D.getD 123 undef), (D.getD 124 undef), (D.getD 125 undef), (D.getD 126 undef), (D.getD 127 undef), (D.getD 128 undef), (D.getD 129 undef), undef, undef, undef, undef, undef, undef, undef, undef, undef, undef, undef, undef, undef, undef, undef] H_1
   else none
   else none
   else none
   else none
   else
   Q (.exit 8) [.slice a0 l0 c0, .int .i64 x1, (D.getD 0 undef), (D.getD 1 undef), undef, undef, undef, undef, (D.getD 2 undef), (D.getD 3 undef), .int .i64 x10, .int .i64 x11, (D.getD 4 undef), (D.getD 5 undef), (D.getD 6 undef), (D.getD 7 undef), (D.getD 8 undef), (D.getD 9 undef), (D.getD 10 undef), (D.getD 11 undef), (D.getD 12 undef), (D.getD 13 undef), (D.getD 14 undef), (D.getD 15 undef), (D.getD 16 undef), (D.getD 17 undef), (D.getD 18 undef), (D.getD 19 undef), (D.getD 20 undef), (D.getD 21 undef), (D.getD 22 undef), (D.getD 23 undef), (D.getD 24 undef), (D.getD 25 undef), (D.getD 26 undef), (D.getD 27 undef), (D.getD 28 undef), (D.getD 29 undef), (D.getD 30 undef), (D.getD 31 undef), (D.getD 32 undef), (D.getD 33 undef), (D.getD 34 undef), (D.getD 35 undef), (D.getD 36 undef), (D.getD 37 undef), (D.getD 38 undef), (D.getD 39 undef), (D.getD 40 undef), (D.getD 41 undef), (D.getD 42 undef), (D.getD 43 undef), (D.getD 44 undef), (D.getD 45 undef), (D.getD 46 undef), (D.getD 47 undef), (D.getD 48 undef), (D.getD 49 undef), (D.getD 50 undef), (D.getD 51 undef), (D.getD 52 undef), (D.getD 53 undef), (D.getD 54 undef), (D.getD 55 undef), (D.getD 56 undef), (D.getD 57 undef), undef, undef, undef, undef, undef, undef, undef, undef, undef, undef, undef, undef, undef, undef, undef, (D.getD 58 undef), (D.getD 59 undef), (D.getD 60 undef), (D.getD 61 undef), (D.getD 62 undef), (D.getD 63 undef), (D.getD 64 undef), (D.getD 65 undef), (D.getD 66 undef), (D.getD 67 undef), (D.getD 68 undef), (D.getD 69 undef), (D.getD 70 undef), (D.getD 71 undef), (D.getD 72 undef), (D.getD 73 undef), (D.getD 74 undef), (D.getD 75 undef), (D.getD 76 undef), (D.getD 77 undef), (D.getD 78 undef), (D.getD 79 undef), (D.getD 80 undef), (D.getD 81 undef), (D.getD 82 undef), (D.getD 83 undef), (D.getD 84 undef), (D.getD 85 undef), (D.getD 86 undef), (D.getD 87 undef), (D.getD 88 undef), (D.getD 89 undef), (D.getD 90 undef), (D.getD 91 undef), .int .i64 x10, .int .i64 x11, .bool (decide (x10 ≤ x11)), .bool false, undef, undef, undef, undef, undef, undef, undef, undef, undef, undef, .bool false, (D.getD 107 undef), (D.getD 108 undef), (D.getD 109 undef), (D.getD 110 undef), (D.getD 111 undef), (D.getD 112 undef), (D.getD 113 undef), (D.getD 114 undef), (D.getD 115 undef), (D.getD 116 undef), (D.getD 117 undef), (D.getD 118 undef), (D.getD 119 undef), (D.getD 120 undef), (D.getD 121 undef), (D.getD 122 undef), (D.getD 123 undef), (D.getD 124 undef), (D.getD 125 undef), (D.getD 126 undef), (D.getD 127 undef), (D.getD 128 undef), (D.getD 129 undef), undef, undef, undef, undef, undef, undef, undef, undef, undef, undef, undef, undef, undef, undef, undef] (H.bump 15)) := by kernel_rfl
theorem f106.L5_s (k : Nat) (n1 : Nat) (n2 : Nat) (a0 : Option Addr) (l0 : Nat) (c0 : Nat) (x1 : Int) (x10 : Int) (x11 : Int) (D : List Value) (H : AHeap) : f106.L5 k n1 (n2 + 1) a0 l0 c0 x1 x10 x11 D H =
  (bif (decide (x10 ≤ x11)) then
   a0.bind fun q =>
   if 0 ≤ x11 ∧ x11 < (l0 : Int) then
   bif sameB H (H.bump 15) q.block then
   (ldI .i64 (H.bump 15) q.block (q.off + x11.toNat * 1)).bind fun x =>
   a0.bind fun q_1 =>
   if 0 ≤ x1 ∧ x1 < (l0 : Int) then
   bif sameB H (H.bump 15) q_1.block then
   (ldI .i64 (H.bump 15) q_1.block (q_1.off + x1.toNat * 1)).bind fun x_1 =>
   cB (C k 104 [.int .i64 x, .int .i64 x_1] (H.bump 15)) fun b H_1 =>
   bif (!b) then
   f106.L5 k n1 n2 a0 l0 c0 x1 x10 (IntKind.i64.wrap (x11 - (1 : Int))) [(D.getD 0 undef), (D.getD 1 undef), (D.getD 2 undef), (D.getD 3 undef), (D.getD 4 undef), (D.getD 5 undef), (D.getD 6 undef), (D.getD 7 undef), (D.getD 8 undef), (D.getD 9 undef), (D.getD 10 undef), (D.getD 11 undef), (D.getD 12 undef), (D.getD 13 undef), (D.getD 14 undef), (D.getD 15 undef), (D.getD 16 undef), (D.getD 17 undef), (D.getD 18 undef), (D.getD 19 undef), (D.getD 20 undef), (D.getD 21 undef), (D.getD 22 undef), (D.getD 23 undef), (D.getD 24 undef), (D.getD 25 undef), (D.getD 26 undef), (D.getD 27 undef), (D.getD 28 undef), (D.getD 29 undef), (D.getD 30 undef), (D.getD 31 undef), (D.getD 32 undef), (D.getD 33 undef), (D.getD 34 undef), (D.getD 35 undef), (D.getD 36 undef), (D.getD 37 undef), (D.getD 38 undef), (D.getD 39 undef), (D.getD 40 undef), (D.getD 41 undef), (D.getD 42 undef), (D.getD 43 undef), (D.getD 44 undef), (D.getD 45 undef), (D.getD 46 undef), (D.getD 47 undef), (D.getD 48 undef), (D.getD 49 undef), (D.getD 50 undef), (D.getD 51 undef), (D.getD 52 undef), (D.getD 53 undef), (D.getD 54 undef), (D.getD 55 undef), (D.getD 56 undef), (D.getD 57 undef), (D.getD 58 undef), (D.getD 59 undef), (D.getD 60 undef), (D.getD 61 undef), (D.getD 62 undef), (D.getD 63 undef), (D.getD 64 undef), (D.getD 65 undef), (D.getD 66 undef), (D.getD 67 undef), (D.getD 68 undef), (D.getD 69 undef), (D.getD 70 undef), (D.getD 71 undef), (D.getD 72 undef), (D.getD 73 undef), (D.getD 74 undef), (D.getD 75 undef), (D.getD 76 undef), (D.getD 77 undef), (D.getD 78 undef), (D.getD 79 undef), (D.getD 80 undef), (D.getD 81 undef), (D.getD 82 undef), (D.getD 83 undef), (D.getD 84 undef), (D.getD 85 undef), (D.getD 86 undef), (D.getD 87 undef), (D.getD 88 undef), (D.getD 89 undef), (D.getD 90 undef), (D.getD 91 undef), .int .i64 x10, .int .i64 x11, .bool (decide (x10 ≤ x11)), .bool true, .slice a0 l0 c0, .int .i64 x11, .pointer (some ⟨q.block, q.off + x11.toNat * 1, none⟩), .int .i64 x, .slice a0 l0 c0, .int .i64 x1, .pointer (some ⟨q_1.block, q_1.off + x1.toNat * 1, none⟩), .int .i64 x_1, .bool b, .bool (!b), .bool (!b), .int .i64 x11, .int .i64 (IntKind.i64.wrap (x11 - (1 : Int))), (D.getD 109 undef), (D.getD 110 undef), (D.getD 111 undef), (D.getD 112 undef), (D.getD 113 undef), (D.getD 114 undef), (D.getD 115 undef), (D.getD 116 undef), (D.getD 117 undef), (D.getD 118 undef), (D.getD 119 undef), (D.getD 120 undef), (D.getD 121 undef), (D.getD 122 undef), (D.getD 123 undef), (D.getD 124 undef), (D.getD 125 undef), (D.getD 126 undef), (D.getD 127 undef), (D.getD 128 undef), (D.getD 129 undef)] H_1
   else
   f106.K4 k n1 a0 l0 c0 x1 x10 x11 [(D.getD 0 undef), (D.getD 1 undef), (D.getD 2 undef), (D.getD 3 undef), (D.getD 4 undef), (D.getD 5 undef), (D.getD 6 undef), (D.getD 7 undef), (D.getD 8 undef), (D.getD 9 undef), (D.getD 10 undef), (D.getD 11 undef), (D.getD 12 undef), (D.getD 13 undef), (D.getD 14 undef), (D.getD 15 undef), (D.getD 16 undef), (D.getD 17 undef), (D.getD 18 undef), (D.getD 19 undef), (D.getD 20 undef), (D.getD 21 undef), (D.getD 22 undef), (D.getD 23 undef), (D.getD 24 undef), (D.getD 25 undef), (D.getD 26 undef), (D.getD 27 undef), (D.getD 28 undef), (D.getD 29 undef), (D.getD 30 undef), (D.getD 31 undef), (D.getD 32 undef), (D.getD 33 undef), (D.getD 34 undef), (D.getD 35 undef), (D.getD 36 undef), (D.getD 37 undef), (D.getD 38 undef), (D.getD 39 undef), (D.getD 40 undef), (D.getD 41 undef), (D.getD 42 undef), (D.getD 43 undef), (D.getD 44 undef), (D.getD 45 undef), (D.getD 46 undef), (D.getD 47 undef), (D.getD 48 undef), (D.getD 49 undef), (D.getD 50 undef), (D.getD 51 undef), (D.getD 52 undef), (D.getD 53 undef), (D.getD 54 undef), (D.getD 55 undef), (D.getD 56 undef), (D.getD 57 undef), (D.getD 58 undef), (D.getD 59 undef), (D.getD 60 undef), (D.getD 61 undef), (D.getD 62 undef), (D.getD 63 undef), (D.getD 64 undef), (D.getD 65 undef), (D.getD 66 undef), (D.getD 67 undef), (D.getD 68 undef), (D.getD 69 undef), (D.getD 70 undef), (D.getD 71 undef), (D.getD 72 undef), (D.getD 73 undef), (D.getD 74 undef), (D.getD 75 undef), (D.getD 76 undef), (D.getD 77 undef), (D.getD 78 undef), (D.getD 79 undef), (D.getD 80 undef), (D.getD 81 undef), (D.getD 82 undef), (D.getD 83 undef), (D.getD 84 undef), (D.getD 85 undef), (D.getD 86 undef), (D.getD 87 undef), (D.getD 88 undef), (D.getD 89 undef), (D.getD 90 undef), (D.getD 91 undef), .int .i64 x10, .int .i64 x11, .bool (decide (x10 ≤ x11)), .bool true, .slice a0 l0 c0, .int .i64 x11, .pointer (some ⟨q.block, q.off + x11.toNat * 1, none⟩), .int .i64 x, .slice a0 l0 c0, .int .i64 x1, .pointer (some ⟨q_1.block, q_1.off + x1.toNat * 1, none⟩), .int .i64 x_1, .bool b, .bool (!b), .bool (!b), (D.getD 107 undef), (D.getD 108 undef), (D.getD 109 undef), (D.getD 110 undef), (D.getD 111 undef), (D.getD 112 undef), (D.getD 113 undef), (D.getD 114 undef), (D.getD 115 undef), (D.getD 116 undef), (D.getD 117 undef), (D.getD 118 undef), (D.getD 119 undef), (D.getD 120 undef), (D.getD 121 undef), (D.getD 122 undef), (D.getD 123 undef), (D.getD 124 undef), (D.getD 125 undef), (D.getD 126 undef), (D.getD 127 undef), (D.getD 128 undef), (D.getD 129 undef)] H_1
   else none
   else none
   else none
   else none
   else
   f106.K4 k n1 a0 l0 c0 x1 x10 x11 [(D.getD 0 undef), (D.getD 1 undef), (D.getD 2 undef), (D.getD 3 undef), (D.getD 4 undef), (D.getD 5 undef), (D.getD 6 undef), (D.getD 7 undef), (D.getD 8 undef), (D.getD 9 undef), (D.getD 10 undef), (D.getD 11 undef), (D.getD 12 undef), (D.getD 13 undef), (D.getD 14 undef), (D.getD 15 undef), (D.getD 16 undef), (D.getD 17 undef), (D.getD 18 undef), (D.getD 19 undef), (D.getD 20 undef), (D.getD 21 undef), (D.getD 22 undef), (D.getD 23 undef), (D.getD 24 undef), (D.getD 25 undef), (D.getD 26 undef), (D.getD 27 undef), (D.getD 28 undef), (D.getD 29 undef), (D.getD 30 undef), (D.getD 31 undef), (D.getD 32 undef), (D.getD 33 undef), (D.getD 34 undef), (D.getD 35 undef), (D.getD 36 undef), (D.getD 37 undef), (D.getD 38 undef), (D.getD 39 undef), (D.getD 40 undef), (D.getD 41 undef), (D.getD 42 undef), (D.getD 43 undef), (D.getD 44 undef), (D.getD 45 undef), (D.getD 46 undef), (D.getD 47 undef), (D.getD 48 undef), (D.getD 49 undef), (D.getD 50 undef), (D.getD 51 undef), (D.getD 52 undef), (D.getD 53 undef), (D.getD 54 undef), (D.getD 55 undef), (D.getD 56 undef), (D.getD 57 undef), (D.getD 58 undef), (D.getD 59 undef), (D.getD 60 undef), (D.getD 61 undef), (D.getD 62 undef), (D.getD 63 undef), (D.getD 64 undef), (D.getD 65 undef), (D.getD 66 undef), (D.getD 67 undef), (D.getD 68 undef), (D.getD 69 undef), (D.getD 70 undef), (D.getD 71 undef), (D.getD 72 undef), (D.getD 73 undef), (D.getD 74 undef), (D.getD 75 undef), (D.getD 76 undef), (D.getD 77 undef), (D.getD 78 undef), (D.getD 79 undef), (D.getD 80 undef), (D.getD 81 undef), (D.getD 82 undef), (D.getD 83 undef), (D.getD 84 undef), (D.getD 85 undef), (D.getD 86 undef), (D.getD 87 undef), (D.getD 88 undef), (D.getD 89 undef), (D.getD 90 undef), (D.getD 91 undef), .int .i64 x10, .int .i64 x11, .bool (decide (x10 ≤ x11)), .bool false, undef, undef, undef, undef, undef, undef, undef, undef, undef, undef, .bool false, (D.getD 107 undef), (D.getD 108 undef), (D.getD 109 undef), (D.getD 110 undef), (D.getD 111 undef), (D.getD 112 undef), (D.getD 113 undef), (D.getD 114 undef), (D.getD 115 undef), (D.getD 116 undef), (D.getD 117 undef), (D.getD 118 undef), (D.getD 119 undef), (D.getD 120 undef), (D.getD 121 undef), (D.getD 122 undef), (D.getD 123 undef), (D.getD 124 undef), (D.getD 125 undef), (D.getD 126 undef), (D.getD 127 undef), (D.getD 128 undef), (D.getD 129 undef)] (H.bump 15)) := by
  refine Eq.trans ?_ (Eq.trans (f106.L5_b k a0 l0 c0 x1 x10 x11 D H (f106.Q14 k n1 n2)) ?_)
  · kernel_rfl
  · kernel_rfl
theorem f106.K4_eq (k : Nat) (n1 : Nat) (a0 : Option Addr) (l0 : Nat) (c0 : Nat) (x1 : Int) (x10 : Int) (x11 : Int) (D : List Value) (H : AHeap) : f106.K4 k n1 a0 l0 c0 x1 x10 x11 D H =
  (bif (decide (x10 > x11)) then
   f106.K5 k a0 l0 c0 x1 x11 [(D.getD 0 undef), (D.getD 1 undef), (D.getD 2 undef), (D.getD 3 undef), .int .i64 x10, (D.getD 4 undef), (D.getD 5 undef), (D.getD 6 undef), (D.getD 7 undef), (D.getD 8 undef), (D.getD 9 undef), (D.getD 10 undef), (D.getD 11 undef), (D.getD 12 undef), (D.getD 13 undef), (D.getD 14 undef), (D.getD 15 undef), (D.getD 16 undef), (D.getD 17 undef), (D.getD 18 undef), (D.getD 19 undef), (D.getD 20 undef), (D.getD 21 undef), (D.getD 22 undef), (D.getD 23 undef), (D.getD 24 undef), (D.getD 25 undef), (D.getD 26 undef), (D.getD 27 undef), (D.getD 28 undef), (D.getD 29 undef), (D.getD 30 undef), (D.getD 31 undef), (D.getD 32 undef), (D.getD 33 undef), (D.getD 34 undef), (D.getD 35 undef), (D.getD 36 undef), (D.getD 37 undef), (D.getD 38 undef), (D.getD 39 undef), (D.getD 40 undef), (D.getD 41 undef), (D.getD 42 undef), (D.getD 43 undef), (D.getD 44 undef), (D.getD 45 undef), (D.getD 46 undef), (D.getD 47 undef), (D.getD 48 undef), (D.getD 49 undef), (D.getD 50 undef), (D.getD 51 undef), (D.getD 52 undef), (D.getD 53 undef), (D.getD 54 undef), (D.getD 55 undef), (D.getD 56 undef), (D.getD 57 undef), (D.getD 58 undef), (D.getD 59 undef), (D.getD 60 undef), (D.getD 61 undef), (D.getD 62 undef), (D.getD 63 undef), (D.getD 64 undef), (D.getD 65 undef), (D.getD 66 undef), (D.getD 67 undef), (D.getD 68 undef), (D.getD 69 undef), (D.getD 70 undef), (D.getD 71 undef), (D.getD 72 undef), (D.getD 73 undef), (D.getD 74 undef), (D.getD 75 undef), (D.getD 76 undef), (D.getD 77 undef), (D.getD 78 undef), (D.getD 79 undef), (D.getD 80 undef), (D.getD 81 undef), (D.getD 82 undef), (D.getD 83 undef), (D.getD 84 undef), (D.getD 85 undef), (D.getD 86 undef), (D.getD 87 undef), (D.getD 88 undef), (D.getD 89 undef), (D.getD 90 undef), (D.getD 91 undef), (D.getD 92 undef), (D.getD 93 undef), (D.getD 94 undef), (D.getD 95 undef), (D.getD 96 undef), (D.getD 97 undef), (D.getD 98 undef), (D.getD 99 undef), (D.getD 100 undef), (D.getD 101 undef), (D.getD 102 undef), (D.getD 103 undef), (D.getD 104 undef), (D.getD 105 undef), (D.getD 106 undef), (D.getD 107 undef), (D.getD 108 undef), .int .i64 x10, .int .i64 x11, .bool (decide (x10 > x11)), (D.getD 112 undef), (D.getD 113 undef), (D.getD 114 undef), (D.getD 115 undef), (D.getD 116 undef), (D.getD 117 undef), (D.getD 118 undef), (D.getD 119 undef), (D.getD 120 undef), (D.getD 121 undef), (D.getD 122 undef), (D.getD 123 undef), (D.getD 124 undef), (D.getD 125 undef), (D.getD 126 undef), (D.getD 127 undef), (D.getD 128 undef), (D.getD 129 undef)] H
   else
   a0.bind fun q =>
   if 0 ≤ x11 ∧ x11 < (l0 : Int) then
   bif sameB H (H.bump 16) q.block then
   (ldI .i64 (H.bump 16) q.block (q.off + x11.toNat * 1)).bind fun x =>
   a0.bind fun q_1 =>
   if 0 ≤ x10 ∧ x10 < (l0 : Int) then
   bif sameB H (H.bump 16) q_1.block then
   (ldI .i64 (H.bump 16) q_1.block (q_1.off + x10.toNat * 1)).bind fun x_1 =>
   a0.bind fun q_2 =>
   if 0 ≤ x10 ∧ x10 < (l0 : Int) then
   (AHeap.wr (H.bump 16) q_2.block (q_2.off + x10.toNat * 1) [.int .i64 x]).bind fun H_1 =>
   a0.bind fun q_3 =>
   if 0 ≤ x11 ∧ x11 < (l0 : Int) then
   (AHeap.wr H_1 q_3.block (q_3.off + x11.toNat * 1) [.int .i64 x_1]).bind fun H_2 =>
   f106.L3 k n1 a0 l0 c0 x1 (IntKind.i64.wrap (x10 + (1 : Int))) (IntKind.i64.wrap (x11 - (1 : Int))) [(D.getD 0 undef), (D.getD 1 undef), (D.getD 2 undef), (D.getD 3 undef), (D.getD 4 undef), (D.getD 5 undef), (D.getD 6 undef), (D.getD 7 undef), (D.getD 8 undef), (D.getD 9 undef), (D.getD 10 undef), (D.getD 11 undef), (D.getD 12 undef), (D.getD 13 undef), (D.getD 14 undef), (D.getD 15 undef), (D.getD 16 undef), (D.getD 17 undef), (D.getD 18 undef), (D.getD 19 undef), (D.getD 20 undef), (D.getD 21 undef), (D.getD 22 undef), (D.getD 23 undef), (D.getD 24 undef), (D.getD 25 undef), (D.getD 26 undef), (D.getD 27 undef), (D.getD 28 undef), (D.getD 29 undef), (D.getD 30 undef), (D.getD 31 undef), (D.getD 32 undef), (D.getD 33 undef), (D.getD 34 undef), (D.getD 35 undef), (D.getD 36 undef), (D.getD 37 undef), (D.getD 38 undef), (D.getD 39 undef), (D.getD 40 undef), (D.getD 41 undef), (D.getD 42 undef), (D.getD 43 undef), (D.getD 44 undef), (D.getD 45 undef), (D.getD 46 undef), (D.getD 47 undef), (D.getD 48 undef), (D.getD 49 undef), (D.getD 50 undef), (D.getD 51 undef), (D.getD 52 undef), (D.getD 53 undef), (D.getD 54 undef), (D.getD 55 undef), (D.getD 56 undef), (D.getD 57 undef), (D.getD 58 undef), (D.getD 59 undef), (D.getD 60 undef), (D.getD 61 undef), (D.getD 62 undef), (D.getD 63 undef), (D.getD 64 undef), (D.getD 65 undef), (D.getD 66 undef), (D.getD 67 undef), (D.getD 68 undef), (D.getD 69 undef), (D.getD 70 undef), (D.getD 71 undef), (D.getD 72 undef), (D.getD 73 undef), (D.getD 74 undef), (D.getD 75 undef), (D.getD 76 undef), (D.getD 77 undef), (D.getD 78 undef), (D.getD 79 undef), (D.getD 80 undef), (D.getD 81 undef), (D.getD 82 undef), (D.getD 83 undef), (D.getD 84 undef), (D.getD 85 undef), (D.getD 86 undef), (D.getD 87 undef), (D.getD 88 undef), (D.getD 89 undef), (D.getD 90 undef), (D.getD 91 undef), (D.getD 92 undef), (D.getD 93 undef), (D.getD 94 undef), (D.getD 95 undef), (D.getD 96 undef), (D.getD 97 undef), (D.getD 98 undef), (D.getD 99 undef), (D.getD 100 undef), (D.getD 101 undef), (D.getD 102 undef), (D.getD 103 undef), (D.getD 104 undef), (D.getD 105 undef), (D.getD 106 undef), (D.getD 107 undef), (D.getD 108 undef), .int .i64 x10, .int .i64 x11, .bool (decide (x10 > x11)), .slice a0 l0 c0, .int .i64 x10, .slice a0 l0 c0, .int .i64 x11, .slice a0 l0 c0, .int .i64 x11, .pointer (some ⟨q.block, q.off + x11.toNat * 1, none⟩), .int .i64 x, .slice a0 l0 c0, .int .i64 x10, .pointer (some ⟨q_1.block, q_1.off + x10.toNat * 1, none⟩), .int .i64 x_1, .pointer (some ⟨q_2.block, q_2.off + x10.toNat * 1, none⟩), .pointer (some ⟨q_3.block, q_3.off + x11.toNat * 1, none⟩), .int .i64 x10, .int .i64 (IntKind.i64.wrap (x10 + (1 : Int))), .int .i64 x11, .int .i64 (IntKind.i64.wrap (x11 - (1 : Int)))] H_2
   else none
   else none
   else none
   else none
   else none
   else none) := by
  unfold f106.K4
  rw [gateC_eq]
  kernel_rfl
theorem f106.K5_eq (k : Nat)  (a0 : Option Addr) (l0 : Nat) (c0 : Nat) (x1 : Int) (x11 : Int) (D : List Value) (H : AHeap) : f106.K5 k  a0 l0 c0 x1 x11 D H =
  (a0.bind fun q =>
   if 0 ≤ x1 ∧ x1 < (l0 : Int) then
   bif sameB H (H.bump 16) q.block then
   (ldI .i64 (H.bump 16) q.block (q.off + x1.toNat * 1)).bind fun x =>
   a0.bind fun q_1 =>
   if 0 ≤ x11 ∧ x11 < (l0 : Int) then
   bif sameB H (H.bump 16) q_1.block then
   (ldI .i64 (H.bump 16) q_1.block (q_1.off + x11.toNat * 1)).bind fun x_1 =>
   a0.bind fun q_2 =>
   if 0 ≤ x11 ∧ x11 < (l0 : Int) then
   (AHeap.wr (H.bump 16) q_2.block (q_2.off + x11.toNat * 1) [.int .i64 x]).bind fun H_1 =>
   a0.bind fun q_3 =>
   if 0 ≤ x1 ∧ x1 < (l0 : Int) then
   (AHeap.wr H_1 q_3.block (q_3.off + x1.toNat * 1) [.int .i64 x_1]).bind fun H_2 =>
   some (.tuple #[.int .i64 x11, .bool false], H_2)
   else none
   else none
   else none
   else none
   else none
   else none) := by
  unfold f106.K5
  rw [gateC_eq]
  kernel_rfl
theorem f106_eq (k : Nat) (a0 : Option Addr) (l0 : Nat) (c0 : Nat) (x1 : Int) (x2 : Int) (x3 : Int) (H : AHeap) : C (k + 1) 106 [.slice a0 l0 c0, .int .i64 x1, .int .i64 x2, .int .i64 x3] H =
  (a0.bind fun q =>
   if 0 ≤ x3 ∧ x3 < (l0 : Int) then
   bif sameB H (H.bump 16) q.block then
   (ldI .i64 (H.bump 16) q.block (q.off + x3.toNat * 1)).bind fun x =>
   a0.bind fun q_1 =>
   if 0 ≤ x1 ∧ x1 < (l0 : Int) then
   bif sameB H (H.bump 16) q_1.block then
   (ldI .i64 (H.bump 16) q_1.block (q_1.off + x1.toNat * 1)).bind fun x_1 =>
   a0.bind fun q_2 =>
   if 0 ≤ x1 ∧ x1 < (l0 : Int) then
   (AHeap.wr (H.bump 16) q_2.block (q_2.off + x1.toNat * 1) [.int .i64 x]).bind fun H_1 =>
   a0.bind fun q_3 =>
   if 0 ≤ x3 ∧ x3 < (l0 : Int) then
   (AHeap.wr H_1 q_3.block (q_3.off + x3.toNat * 1) [.int .i64 x_1]).bind fun H_2 =>
   f106.L1 k k a0 l0 c0 x1 (IntKind.i64.wrap (x1 + (1 : Int))) (IntKind.i64.wrap (x2 - (1 : Int))) [.int .i64 x2, .int .i64 x3, .int .i64 0, .bool false, .slice a0 l0 c0, .int .i64 x1, .slice a0 l0 c0, .int .i64 x3, .slice a0 l0 c0, .int .i64 x3, .pointer (some ⟨q.block, q.off + x3.toNat * 1, none⟩), .int .i64 x, .slice a0 l0 c0, .int .i64 x1, .pointer (some ⟨q_1.block, q_1.off + x1.toNat * 1, none⟩), .int .i64 x_1, .pointer (some ⟨q_2.block, q_2.off + x1.toNat * 1, none⟩), .pointer (some ⟨q_3.block, q_3.off + x3.toNat * 1, none⟩), .int .i64 x1, .int .i64 (IntKind.i64.wrap (x1 + (1 : Int))), .int .i64 x2, .int .i64 (IntKind.i64.wrap (x2 - (1 : Int))), undef, undef, undef, undef, undef, undef, undef, undef, undef, undef, undef, undef, undef, undef, undef, undef] H_2
   else none
   else none
   else none
   else none
   else none
   else none) := by kernel_rfl

end Go.Proofs.MxF
end

section
set_option linter.unusedSimpArgs false
/- Dividing a part at a pivot. -/
set_option linter.unusedVariables false
namespace Go.Proofs.MxF
open Go Go.Mx Go.Proofs
/-- ends at a place -/
def FinI (N : Nat) (H0 : AHeap) (a : Option Addr) (l c lo hi : Nat) (xs : List Int) (p : Nat → List Int → Prop) (t : Nat) (H : AHeap) : Prop := ∃ ys, St N H0 a l c H ys ∧ Mov lo hi xs ys ∧ p t ys
/-- what the places from lo + 1 to i have, and what those behind j have -/
structure PE (A B : Int → Prop) (lo b i j : Nat) (pv : Int) (xs : List Int) : Prop where
  at' : gI xs lo = pv
  le : ∀ t, lo < t → t < i → A (gI xs t)
  gt : ∀ t, j < t → t < b → B (gI xs t)
  li : lo < i
  ij : i ≤ j + 1
  jb : j < b
section
variable {A B : Int → Prop} {k n N : Nat} {H0 H : AHeap} {a : Option Addr} {l c : Nat} {xs xs0 : List Int} {lo b : Nat} {pv : Int} {Q : Value × AHeap → Prop}
theorem PE.up {i j : Nat} (h : PE A B lo b i j pv xs) (hij : i ≤ j) (hc : A (gI xs i)) : PE A B lo b (i + 1) j pv xs :=
  ⟨h.at', fun t h1 h2 => by
    by_cases e : t = i
    · subst e; exact hc
    · exact h.le t h1 (by omega), h.gt, by have := h.li; omega, by omega, h.jb⟩
theorem PE.down {i j : Nat} (h : PE A B lo b i j pv xs) (hij : i ≤ j) (hc : B (gI xs j)) : PE A B lo b i (j - 1) pv xs :=
  ⟨h.at', h.le, fun t h1 h2 => by
    by_cases e : t = j
    · subst e; exact hc
    · exact h.gt t (by omega) h2, h.li, by have := h.li; omega, by have := h.jb; omega⟩
theorem PE.swap {i j : Nat} (h : PE A B lo b i j pv xs) (hij : i < j) (hl : b ≤ xs.length) (h1 : A (gI xs j)) (h2 : B (gI xs i)) : PE A B lo b (i + 1) (j - 1) pv (sw xs i j) := by
  have := h.li
  have := h.jb
  have ha := h.at'
  have hg := gI_sw (xs := xs) (i := i) (j := j) (by omega) (by omega)
  refine ⟨?_, fun t a1 a2 => ?_, fun t a1 a2 => ?_, by omega, by omega, by omega⟩
  · rw [hg, if_neg (by omega), if_neg (by omega)]; exact ha
  · rw [hg, if_neg (by omega)]
    by_cases e : t = i
    · rw [if_pos e]; exact h1
    · rw [if_neg e]; exact h.le t a1 (by omega)
  · rw [hg]
    by_cases e : t = j
    · rw [if_pos e]; exact h2
    · rw [if_neg e, if_neg (by omega)]; exact h.gt t (by omega) a2
theorem PE.start {p : Nat} (hlp : lo ≤ p) (hp : p < b) (hl : b ≤ xs.length) : PE A B lo b (lo + 1) (b - 1) (gI xs p) (sw xs lo p) :=
  ⟨by rw [gI_sw (by omega) (by omega)]
      by_cases e : lo = p
      · subst e; rw [if_pos rfl]
      · rw [if_neg e, if_pos rfl], fun t a1 a2 => by omega, fun t a1 a2 => by omega, by omega, by omega, by omega⟩

theorem f105_l2 {n1 : Nat} {j : Nat} (hk : 2 ≤ k) (hl : b ≤ l) (hM : l ≤ big) (hA : ∀ i, ¬ gI xs lo < gI xs i → A (gI xs i)) : ∀ (m i n : Nat) (H : AHeap) (D : List Value), j < i + m → m < n → St N H0 a l c H xs → PE A B lo b i j pv xs →
    (∀ i' H D, i ≤ i' → St N H0 a l c H xs → PE A B lo b i' j pv xs → (j < i' ∨ gI xs lo < gI xs i') → Ok (f105.K1 k n1 a l c (lo : Int) (i' : Int) (j : Int) D H) Q) →
    Ok (f105.L2 k n1 n a l c (lo : Int) (i : Int) (j : Int) D H) Q := by
  intro m
  induction m with
  | zero =>
    intro i n H D h1 hn h pe next
    obtain ⟨n, rfl⟩ : ∃ j, n = j + 1 := ⟨n - 1, by omega⟩
    rw [f105.L2_s]
    exact ok_biff (by simp only [decide_eq_false_iff_not]; omega) (next i _ _ (Nat.le_refl _) (h.bump _) pe (.inl (by omega)))
  | succ m ih =>
    intro i n H D h1 hn h pe next
    obtain ⟨n, rfl⟩ : ∃ j, n = j + 1 := ⟨n - 1, by omega⟩
    have hli := pe.li
    have hjb := pe.jb
    have hM' := hM
    unfold big at hM
    rw [f105.L2_s]
    refine ok_bif (fun hc => ?_) (fun hc => by rw [decide_eq_false_iff_not] at hc; exact next i _ _ (Nat.le_refl _) (h.bump _) pe (.inl (by omega)))
    rw [decide_eq_true_eq] at hc
    refine ok_cmp (i := lo) (j := i) hk h rfl rfl (by omega) (by omega) fun q q' => ok_bif (fun hc2 => ?_) (fun hc2 => ?_)
    · simp only [Bool.not_eq_true', decide_eq_false_iff_not] at hc2
      rw [wN (z := (i : Int) + 1) (n := i + 1) (by omega) (by omega)]
      exact ih (i + 1) n _ _ (by omega) (by omega) (h.bump _) (pe.up (by omega) (hA i hc2)) fun i' H D r => next i' H D (by omega)
    · simp only [Bool.not_eq_false', decide_eq_true_eq] at hc2
      exact next i _ _ (Nat.le_refl _) (h.bump _) pe (.inr hc2)
theorem f105_l3 {n1 : Nat} {i : Nat} (hk : 2 ≤ k) (hl : b ≤ l) (hM : l ≤ big) (hA : ∀ j, gI xs lo < gI xs j → B (gI xs j)) : ∀ (m j n : Nat) (H : AHeap) (D : List Value), j < i + m → m < n → St N H0 a l c H xs → PE A B lo b i j pv xs →
    (∀ j' H D, j' ≤ j → St N H0 a l c H xs → PE A B lo b i j' pv xs → (j' < i ∨ ¬ gI xs lo < gI xs j') → Ok (f105.K2 k n1 a l c (lo : Int) (i : Int) (j' : Int) D H) Q) →
    Ok (f105.L3 k n1 n a l c (lo : Int) (i : Int) (j : Int) D H) Q := by
  intro m
  induction m with
  | zero =>
    intro j n H D h1 hn h pe next
    obtain ⟨n, rfl⟩ : ∃ j, n = j + 1 := ⟨n - 1, by omega⟩
    rw [f105.L3_s]
    exact ok_biff (by simp only [decide_eq_false_iff_not]; omega) (next j _ _ (Nat.le_refl _) (h.bump _) pe (.inl (by omega)))
  | succ m ih =>
    intro j n H D h1 hn h pe next
    obtain ⟨n, rfl⟩ : ∃ j, n = j + 1 := ⟨n - 1, by omega⟩
    have hli := pe.li
    have hjb := pe.jb
    have hM' := hM
    unfold big at hM
    rw [f105.L3_s]
    refine ok_bif (fun hc => ?_) (fun hc => by rw [decide_eq_false_iff_not] at hc; exact next j _ _ (Nat.le_refl _) (h.bump _) pe (.inl (by omega)))
    rw [decide_eq_true_eq] at hc
    refine ok_cmp (i := lo) (j := j) hk h rfl rfl (by omega) (by omega) fun q q' => ok_bif (fun hc2 => ?_) (fun hc2 => ?_)
    · simp only [decide_eq_true_eq] at hc2
      rw [wN (z := (j : Int) - 1) (n := j - 1) (by omega) (by omega)]
      exact ih (j - 1) n _ _ (by omega) (by omega) (h.bump _) (pe.down (by omega) (hA j hc2)) fun j' H D r => next j' H D (by omega)
    · simp only [decide_eq_false_iff_not] at hc2
      exact next j _ _ (Nat.le_refl _) (h.bump _) pe (.inr hc2)
theorem f106_l1 {j : Nat} (hk : 2 ≤ k) (hl : b ≤ l) (hM : l ≤ big) (hA : ∀ i, gI xs i < gI xs lo → A (gI xs i)) : ∀ (m i n : Nat) (H : AHeap) (D : List Value), j < i + m → m < n → St N H0 a l c H xs → PE A B lo b i j pv xs →
    (∀ i' H D, i ≤ i' → St N H0 a l c H xs → PE A B lo b i' j pv xs → (j < i' ∨ ¬ gI xs i' < gI xs lo) → Ok (f106.K1 k a l c (lo : Int) (i' : Int) (j : Int) D H) Q) →
    Ok (f106.L1 k n a l c (lo : Int) (i : Int) (j : Int) D H) Q := by
  intro m
  induction m with
  | zero =>
    intro i n H D h1 hn h pe next
    obtain ⟨n, rfl⟩ : ∃ j, n = j + 1 := ⟨n - 1, by omega⟩
    rw [f106.L1_s]
    exact ok_biff (by simp only [decide_eq_false_iff_not]; omega) (next i _ _ (Nat.le_refl _) (h.bump _) pe (.inl (by omega)))
  | succ m ih =>
    intro i n H D h1 hn h pe next
    obtain ⟨n, rfl⟩ : ∃ j, n = j + 1 := ⟨n - 1, by omega⟩
    have hli := pe.li
    have hjb := pe.jb
    have hM' := hM
    unfold big at hM
    rw [f106.L1_s]
    refine ok_bif (fun hc => ?_) (fun hc => by rw [decide_eq_false_iff_not] at hc; exact next i _ _ (Nat.le_refl _) (h.bump _) pe (.inl (by omega)))
    rw [decide_eq_true_eq] at hc
    refine ok_cmp (i := i) (j := lo) hk h rfl rfl (by omega) (by omega) fun q q' => ok_bif (fun hc2 => ?_) (fun hc2 => ?_)
    · simp only [decide_eq_true_eq] at hc2
      rw [wN (z := (i : Int) + 1) (n := i + 1) (by omega) (by omega)]
      exact ih (i + 1) n _ _ (by omega) (by omega) (h.bump _) (pe.up (by omega) (hA i hc2)) fun i' H D r => next i' H D (by omega)
    · simp only [decide_eq_false_iff_not] at hc2
      exact next i _ _ (Nat.le_refl _) (h.bump _) pe (.inr hc2)
theorem f106_l2 {i : Nat} (hk : 2 ≤ k) (hl : b ≤ l) (hM : l ≤ big) (hA : ∀ j, ¬ gI xs j < gI xs lo → B (gI xs j)) : ∀ (m j n : Nat) (H : AHeap) (D : List Value), j < i + m → m < n → St N H0 a l c H xs → PE A B lo b i j pv xs →
    (∀ j' H D, j' ≤ j → St N H0 a l c H xs → PE A B lo b i j' pv xs → (j' < i ∨ gI xs j' < gI xs lo) → Ok (f106.K2 k a l c (lo : Int) (i : Int) (j' : Int) D H) Q) →
    Ok (f106.L2 k n a l c (lo : Int) (i : Int) (j : Int) D H) Q := by
  intro m
  induction m with
  | zero =>
    intro j n H D h1 hn h pe next
    obtain ⟨n, rfl⟩ : ∃ j, n = j + 1 := ⟨n - 1, by omega⟩
    rw [f106.L2_s]
    exact ok_biff (by simp only [decide_eq_false_iff_not]; omega) (next j _ _ (Nat.le_refl _) (h.bump _) pe (.inl (by omega)))
  | succ m ih =>
    intro j n H D h1 hn h pe next
    obtain ⟨n, rfl⟩ : ∃ j, n = j + 1 := ⟨n - 1, by omega⟩
    have hli := pe.li
    have hjb := pe.jb
    have hM' := hM
    unfold big at hM
    rw [f106.L2_s]
    refine ok_bif (fun hc => ?_) (fun hc => by rw [decide_eq_false_iff_not] at hc; exact next j _ _ (Nat.le_refl _) (h.bump _) pe (.inl (by omega)))
    rw [decide_eq_true_eq] at hc
    refine ok_cmp (i := j) (j := lo) hk h rfl rfl (by omega) (by omega) fun q q' => ok_bif (fun hc2 => ?_) (fun hc2 => ?_)
    · simp only [Bool.not_eq_true', decide_eq_false_iff_not] at hc2
      rw [wN (z := (j : Int) - 1) (n := j - 1) (by omega) (by omega)]
      exact ih (j - 1) n _ _ (by omega) (by omega) (h.bump _) (pe.down (by omega) (hA j hc2)) fun j' H D r => next j' H D (by omega)
    · simp only [Bool.not_eq_false', decide_eq_true_eq] at hc2
      exact next j _ _ (Nat.le_refl _) (h.bump _) pe (.inr hc2)
theorem f106_l4 {n1 : Nat} {j : Nat} (hk : 2 ≤ k) (hl : b ≤ l) (hM : l ≤ big) (hA : ∀ i, gI xs i < gI xs lo → A (gI xs i)) : ∀ (m i n : Nat) (H : AHeap) (D : List Value), j < i + m → m < n → St N H0 a l c H xs → PE A B lo b i j pv xs →
    (∀ i' H D, i ≤ i' → St N H0 a l c H xs → PE A B lo b i' j pv xs → (j < i' ∨ ¬ gI xs i' < gI xs lo) → Ok (f106.K3 k n1 a l c (lo : Int) (i' : Int) (j : Int) D H) Q) →
    Ok (f106.L4 k n1 n a l c (lo : Int) (i : Int) (j : Int) D H) Q := by
  intro m
  induction m with
  | zero =>
    intro i n H D h1 hn h pe next
    obtain ⟨n, rfl⟩ : ∃ j, n = j + 1 := ⟨n - 1, by omega⟩
    rw [f106.L4_s]
    exact ok_biff (by simp only [decide_eq_false_iff_not]; omega) (next i _ _ (Nat.le_refl _) (h.bump _) pe (.inl (by omega)))
  | succ m ih =>
    intro i n H D h1 hn h pe next
    obtain ⟨n, rfl⟩ : ∃ j, n = j + 1 := ⟨n - 1, by omega⟩
    have hli := pe.li
    have hjb := pe.jb
    have hM' := hM
    unfold big at hM
    rw [f106.L4_s]
    refine ok_bif (fun hc => ?_) (fun hc => by rw [decide_eq_false_iff_not] at hc; exact next i _ _ (Nat.le_refl _) (h.bump _) pe (.inl (by omega)))
    rw [decide_eq_true_eq] at hc
    refine ok_cmp (i := i) (j := lo) hk h rfl rfl (by omega) (by omega) fun q q' => ok_bif (fun hc2 => ?_) (fun hc2 => ?_)
    · simp only [decide_eq_true_eq] at hc2
      rw [wN (z := (i : Int) + 1) (n := i + 1) (by omega) (by omega)]
      exact ih (i + 1) n _ _ (by omega) (by omega) (h.bump _) (pe.up (by omega) (hA i hc2)) fun i' H D r => next i' H D (by omega)
    · simp only [decide_eq_false_iff_not] at hc2
      exact next i _ _ (Nat.le_refl _) (h.bump _) pe (.inr hc2)
theorem f106_l5 {n1 : Nat} {i : Nat} (hk : 2 ≤ k) (hl : b ≤ l) (hM : l ≤ big) (hA : ∀ j, ¬ gI xs j < gI xs lo → B (gI xs j)) : ∀ (m j n : Nat) (H : AHeap) (D : List Value), j < i + m → m < n → St N H0 a l c H xs → PE A B lo b i j pv xs →
    (∀ j' H D, j' ≤ j → St N H0 a l c H xs → PE A B lo b i j' pv xs → (j' < i ∨ gI xs j' < gI xs lo) → Ok (f106.K4 k n1 a l c (lo : Int) (i : Int) (j' : Int) D H) Q) →
    Ok (f106.L5 k n1 n a l c (lo : Int) (i : Int) (j : Int) D H) Q := by
  intro m
  induction m with
  | zero =>
    intro j n H D h1 hn h pe next
    obtain ⟨n, rfl⟩ : ∃ j, n = j + 1 := ⟨n - 1, by omega⟩
    rw [f106.L5_s]
    exact ok_biff (by simp only [decide_eq_false_iff_not]; omega) (next j _ _ (Nat.le_refl _) (h.bump _) pe (.inl (by omega)))
  | succ m ih =>
    intro j n H D h1 hn h pe next
    obtain ⟨n, rfl⟩ : ∃ j, n = j + 1 := ⟨n - 1, by omega⟩
    have hli := pe.li
    have hjb := pe.jb
    have hM' := hM
    unfold big at hM
    rw [f106.L5_s]
    refine ok_bif (fun hc => ?_) (fun hc => by rw [decide_eq_false_iff_not] at hc; exact next j _ _ (Nat.le_refl _) (h.bump _) pe (.inl (by omega)))
    rw [decide_eq_true_eq] at hc
    refine ok_cmp (i := j) (j := lo) hk h rfl rfl (by omega) (by omega) fun q q' => ok_bif (fun hc2 => ?_) (fun hc2 => ?_)
    · simp only [Bool.not_eq_true', decide_eq_false_iff_not] at hc2
      rw [wN (z := (j : Int) - 1) (n := j - 1) (by omega) (by omega)]
      exact ih (j - 1) n _ _ (by omega) (by omega) (h.bump _) (pe.down (by omega) (hA j hc2)) fun j' H D r => next j' H D (by omega)
    · simp only [Bool.not_eq_false', decide_eq_true_eq] at hc2
      exact next j _ _ (Nat.le_refl _) (h.bump _) pe (.inr hc2)
theorem f105_l1 (hk : l + 4 ≤ k) (hl : b ≤ l) (hM : l ≤ big) : ∀ (m i j n : Nat) (xs : List Int) (H : AHeap) (D : List Value), j < i + m → m < n → St N H0 a l c H xs → Mov lo b xs0 xs → PE (· ≤ pv) (pv < ·) lo b i j pv xs →
    Ok (f105.L1 k n a l c (lo : Int) (i : Int) (j : Int) D H) fun r => ∃ t : Nat, r.1 = .int .i64 (t : Int) ∧ FinI N H0 a l c lo b xs0 (fun t ys => lo < t ∧ t ≤ b ∧ (∀ s, lo ≤ s → s < t → gI ys s ≤ pv) ∧ ∀ s, t ≤ s → s < b → pv < gI ys s) t r.2 := by
  intro m
  induction m using Nat.strongRecOn with
  | ind m ih =>
    intro i j n xs H D h1 hn h mv pe
    obtain ⟨n, rfl⟩ : ∃ j, n = j + 1 := ⟨n - 1, by omega⟩
    have hlen := h.len
    rw [f105.L1_s]
    have hbl := pe.jb
    have hpv := pe.at'
    refine f105_l2 (by omega) hl hM (fun i hi => by show gI xs i ≤ pv; omega) (j + 1 - i) i k _ _ (by omega) (by omega) h pe fun i2 H D ri h pe hi => ?_
    rw [f105.K1_eq]
    refine f105_l3 (by omega) hl hM (fun j hj => by show pv < gI xs j; omega) (j + 1 - i2) j k _ _ (by omega) (by omega) h pe fun j2 H D rj h pe hj => ?_
    rw [f105.K2_eq]
    have hji := pe.ij
    have hli := pe.li
    refine ok_bif (fun hc => ?_) (fun hc => ?_)
    · rw [decide_eq_true_eq] at hc
      refine Ok.ret ⟨i2, rfl, xs, h, mv, pe.li, by omega, fun s a1 a2 => ?_, fun s a1 a2 => pe.gt s (by omega) a2⟩
      by_cases e : s = lo
      · subst e; omega
      · exact pe.le s (by omega) a2
    · rw [decide_eq_false_iff_not] at hc
      have hM' := hM
      unfold big at hM
      have g1 : ¬ gI xs lo < gI xs j2 := by omega
      have g2 : gI xs lo < gI xs i2 := by omega
      have hne : i2 ≠ j2 := by rintro rfl; exact g1 g2
      refine ok_swp (i := i2) (j := j2) h rfl rfl (by omega) (by omega) fun q q' q2 q3 H2 h2' _ => ?_
      rw [wN (z := (i2 : Int) + 1) (n := i2 + 1) (by omega) (by omega), wN (z := (j2 : Int) - 1) (n := j2 - 1) (by omega) (by omega)]
      exact ih (m - 1) (by omega) (i2 + 1) (j2 - 1) n _ _ _ (by omega) (by omega) h2' (mv.trans (Mov.sw (by omega) (by omega) (by omega) (by omega) (by omega))) (pe.swap (by omega) (by omega) (by show gI xs j2 ≤ pv; omega) (by show pv < gI xs i2; omega))
/-- partitionEqual -/
theorem f105_spec {p : Nat} (hk : l + 6 ≤ k) (hp1 : lo ≤ p) (hp2 : p < b) (hl : b ≤ l) (hM : l ≤ big) (h : St N H0 a l c H xs) :
    ∃ t H', C k 105 [.slice a l c, .int .i64 (lo : Int), .int .i64 (b : Int), .int .i64 (p : Int)] H = some (.int .i64 ((t : Nat) : Int), H') ∧
      FinI N H0 a l c lo b xs (fun t ys => lo < t ∧ t ≤ b ∧ (∀ s, lo ≤ s → s < t → gI ys s ≤ gI xs p) ∧ ∀ s, t ≤ s → s < b → gI xs p < gI ys s) t H' := by
  obtain ⟨k, rfl⟩ : ∃ j, k = j + 1 := ⟨k - 1, by omega⟩
  have hM' := hM
  have hlen := h.len
  unfold big at hM
  rw [f105_eq]
  suffices hs : Ok (R := Value × AHeap) _ (fun r => ∃ t : Nat, r.1 = .int .i64 (t : Int) ∧ FinI N H0 a l c lo b xs (fun t ys => lo < t ∧ t ≤ b ∧ (∀ s, lo ≤ s → s < t → gI ys s ≤ gI xs p) ∧ ∀ s, t ≤ s → s < b → gI xs p < gI ys s) t r.2) by
    obtain ⟨⟨v, H'⟩, e, t, e1, h1⟩ := hs
    replace e1 : v = .int .i64 (t : Int) := e1
    subst e1
    exact ⟨t, H', e, h1⟩
  refine ok_swp (n := 16) (i := lo) (j := p) h rfl rfl (by omega) (by omega) fun q q' q2 q3 H2 h2' _ => ?_
  rw [wN (z := (lo : Int) + 1) (n := lo + 1) (by omega) (by omega), wN (z := (b : Int) - 1) (n := b - 1) (by omega) (by omega)]
  exact f105_l1 (by omega) hl hM' (b - lo) _ _ _ _ _ _ (by omega) (by omega) h2' (Mov.sw (by omega) (by omega) (by omega) (by omega) (by omega)) (PE.start hp1 hp2 (by omega))
/-- how a partition ends -/
def Parted (lo b : Nat) (pv : Int) (t : Nat) (ys : List Int) : Prop := lo ≤ t ∧ t < b ∧ (∀ s, lo ≤ s → s < t → gI ys s ≤ pv) ∧ gI ys t = pv ∧ ∀ s, t < s → s < b → pv ≤ gI ys s
theorem PE.parted {i j : Nat} (h : PE (· < pv) (pv ≤ ·) lo b i j pv xs) (hij : j < i) (hl : b ≤ xs.length) : Parted lo b pv j (sw xs j lo) := by
  have h1 := h.li
  have h2 := h.ij
  have h3 := h.jb
  have hg := gI_sw (xs := xs) (i := j) (j := lo) (by omega) (by omega)
  have ei : i = j + 1 := by omega
  refine ⟨by omega, h3, fun s a1 a2 => ?_, ?_, fun s a1 a2 => ?_⟩
  · rw [hg]
    by_cases e : s = lo
    · rw [if_pos e]; exact Int.le_of_lt (h.le j (by omega) (by omega))
    · rw [if_neg e, if_neg (by omega)]; exact Int.le_of_lt (h.le s (by omega) (by omega))
  · rw [hg]
    by_cases e : j = lo
    · rw [if_pos e, e]; exact h.at'
    · rw [if_neg e, if_pos rfl]; exact h.at'
  · rw [hg, if_neg (by omega), if_neg (by omega)]; exact h.gt s a1 a2
abbrev R106 (N : Nat) (H0 : AHeap) (a : Option Addr) (l c lo b : Nat) (xs0 : List Int) (pv : Int) (r : Value × AHeap) : Prop := ∃ g : List Value, r.1 = .tuple g.toArray ∧ ∃ (t : Nat) (z : Bool), g = [.int .i64 (t : Int), .bool z] ∧ FinI N H0 a l c lo b xs0 (Parted lo b pv) t r.2
theorem f106_l3 (hk : l + 4 ≤ k) (hl : b ≤ l) (hM : l ≤ big) : ∀ (m i j n : Nat) (xs : List Int) (H : AHeap) (D : List Value), j < i + m → m < n → St N H0 a l c H xs → Mov lo b xs0 xs → PE (· < pv) (pv ≤ ·) lo b i j pv xs →
    Ok (f106.L3 k n a l c (lo : Int) (i : Int) (j : Int) D H) (R106 N H0 a l c lo b xs0 pv) := by
  intro m
  induction m using Nat.strongRecOn with
  | ind m ih =>
    intro i j n xs H D h1 hn h mv pe
    obtain ⟨n, rfl⟩ : ∃ j, n = j + 1 := ⟨n - 1, by omega⟩
    have hlen := h.len
    rw [f106.L3_s]
    have hbl := pe.jb
    have hpv := pe.at'
    refine f106_l4 (by omega) hl hM (fun i hi => by show gI xs i < pv; omega) (j + 1 - i) i k _ _ (by omega) (by omega) h pe fun i2 H D ri h pe hi => ?_
    rw [f106.K3_eq]
    refine f106_l5 (by omega) hl hM (fun j hj => by show pv ≤ gI xs j; omega) (j + 1 - i2) j k _ _ (by omega) (by omega) h pe fun j2 H D rj h pe hj => ?_
    rw [f106.K4_eq]
    have hji := pe.ij
    have hli := pe.li
    refine ok_bif (fun hc => ?_) (fun hc => ?_)
    · rw [decide_eq_true_eq] at hc
      rw [f106.K5_eq]
      refine ok_swp (i := j2) (j := lo) h rfl rfl (by omega) (by omega) fun q q' q2 q3 H2 h2' _ => ?_
      exact Ok.ret ⟨_, rfl, j2, false, rfl, _, h2', mv.trans (Mov.sw (by omega) (by omega) (by omega) (by omega) (by omega)), pe.parted (by omega) (by omega)⟩
    · rw [decide_eq_false_iff_not] at hc
      have hM' := hM
      unfold big at hM
      have g1 : gI xs j2 < gI xs lo := by omega
      have g2 : ¬ gI xs i2 < gI xs lo := by omega
      have hne : i2 ≠ j2 := by rintro rfl; exact g2 g1
      refine ok_swp (i := i2) (j := j2) h rfl rfl (by omega) (by omega) fun q q' q2 q3 H2 h2' _ => ?_
      rw [wN (z := (i2 : Int) + 1) (n := i2 + 1) (by omega) (by omega), wN (z := (j2 : Int) - 1) (n := j2 - 1) (by omega) (by omega)]
      exact ih (m - 1) (by omega) (i2 + 1) (j2 - 1) n _ _ _ (by omega) (by omega) h2' (mv.trans (Mov.sw (by omega) (by omega) (by omega) (by omega) (by omega))) (pe.swap (by omega) (by omega) (by show gI xs j2 < pv; omega) (by show pv ≤ gI xs i2; omega))
/-- partition -/
theorem f106_spec {p : Nat} (hk : l + 6 ≤ k) (hp1 : lo ≤ p) (hp2 : p < b) (hl : b ≤ l) (hM : l ≤ big) (h : St N H0 a l c H xs) :
    ∃ g H', C k 106 [.slice a l c, .int .i64 (lo : Int), .int .i64 (b : Int), .int .i64 (p : Int)] H = some (.tuple (g : List Value).toArray, H') ∧
      ∃ (t : Nat) (z : Bool), g = [.int .i64 (t : Int), .bool z] ∧ FinI N H0 a l c lo b xs (Parted lo b (gI xs p)) t H' := by
  obtain ⟨k, rfl⟩ : ∃ j, k = j + 1 := ⟨k - 1, by omega⟩
  have hM' := hM
  have hlen := h.len
  unfold big at hM
  rw [f106_eq]
  suffices hs : Ok (R := Value × AHeap) _ (R106 N H0 a l c lo b xs (gI xs p)) by
    obtain ⟨⟨v, H'⟩, e, g, e1, h1⟩ := hs
    replace e1 : v = .tuple g.toArray := e1
    subst e1
    exact ⟨g, H', e, h1⟩
  refine ok_swp (n := 16) (i := lo) (j := p) h rfl rfl (by omega) (by omega) fun q q' q2 q3 H2 h2' _ => ?_
  rw [wN (z := (lo : Int) + 1) (n := lo + 1) (by omega) (by omega), wN (z := (b : Int) - 1) (n := b - 1) (by omega) (by omega)]
  have mv : Mov lo b xs (sw xs lo p) := Mov.sw (by omega) (by omega) (by omega) (by omega) (by omega)
  have pe : PE (· < gI xs p) (gI xs p ≤ ·) lo b (lo + 1) (b - 1) (gI xs p) (sw xs lo p) := PE.start hp1 hp2 (by omega)
  have hpv := pe.at'
  have hlen2 := h2'.len
  generalize sw xs lo p = ys at h2' mv pe hpv hlen2
  generalize gI xs p = pv at pe hpv
  refine f106_l1 (by omega) hl hM' (fun i hi => by show gI ys i < pv; omega) (b - 1 + 1 - (lo + 1)) _ k _ _ (by omega) (by omega) h2' pe fun i2 H D ri h pe hi => ?_
  rw [f106.K1_eq]
  refine f106_l2 (by omega) hl hM' (fun j hj => by show pv ≤ gI ys j; omega) (b - 1 + 1 - i2) _ k _ _ (by omega) (by omega) h pe fun j2 H D rj h pe hj => ?_
  rw [f106.K2_eq]
  have hji := pe.ij
  have hli := pe.li
  have hjb := pe.jb
  refine ok_bif (fun hc => ?_) (fun hc => ?_)
  · rw [decide_eq_true_eq] at hc
    refine ok_swp (i := j2) (j := lo) h rfl rfl (by omega) (by omega) fun q q' q2 q3 H2 h2' _ => ?_
    exact Ok.ret ⟨_, rfl, j2, true, rfl, _, h2', mv.trans (Mov.sw (by omega) (by omega) (by omega) (by omega) (by omega)), pe.parted (by omega) (by omega)⟩
  · rw [decide_eq_false_iff_not] at hc
    have g1 : gI ys j2 < gI ys lo := by omega
    have g2 : ¬ gI ys i2 < gI ys lo := by omega
    have hne : i2 ≠ j2 := by rintro rfl; exact g2 g1
    refine ok_swp (i := i2) (j := j2) h rfl rfl (by omega) (by omega) fun q q' q2 q3 H2 h2' _ => ?_
    rw [wN (z := (i2 : Int) + 1) (n := i2 + 1) (by omega) (by omega), wN (z := (j2 : Int) - 1) (n := j2 - 1) (by omega) (by omega)]
    exact f106_l3 (by omega) hl hM' (b - lo) (i2 + 1) (j2 - 1) _ _ _ _ (by omega) (by omega) h2' (mv.trans (Mov.sw (by omega) (by omega) (by omega) (by omega) (by omega))) (pe.swap (by omega) (by omega) (by show gI ys j2 < pv; omega) (by show pv ≤ gI ys i2; omega))
end
end Go.Proofs.MxF
end

section
set_option linter.unusedSimpArgs false
/- Functions of the program as the machine comes to them: printed by a program of this workplace (px.py); the kernel checks each line. -/
set_option linter.unusedVariables false
namespace Go.Proofs.MxF
open Go Go.Mx Go.Proofs

/- f103 "slices.partialInsertionSortOrdered[int]"  names:  -/
noncomputable def f103.Q0 (k : Nat)  : Kont (Value × AHeap) := retQ Try.prog Try.f103
noncomputable def f103.Q1 (k : Nat)  : Kont (Value × AHeap) := seqQ (gateC (Sub (bodyOf Try.f103) [1, 1, 0]) (Sub (bodyOf Try.f103) [1, 1, 1]) k (run Try.prog (C k) k (Sub (bodyOf Try.f103) [1, 1, 1]) (f103.Q0 k ))) (f103.Q0 k )
noncomputable def f103.Q2 (k : Nat)  : Kont (Value × AHeap) := blkQ 0 (f103.Q1 k )
noncomputable def f103.Q3 (k : Nat) (n1 : Nat) : Kont (Value × AHeap) := seqQ (iter (run Try.prog (C k) k (Sub (bodyOf Try.f103) [1, 1, 0, 1, 0, 0])) (f103.Q2 k ) n1) (f103.Q2 k )
noncomputable def f103.Q4 (k : Nat) (n1 : Nat) : Kont (Value × AHeap) := seqQ (gateC (Sub (bodyOf Try.f103) [1, 1, 0, 1, 0, 0, 1, 0]) (Sub (bodyOf Try.f103) [1, 1, 0, 1, 0, 0, 1, 1]) k (run Try.prog (C k) k (Sub (bodyOf Try.f103) [1, 1, 0, 1, 0, 0, 1, 1]) (f103.Q3 k n1))) (f103.Q3 k n1)
noncomputable def f103.Q5 (k : Nat) (n1 : Nat) : Kont (Value × AHeap) := blkQ 1 (f103.Q4 k n1)
noncomputable def f103.Q6 (k : Nat) (n1 : Nat) : Kont (Value × AHeap) := seqQ (gateC (Sub (bodyOf Try.f103) [1, 1, 0, 1, 0, 0, 1, 0, 0, 0]) (Sub (bodyOf Try.f103) [1, 1, 0, 1, 0, 0, 1, 0, 0, 1]) k (run Try.prog (C k) k (Sub (bodyOf Try.f103) [1, 1, 0, 1, 0, 0, 1, 0, 0, 1]) (f103.Q5 k n1))) (f103.Q5 k n1)
noncomputable def f103.Q7 (k : Nat) (n1 : Nat) : Kont (Value × AHeap) := blkQ 2 (f103.Q6 k n1)
noncomputable def f103.Q8 (k : Nat) (n1 : Nat) (n2 : Nat) : Kont (Value × AHeap) := seqQ (iter (run Try.prog (C k) k (Sub (bodyOf Try.f103) [1, 1, 0, 1, 0, 0, 1, 0, 0, 0, 0, 0])) (f103.Q7 k n1) n2) (f103.Q7 k n1)
noncomputable def f103.Q9 (k : Nat) (n1 : Nat) : Kont (Value × AHeap) := seqQ (gateC (Sub (bodyOf Try.f103) [1, 1, 0, 1, 0, 0, 1, 0, 0, 1, 1, 1, 1, 0]) (Sub (bodyOf Try.f103) [1, 1, 0, 1, 0, 0, 1, 0, 0, 1, 1, 1, 1, 1]) k (run Try.prog (C k) k (Sub (bodyOf Try.f103) [1, 1, 0, 1, 0, 0, 1, 0, 0, 1, 1, 1, 1, 1]) (f103.Q5 k n1))) (f103.Q5 k n1)
noncomputable def f103.Q10 (k : Nat) (n1 : Nat) : Kont (Value × AHeap) := blkQ 4 (f103.Q9 k n1)
noncomputable def f103.Q11 (k : Nat) (n1 : Nat) : Kont (Value × AHeap) := blkQ 6 (f103.Q5 k n1)
noncomputable def f103.L1 (k : Nat) (n1 : Nat) (a0 : Option Addr) (l0 : Nat) (c0 : Nat) (x1 : Int) (x2 : Int) (x7 : Int) (x8 : Int) (D : List Value) (H : AHeap) : Option (Value × AHeap) :=
  iter (run Try.prog (C k) k (Sub (bodyOf Try.f103) [1, 1, 0, 1, 0, 0])) (f103.Q2 k ) n1 [.slice a0 l0 c0, .int .i64 x1, .int .i64 x2, undef, undef, undef, (D.getD 0 undef), .int .i64 x7, .int .i64 x8, (D.getD 1 undef), (D.getD 2 undef), (D.getD 3 undef), (D.getD 4 undef), (D.getD 5 undef), (D.getD 6 undef), (D.getD 7 undef), (D.getD 8 undef), (D.getD 9 undef), (D.getD 10 undef), (D.getD 11 undef), (D.getD 12 undef), (D.getD 13 undef), (D.getD 14 undef), (D.getD 15 undef), (D.getD 16 undef), (D.getD 17 undef), (D.getD 18 undef), (D.getD 19 undef), (D.getD 20 undef), (D.getD 21 undef), (D.getD 22 undef), (D.getD 23 undef), (D.getD 24 undef), (D.getD 25 undef), (D.getD 26 undef), (D.getD 27 undef), (D.getD 28 undef), (D.getD 29 undef), (D.getD 30 undef), (D.getD 31 undef), (D.getD 32 undef), (D.getD 33 undef), (D.getD 34 undef), (D.getD 35 undef), (D.getD 36 undef), (D.getD 37 undef), (D.getD 38 undef), (D.getD 39 undef), (D.getD 40 undef), (D.getD 41 undef), (D.getD 42 undef), (D.getD 43 undef), (D.getD 44 undef), (D.getD 45 undef), (D.getD 46 undef), (D.getD 47 undef), (D.getD 48 undef), (D.getD 49 undef), (D.getD 50 undef), (D.getD 51 undef), (D.getD 52 undef), (D.getD 53 undef), (D.getD 54 undef), (D.getD 55 undef), (D.getD 56 undef), (D.getD 57 undef), (D.getD 58 undef), (D.getD 59 undef), (D.getD 60 undef), (D.getD 61 undef), (D.getD 62 undef), (D.getD 63 undef), (D.getD 64 undef), (D.getD 65 undef), (D.getD 66 undef), (D.getD 67 undef), (D.getD 68 undef), (D.getD 69 undef), (D.getD 70 undef), (D.getD 71 undef), (D.getD 72 undef), (D.getD 73 undef), (D.getD 74 undef), (D.getD 75 undef), (D.getD 76 undef), (D.getD 77 undef), (D.getD 78 undef), (D.getD 79 undef), (D.getD 80 undef), (D.getD 81 undef), (D.getD 82 undef), (D.getD 83 undef), (D.getD 84 undef), (D.getD 85 undef), (D.getD 86 undef), (D.getD 87 undef), (D.getD 88 undef), (D.getD 89 undef), (D.getD 90 undef), (D.getD 91 undef), (D.getD 92 undef), (D.getD 93 undef), (D.getD 94 undef), (D.getD 95 undef), (D.getD 96 undef), (D.getD 97 undef), (D.getD 98 undef), (D.getD 99 undef), (D.getD 100 undef), (D.getD 101 undef), (D.getD 102 undef), (D.getD 103 undef), (D.getD 104 undef), (D.getD 105 undef), (D.getD 106 undef), (D.getD 107 undef), (D.getD 108 undef), (D.getD 109 undef), (D.getD 110 undef), (D.getD 111 undef), (D.getD 112 undef), (D.getD 113 undef), (D.getD 114 undef), (D.getD 115 undef), (D.getD 116 undef), (D.getD 117 undef), (D.getD 118 undef), (D.getD 119 undef), (D.getD 120 undef), (D.getD 121 undef), (D.getD 122 undef), (D.getD 123 undef), (D.getD 124 undef)] H
noncomputable def f103.L2 (k : Nat) (n1 : Nat) (n2 : Nat) (a0 : Option Addr) (l0 : Nat) (c0 : Nat) (x1 : Int) (x2 : Int) (x7 : Int) (x8 : Int) (D : List Value) (H : AHeap) : Option (Value × AHeap) :=
  iter (run Try.prog (C k) k (Sub (bodyOf Try.f103) [1, 1, 0, 1, 0, 0, 1, 0, 0, 0, 0, 0])) (f103.Q7 k n1) n2 [.slice a0 l0 c0, .int .i64 x1, .int .i64 x2, undef, undef, undef, (D.getD 0 undef), .int .i64 x7, .int .i64 x8, (D.getD 1 undef), (D.getD 2 undef), (D.getD 3 undef), (D.getD 4 undef), (D.getD 5 undef), (D.getD 6 undef), (D.getD 7 undef), (D.getD 8 undef), (D.getD 9 undef), (D.getD 10 undef), (D.getD 11 undef), (D.getD 12 undef), (D.getD 13 undef), (D.getD 14 undef), (D.getD 15 undef), (D.getD 16 undef), (D.getD 17 undef), (D.getD 18 undef), (D.getD 19 undef), (D.getD 20 undef), (D.getD 21 undef), (D.getD 22 undef), (D.getD 23 undef), (D.getD 24 undef), (D.getD 25 undef), (D.getD 26 undef), (D.getD 27 undef), (D.getD 28 undef), (D.getD 29 undef), (D.getD 30 undef), (D.getD 31 undef), (D.getD 32 undef), (D.getD 33 undef), (D.getD 34 undef), (D.getD 35 undef), (D.getD 36 undef), (D.getD 37 undef), (D.getD 38 undef), (D.getD 39 undef), (D.getD 40 undef), (D.getD 41 undef), (D.getD 42 undef), (D.getD 43 undef), (D.getD 44 undef), (D.getD 45 undef), (D.getD 46 undef), (D.getD 47 undef), (D.getD 48 undef), (D.getD 49 undef), (D.getD 50 undef), (D.getD 51 undef), (D.getD 52 undef), (D.getD 53 undef), (D.getD 54 undef), (D.getD 55 undef), (D.getD 56 undef), (D.getD 57 undef), (D.getD 58 undef), (D.getD 59 undef), (D.getD 60 undef), (D.getD 61 undef), (D.getD 62 undef), (D.getD 63 undef), (D.getD 64 undef), (D.getD 65 undef), (D.getD 66 undef), (D.getD 67 undef), (D.getD 68 undef), (D.getD 69 undef), (D.getD 70 undef), (D.getD 71 undef), (D.getD 72 undef), (D.getD 73 undef), (D.getD 74 undef), (D.getD 75 undef), (D.getD 76 undef), (D.getD 77 undef), (D.getD 78 undef), (D.getD 79 undef), (D.getD 80 undef), (D.getD 81 undef), (D.getD 82 undef), (D.getD 83 undef), (D.getD 84 undef), (D.getD 85 undef), (D.getD 86 undef), (D.getD 87 undef), (D.getD 88 undef), (D.getD 89 undef), (D.getD 90 undef), (D.getD 91 undef), (D.getD 92 undef), (D.getD 93 undef), (D.getD 94 undef), (D.getD 95 undef), (D.getD 96 undef), (D.getD 97 undef), (D.getD 98 undef), (D.getD 99 undef), (D.getD 100 undef), (D.getD 101 undef), (D.getD 102 undef), (D.getD 103 undef), (D.getD 104 undef), (D.getD 105 undef), (D.getD 106 undef), (D.getD 107 undef), (D.getD 108 undef), (D.getD 109 undef), (D.getD 110 undef), (D.getD 111 undef), (D.getD 112 undef), (D.getD 113 undef), (D.getD 114 undef), (D.getD 115 undef), (D.getD 116 undef), (D.getD 117 undef), (D.getD 118 undef), (D.getD 119 undef), (D.getD 120 undef), (D.getD 121 undef), (D.getD 122 undef), (D.getD 123 undef), (D.getD 124 undef)] H
noncomputable def f103.K1 (k : Nat) (n1 : Nat) (a0 : Option Addr) (l0 : Nat) (c0 : Nat) (x1 : Int) (x2 : Int) (x7 : Int) (x8 : Int) (D : List Value) (H : AHeap) : Option (Value × AHeap) :=
  gateC (Sub (bodyOf Try.f103) [1, 1, 0, 1, 0, 0, 1, 0, 0, 0]) (Sub (bodyOf Try.f103) [1, 1, 0, 1, 0, 0, 1, 0, 0, 1]) k (run Try.prog (C k) k (Sub (bodyOf Try.f103) [1, 1, 0, 1, 0, 0, 1, 0, 0, 1]) (f103.Q5 k n1)) [.slice a0 l0 c0, .int .i64 x1, .int .i64 x2, undef, undef, undef, (D.getD 0 undef), .int .i64 x7, .int .i64 x8, (D.getD 1 undef), (D.getD 2 undef), (D.getD 3 undef), (D.getD 4 undef), (D.getD 5 undef), (D.getD 6 undef), (D.getD 7 undef), (D.getD 8 undef), (D.getD 9 undef), (D.getD 10 undef), (D.getD 11 undef), (D.getD 12 undef), (D.getD 13 undef), (D.getD 14 undef), (D.getD 15 undef), (D.getD 16 undef), (D.getD 17 undef), (D.getD 18 undef), (D.getD 19 undef), (D.getD 20 undef), (D.getD 21 undef), (D.getD 22 undef), (D.getD 23 undef), (D.getD 24 undef), (D.getD 25 undef), (D.getD 26 undef), (D.getD 27 undef), (D.getD 28 undef), (D.getD 29 undef), (D.getD 30 undef), (D.getD 31 undef), (D.getD 32 undef), (D.getD 33 undef), (D.getD 34 undef), (D.getD 35 undef), (D.getD 36 undef), (D.getD 37 undef), (D.getD 38 undef), (D.getD 39 undef), (D.getD 40 undef), (D.getD 41 undef), (D.getD 42 undef), (D.getD 43 undef), (D.getD 44 undef), (D.getD 45 undef), (D.getD 46 undef), (D.getD 47 undef), (D.getD 48 undef), (D.getD 49 undef), (D.getD 50 undef), (D.getD 51 undef), (D.getD 52 undef), (D.getD 53 undef), (D.getD 54 undef), (D.getD 55 undef), (D.getD 56 undef), (D.getD 57 undef), (D.getD 58 undef), (D.getD 59 undef), (D.getD 60 undef), (D.getD 61 undef), (D.getD 62 undef), (D.getD 63 undef), (D.getD 64 undef), (D.getD 65 undef), (D.getD 66 undef), (D.getD 67 undef), (D.getD 68 undef), (D.getD 69 undef), (D.getD 70 undef), (D.getD 71 undef), (D.getD 72 undef), (D.getD 73 undef), (D.getD 74 undef), (D.getD 75 undef), (D.getD 76 undef), (D.getD 77 undef), (D.getD 78 undef), (D.getD 79 undef), (D.getD 80 undef), (D.getD 81 undef), (D.getD 82 undef), (D.getD 83 undef), (D.getD 84 undef), (D.getD 85 undef), (D.getD 86 undef), (D.getD 87 undef), (D.getD 88 undef), (D.getD 89 undef), (D.getD 90 undef), (D.getD 91 undef), (D.getD 92 undef), (D.getD 93 undef), (D.getD 94 undef), (D.getD 95 undef), (D.getD 96 undef), (D.getD 97 undef), (D.getD 98 undef), (D.getD 99 undef), (D.getD 100 undef), (D.getD 101 undef), (D.getD 102 undef), (D.getD 103 undef), (D.getD 104 undef), (D.getD 105 undef), (D.getD 106 undef), (D.getD 107 undef), (D.getD 108 undef), (D.getD 109 undef), (D.getD 110 undef), (D.getD 111 undef), (D.getD 112 undef), (D.getD 113 undef), (D.getD 114 undef), (D.getD 115 undef), (D.getD 116 undef), (D.getD 117 undef), (D.getD 118 undef), (D.getD 119 undef), (D.getD 120 undef), (D.getD 121 undef), (D.getD 122 undef), (D.getD 123 undef), (D.getD 124 undef)] H
noncomputable def f103.L3 (k : Nat) (n1 : Nat) (n2 : Nat) (a0 : Option Addr) (l0 : Nat) (c0 : Nat) (x1 : Int) (x2 : Int) (x7 : Int) (x8 : Int) (x9 : Int) (D : List Value) (H : AHeap) : Option (Value × AHeap) :=
  iter (run Try.prog (C k) k (Sub (bodyOf Try.f103) [1, 1, 0, 1, 0, 0, 1, 0, 0, 1, 1, 1, 1, 0, 1, 0, 1, 0, 0])) (f103.Q10 k n1) n2 [.slice a0 l0 c0, .int .i64 x1, .int .i64 x2, undef, undef, undef, (D.getD 0 undef), .int .i64 x7, .int .i64 x8, .int .i64 x9, (D.getD 1 undef), (D.getD 2 undef), (D.getD 3 undef), (D.getD 4 undef), (D.getD 5 undef), (D.getD 6 undef), (D.getD 7 undef), (D.getD 8 undef), (D.getD 9 undef), (D.getD 10 undef), (D.getD 11 undef), (D.getD 12 undef), (D.getD 13 undef), (D.getD 14 undef), (D.getD 15 undef), (D.getD 16 undef), (D.getD 17 undef), (D.getD 18 undef), (D.getD 19 undef), (D.getD 20 undef), (D.getD 21 undef), (D.getD 22 undef), (D.getD 23 undef), (D.getD 24 undef), (D.getD 25 undef), (D.getD 26 undef), (D.getD 27 undef), (D.getD 28 undef), (D.getD 29 undef), (D.getD 30 undef), (D.getD 31 undef), (D.getD 32 undef), (D.getD 33 undef), (D.getD 34 undef), (D.getD 35 undef), (D.getD 36 undef), (D.getD 37 undef), (D.getD 38 undef), (D.getD 39 undef), (D.getD 40 undef), (D.getD 41 undef), (D.getD 42 undef), (D.getD 43 undef), (D.getD 44 undef), (D.getD 45 undef), (D.getD 46 undef), (D.getD 47 undef), (D.getD 48 undef), (D.getD 49 undef), (D.getD 50 undef), (D.getD 51 undef), (D.getD 52 undef), (D.getD 53 undef), (D.getD 54 undef), (D.getD 55 undef), (D.getD 56 undef), (D.getD 57 undef), (D.getD 58 undef), (D.getD 59 undef), (D.getD 60 undef), (D.getD 61 undef), (D.getD 62 undef), (D.getD 63 undef), (D.getD 64 undef), (D.getD 65 undef), (D.getD 66 undef), (D.getD 67 undef), (D.getD 68 undef), (D.getD 69 undef), (D.getD 70 undef), (D.getD 71 undef), (D.getD 72 undef), (D.getD 73 undef), (D.getD 74 undef), (D.getD 75 undef), (D.getD 76 undef), (D.getD 77 undef), (D.getD 78 undef), (D.getD 79 undef), (D.getD 80 undef), (D.getD 81 undef), (D.getD 82 undef), (D.getD 83 undef), (D.getD 84 undef), (D.getD 85 undef), (D.getD 86 undef), (D.getD 87 undef), (D.getD 88 undef), (D.getD 89 undef), (D.getD 90 undef), (D.getD 91 undef), (D.getD 92 undef), (D.getD 93 undef), (D.getD 94 undef), (D.getD 95 undef), (D.getD 96 undef), (D.getD 97 undef), (D.getD 98 undef), (D.getD 99 undef), (D.getD 100 undef), (D.getD 101 undef), (D.getD 102 undef), (D.getD 103 undef), (D.getD 104 undef), (D.getD 105 undef), (D.getD 106 undef), (D.getD 107 undef), (D.getD 108 undef), (D.getD 109 undef), (D.getD 110 undef), (D.getD 111 undef), (D.getD 112 undef), (D.getD 113 undef), (D.getD 114 undef), (D.getD 115 undef), (D.getD 116 undef), (D.getD 117 undef), (D.getD 118 undef), (D.getD 119 undef), (D.getD 120 undef), (D.getD 121 undef), (D.getD 122 undef), (D.getD 123 undef)] H
noncomputable def f103.K2 (k : Nat) (n1 : Nat) (a0 : Option Addr) (l0 : Nat) (c0 : Nat) (x1 : Int) (x2 : Int) (x7 : Int) (x8 : Int) (D : List Value) (H : AHeap) : Option (Value × AHeap) :=
  gateC (Sub (bodyOf Try.f103) [1, 1, 0, 1, 0, 0, 1, 0, 0, 1, 1, 1, 1, 0]) (Sub (bodyOf Try.f103) [1, 1, 0, 1, 0, 0, 1, 0, 0, 1, 1, 1, 1, 1]) k (run Try.prog (C k) k (Sub (bodyOf Try.f103) [1, 1, 0, 1, 0, 0, 1, 0, 0, 1, 1, 1, 1, 1]) (f103.Q5 k n1)) [.slice a0 l0 c0, .int .i64 x1, .int .i64 x2, undef, undef, undef, (D.getD 0 undef), .int .i64 x7, .int .i64 x8, (D.getD 1 undef), (D.getD 2 undef), (D.getD 3 undef), (D.getD 4 undef), (D.getD 5 undef), (D.getD 6 undef), (D.getD 7 undef), (D.getD 8 undef), (D.getD 9 undef), (D.getD 10 undef), (D.getD 11 undef), (D.getD 12 undef), (D.getD 13 undef), (D.getD 14 undef), (D.getD 15 undef), (D.getD 16 undef), (D.getD 17 undef), (D.getD 18 undef), (D.getD 19 undef), (D.getD 20 undef), (D.getD 21 undef), (D.getD 22 undef), (D.getD 23 undef), (D.getD 24 undef), (D.getD 25 undef), (D.getD 26 undef), (D.getD 27 undef), (D.getD 28 undef), (D.getD 29 undef), (D.getD 30 undef), (D.getD 31 undef), (D.getD 32 undef), (D.getD 33 undef), (D.getD 34 undef), (D.getD 35 undef), (D.getD 36 undef), (D.getD 37 undef), (D.getD 38 undef), (D.getD 39 undef), (D.getD 40 undef), (D.getD 41 undef), (D.getD 42 undef), (D.getD 43 undef), (D.getD 44 undef), (D.getD 45 undef), (D.getD 46 undef), (D.getD 47 undef), (D.getD 48 undef), (D.getD 49 undef), (D.getD 50 undef), (D.getD 51 undef), (D.getD 52 undef), (D.getD 53 undef), (D.getD 54 undef), (D.getD 55 undef), (D.getD 56 undef), (D.getD 57 undef), (D.getD 58 undef), (D.getD 59 undef), (D.getD 60 undef), (D.getD 61 undef), (D.getD 62 undef), (D.getD 63 undef), (D.getD 64 undef), (D.getD 65 undef), (D.getD 66 undef), (D.getD 67 undef), (D.getD 68 undef), (D.getD 69 undef), (D.getD 70 undef), (D.getD 71 undef), (D.getD 72 undef), (D.getD 73 undef), (D.getD 74 undef), (D.getD 75 undef), (D.getD 76 undef), (D.getD 77 undef), (D.getD 78 undef), (D.getD 79 undef), (D.getD 80 undef), (D.getD 81 undef), (D.getD 82 undef), (D.getD 83 undef), (D.getD 84 undef), (D.getD 85 undef), (D.getD 86 undef), (D.getD 87 undef), (D.getD 88 undef), (D.getD 89 undef), (D.getD 90 undef), (D.getD 91 undef), (D.getD 92 undef), (D.getD 93 undef), (D.getD 94 undef), (D.getD 95 undef), (D.getD 96 undef), (D.getD 97 undef), (D.getD 98 undef), (D.getD 99 undef), (D.getD 100 undef), (D.getD 101 undef), (D.getD 102 undef), (D.getD 103 undef), (D.getD 104 undef), (D.getD 105 undef), (D.getD 106 undef), (D.getD 107 undef), (D.getD 108 undef), (D.getD 109 undef), (D.getD 110 undef), (D.getD 111 undef), (D.getD 112 undef), (D.getD 113 undef), (D.getD 114 undef), (D.getD 115 undef), (D.getD 116 undef), (D.getD 117 undef), (D.getD 118 undef), (D.getD 119 undef), (D.getD 120 undef), (D.getD 121 undef), (D.getD 122 undef), (D.getD 123 undef), (D.getD 124 undef)] H
noncomputable def f103.L4 (k : Nat) (n1 : Nat) (n2 : Nat) (a0 : Option Addr) (l0 : Nat) (c0 : Nat) (x1 : Int) (x2 : Int) (x7 : Int) (x8 : Int) (x10 : Int) (D : List Value) (H : AHeap) : Option (Value × AHeap) :=
  iter (run Try.prog (C k) k (Sub (bodyOf Try.f103) [1, 1, 0, 1, 0, 0, 1, 0, 0, 1, 1, 1, 1, 1, 1, 0, 1, 0, 0])) (f103.Q11 k n1) n2 [.slice a0 l0 c0, .int .i64 x1, .int .i64 x2, undef, undef, undef, (D.getD 0 undef), .int .i64 x7, .int .i64 x8, (D.getD 1 undef), .int .i64 x10, (D.getD 2 undef), (D.getD 3 undef), (D.getD 4 undef), (D.getD 5 undef), (D.getD 6 undef), (D.getD 7 undef), (D.getD 8 undef), (D.getD 9 undef), (D.getD 10 undef), (D.getD 11 undef), (D.getD 12 undef), (D.getD 13 undef), (D.getD 14 undef), (D.getD 15 undef), (D.getD 16 undef), (D.getD 17 undef), (D.getD 18 undef), (D.getD 19 undef), (D.getD 20 undef), (D.getD 21 undef), (D.getD 22 undef), (D.getD 23 undef), (D.getD 24 undef), (D.getD 25 undef), (D.getD 26 undef), (D.getD 27 undef), (D.getD 28 undef), (D.getD 29 undef), (D.getD 30 undef), (D.getD 31 undef), (D.getD 32 undef), (D.getD 33 undef), (D.getD 34 undef), (D.getD 35 undef), (D.getD 36 undef), (D.getD 37 undef), (D.getD 38 undef), (D.getD 39 undef), (D.getD 40 undef), (D.getD 41 undef), (D.getD 42 undef), (D.getD 43 undef), (D.getD 44 undef), (D.getD 45 undef), (D.getD 46 undef), (D.getD 47 undef), (D.getD 48 undef), (D.getD 49 undef), (D.getD 50 undef), (D.getD 51 undef), (D.getD 52 undef), (D.getD 53 undef), (D.getD 54 undef), (D.getD 55 undef), (D.getD 56 undef), (D.getD 57 undef), (D.getD 58 undef), (D.getD 59 undef), (D.getD 60 undef), (D.getD 61 undef), (D.getD 62 undef), (D.getD 63 undef), (D.getD 64 undef), (D.getD 65 undef), (D.getD 66 undef), (D.getD 67 undef), (D.getD 68 undef), (D.getD 69 undef), (D.getD 70 undef), (D.getD 71 undef), (D.getD 72 undef), (D.getD 73 undef), (D.getD 74 undef), (D.getD 75 undef), (D.getD 76 undef), (D.getD 77 undef), (D.getD 78 undef), (D.getD 79 undef), (D.getD 80 undef), (D.getD 81 undef), (D.getD 82 undef), (D.getD 83 undef), (D.getD 84 undef), (D.getD 85 undef), (D.getD 86 undef), (D.getD 87 undef), (D.getD 88 undef), (D.getD 89 undef), (D.getD 90 undef), (D.getD 91 undef), (D.getD 92 undef), (D.getD 93 undef), (D.getD 94 undef), (D.getD 95 undef), (D.getD 96 undef), (D.getD 97 undef), (D.getD 98 undef), (D.getD 99 undef), (D.getD 100 undef), (D.getD 101 undef), (D.getD 102 undef), (D.getD 103 undef), (D.getD 104 undef), (D.getD 105 undef), (D.getD 106 undef), (D.getD 107 undef), (D.getD 108 undef), (D.getD 109 undef), (D.getD 110 undef), (D.getD 111 undef), (D.getD 112 undef), (D.getD 113 undef), (D.getD 114 undef), (D.getD 115 undef), (D.getD 116 undef), (D.getD 117 undef), (D.getD 118 undef), (D.getD 119 undef), (D.getD 120 undef), (D.getD 121 undef), (D.getD 122 undef), (D.getD 123 undef)] H
noncomputable def f103.K3 (k : Nat) (n1 : Nat) (a0 : Option Addr) (l0 : Nat) (c0 : Nat) (x1 : Int) (x2 : Int) (x7 : Int) (x8 : Int) (D : List Value) (H : AHeap) : Option (Value × AHeap) :=
  gateC (Sub (bodyOf Try.f103) [1, 1, 0, 1, 0, 0, 1, 0]) (Sub (bodyOf Try.f103) [1, 1, 0, 1, 0, 0, 1, 1]) k (run Try.prog (C k) k (Sub (bodyOf Try.f103) [1, 1, 0, 1, 0, 0, 1, 1]) (f103.Q3 k n1)) [.slice a0 l0 c0, .int .i64 x1, .int .i64 x2, undef, undef, undef, (D.getD 0 undef), .int .i64 x7, .int .i64 x8, (D.getD 1 undef), (D.getD 2 undef), (D.getD 3 undef), (D.getD 4 undef), (D.getD 5 undef), (D.getD 6 undef), (D.getD 7 undef), (D.getD 8 undef), (D.getD 9 undef), (D.getD 10 undef), (D.getD 11 undef), (D.getD 12 undef), (D.getD 13 undef), (D.getD 14 undef), (D.getD 15 undef), (D.getD 16 undef), (D.getD 17 undef), (D.getD 18 undef), (D.getD 19 undef), (D.getD 20 undef), (D.getD 21 undef), (D.getD 22 undef), (D.getD 23 undef), (D.getD 24 undef), (D.getD 25 undef), (D.getD 26 undef), (D.getD 27 undef), (D.getD 28 undef), (D.getD 29 undef), (D.getD 30 undef), (D.getD 31 undef), (D.getD 32 undef), (D.getD 33 undef), (D.getD 34 undef), (D.getD 35 undef), (D.getD 36 undef), (D.getD 37 undef), (D.getD 38 undef), (D.getD 39 undef), (D.getD 40 undef), (D.getD 41 undef), (D.getD 42 undef), (D.getD 43 undef), (D.getD 44 undef), (D.getD 45 undef), (D.getD 46 undef), (D.getD 47 undef), (D.getD 48 undef), (D.getD 49 undef), (D.getD 50 undef), (D.getD 51 undef), (D.getD 52 undef), (D.getD 53 undef), (D.getD 54 undef), (D.getD 55 undef), (D.getD 56 undef), (D.getD 57 undef), (D.getD 58 undef), (D.getD 59 undef), (D.getD 60 undef), (D.getD 61 undef), (D.getD 62 undef), (D.getD 63 undef), (D.getD 64 undef), (D.getD 65 undef), (D.getD 66 undef), (D.getD 67 undef), (D.getD 68 undef), (D.getD 69 undef), (D.getD 70 undef), (D.getD 71 undef), (D.getD 72 undef), (D.getD 73 undef), (D.getD 74 undef), (D.getD 75 undef), (D.getD 76 undef), (D.getD 77 undef), (D.getD 78 undef), (D.getD 79 undef), (D.getD 80 undef), (D.getD 81 undef), (D.getD 82 undef), (D.getD 83 undef), (D.getD 84 undef), (D.getD 85 undef), (D.getD 86 undef), (D.getD 87 undef), (D.getD 88 undef), (D.getD 89 undef), (D.getD 90 undef), (D.getD 91 undef), (D.getD 92 undef), (D.getD 93 undef), (D.getD 94 undef), (D.getD 95 undef), (D.getD 96 undef), (D.getD 97 undef), (D.getD 98 undef), (D.getD 99 undef), (D.getD 100 undef), (D.getD 101 undef), (D.getD 102 undef), (D.getD 103 undef), (D.getD 104 undef), (D.getD 105 undef), (D.getD 106 undef), (D.getD 107 undef), (D.getD 108 undef), (D.getD 109 undef), (D.getD 110 undef), (D.getD 111 undef), (D.getD 112 undef), (D.getD 113 undef), (D.getD 114 undef), (D.getD 115 undef), (D.getD 116 undef), (D.getD 117 undef), (D.getD 118 undef), (D.getD 119 undef), (D.getD 120 undef), (D.getD 121 undef), (D.getD 122 undef), (D.getD 123 undef), (D.getD 124 undef)] H
theorem f103.L1_z (k : Nat)  (a0 : Option Addr) (l0 : Nat) (c0 : Nat) (x1 : Int) (x2 : Int) (x7 : Int) (x8 : Int) (D : List Value) (H : AHeap) : f103.L1 k 0 a0 l0 c0 x1 x2 x7 x8 D H = none := by kernel_rfl
theorem f103.L1_s (k : Nat) (n1 : Nat) (a0 : Option Addr) (l0 : Nat) (c0 : Nat) (x1 : Int) (x2 : Int) (x7 : Int) (x8 : Int) (D : List Value) (H : AHeap) : f103.L1 k (n1 + 1) a0 l0 c0 x1 x2 x7 x8 D H =
  (bif (decide (x8 < (5 : Int))) then
   f103.L2 k n1 k a0 l0 c0 x1 x2 x7 x8 [(D.getD 0 undef), (D.getD 1 undef), (D.getD 2 undef), (D.getD 3 undef), (D.getD 4 undef), .int .i64 x8, .bool (decide (x8 < (5 : Int))), (D.getD 7 undef), (D.getD 8 undef), (D.getD 9 undef), (D.getD 10 undef), (D.getD 11 undef), (D.getD 12 undef), (D.getD 13 undef), (D.getD 14 undef), (D.getD 15 undef), (D.getD 16 undef), (D.getD 17 undef), (D.getD 18 undef), (D.getD 19 undef), (D.getD 20 undef), (D.getD 21 undef), (D.getD 22 undef), (D.getD 23 undef), (D.getD 24 undef), (D.getD 25 undef), (D.getD 26 undef), (D.getD 27 undef), (D.getD 28 undef), (D.getD 29 undef), (D.getD 30 undef), (D.getD 31 undef), (D.getD 32 undef), (D.getD 33 undef), (D.getD 34 undef), (D.getD 35 undef), (D.getD 36 undef), (D.getD 37 undef), (D.getD 38 undef), (D.getD 39 undef), (D.getD 40 undef), (D.getD 41 undef), (D.getD 42 undef), (D.getD 43 undef), (D.getD 44 undef), (D.getD 45 undef), (D.getD 46 undef), (D.getD 47 undef), (D.getD 48 undef), (D.getD 49 undef), (D.getD 50 undef), (D.getD 51 undef), (D.getD 52 undef), (D.getD 53 undef), (D.getD 54 undef), (D.getD 55 undef), (D.getD 56 undef), (D.getD 57 undef), (D.getD 58 undef), (D.getD 59 undef), (D.getD 60 undef), (D.getD 61 undef), (D.getD 62 undef), (D.getD 63 undef), (D.getD 64 undef), (D.getD 65 undef), (D.getD 66 undef), (D.getD 67 undef), (D.getD 68 undef), (D.getD 69 undef), (D.getD 70 undef), (D.getD 71 undef), (D.getD 72 undef), (D.getD 73 undef), (D.getD 74 undef), (D.getD 75 undef), (D.getD 76 undef), (D.getD 77 undef), (D.getD 78 undef), (D.getD 79 undef), (D.getD 80 undef), (D.getD 81 undef), (D.getD 82 undef), (D.getD 83 undef), (D.getD 84 undef), (D.getD 85 undef), (D.getD 86 undef), (D.getD 87 undef), (D.getD 88 undef), (D.getD 89 undef), (D.getD 90 undef), (D.getD 91 undef), (D.getD 92 undef), (D.getD 93 undef), (D.getD 94 undef), (D.getD 95 undef), (D.getD 96 undef), (D.getD 97 undef), (D.getD 98 undef), (D.getD 99 undef), (D.getD 100 undef), (D.getD 101 undef), (D.getD 102 undef), (D.getD 103 undef), (D.getD 104 undef), (D.getD 105 undef), (D.getD 106 undef), (D.getD 107 undef), (D.getD 108 undef), (D.getD 109 undef), (D.getD 110 undef), (D.getD 111 undef), (D.getD 112 undef), (D.getD 113 undef), (D.getD 114 undef), (D.getD 115 undef), (D.getD 116 undef), (D.getD 117 undef), (D.getD 118 undef), (D.getD 119 undef), (D.getD 120 undef), (D.getD 121 undef), (D.getD 122 undef), (D.getD 123 undef), (D.getD 124 undef)] H
   else
   some (.bool false, H)) := by kernel_rfl
theorem f103.L2_z (k : Nat) (n1 : Nat) (a0 : Option Addr) (l0 : Nat) (c0 : Nat) (x1 : Int) (x2 : Int) (x7 : Int) (x8 : Int) (D : List Value) (H : AHeap) : f103.L2 k n1 0 a0 l0 c0 x1 x2 x7 x8 D H = none := by kernel_rfl
theorem f103.L2_b (k : Nat) (a0 : Option Addr) (l0 : Nat) (c0 : Nat) (x1 : Int) (x2 : Int) (x7 : Int) (x8 : Int) (D : List Value) (H : AHeap) (Q : Kont (Value × AHeap)) : run Try.prog (C k) k (Sub (bodyOf Try.f103) [1, 1, 0, 1, 0, 0, 1, 0, 0, 0, 0, 0]) Q [.slice a0 l0 c0, .int .i64 x1, .int .i64 x2, undef, undef, undef, (D.getD 0 undef), .int .i64 x7, .int .i64 x8, (D.getD 1 undef), (D.getD 2 undef), (D.getD 3 undef), (D.getD 4 undef), (D.getD 5 undef), (D.getD 6 undef), (D.getD 7 undef), (D.getD 8 undef), (D.getD 9 undef), (D.getD 10 undef), (D.getD 11 undef), (D.getD 12 undef), (D.getD 13 undef), (D.getD 14 undef), (D.getD 15 undef), (D.getD 16 undef), (D.getD 17 undef), (D.getD 18 undef), (D.getD 19 undef), (D.getD 20 undef), (D.getD 21 undef), (D.getD 22 undef), (D.getD 23 undef), (D.getD 24 undef), (D.getD 25 undef), (D.getD 26 undef), (D.getD 27 undef), (D.getD 28 undef), (D.getD 29 undef), (D.getD 30 undef), (D.getD 31 undef), (D.getD 32 undef), (D.getD 33 undef), (D.getD 34 undef), (D.getD 35 undef), (D.getD 36 undef), (D.getD 37 undef), (D.getD 38 undef), (D.getD 39 undef), (D.getD 40 undef), (D.getD 41 undef), (D.getD 42 undef), (D.getD 43 undef), (D.getD 44 undef), (D.getD 45 undef), (D.getD 46 undef), (D.getD 47 undef), (D.getD 48 undef), (D.getD 49 undef), (D.getD 50 undef), (D.getD 51 undef), (D.getD 52 undef), (D.getD 53 undef), (D.getD 54 undef), (D.getD 55 undef), (D.getD 56 undef), (D.getD 57 undef), (D.getD 58 undef), (D.getD 59 undef), (D.getD 60 undef), (D.getD 61 undef), (D.getD 62 undef), (D.getD 63 undef), (D.getD 64 undef), (D.getD 65 undef), (D.getD 66 undef), (D.getD 67 undef), (D.getD 68 undef), (D.getD 69 undef), (D.getD 70 undef), (D.getD 71 undef), (D.getD 72 undef), (D.getD 73 undef), (D.getD 74 undef), (D.getD 75 undef), (D.getD 76 undef), (D.getD 77 undef), (D.getD 78 undef), (D.getD 79 undef), (D.getD 80 undef), (D.getD 81 undef), (D.getD 82 undef), (D.getD 83 undef), (D.getD 84 undef), (D.getD 85 undef), (D.getD 86 undef), (D.getD 87 undef), (D.getD 88 undef), (D.getD 89 undef), (D.getD 90 undef), (D.getD 91 undef), (D.getD 92 undef), (D.getD 93 undef), (D.getD 94 undef), (D.getD 95 undef), (D.getD 96 undef), (D.getD 97 undef), (D.getD 98 undef), (D.getD 99 undef), (D.getD 100 undef), (D.getD 101 undef), (D.getD 102 undef), (D.getD 103 undef), (D.getD 104 undef), (D.getD 105 undef), (D.getD 106 undef), (D.getD 107 undef), (D.getD 108 undef), (D.getD 109 undef), (D.getD 110 undef), (D.getD 111 undef), (D.getD 112 undef), (D.getD 113 undef), (D.getD 114 undef), (D.getD 115 undef), (D.getD 116 undef), (D.getD 117 undef), (D.getD 118 undef), (D.getD 119 undef), (D.getD 120 undef), (D.getD 121 undef), (D.getD 122 undef), (D.getD 123 undef), (D.getD 124 undef)] H =
  (bif (decide (x7 < x2)) then
   a0.bind fun q =>
   if 0 ≤ x7 ∧ x7 < (l0 : Int) then
   bif sameB H (H.bump 16) q.block then
   (ldI .i64 (H.bump 16) q.block (q.off + x7.toNat * 1)).bind fun x =>
   a0.bind fun q_1 =>
   if 0 ≤ (IntKind.i64.wrap (x7 - (1 : Int))) ∧ (IntKind.i64.wrap (x7 - (1 : Int))) < (l0 : Int) then
   bif sameB H (H.bump 16) q_1.block then
   (ldI .i64 (H.bump 16) q_1.block (q_1.off + (IntKind.i64.wrap (x7 - (1 : Int))).toNat * 1)).bind fun x_1 =>
   cB (C k 104 [.int .i64 x, .int .i64 x_1] (H.bump 16)) fun b H_1 =>
   bif (!b) then
   Q .normal [.slice a0 l0 c0, .int .i64 x1, .int .i64 x2, undef, undef, undef, (D.getD 0 undef), .int .i64 (IntKind.i64.wrap (x7 + (1 : Int))), .int .i64 x8, (D.getD 1 undef), (D.getD 2 undef), (D.getD 3 undef), (D.getD 4 undef), (D.getD 5 undef), (D.getD 6 undef), (D.getD 7 undef), (D.getD 8 undef), .int .i64 x7, .int .i64 x2, .bool (decide (x7 < x2)), .bool true, .slice a0 l0 c0, .int .i64 x7, .pointer (some ⟨q.block, q.off + x7.toNat * 1, none⟩), .int .i64 x, .slice a0 l0 c0, .int .i64 x7, .int .i64 (IntKind.i64.wrap (x7 - (1 : Int))), .pointer (some ⟨q_1.block, q_1.off + (IntKind.i64.wrap (x7 - (1 : Int))).toNat * 1, none⟩), .int .i64 x_1, .bool b, .bool (!b), .bool (!b), .int .i64 x7, .int .i64 (IntKind.i64.wrap (x7 + (1 : Int))), (D.getD 27 undef), (D.getD 28 undef), (D.getD 29 undef), (D.getD 30 undef), (D.getD 31 undef), (D.getD 32 undef), (D.getD 33 undef), (D.getD 34 undef), (D.getD 35 undef), (D.getD 36 undef), (D.getD 37 undef), (D.getD 38 undef), (D.getD 39 undef), (D.getD 40 undef), (D.getD 41 undef), (D.getD 42 undef), (D.getD 43 undef), (D.getD 44 undef), (D.getD 45 undef), (D.getD 46 undef), (D.getD 47 undef), (D.getD 48 undef), (D.getD 49 undef), (D.getD 50 undef), (D.getD 51 undef), (D.getD 52 undef), (D.getD 53 undef), (D.getD 54 undef), (D.getD 55 undef), (D.getD 56 undef), (D.getD 57 undef), (D.getD 58 undef), (D.getD 59 undef), (D.getD 60 undef), (D.getD 61 undef), (D.getD 62 undef), (D.getD 63 undef), (D.getD 64 undef), (D.getD 65 undef), (D.getD 66 undef), (D.getD 67 undef), (D.getD 68 undef), (D.getD 69 undef), (D.getD 70 undef), (D.getD 71 undef), (D.getD 72 undef), (D.getD 73 undef), (D.getD 74 undef), (D.getD 75 undef), (D.getD 76 undef), (D.getD 77 undef), (D.getD 78 undef), (D.getD 79 undef), (D.getD 80 undef), (D.getD 81 undef), (D.getD 82 undef), (D.getD 83 undef), (D.getD 84 undef), (D.getD 85 undef), (D.getD 86 undef), (D.getD 87 undef), (D.getD 88 undef), (D.getD 89 undef), (D.getD 90 undef), (D.getD 91 undef), (D.getD 92 undef), (D.getD 93 undef), (D.getD 94 undef), (D.getD 95 undef), (D.getD 96 undef), (D.getD 97 undef), (D.getD 98 undef), (D.getD 99 undef), (D.getD 100 undef), (D.getD 101 undef), (D.getD 102 undef), (D.getD 103 undef), (D.getD 104 undef), (D.getD 105 undef), (D.getD 106 undef), (D.getD 107 undef), (D.getD 108 undef), (D.getD 109 undef), (D.getD 110 undef), (D.getD 111 undef), (D.getD 112 undef), (D.getD 113 undef), (D.getD 114 undef), (D.getD 115 undef), (D.getD 116 undef), (D.getD 117 undef), (D.getD 118 undef), (D.getD 119 undef), (D.getD 120 undef), (D.getD 121 undef), (D.getD 122 undef), (D.getD 123 undef), (D.getD 124 undef)] H_1
   else
   Q (.exit 2) [.slice a0 l0 c0, .int .i64 x1, .int .i64 x2, undef, undef, undef, (D.getD 0 undef), .int .i64 x7, .int .i64 x8, (D.getD 1 undef), (D.getD 2 undef), (D.getD 3 undef), (D.getD 4 undef), (D.getD 5 undef), (D.getD 6 undef), (D.getD 7 undef), (D.getD 8 undef), .int .i64 x7, .int .i64 x2, .bool (decide (x7 < x2)), .bool true, .slice a0 l0 c0, .int .i64 x7, .pointer (some ⟨q.block, q.off + x7.toNat * 1, none⟩), .int .i64 x, .slice a0 l0 c0, .int .i64 x7, .int .i64 (IntKind.i64.wrap (x7 - (1 : Int))), .pointer (some ⟨q_1.block, q_1.off + (IntKind.i64.wrap (x7 - (1 : Int))).toNat * 1, none⟩), .int .i64 x_1, .bool b, .bool (!b), .bool (!b), (D.getD 25 undef), (D.getD 26 undef), (D.getD 27 undef), (D.getD 28 undef), (D.getD 29 undef), (D.getD 30 undef), (D.getD 31 undef), (D.getD 32 undef), (D.getD 33 undef), (D.getD 34 undef), (D.getD 35 undef), (D.getD 36 undef), (D.getD 37 undef), (D.getD 38 undef), (D.getD 39 undef), (D.getD 40 undef), (D.getD 41 undef), (D.getD 42 undef), (D.getD 43 undef), (D.getD 44 undef), (D.getD 45 undef), (D.getD 46 undef), (D.getD 47 undef), (D.getD 48 undef), (D.getD 49 undef), (D.getD 50 undef), (D.getD 51 undef), (D.getD 52 undef), (D.getD 53 undef), (D.getD 54 undef), (D.getD 55 undef), (D.getD 56 undef), (D.getD 57 undef), (D.getD 58 undef), (D.getD 59 undef), (D.getD 60 undef), (D.getD 61 undef), (D.getD 62 undef), (D.getD 63 undef), (D.getD 64 undef), (D.getD 65 undef), (D.getD 66 undef), (D.getD 67 undef), (D.getD 68 undef), (D.getD 69 undef), (D.getD 70 undef), (D.getD 71 undef), (D.getD 72 undef), (D.getD 73 undef), (D.getD 74 undef), (D.getD 75 undef), (D.getD 76 undef), (D.getD 77 undef), (D.getD 78 undef), (D.getD 79 undef), (D.getD 80 undef), (D.getD 81 undef), (D.getD 82 undef), (D.getD 83 undef), (D.getD 84 undef), (D.getD 85 undef), (D.getD 86 undef), (D.getD 87 undef), (D.getD 88 undef), (D.getD 89 undef), (D.getD 90 undef), (D.getD 91 undef), (D.getD 92 undef), (D.getD 93 undef), (D.getD 94 undef), (D.getD 95 undef), (D.getD 96 undef), (D.getD 97 undef), (D.getD 98 undef), (D.getD 99 undef), (D.getD 100 undef), (D.getD 101 undef), (D.getD 102 undef), (D.getD 103 undef), (D.getD 104 undef), (D.getD 105 undef), (D.getD 106 undef), (D.getD 107 undef), (D.getD 108 undef), (D.getD 109 undef), (D.getD 110 undef), (D.getD 111 undef), (D.getD 112 undef), (D.getD 113 undef), (D.getD 114 undef), (D.getD 115 undef), (D.getD 116 undef), (D.getD 117 undef), (D.getD 118 undef), (D.getD 119 undef), (D.getD 120 undef), (D.getD 121 undef), (D.getD 122 undef), (D.getD 123 undef), (D.getD 124 undef)] H_1
   else none
   else none
   else none
   else none
   else
   Q (.exit 2) [.slice a0 l0 c0, .int .i64 x1, .int .i64 x2, undef, undef, undef, (D.getD 0 undef), .int .i64 x7, .int .i64 x8, (D.getD 1 undef), (D.getD 2 undef), (D.getD 3 undef), (D.getD 4 undef), (D.getD 5 undef), (D.getD 6 undef), (D.getD 7 undef), (D.getD 8 undef), .int .i64 x7, .int .i64 x2, .bool (decide (x7 < x2)), .bool false, undef, undef, undef, undef, undef, undef, undef, undef, undef, undef, undef, .bool false, (D.getD 25 undef), (D.getD 26 undef), (D.getD 27 undef), (D.getD 28 undef), (D.getD 29 undef), (D.getD 30 undef), (D.getD 31 undef), (D.getD 32 undef), (D.getD 33 undef), (D.getD 34 undef), (D.getD 35 undef), (D.getD 36 undef), (D.getD 37 undef), (D.getD 38 undef), (D.getD 39 undef), (D.getD 40 undef), (D.getD 41 undef), (D.getD 42 undef), (D.getD 43 undef), (D.getD 44 undef), (D.getD 45 undef), (D.getD 46 undef), (D.getD 47 undef), (D.getD 48 undef), (D.getD 49 undef), (D.getD 50 undef), (D.getD 51 undef), (D.getD 52 undef), (D.getD 53 undef), (D.getD 54 undef), (D.getD 55 undef), (D.getD 56 undef), (D.getD 57 undef), (D.getD 58 undef), (D.getD 59 undef), (D.getD 60 undef), (D.getD 61 undef), (D.getD 62 undef), (D.getD 63 undef), (D.getD 64 undef), (D.getD 65 undef), (D.getD 66 undef), (D.getD 67 undef), (D.getD 68 undef), (D.getD 69 undef), (D.getD 70 undef), (D.getD 71 undef), (D.getD 72 undef), (D.getD 73 undef), (D.getD 74 undef), (D.getD 75 undef), (D.getD 76 undef), (D.getD 77 undef), (D.getD 78 undef), (D.getD 79 undef), (D.getD 80 undef), (D.getD 81 undef), (D.getD 82 undef), (D.getD 83 undef), (D.getD 84 undef), (D.getD 85 undef), (D.getD 86 undef), (D.getD 87 undef), (D.getD 88 undef), (D.getD 89 undef), (D.getD 90 undef), (D.getD 91 undef), (D.getD 92 undef), (D.getD 93 undef), (D.getD 94 undef), (D.getD 95 undef), (D.getD 96 undef), (D.getD 97 undef), (D.getD 98 undef), (D.getD 99 undef), (D.getD 100 undef), (D.getD 101 undef), (D.getD 102 undef), (D.getD 103 undef), (D.getD 104 undef), (D.getD 105 undef), (D.getD 106 undef), (D.getD 107 undef), (D.getD 108 undef), (D.getD 109 undef), (D.getD 110 undef), (D.getD 111 undef), (D.getD 112 undef), (D.getD 113 undef), (D.getD 114 undef), (D.getD 115 undef), (D.getD 116 undef), (D.getD 117 undef), (D.getD 118 undef), (D.getD 119 undef), (D.getD 120 undef), (D.getD 121 undef), (D.getD 122 undef), (D.getD 123 undef), (D.getD 124 undef)] (H.bump 16)) := by kernel_rfl
theorem f103.L2_s (k : Nat) (n1 : Nat) (n2 : Nat) (a0 : Option Addr) (l0 : Nat) (c0 : Nat) (x1 : Int) (x2 : Int) (x7 : Int) (x8 : Int) (D : List Value) (H : AHeap) : f103.L2 k n1 (n2 + 1) a0 l0 c0 x1 x2 x7 x8 D H =
  (bif (decide (x7 < x2)) then
   a0.bind fun q =>
   if 0 ≤ x7 ∧ x7 < (l0 : Int) then
   bif sameB H (H.bump 16) q.block then
   (ldI .i64 (H.bump 16) q.block (q.off + x7.toNat * 1)).bind fun x =>
   a0.bind fun q_1 =>
   if 0 ≤ (IntKind.i64.wrap (x7 - (1 : Int))) ∧ (IntKind.i64.wrap (x7 - (1 : Int))) < (l0 : Int) then
   bif sameB H (H.bump 16) q_1.block then
   (ldI .i64 (H.bump 16) q_1.block (q_1.off + (IntKind.i64.wrap (x7 - (1 : Int))).toNat * 1)).bind fun x_1 =>
   cB (C k 104 [.int .i64 x, .int .i64 x_1] (H.bump 16)) fun b H_1 =>
   bif (!b) then
   f103.L2 k n1 n2 a0 l0 c0 x1 x2 (IntKind.i64.wrap (x7 + (1 : Int))) x8 [(D.getD 0 undef), (D.getD 1 undef), (D.getD 2 undef), (D.getD 3 undef), (D.getD 4 undef), (D.getD 5 undef), (D.getD 6 undef), (D.getD 7 undef), (D.getD 8 undef), .int .i64 x7, .int .i64 x2, .bool (decide (x7 < x2)), .bool true, .slice a0 l0 c0, .int .i64 x7, .pointer (some ⟨q.block, q.off + x7.toNat * 1, none⟩), .int .i64 x, .slice a0 l0 c0, .int .i64 x7, .int .i64 (IntKind.i64.wrap (x7 - (1 : Int))), .pointer (some ⟨q_1.block, q_1.off + (IntKind.i64.wrap (x7 - (1 : Int))).toNat * 1, none⟩), .int .i64 x_1, .bool b, .bool (!b), .bool (!b), .int .i64 x7, .int .i64 (IntKind.i64.wrap (x7 + (1 : Int))), (D.getD 27 undef), (D.getD 28 undef), (D.getD 29 undef), (D.getD 30 undef), (D.getD 31 undef), (D.getD 32 undef), (D.getD 33 undef), (D.getD 34 undef), (D.getD 35 undef), (D.getD 36 undef), (D.getD 37 undef), (D.getD 38 undef), (D.getD 39 undef), (D.getD 40 undef), (D.getD 41 undef), (D.getD 42 undef), (D.getD 43 undef), (D.getD 44 undef), (D.getD 45 undef), (D.getD 46 undef), (D.getD 47 undef), (D.getD 48 undef), (D.getD 49 undef), (D.getD 50 undef), (D.getD 51 undef), (D.getD 52 undef), (D.getD 53 undef), (D.getD 54 undef), (D.getD 55 undef), (D.getD 56 undef), (D.getD 57 undef), (D.getD 58 undef), (D.getD 59 undef), (D.getD 60 undef), (D.getD 61 undef), (D.getD 62 undef), (D.getD 63 undef), (D.getD 64 undef), (D.getD 65 undef), (D.getD 66 undef), (D.getD 67 undef), (D.getD 68 undef), (D.getD 69 undef), (D.getD 70 undef), (D.getD 71 undef), (D.getD 72 undef), (D.getD 73 undef), (D.getD 74 undef), (D.getD 75 undef), (D.getD 76 undef), (D.getD 77 undef), (D.getD 78 undef), (D.getD 79 undef), (D.getD 80 undef), (D.getD 81 undef), (D.getD 82 undef), (D.getD 83 undef), (D.getD 84 undef), (D.getD 85 undef), (D.getD 86 undef), (D.getD 87 undef), (D.getD 88 undef), (D.getD 89 undef), (D.getD 90 undef), (D.getD 91 undef), (D.getD 92 undef), (D.getD 93 undef), (D.getD 94 undef), (D.getD 95 undef), (D.getD 96 undef), (D.getD 97 undef), (D.getD 98 undef), (D.getD 99 undef), (D.getD 100 undef), (D.getD 101 undef), (D.getD 102 undef), (D.getD 103 undef), (D.getD 104 undef), (D.getD 105 undef), (D.getD 106 undef), (D.getD 107 undef), (D.getD 108 undef), (D.getD 109 undef), (D.getD 110 undef), (D.getD 111 undef), (D.getD 112 undef), (D.getD 113 undef), (D.getD 114 undef), (D.getD 115 undef), (D.getD 116 undef), (D.getD 117 undef), (D.getD 118 undef), (D.getD 119 undef), (D.getD 120 undef), (D.getD 121 undef), (D.getD 122 undef), (D.getD 123 undef), (D.getD 124 undef)] H_1
   else
   f103.K1 k n1 a0 l0 c0 x1 x2 x7 x8 [(D.getD 0 undef), (D.getD 1 undef), (D.getD 2 undef), (D.getD 3 undef), (D.getD 4 undef), (D.getD 5 undef), (D.getD 6 undef), (D.getD 7 undef), (D.getD 8 undef), .int .i64 x7, .int .i64 x2, .bool (decide (x7 < x2)), .bool true, .slice a0 l0 c0, .int .i64 x7, .pointer (some ⟨q.block, q.off + x7.toNat * 1, none⟩), .int .i64 x, .slice a0 l0 c0, .int .i64 x7, .int .i64 (IntKind.i64.wrap (x7 - (1 : Int))), .pointer (some ⟨q_1.block, q_1.off + (IntKind.i64.wrap (x7 - (1 : Int))).toNat * 1, none⟩), .int .i64 x_1, .bool b, .bool (!b), .bool (!b), (D.getD 25 undef), (D.getD 26 undef), (D.getD 27 undef), (D.getD 28 undef), (D.getD 29 undef), (D.getD 30 undef), (D.getD 31 undef), (D.getD 32 undef), (D.getD 33 undef), (D.getD 34 undef), (D.getD 35 undef), (D.getD 36 undef), (D.getD 37 undef), (D.getD 38 undef), (D.getD 39 undef), (D.getD 40 undef), (D.getD 41 undef), (D.getD 42 undef), (D.getD 43 undef), (D.getD 44 undef), (D.getD 45 undef), (D.getD 46 undef), (D.getD 47 undef), (D.getD 48 undef), (D.getD 49 undef), (D.getD 50 undef), (D.getD 51 undef), (D.getD 52 undef), (D.getD 53 undef), (D.getD 54 undef), (D.getD 55 undef), (D.getD 56 undef), (D.getD 57 undef), (D.getD 58 undef), (D.getD 59 undef), (D.getD 60 undef), (D.getD 61 undef), (D.getD 62 undef), (D.getD 63 undef), (D.getD 64 undef), (D.getD 65 undef), (D.getD 66 undef), (D.getD 67 undef), (D.getD 68 undef), (D.getD 69 undef), (D.getD 70 undef), (D.getD 71 undef), (D.getD 72 undef), (D.getD 73 undef), (D.getD 74 undef), (D.getD 75 undef), (D.getD 76 undef), (D.getD 77 undef), (D.getD 78 undef), (D.getD 79 undef), (D.getD 80 undef), (D.getD 81 undef), (D.getD 82 undef), (D.getD 83 undef), (D.getD 84 undef), (D.getD 85 undef), (D.getD 86 undef), (D.getD 87 undef), (D.getD 88 undef), (D.getD 89 undef), (D.getD 90 undef), (D.getD 91 undef), (D.getD 92 undef), (D.getD 93 undef), (D.getD 94 undef), (D.getD 95 undef), (D.getD 96 undef), (D.getD 97 undef), (D.getD 98 undef), (D.getD 99 undef), (D.getD 100 undef), (D.getD 101 undef), (D.getD 102 undef), (D.getD 103 undef), (D.getD 104 undef), (D.getD 105 undef), (D.getD 106 undef), (D.getD 107 undef), (D.getD 108 undef), (D.getD 109 undef), (D.getD 110 undef), (D.getD 111 undef), (D.getD 112 undef), (D.getD 113 undef), (D.getD 114 undef), (D.getD 115 undef), (D.getD 116 undef), (D.getD 117 undef), (D.getD 118 undef), (D.getD 119 undef), (D.getD 120 undef), (D.getD 121 undef), (D.getD 122 undef), (D.getD 123 undef), (D.getD 124 undef)] H_1
   else none
   else none
   else none
   else none
   else
   f103.K1 k n1 a0 l0 c0 x1 x2 x7 x8 [(D.getD 0 undef), (D.getD 1 undef), (D.getD 2 undef), (D.getD 3 undef), (D.getD 4 undef), (D.getD 5 undef), (D.getD 6 undef), (D.getD 7 undef), (D.getD 8 undef), .int .i64 x7, .int .i64 x2, .bool (decide (x7 < x2)), .bool false, undef, undef, undef, undef, undef, undef, undef, undef, undef, undef, undef, .bool false, (D.getD 25 undef), (D.getD 26 undef), (D.getD 27 undef), (D.getD 28 undef), (D.getD 29 undef), (D.getD 30 undef), (D.getD 31 undef), (D.getD 32 undef), (D.getD 33 undef), (D.getD 34 undef), (D.getD 35 undef), (D.getD 36 undef), (D.getD 37 undef), (D.getD 38 undef), (D.getD 39 undef), (D.getD 40 undef), (D.getD 41 undef), (D.getD 42 undef), (D.getD 43 undef), (D.getD 44 undef), (D.getD 45 undef), (D.getD 46 undef), (D.getD 47 undef), (D.getD 48 undef), (D.getD 49 undef), (D.getD 50 undef), (D.getD 51 undef), (D.getD 52 undef), (D.getD 53 undef), (D.getD 54 undef), (D.getD 55 undef), (D.getD 56 undef), (D.getD 57 undef), (D.getD 58 undef), (D.getD 59 undef), (D.getD 60 undef), (D.getD 61 undef), (D.getD 62 undef), (D.getD 63 undef), (D.getD 64 undef), (D.getD 65 undef), (D.getD 66 undef), (D.getD 67 undef), (D.getD 68 undef), (D.getD 69 undef), (D.getD 70 undef), (D.getD 71 undef), (D.getD 72 undef), (D.getD 73 undef), (D.getD 74 undef), (D.getD 75 undef), (D.getD 76 undef), (D.getD 77 undef), (D.getD 78 undef), (D.getD 79 undef), (D.getD 80 undef), (D.getD 81 undef), (D.getD 82 undef), (D.getD 83 undef), (D.getD 84 undef), (D.getD 85 undef), (D.getD 86 undef), (D.getD 87 undef), (D.getD 88 undef), (D.getD 89 undef), (D.getD 90 undef), (D.getD 91 undef), (D.getD 92 undef), (D.getD 93 undef), (D.getD 94 undef), (D.getD 95 undef), (D.getD 96 undef), (D.getD 97 undef), (D.getD 98 undef), (D.getD 99 undef), (D.getD 100 undef), (D.getD 101 undef), (D.getD 102 undef), (D.getD 103 undef), (D.getD 104 undef), (D.getD 105 undef), (D.getD 106 undef), (D.getD 107 undef), (D.getD 108 undef), (D.getD 109 undef), (D.getD 110 undef), (D.getD 111 undef), (D.getD 112 undef), (D.getD 113 undef), (D.getD 114 undef), (D.getD 115 undef), (D.getD 116 undef), (D.getD 117 undef), (D.getD 118 undef), (D.getD 119 undef), (D.getD 120 undef), (D.getD 121 undef), (D.getD 122 undef), (D.getD 123 undef), (D.getD 124 undef)] (H.bump 16)) := by
  refine Eq.trans ?_ (Eq.trans (f103.L2_b k a0 l0 c0 x1 x2 x7 x8 D H (f103.Q8 k n1 n2)) ?_)
  · kernel_rfl
  · kernel_rfl
theorem f103.K1_eq (k : Nat) (n1 : Nat) (a0 : Option Addr) (l0 : Nat) (c0 : Nat) (x1 : Int) (x2 : Int) (x7 : Int) (x8 : Int) (D : List Value) (H : AHeap) : f103.K1 k n1 a0 l0 c0 x1 x2 x7 x8 D H =
  (bif (x7 == x2) then
   some (.bool true, H)
   else
   bif (decide ((IntKind.i64.wrap (x2 - x1)) < (50 : Int))) then
   some (.bool false, H)
   else
   a0.bind fun q =>
   if 0 ≤ (IntKind.i64.wrap (x7 - (1 : Int))) ∧ (IntKind.i64.wrap (x7 - (1 : Int))) < (l0 : Int) then
   bif sameB H (H.bump 18) q.block then
   (ldI .i64 (H.bump 18) q.block (q.off + (IntKind.i64.wrap (x7 - (1 : Int))).toNat * 1)).bind fun x =>
   a0.bind fun q_1 =>
   if 0 ≤ x7 ∧ x7 < (l0 : Int) then
   bif sameB H (H.bump 18) q_1.block then
   (ldI .i64 (H.bump 18) q_1.block (q_1.off + x7.toNat * 1)).bind fun x_1 =>
   a0.bind fun q_2 =>
   if 0 ≤ x7 ∧ x7 < (l0 : Int) then
   (AHeap.wr (H.bump 18) q_2.block (q_2.off + x7.toNat * 1) [.int .i64 x]).bind fun H_1 =>
   a0.bind fun q_3 =>
   if 0 ≤ (IntKind.i64.wrap (x7 - (1 : Int))) ∧ (IntKind.i64.wrap (x7 - (1 : Int))) < (l0 : Int) then
   (AHeap.wr H_1 q_3.block (q_3.off + (IntKind.i64.wrap (x7 - (1 : Int))).toNat * 1) [.int .i64 x_1]).bind fun H_2 =>
   bif (decide ((IntKind.i64.wrap (x7 - x1)) ≥ (2 : Int))) then
   f103.L3 k n1 k a0 l0 c0 x1 x2 x7 x8 (IntKind.i64.wrap (x7 - (1 : Int))) [(D.getD 0 undef), (D.getD 2 undef), (D.getD 3 undef), (D.getD 4 undef), (D.getD 5 undef), (D.getD 6 undef), (D.getD 7 undef), (D.getD 8 undef), (D.getD 9 undef), (D.getD 10 undef), (D.getD 11 undef), (D.getD 12 undef), (D.getD 13 undef), (D.getD 14 undef), (D.getD 15 undef), (D.getD 16 undef), (D.getD 17 undef), (D.getD 18 undef), (D.getD 19 undef), (D.getD 20 undef), (D.getD 21 undef), (D.getD 22 undef), (D.getD 23 undef), (D.getD 24 undef), (D.getD 25 undef), (D.getD 26 undef), .int .i64 x7, .int .i64 x2, .bool (x7 == x2), .int .i64 x2, .int .i64 x1, .int .i64 (IntKind.i64.wrap (x2 - x1)), .bool (decide ((IntKind.i64.wrap (x2 - x1)) < (50 : Int))), .slice a0 l0 c0, .int .i64 x7, .slice a0 l0 c0, .int .i64 x7, .int .i64 (IntKind.i64.wrap (x7 - (1 : Int))), .slice a0 l0 c0, .int .i64 x7, .int .i64 (IntKind.i64.wrap (x7 - (1 : Int))), .pointer (some ⟨q.block, q.off + (IntKind.i64.wrap (x7 - (1 : Int))).toNat * 1, none⟩), .int .i64 x, .slice a0 l0 c0, .int .i64 x7, .pointer (some ⟨q_1.block, q_1.off + x7.toNat * 1, none⟩), .int .i64 x_1, .pointer (some ⟨q_2.block, q_2.off + x7.toNat * 1, none⟩), .pointer (some ⟨q_3.block, q_3.off + (IntKind.i64.wrap (x7 - (1 : Int))).toNat * 1, none⟩), .int .i64 x7, .int .i64 x1, .int .i64 (IntKind.i64.wrap (x7 - x1)), .bool (decide ((IntKind.i64.wrap (x7 - x1)) ≥ (2 : Int))), .int .i64 x7, .int .i64 (IntKind.i64.wrap (x7 - (1 : Int))), (D.getD 56 undef), (D.getD 57 undef), (D.getD 58 undef), (D.getD 59 undef), (D.getD 60 undef), (D.getD 61 undef), (D.getD 62 undef), (D.getD 63 undef), (D.getD 64 undef), (D.getD 65 undef), (D.getD 66 undef), (D.getD 67 undef), (D.getD 68 undef), (D.getD 69 undef), (D.getD 70 undef), (D.getD 71 undef), (D.getD 72 undef), (D.getD 73 undef), (D.getD 74 undef), (D.getD 75 undef), (D.getD 76 undef), (D.getD 77 undef), (D.getD 78 undef), (D.getD 79 undef), (D.getD 80 undef), (D.getD 81 undef), (D.getD 82 undef), (D.getD 83 undef), (D.getD 84 undef), (D.getD 85 undef), (D.getD 86 undef), (D.getD 87 undef), (D.getD 88 undef), (D.getD 89 undef), (D.getD 90 undef), (D.getD 91 undef), (D.getD 92 undef), (D.getD 93 undef), (D.getD 94 undef), (D.getD 95 undef), (D.getD 96 undef), (D.getD 97 undef), (D.getD 98 undef), (D.getD 99 undef), (D.getD 100 undef), (D.getD 101 undef), (D.getD 102 undef), (D.getD 103 undef), (D.getD 104 undef), (D.getD 105 undef), (D.getD 106 undef), (D.getD 107 undef), (D.getD 108 undef), (D.getD 109 undef), (D.getD 110 undef), (D.getD 111 undef), (D.getD 112 undef), (D.getD 113 undef), (D.getD 114 undef), (D.getD 115 undef), (D.getD 116 undef), (D.getD 117 undef), (D.getD 118 undef), (D.getD 119 undef), (D.getD 120 undef), (D.getD 121 undef), (D.getD 122 undef), (D.getD 123 undef), (D.getD 124 undef)] H_2
   else
   f103.K2 k n1 a0 l0 c0 x1 x2 x7 x8 [(D.getD 0 undef), (D.getD 1 undef), (D.getD 2 undef), (D.getD 3 undef), (D.getD 4 undef), (D.getD 5 undef), (D.getD 6 undef), (D.getD 7 undef), (D.getD 8 undef), (D.getD 9 undef), (D.getD 10 undef), (D.getD 11 undef), (D.getD 12 undef), (D.getD 13 undef), (D.getD 14 undef), (D.getD 15 undef), (D.getD 16 undef), (D.getD 17 undef), (D.getD 18 undef), (D.getD 19 undef), (D.getD 20 undef), (D.getD 21 undef), (D.getD 22 undef), (D.getD 23 undef), (D.getD 24 undef), (D.getD 25 undef), (D.getD 26 undef), .int .i64 x7, .int .i64 x2, .bool (x7 == x2), .int .i64 x2, .int .i64 x1, .int .i64 (IntKind.i64.wrap (x2 - x1)), .bool (decide ((IntKind.i64.wrap (x2 - x1)) < (50 : Int))), .slice a0 l0 c0, .int .i64 x7, .slice a0 l0 c0, .int .i64 x7, .int .i64 (IntKind.i64.wrap (x7 - (1 : Int))), .slice a0 l0 c0, .int .i64 x7, .int .i64 (IntKind.i64.wrap (x7 - (1 : Int))), .pointer (some ⟨q.block, q.off + (IntKind.i64.wrap (x7 - (1 : Int))).toNat * 1, none⟩), .int .i64 x, .slice a0 l0 c0, .int .i64 x7, .pointer (some ⟨q_1.block, q_1.off + x7.toNat * 1, none⟩), .int .i64 x_1, .pointer (some ⟨q_2.block, q_2.off + x7.toNat * 1, none⟩), .pointer (some ⟨q_3.block, q_3.off + (IntKind.i64.wrap (x7 - (1 : Int))).toNat * 1, none⟩), .int .i64 x7, .int .i64 x1, .int .i64 (IntKind.i64.wrap (x7 - x1)), .bool (decide ((IntKind.i64.wrap (x7 - x1)) ≥ (2 : Int))), (D.getD 54 undef), (D.getD 55 undef), (D.getD 56 undef), (D.getD 57 undef), (D.getD 58 undef), (D.getD 59 undef), (D.getD 60 undef), (D.getD 61 undef), (D.getD 62 undef), (D.getD 63 undef), (D.getD 64 undef), (D.getD 65 undef), (D.getD 66 undef), (D.getD 67 undef), (D.getD 68 undef), (D.getD 69 undef), (D.getD 70 undef), (D.getD 71 undef), (D.getD 72 undef), (D.getD 73 undef), (D.getD 74 undef), (D.getD 75 undef), (D.getD 76 undef), (D.getD 77 undef), (D.getD 78 undef), (D.getD 79 undef), (D.getD 80 undef), (D.getD 81 undef), (D.getD 82 undef), (D.getD 83 undef), (D.getD 84 undef), (D.getD 85 undef), (D.getD 86 undef), (D.getD 87 undef), (D.getD 88 undef), (D.getD 89 undef), (D.getD 90 undef), (D.getD 91 undef), (D.getD 92 undef), (D.getD 93 undef), (D.getD 94 undef), (D.getD 95 undef), (D.getD 96 undef), (D.getD 97 undef), (D.getD 98 undef), (D.getD 99 undef), (D.getD 100 undef), (D.getD 101 undef), (D.getD 102 undef), (D.getD 103 undef), (D.getD 104 undef), (D.getD 105 undef), (D.getD 106 undef), (D.getD 107 undef), (D.getD 108 undef), (D.getD 109 undef), (D.getD 110 undef), (D.getD 111 undef), (D.getD 112 undef), (D.getD 113 undef), (D.getD 114 undef), (D.getD 115 undef), (D.getD 116 undef), (D.getD 117 undef), (D.getD 118 undef), (D.getD 119 undef), (D.getD 120 undef), (D.getD 121 undef), (D.getD 122 undef), (D.getD 123 undef), (D.getD 124 undef)] H_2
   else none
   else none
   else none
   else none
   else none
   else none) := by
  unfold f103.K1
  rw [gateC_eq]
  kernel_rfl
theorem f103.L3_z (k : Nat) (n1 : Nat) (a0 : Option Addr) (l0 : Nat) (c0 : Nat) (x1 : Int) (x2 : Int) (x7 : Int) (x8 : Int) (x9 : Int) (D : List Value) (H : AHeap) : f103.L3 k n1 0 a0 l0 c0 x1 x2 x7 x8 x9 D H = none := by kernel_rfl
theorem f103.L3_s (k : Nat) (n1 : Nat) (n2 : Nat) (a0 : Option Addr) (l0 : Nat) (c0 : Nat) (x1 : Int) (x2 : Int) (x7 : Int) (x8 : Int) (x9 : Int) (D : List Value) (H : AHeap) : f103.L3 k n1 (n2 + 1) a0 l0 c0 x1 x2 x7 x8 x9 D H =
  (bif (decide (x9 ≥ (1 : Int))) then
   a0.bind fun q =>
   if 0 ≤ x9 ∧ x9 < (l0 : Int) then
   bif sameB H (H.bump 11) q.block then
   (ldI .i64 (H.bump 11) q.block (q.off + x9.toNat * 1)).bind fun x =>
   a0.bind fun q_1 =>
   if 0 ≤ (IntKind.i64.wrap (x9 - (1 : Int))) ∧ (IntKind.i64.wrap (x9 - (1 : Int))) < (l0 : Int) then
   bif sameB H (H.bump 11) q_1.block then
   (ldI .i64 (H.bump 11) q_1.block (q_1.off + (IntKind.i64.wrap (x9 - (1 : Int))).toNat * 1)).bind fun x_1 =>
   cB (C k 104 [.int .i64 x, .int .i64 x_1] (H.bump 11)) fun b H_1 =>
   bif (!b) then
   f103.K2 k n1 a0 l0 c0 x1 x2 x7 x8 [(D.getD 0 undef), .int .i64 x9, (D.getD 1 undef), (D.getD 2 undef), (D.getD 3 undef), (D.getD 4 undef), (D.getD 5 undef), (D.getD 6 undef), (D.getD 7 undef), (D.getD 8 undef), (D.getD 9 undef), (D.getD 10 undef), (D.getD 11 undef), (D.getD 12 undef), (D.getD 13 undef), (D.getD 14 undef), (D.getD 15 undef), (D.getD 16 undef), (D.getD 17 undef), (D.getD 18 undef), (D.getD 19 undef), (D.getD 20 undef), (D.getD 21 undef), (D.getD 22 undef), (D.getD 23 undef), (D.getD 24 undef), (D.getD 25 undef), (D.getD 26 undef), (D.getD 27 undef), (D.getD 28 undef), (D.getD 29 undef), (D.getD 30 undef), (D.getD 31 undef), (D.getD 32 undef), (D.getD 33 undef), (D.getD 34 undef), (D.getD 35 undef), (D.getD 36 undef), (D.getD 37 undef), (D.getD 38 undef), (D.getD 39 undef), (D.getD 40 undef), (D.getD 41 undef), (D.getD 42 undef), (D.getD 43 undef), (D.getD 44 undef), (D.getD 45 undef), (D.getD 46 undef), (D.getD 47 undef), (D.getD 48 undef), (D.getD 49 undef), (D.getD 50 undef), (D.getD 51 undef), (D.getD 52 undef), (D.getD 53 undef), (D.getD 54 undef), .int .i64 x9, .bool (decide (x9 ≥ (1 : Int))), (D.getD 57 undef), (D.getD 58 undef), .slice a0 l0 c0, .int .i64 x9, .pointer (some ⟨q.block, q.off + x9.toNat * 1, none⟩), .int .i64 x, .slice a0 l0 c0, .int .i64 x9, .int .i64 (IntKind.i64.wrap (x9 - (1 : Int))), .pointer (some ⟨q_1.block, q_1.off + (IntKind.i64.wrap (x9 - (1 : Int))).toNat * 1, none⟩), .int .i64 x_1, .bool b, .bool (!b), (D.getD 70 undef), (D.getD 71 undef), (D.getD 72 undef), (D.getD 73 undef), (D.getD 74 undef), (D.getD 75 undef), (D.getD 76 undef), (D.getD 77 undef), (D.getD 78 undef), (D.getD 79 undef), (D.getD 80 undef), (D.getD 81 undef), (D.getD 82 undef), (D.getD 83 undef), (D.getD 84 undef), (D.getD 85 undef), (D.getD 86 undef), (D.getD 87 undef), (D.getD 88 undef), (D.getD 89 undef), (D.getD 90 undef), (D.getD 91 undef), (D.getD 92 undef), (D.getD 93 undef), (D.getD 94 undef), (D.getD 95 undef), (D.getD 96 undef), (D.getD 97 undef), (D.getD 98 undef), (D.getD 99 undef), (D.getD 100 undef), (D.getD 101 undef), (D.getD 102 undef), (D.getD 103 undef), (D.getD 104 undef), (D.getD 105 undef), (D.getD 106 undef), (D.getD 107 undef), (D.getD 108 undef), (D.getD 109 undef), (D.getD 110 undef), (D.getD 111 undef), (D.getD 112 undef), (D.getD 113 undef), (D.getD 114 undef), (D.getD 115 undef), (D.getD 116 undef), (D.getD 117 undef), (D.getD 118 undef), (D.getD 119 undef), (D.getD 120 undef), (D.getD 121 undef), (D.getD 122 undef), (D.getD 123 undef)] H_1
   else
   a0.bind fun q_2 =>
   if 0 ≤ (IntKind.i64.wrap (x9 - (1 : Int))) ∧ (IntKind.i64.wrap (x9 - (1 : Int))) < (l0 : Int) then
   bif sameB H_1 (H_1.bump 18) q_2.block then
   (ldI .i64 (H_1.bump 18) q_2.block (q_2.off + (IntKind.i64.wrap (x9 - (1 : Int))).toNat * 1)).bind fun x_2 =>
   a0.bind fun q_3 =>
   if 0 ≤ x9 ∧ x9 < (l0 : Int) then
   bif sameB H_1 (H_1.bump 18) q_3.block then
   (ldI .i64 (H_1.bump 18) q_3.block (q_3.off + x9.toNat * 1)).bind fun x_3 =>
   a0.bind fun q_4 =>
   if 0 ≤ x9 ∧ x9 < (l0 : Int) then
   (AHeap.wr (H_1.bump 18) q_4.block (q_4.off + x9.toNat * 1) [.int .i64 x_2]).bind fun H_2 =>
   a0.bind fun q_5 =>
   if 0 ≤ (IntKind.i64.wrap (x9 - (1 : Int))) ∧ (IntKind.i64.wrap (x9 - (1 : Int))) < (l0 : Int) then
   (AHeap.wr H_2 q_5.block (q_5.off + (IntKind.i64.wrap (x9 - (1 : Int))).toNat * 1) [.int .i64 x_3]).bind fun H_3 =>
   f103.L3 k n1 n2 a0 l0 c0 x1 x2 x7 x8 (IntKind.i64.wrap (x9 - (1 : Int))) [(D.getD 0 undef), (D.getD 1 undef), (D.getD 2 undef), (D.getD 3 undef), (D.getD 4 undef), (D.getD 5 undef), (D.getD 6 undef), (D.getD 7 undef), (D.getD 8 undef), (D.getD 9 undef), (D.getD 10 undef), (D.getD 11 undef), (D.getD 12 undef), (D.getD 13 undef), (D.getD 14 undef), (D.getD 15 undef), (D.getD 16 undef), (D.getD 17 undef), (D.getD 18 undef), (D.getD 19 undef), (D.getD 20 undef), (D.getD 21 undef), (D.getD 22 undef), (D.getD 23 undef), (D.getD 24 undef), (D.getD 25 undef), (D.getD 26 undef), (D.getD 27 undef), (D.getD 28 undef), (D.getD 29 undef), (D.getD 30 undef), (D.getD 31 undef), (D.getD 32 undef), (D.getD 33 undef), (D.getD 34 undef), (D.getD 35 undef), (D.getD 36 undef), (D.getD 37 undef), (D.getD 38 undef), (D.getD 39 undef), (D.getD 40 undef), (D.getD 41 undef), (D.getD 42 undef), (D.getD 43 undef), (D.getD 44 undef), (D.getD 45 undef), (D.getD 46 undef), (D.getD 47 undef), (D.getD 48 undef), (D.getD 49 undef), (D.getD 50 undef), (D.getD 51 undef), (D.getD 52 undef), (D.getD 53 undef), (D.getD 54 undef), .int .i64 x9, .bool (decide (x9 ≥ (1 : Int))), .int .i64 x9, .int .i64 (IntKind.i64.wrap (x9 - (1 : Int))), .slice a0 l0 c0, .int .i64 x9, .pointer (some ⟨q.block, q.off + x9.toNat * 1, none⟩), .int .i64 x, .slice a0 l0 c0, .int .i64 x9, .int .i64 (IntKind.i64.wrap (x9 - (1 : Int))), .pointer (some ⟨q_1.block, q_1.off + (IntKind.i64.wrap (x9 - (1 : Int))).toNat * 1, none⟩), .int .i64 x_1, .bool b, .bool (!b), .slice a0 l0 c0, .int .i64 x9, .slice a0 l0 c0, .int .i64 x9, .int .i64 (IntKind.i64.wrap (x9 - (1 : Int))), .slice a0 l0 c0, .int .i64 x9, .int .i64 (IntKind.i64.wrap (x9 - (1 : Int))), .pointer (some ⟨q_2.block, q_2.off + (IntKind.i64.wrap (x9 - (1 : Int))).toNat * 1, none⟩), .int .i64 x_2, .slice a0 l0 c0, .int .i64 x9, .pointer (some ⟨q_3.block, q_3.off + x9.toNat * 1, none⟩), .int .i64 x_3, .pointer (some ⟨q_4.block, q_4.off + x9.toNat * 1, none⟩), .pointer (some ⟨q_5.block, q_5.off + (IntKind.i64.wrap (x9 - (1 : Int))).toNat * 1, none⟩), (D.getD 86 undef), (D.getD 87 undef), (D.getD 88 undef), (D.getD 89 undef), (D.getD 90 undef), (D.getD 91 undef), (D.getD 92 undef), (D.getD 93 undef), (D.getD 94 undef), (D.getD 95 undef), (D.getD 96 undef), (D.getD 97 undef), (D.getD 98 undef), (D.getD 99 undef), (D.getD 100 undef), (D.getD 101 undef), (D.getD 102 undef), (D.getD 103 undef), (D.getD 104 undef), (D.getD 105 undef), (D.getD 106 undef), (D.getD 107 undef), (D.getD 108 undef), (D.getD 109 undef), (D.getD 110 undef), (D.getD 111 undef), (D.getD 112 undef), (D.getD 113 undef), (D.getD 114 undef), (D.getD 115 undef), (D.getD 116 undef), (D.getD 117 undef), (D.getD 118 undef), (D.getD 119 undef), (D.getD 120 undef), (D.getD 121 undef), (D.getD 122 undef), (D.getD 123 undef)] H_3
   else none
   else none
   else none
   else none
   else none
   else none
   else none
   else none
   else none
   else none
   else
   f103.K2 k n1 a0 l0 c0 x1 x2 x7 x8 [(D.getD 0 undef), .int .i64 x9, (D.getD 1 undef), (D.getD 2 undef), (D.getD 3 undef), (D.getD 4 undef), (D.getD 5 undef), (D.getD 6 undef), (D.getD 7 undef), (D.getD 8 undef), (D.getD 9 undef), (D.getD 10 undef), (D.getD 11 undef), (D.getD 12 undef), (D.getD 13 undef), (D.getD 14 undef), (D.getD 15 undef), (D.getD 16 undef), (D.getD 17 undef), (D.getD 18 undef), (D.getD 19 undef), (D.getD 20 undef), (D.getD 21 undef), (D.getD 22 undef), (D.getD 23 undef), (D.getD 24 undef), (D.getD 25 undef), (D.getD 26 undef), (D.getD 27 undef), (D.getD 28 undef), (D.getD 29 undef), (D.getD 30 undef), (D.getD 31 undef), (D.getD 32 undef), (D.getD 33 undef), (D.getD 34 undef), (D.getD 35 undef), (D.getD 36 undef), (D.getD 37 undef), (D.getD 38 undef), (D.getD 39 undef), (D.getD 40 undef), (D.getD 41 undef), (D.getD 42 undef), (D.getD 43 undef), (D.getD 44 undef), (D.getD 45 undef), (D.getD 46 undef), (D.getD 47 undef), (D.getD 48 undef), (D.getD 49 undef), (D.getD 50 undef), (D.getD 51 undef), (D.getD 52 undef), (D.getD 53 undef), (D.getD 54 undef), .int .i64 x9, .bool (decide (x9 ≥ (1 : Int))), (D.getD 57 undef), (D.getD 58 undef), (D.getD 59 undef), (D.getD 60 undef), (D.getD 61 undef), (D.getD 62 undef), (D.getD 63 undef), (D.getD 64 undef), (D.getD 65 undef), (D.getD 66 undef), (D.getD 67 undef), (D.getD 68 undef), (D.getD 69 undef), (D.getD 70 undef), (D.getD 71 undef), (D.getD 72 undef), (D.getD 73 undef), (D.getD 74 undef), (D.getD 75 undef), (D.getD 76 undef), (D.getD 77 undef), (D.getD 78 undef), (D.getD 79 undef), (D.getD 80 undef), (D.getD 81 undef), (D.getD 82 undef), (D.getD 83 undef), (D.getD 84 undef), (D.getD 85 undef), (D.getD 86 undef), (D.getD 87 undef), (D.getD 88 undef), (D.getD 89 undef), (D.getD 90 undef), (D.getD 91 undef), (D.getD 92 undef), (D.getD 93 undef), (D.getD 94 undef), (D.getD 95 undef), (D.getD 96 undef), (D.getD 97 undef), (D.getD 98 undef), (D.getD 99 undef), (D.getD 100 undef), (D.getD 101 undef), (D.getD 102 undef), (D.getD 103 undef), (D.getD 104 undef), (D.getD 105 undef), (D.getD 106 undef), (D.getD 107 undef), (D.getD 108 undef), (D.getD 109 undef), (D.getD 110 undef), (D.getD 111 undef), (D.getD 112 undef), (D.getD 113 undef), (D.getD 114 undef), (D.getD 115 undef), (D.getD 116 undef), (D.getD 117 undef), (D.getD 118 undef), (D.getD 119 undef), (D.getD 120 undef), (D.getD 121 undef), (D.getD 122 undef), (D.getD 123 undef)] H) := by kernel_rfl
theorem f103.K2_eq (k : Nat) (n1 : Nat) (a0 : Option Addr) (l0 : Nat) (c0 : Nat) (x1 : Int) (x2 : Int) (x7 : Int) (x8 : Int) (D : List Value) (H : AHeap) : f103.K2 k n1 a0 l0 c0 x1 x2 x7 x8 D H =
  (bif (decide ((IntKind.i64.wrap (x2 - x7)) ≥ (2 : Int))) then
   f103.L4 k n1 k a0 l0 c0 x1 x2 x7 x8 (IntKind.i64.wrap (x7 + (1 : Int))) [(D.getD 0 undef), (D.getD 1 undef), (D.getD 3 undef), (D.getD 4 undef), (D.getD 5 undef), (D.getD 6 undef), (D.getD 7 undef), (D.getD 8 undef), (D.getD 9 undef), (D.getD 10 undef), (D.getD 11 undef), (D.getD 12 undef), (D.getD 13 undef), (D.getD 14 undef), (D.getD 15 undef), (D.getD 16 undef), (D.getD 17 undef), (D.getD 18 undef), (D.getD 19 undef), (D.getD 20 undef), (D.getD 21 undef), (D.getD 22 undef), (D.getD 23 undef), (D.getD 24 undef), (D.getD 25 undef), (D.getD 26 undef), (D.getD 27 undef), (D.getD 28 undef), (D.getD 29 undef), (D.getD 30 undef), (D.getD 31 undef), (D.getD 32 undef), (D.getD 33 undef), (D.getD 34 undef), (D.getD 35 undef), (D.getD 36 undef), (D.getD 37 undef), (D.getD 38 undef), (D.getD 39 undef), (D.getD 40 undef), (D.getD 41 undef), (D.getD 42 undef), (D.getD 43 undef), (D.getD 44 undef), (D.getD 45 undef), (D.getD 46 undef), (D.getD 47 undef), (D.getD 48 undef), (D.getD 49 undef), (D.getD 50 undef), (D.getD 51 undef), (D.getD 52 undef), (D.getD 53 undef), (D.getD 54 undef), (D.getD 55 undef), (D.getD 56 undef), (D.getD 57 undef), (D.getD 58 undef), (D.getD 59 undef), (D.getD 60 undef), (D.getD 61 undef), (D.getD 62 undef), (D.getD 63 undef), (D.getD 64 undef), (D.getD 65 undef), (D.getD 66 undef), (D.getD 67 undef), (D.getD 68 undef), (D.getD 69 undef), (D.getD 70 undef), (D.getD 71 undef), (D.getD 72 undef), (D.getD 73 undef), (D.getD 74 undef), (D.getD 75 undef), (D.getD 76 undef), (D.getD 77 undef), (D.getD 78 undef), (D.getD 79 undef), (D.getD 80 undef), (D.getD 81 undef), (D.getD 82 undef), (D.getD 83 undef), (D.getD 84 undef), (D.getD 85 undef), (D.getD 86 undef), .int .i64 x2, .int .i64 x7, .int .i64 (IntKind.i64.wrap (x2 - x7)), .bool (decide ((IntKind.i64.wrap (x2 - x7)) ≥ (2 : Int))), .int .i64 x7, .int .i64 (IntKind.i64.wrap (x7 + (1 : Int))), (D.getD 93 undef), (D.getD 94 undef), (D.getD 95 undef), (D.getD 96 undef), (D.getD 97 undef), (D.getD 98 undef), (D.getD 99 undef), (D.getD 100 undef), (D.getD 101 undef), (D.getD 102 undef), (D.getD 103 undef), (D.getD 104 undef), (D.getD 105 undef), (D.getD 106 undef), (D.getD 107 undef), (D.getD 108 undef), (D.getD 109 undef), (D.getD 110 undef), (D.getD 111 undef), (D.getD 112 undef), (D.getD 113 undef), (D.getD 114 undef), (D.getD 115 undef), (D.getD 116 undef), (D.getD 117 undef), (D.getD 118 undef), (D.getD 119 undef), (D.getD 120 undef), (D.getD 121 undef), (D.getD 122 undef), (D.getD 123 undef), (D.getD 124 undef)] H
   else
   f103.K3 k n1 a0 l0 c0 x1 x2 x7 x8 [(D.getD 0 undef), (D.getD 1 undef), (D.getD 2 undef), (D.getD 3 undef), (D.getD 4 undef), (D.getD 5 undef), (D.getD 6 undef), (D.getD 7 undef), (D.getD 8 undef), (D.getD 9 undef), (D.getD 10 undef), (D.getD 11 undef), (D.getD 12 undef), (D.getD 13 undef), (D.getD 14 undef), (D.getD 15 undef), (D.getD 16 undef), (D.getD 17 undef), (D.getD 18 undef), (D.getD 19 undef), (D.getD 20 undef), (D.getD 21 undef), (D.getD 22 undef), (D.getD 23 undef), (D.getD 24 undef), (D.getD 25 undef), (D.getD 26 undef), (D.getD 27 undef), (D.getD 28 undef), (D.getD 29 undef), (D.getD 30 undef), (D.getD 31 undef), (D.getD 32 undef), (D.getD 33 undef), (D.getD 34 undef), (D.getD 35 undef), (D.getD 36 undef), (D.getD 37 undef), (D.getD 38 undef), (D.getD 39 undef), (D.getD 40 undef), (D.getD 41 undef), (D.getD 42 undef), (D.getD 43 undef), (D.getD 44 undef), (D.getD 45 undef), (D.getD 46 undef), (D.getD 47 undef), (D.getD 48 undef), (D.getD 49 undef), (D.getD 50 undef), (D.getD 51 undef), (D.getD 52 undef), (D.getD 53 undef), (D.getD 54 undef), (D.getD 55 undef), (D.getD 56 undef), (D.getD 57 undef), (D.getD 58 undef), (D.getD 59 undef), (D.getD 60 undef), (D.getD 61 undef), (D.getD 62 undef), (D.getD 63 undef), (D.getD 64 undef), (D.getD 65 undef), (D.getD 66 undef), (D.getD 67 undef), (D.getD 68 undef), (D.getD 69 undef), (D.getD 70 undef), (D.getD 71 undef), (D.getD 72 undef), (D.getD 73 undef), (D.getD 74 undef), (D.getD 75 undef), (D.getD 76 undef), (D.getD 77 undef), (D.getD 78 undef), (D.getD 79 undef), (D.getD 80 undef), (D.getD 81 undef), (D.getD 82 undef), (D.getD 83 undef), (D.getD 84 undef), (D.getD 85 undef), (D.getD 86 undef), .int .i64 x2, .int .i64 x7, .int .i64 (IntKind.i64.wrap (x2 - x7)), .bool (decide ((IntKind.i64.wrap (x2 - x7)) ≥ (2 : Int))), (D.getD 91 undef), (D.getD 92 undef), (D.getD 93 undef), (D.getD 94 undef), (D.getD 95 undef), (D.getD 96 undef), (D.getD 97 undef), (D.getD 98 undef), (D.getD 99 undef), (D.getD 100 undef), (D.getD 101 undef), (D.getD 102 undef), (D.getD 103 undef), (D.getD 104 undef), (D.getD 105 undef), (D.getD 106 undef), (D.getD 107 undef), (D.getD 108 undef), (D.getD 109 undef), (D.getD 110 undef), (D.getD 111 undef), (D.getD 112 undef), (D.getD 113 undef), (D.getD 114 undef), (D.getD 115 undef), (D.getD 116 undef), (D.getD 117 undef), (D.getD 118 undef), (D.getD 119 undef), (D.getD 120 undef), (D.getD 121 undef), (D.getD 122 undef), (D.getD 123 undef), (D.getD 124 undef)] H) := by
  unfold f103.K2
  rw [gateC_eq]
  kernel_rfl
theorem f103.L4_z (k : Nat) (n1 : Nat) (a0 : Option Addr) (l0 : Nat) (c0 : Nat) (x1 : Int) (x2 : Int) (x7 : Int) (x8 : Int) (x10 : Int) (D : List Value) (H : AHeap) : f103.L4 k n1 0 a0 l0 c0 x1 x2 x7 x8 x10 D H = none := by kernel_rfl
theorem f103.L4_s (k : Nat) (n1 : Nat) (n2 : Nat) (a0 : Option Addr) (l0 : Nat) (c0 : Nat) (x1 : Int) (x2 : Int) (x7 : Int) (x8 : Int) (x10 : Int) (D : List Value) (H : AHeap) : f103.L4 k n1 (n2 + 1) a0 l0 c0 x1 x2 x7 x8 x10 D H =
  (bif (decide (x10 < x2)) then
   a0.bind fun q =>
   if 0 ≤ x10 ∧ x10 < (l0 : Int) then
   bif sameB H (H.bump 11) q.block then
   (ldI .i64 (H.bump 11) q.block (q.off + x10.toNat * 1)).bind fun x =>
   a0.bind fun q_1 =>
   if 0 ≤ (IntKind.i64.wrap (x10 - (1 : Int))) ∧ (IntKind.i64.wrap (x10 - (1 : Int))) < (l0 : Int) then
   bif sameB H (H.bump 11) q_1.block then
   (ldI .i64 (H.bump 11) q_1.block (q_1.off + (IntKind.i64.wrap (x10 - (1 : Int))).toNat * 1)).bind fun x_1 =>
   cB (C k 104 [.int .i64 x, .int .i64 x_1] (H.bump 11)) fun b H_1 =>
   bif (!b) then
   f103.K3 k n1 a0 l0 c0 x1 x2 x7 x8 [(D.getD 0 undef), (D.getD 1 undef), .int .i64 x10, (D.getD 2 undef), (D.getD 3 undef), (D.getD 4 undef), (D.getD 5 undef), (D.getD 6 undef), (D.getD 7 undef), (D.getD 8 undef), (D.getD 9 undef), (D.getD 10 undef), (D.getD 11 undef), (D.getD 12 undef), (D.getD 13 undef), (D.getD 14 undef), (D.getD 15 undef), (D.getD 16 undef), (D.getD 17 undef), (D.getD 18 undef), (D.getD 19 undef), (D.getD 20 undef), (D.getD 21 undef), (D.getD 22 undef), (D.getD 23 undef), (D.getD 24 undef), (D.getD 25 undef), (D.getD 26 undef), (D.getD 27 undef), (D.getD 28 undef), (D.getD 29 undef), (D.getD 30 undef), (D.getD 31 undef), (D.getD 32 undef), (D.getD 33 undef), (D.getD 34 undef), (D.getD 35 undef), (D.getD 36 undef), (D.getD 37 undef), (D.getD 38 undef), (D.getD 39 undef), (D.getD 40 undef), (D.getD 41 undef), (D.getD 42 undef), (D.getD 43 undef), (D.getD 44 undef), (D.getD 45 undef), (D.getD 46 undef), (D.getD 47 undef), (D.getD 48 undef), (D.getD 49 undef), (D.getD 50 undef), (D.getD 51 undef), (D.getD 52 undef), (D.getD 53 undef), (D.getD 54 undef), (D.getD 55 undef), (D.getD 56 undef), (D.getD 57 undef), (D.getD 58 undef), (D.getD 59 undef), (D.getD 60 undef), (D.getD 61 undef), (D.getD 62 undef), (D.getD 63 undef), (D.getD 64 undef), (D.getD 65 undef), (D.getD 66 undef), (D.getD 67 undef), (D.getD 68 undef), (D.getD 69 undef), (D.getD 70 undef), (D.getD 71 undef), (D.getD 72 undef), (D.getD 73 undef), (D.getD 74 undef), (D.getD 75 undef), (D.getD 76 undef), (D.getD 77 undef), (D.getD 78 undef), (D.getD 79 undef), (D.getD 80 undef), (D.getD 81 undef), (D.getD 82 undef), (D.getD 83 undef), (D.getD 84 undef), (D.getD 85 undef), (D.getD 86 undef), (D.getD 87 undef), (D.getD 88 undef), (D.getD 89 undef), (D.getD 90 undef), (D.getD 91 undef), .int .i64 x10, .int .i64 x2, .bool (decide (x10 < x2)), (D.getD 95 undef), (D.getD 96 undef), .slice a0 l0 c0, .int .i64 x10, .pointer (some ⟨q.block, q.off + x10.toNat * 1, none⟩), .int .i64 x, .slice a0 l0 c0, .int .i64 x10, .int .i64 (IntKind.i64.wrap (x10 - (1 : Int))), .pointer (some ⟨q_1.block, q_1.off + (IntKind.i64.wrap (x10 - (1 : Int))).toNat * 1, none⟩), .int .i64 x_1, .bool b, .bool (!b), (D.getD 108 undef), (D.getD 109 undef), (D.getD 110 undef), (D.getD 111 undef), (D.getD 112 undef), (D.getD 113 undef), (D.getD 114 undef), (D.getD 115 undef), (D.getD 116 undef), (D.getD 117 undef), (D.getD 118 undef), (D.getD 119 undef), (D.getD 120 undef), (D.getD 121 undef), (D.getD 122 undef), (D.getD 123 undef)] H_1
   else
   a0.bind fun q_2 =>
   if 0 ≤ (IntKind.i64.wrap (x10 - (1 : Int))) ∧ (IntKind.i64.wrap (x10 - (1 : Int))) < (l0 : Int) then
   bif sameB H_1 (H_1.bump 18) q_2.block then
   (ldI .i64 (H_1.bump 18) q_2.block (q_2.off + (IntKind.i64.wrap (x10 - (1 : Int))).toNat * 1)).bind fun x_2 =>
   a0.bind fun q_3 =>
   if 0 ≤ x10 ∧ x10 < (l0 : Int) then
   bif sameB H_1 (H_1.bump 18) q_3.block then
   (ldI .i64 (H_1.bump 18) q_3.block (q_3.off + x10.toNat * 1)).bind fun x_3 =>
   a0.bind fun q_4 =>
   if 0 ≤ x10 ∧ x10 < (l0 : Int) then
   (AHeap.wr (H_1.bump 18) q_4.block (q_4.off + x10.toNat * 1) [.int .i64 x_2]).bind fun H_2 =>
   a0.bind fun q_5 =>
   if 0 ≤ (IntKind.i64.wrap (x10 - (1 : Int))) ∧ (IntKind.i64.wrap (x10 - (1 : Int))) < (l0 : Int) then
   (AHeap.wr H_2 q_5.block (q_5.off + (IntKind.i64.wrap (x10 - (1 : Int))).toNat * 1) [.int .i64 x_3]).bind fun H_3 =>
   f103.L4 k n1 n2 a0 l0 c0 x1 x2 x7 x8 (IntKind.i64.wrap (x10 + (1 : Int))) [(D.getD 0 undef), (D.getD 1 undef), (D.getD 2 undef), (D.getD 3 undef), (D.getD 4 undef), (D.getD 5 undef), (D.getD 6 undef), (D.getD 7 undef), (D.getD 8 undef), (D.getD 9 undef), (D.getD 10 undef), (D.getD 11 undef), (D.getD 12 undef), (D.getD 13 undef), (D.getD 14 undef), (D.getD 15 undef), (D.getD 16 undef), (D.getD 17 undef), (D.getD 18 undef), (D.getD 19 undef), (D.getD 20 undef), (D.getD 21 undef), (D.getD 22 undef), (D.getD 23 undef), (D.getD 24 undef), (D.getD 25 undef), (D.getD 26 undef), (D.getD 27 undef), (D.getD 28 undef), (D.getD 29 undef), (D.getD 30 undef), (D.getD 31 undef), (D.getD 32 undef), (D.getD 33 undef), (D.getD 34 undef), (D.getD 35 undef), (D.getD 36 undef), (D.getD 37 undef), (D.getD 38 undef), (D.getD 39 undef), (D.getD 40 undef), (D.getD 41 undef), (D.getD 42 undef), (D.getD 43 undef), (D.getD 44 undef), (D.getD 45 undef), (D.getD 46 undef), (D.getD 47 undef), (D.getD 48 undef), (D.getD 49 undef), (D.getD 50 undef), (D.getD 51 undef), (D.getD 52 undef), (D.getD 53 undef), (D.getD 54 undef), (D.getD 55 undef), (D.getD 56 undef), (D.getD 57 undef), (D.getD 58 undef), (D.getD 59 undef), (D.getD 60 undef), (D.getD 61 undef), (D.getD 62 undef), (D.getD 63 undef), (D.getD 64 undef), (D.getD 65 undef), (D.getD 66 undef), (D.getD 67 undef), (D.getD 68 undef), (D.getD 69 undef), (D.getD 70 undef), (D.getD 71 undef), (D.getD 72 undef), (D.getD 73 undef), (D.getD 74 undef), (D.getD 75 undef), (D.getD 76 undef), (D.getD 77 undef), (D.getD 78 undef), (D.getD 79 undef), (D.getD 80 undef), (D.getD 81 undef), (D.getD 82 undef), (D.getD 83 undef), (D.getD 84 undef), (D.getD 85 undef), (D.getD 86 undef), (D.getD 87 undef), (D.getD 88 undef), (D.getD 89 undef), (D.getD 90 undef), (D.getD 91 undef), .int .i64 x10, .int .i64 x2, .bool (decide (x10 < x2)), .int .i64 x10, .int .i64 (IntKind.i64.wrap (x10 + (1 : Int))), .slice a0 l0 c0, .int .i64 x10, .pointer (some ⟨q.block, q.off + x10.toNat * 1, none⟩), .int .i64 x, .slice a0 l0 c0, .int .i64 x10, .int .i64 (IntKind.i64.wrap (x10 - (1 : Int))), .pointer (some ⟨q_1.block, q_1.off + (IntKind.i64.wrap (x10 - (1 : Int))).toNat * 1, none⟩), .int .i64 x_1, .bool b, .bool (!b), .slice a0 l0 c0, .int .i64 x10, .slice a0 l0 c0, .int .i64 x10, .int .i64 (IntKind.i64.wrap (x10 - (1 : Int))), .slice a0 l0 c0, .int .i64 x10, .int .i64 (IntKind.i64.wrap (x10 - (1 : Int))), .pointer (some ⟨q_2.block, q_2.off + (IntKind.i64.wrap (x10 - (1 : Int))).toNat * 1, none⟩), .int .i64 x_2, .slice a0 l0 c0, .int .i64 x10, .pointer (some ⟨q_3.block, q_3.off + x10.toNat * 1, none⟩), .int .i64 x_3, .pointer (some ⟨q_4.block, q_4.off + x10.toNat * 1, none⟩), .pointer (some ⟨q_5.block, q_5.off + (IntKind.i64.wrap (x10 - (1 : Int))).toNat * 1, none⟩)] H_3
   else none
   else none
   else none
   else none
   else none
   else none
   else none
   else none
   else none
   else none
   else
   f103.K3 k n1 a0 l0 c0 x1 x2 x7 x8 [(D.getD 0 undef), (D.getD 1 undef), .int .i64 x10, (D.getD 2 undef), (D.getD 3 undef), (D.getD 4 undef), (D.getD 5 undef), (D.getD 6 undef), (D.getD 7 undef), (D.getD 8 undef), (D.getD 9 undef), (D.getD 10 undef), (D.getD 11 undef), (D.getD 12 undef), (D.getD 13 undef), (D.getD 14 undef), (D.getD 15 undef), (D.getD 16 undef), (D.getD 17 undef), (D.getD 18 undef), (D.getD 19 undef), (D.getD 20 undef), (D.getD 21 undef), (D.getD 22 undef), (D.getD 23 undef), (D.getD 24 undef), (D.getD 25 undef), (D.getD 26 undef), (D.getD 27 undef), (D.getD 28 undef), (D.getD 29 undef), (D.getD 30 undef), (D.getD 31 undef), (D.getD 32 undef), (D.getD 33 undef), (D.getD 34 undef), (D.getD 35 undef), (D.getD 36 undef), (D.getD 37 undef), (D.getD 38 undef), (D.getD 39 undef), (D.getD 40 undef), (D.getD 41 undef), (D.getD 42 undef), (D.getD 43 undef), (D.getD 44 undef), (D.getD 45 undef), (D.getD 46 undef), (D.getD 47 undef), (D.getD 48 undef), (D.getD 49 undef), (D.getD 50 undef), (D.getD 51 undef), (D.getD 52 undef), (D.getD 53 undef), (D.getD 54 undef), (D.getD 55 undef), (D.getD 56 undef), (D.getD 57 undef), (D.getD 58 undef), (D.getD 59 undef), (D.getD 60 undef), (D.getD 61 undef), (D.getD 62 undef), (D.getD 63 undef), (D.getD 64 undef), (D.getD 65 undef), (D.getD 66 undef), (D.getD 67 undef), (D.getD 68 undef), (D.getD 69 undef), (D.getD 70 undef), (D.getD 71 undef), (D.getD 72 undef), (D.getD 73 undef), (D.getD 74 undef), (D.getD 75 undef), (D.getD 76 undef), (D.getD 77 undef), (D.getD 78 undef), (D.getD 79 undef), (D.getD 80 undef), (D.getD 81 undef), (D.getD 82 undef), (D.getD 83 undef), (D.getD 84 undef), (D.getD 85 undef), (D.getD 86 undef), (D.getD 87 undef), (D.getD 88 undef), (D.getD 89 undef), (D.getD 90 undef), (D.getD 91 undef), .int .i64 x10, .int .i64 x2, .bool (decide (x10 < x2)), (D.getD 95 undef), (D.getD 96 undef), (D.getD 97 undef), (D.getD 98 undef), (D.getD 99 undef), (D.getD 100 undef), (D.getD 101 undef), (D.getD 102 undef), (D.getD 103 undef), (D.getD 104 undef), (D.getD 105 undef), (D.getD 106 undef), (D.getD 107 undef), (D.getD 108 undef), (D.getD 109 undef), (D.getD 110 undef), (D.getD 111 undef), (D.getD 112 undef), (D.getD 113 undef), (D.getD 114 undef), (D.getD 115 undef), (D.getD 116 undef), (D.getD 117 undef), (D.getD 118 undef), (D.getD 119 undef), (D.getD 120 undef), (D.getD 121 undef), (D.getD 122 undef), (D.getD 123 undef)] H) := by kernel_rfl
theorem f103.K3_eq (k : Nat) (n1 : Nat) (a0 : Option Addr) (l0 : Nat) (c0 : Nat) (x1 : Int) (x2 : Int) (x7 : Int) (x8 : Int) (D : List Value) (H : AHeap) : f103.K3 k n1 a0 l0 c0 x1 x2 x7 x8 D H =
  (f103.L1 k n1 a0 l0 c0 x1 x2 x7 (IntKind.i64.wrap (x8 + (1 : Int))) [(D.getD 0 undef), (D.getD 1 undef), (D.getD 2 undef), (D.getD 3 undef), (D.getD 4 undef), (D.getD 5 undef), (D.getD 6 undef), .int .i64 x8, .int .i64 (IntKind.i64.wrap (x8 + (1 : Int))), (D.getD 9 undef), (D.getD 10 undef), (D.getD 11 undef), (D.getD 12 undef), (D.getD 13 undef), (D.getD 14 undef), (D.getD 15 undef), (D.getD 16 undef), (D.getD 17 undef), (D.getD 18 undef), (D.getD 19 undef), (D.getD 20 undef), (D.getD 21 undef), (D.getD 22 undef), (D.getD 23 undef), (D.getD 24 undef), (D.getD 25 undef), (D.getD 26 undef), (D.getD 27 undef), (D.getD 28 undef), (D.getD 29 undef), (D.getD 30 undef), (D.getD 31 undef), (D.getD 32 undef), (D.getD 33 undef), (D.getD 34 undef), (D.getD 35 undef), (D.getD 36 undef), (D.getD 37 undef), (D.getD 38 undef), (D.getD 39 undef), (D.getD 40 undef), (D.getD 41 undef), (D.getD 42 undef), (D.getD 43 undef), (D.getD 44 undef), (D.getD 45 undef), (D.getD 46 undef), (D.getD 47 undef), (D.getD 48 undef), (D.getD 49 undef), (D.getD 50 undef), (D.getD 51 undef), (D.getD 52 undef), (D.getD 53 undef), (D.getD 54 undef), (D.getD 55 undef), (D.getD 56 undef), (D.getD 57 undef), (D.getD 58 undef), (D.getD 59 undef), (D.getD 60 undef), (D.getD 61 undef), (D.getD 62 undef), (D.getD 63 undef), (D.getD 64 undef), (D.getD 65 undef), (D.getD 66 undef), (D.getD 67 undef), (D.getD 68 undef), (D.getD 69 undef), (D.getD 70 undef), (D.getD 71 undef), (D.getD 72 undef), (D.getD 73 undef), (D.getD 74 undef), (D.getD 75 undef), (D.getD 76 undef), (D.getD 77 undef), (D.getD 78 undef), (D.getD 79 undef), (D.getD 80 undef), (D.getD 81 undef), (D.getD 82 undef), (D.getD 83 undef), (D.getD 84 undef), (D.getD 85 undef), (D.getD 86 undef), (D.getD 87 undef), (D.getD 88 undef), (D.getD 89 undef), (D.getD 90 undef), (D.getD 91 undef), (D.getD 92 undef), (D.getD 93 undef), (D.getD 94 undef), (D.getD 95 undef), (D.getD 96 undef), (D.getD 97 undef), (D.getD 98 undef), (D.getD 99 undef), (D.getD 100 undef), (D.getD 101 undef), (D.getD 102 undef), (D.getD 103 undef), (D.getD 104 undef), (D.getD 105 undef), (D.getD 106 undef), (D.getD 107 undef), (D.getD 108 undef), (D.getD 109 undef), (D.getD 110 undef), (D.getD 111 undef), (D.getD 112 undef), (D.getD 113 undef), (D.getD 114 undef), (D.getD 115 undef), (D.getD 116 undef), (D.getD 117 undef), (D.getD 118 undef), (D.getD 119 undef), (D.getD 120 undef), (D.getD 121 undef), (D.getD 122 undef), (D.getD 123 undef), (D.getD 124 undef)] H) := by
  unfold f103.K3
  rw [gateC_eq]
  kernel_rfl
theorem f103_eq (k : Nat) (a0 : Option Addr) (l0 : Nat) (c0 : Nat) (x1 : Int) (x2 : Int) (H : AHeap) : C (k + 1) 103 [.slice a0 l0 c0, .int .i64 x1, .int .i64 x2] H =
  (f103.L1 k k a0 l0 c0 x1 x2 (IntKind.i64.wrap (x1 + (1 : Int))) 0 [.bool false, undef, undef, .int .i64 x1, .int .i64 (IntKind.i64.wrap (x1 + (1 : Int))), undef, undef, undef, undef, undef, undef, undef, undef, undef, undef, undef, undef, undef, undef, undef, undef, undef, undef, undef, undef, undef, undef, undef, undef, undef, undef, undef, undef, undef, undef, undef, undef, undef, undef, undef, undef, undef, undef, undef, undef, undef, undef, undef, undef, undef, undef, undef, undef, undef, undef, undef, undef, undef, undef, undef, undef, undef, undef, undef, undef, undef, undef, undef, undef, undef, undef, undef, undef, undef, undef, undef, undef, undef, undef, undef, undef, undef, undef, undef, undef, undef, undef, undef, undef, undef, undef, undef, undef, undef, undef, undef, undef, undef, undef, undef, undef, undef, undef, undef, undef, undef, undef, undef, undef, undef, undef, undef, undef, undef, undef, undef, undef, undef, undef, undef, undef, undef, undef, undef, undef] H) := by kernel_rfl

end Go.Proofs.MxF
end

section
set_option linter.unusedSimpArgs false
/- A part that is nearly sorted. -/
set_option linter.unusedVariables false
namespace Go.Proofs.MxF
open Go Go.Mx Go.Proofs
/-- what stands ahead of a part is not above it -/
def Low (lo b : Nat) (xs : List Int) : Prop := lo = 0 ∨ ∀ t, lo ≤ t → t < b → gI xs (lo - 1) ≤ gI xs t
theorem Low.mov {lo b : Nat} {xs ys : List Int} (h : Low lo b xs) (mv : Mov lo b xs ys) : Low lo b ys := by
  rcases h with h | h
  · exact .inl h
  · by_cases e : lo = 0
    · exact .inl e
    · refine .inr fun t h1 h2 => ?_
      rw [mv.out (lo - 1) (by omega)]
      exact mv.all (p := fun v => gI xs (lo - 1) ≤ v) h t h1 h2
theorem Up.out {lo hi i b : Nat} {xs ys : List Int} (h : Up lo i xs) (mv : Mov i b xs ys) : Up lo i ys := by
  intro p q h1 h2 h3
  rw [mv.out p (by omega), mv.out q (by omega)]
  exact h p q h1 h2 h3
/-- sorted but at j, which may stand too far behind -/
def Ins (lo i j : Nat) (xs : List Int) : Prop := ∀ p q, lo ≤ p → p ≤ q → q < i → q ≠ j → gI xs p ≤ gI xs q
theorem Ins.start {lo i : Nat} {xs : List Int} (h : Up lo i xs) (hi : lo < i) (hl : i < xs.length) (hc : gI xs i < gI xs (i - 1)) : Ins lo i (i - 1) (sw xs i (i - 1)) := by
  intro p q h1 h2 h3 h4
  rw [gI_sw (by omega) (by omega), gI_sw (by omega) (by omega), if_neg (by omega), if_neg (by omega), if_neg (by omega), if_neg (by omega)]
  exact h p q h1 h2 h3
theorem Ins.up {lo i j : Nat} {xs : List Int} (h : Ins lo i j xs) (hj : j < i) (hc : j = lo ∨ (lo < j ∧ ¬ gI xs j < gI xs (j - 1))) : Up lo i xs := by
  intro p q h1 h2 h3
  by_cases e : q = j
  · subst e
    by_cases e2 : p = q
    · subst e2; exact Int.le_refl _
    · rcases hc with hc | ⟨hc, hc2⟩
      · omega
      · have := h p (q - 1) h1 (by omega) (by omega) (by omega)
        omega
  · exact h p q h1 h2 h3 e
theorem Ins.step {lo i j : Nat} {xs : List Int} (h : Ins lo i j xs) (hj : j < i) (hlo : lo < j) (hl : i ≤ xs.length) (hc : gI xs j < gI xs (j - 1)) : Ins lo i (j - 1) (sw xs j (j - 1)) := by
  have hg := gI_sw (xs := xs) (i := j) (j := j - 1) (by omega) (by omega)
  intro p q h1 h2 h3 h4
  rw [hg, hg, if_neg h4]
  by_cases e : q = j
  · rw [if_pos e]
    by_cases e1 : p = j - 1
    · rw [if_pos e1]; omega
    · rw [if_neg e1]
      by_cases e2 : p = j
      · rw [if_pos e2]; exact Int.le_refl _
      · rw [if_neg e2]; exact h p (j - 1) h1 (by omega) (by omega) (by omega)
  · rw [if_neg e]
    by_cases e1 : p = j - 1
    · rw [if_pos e1]; exact h j q (by omega) (by omega) h3 e
    · rw [if_neg e1]
      by_cases e2 : p = j
      · rw [if_pos e2]; exact h (j - 1) q (by omega) (by omega) h3 e
      · rw [if_neg e2]; exact h p q h1 h2 h3 e
section
variable {k n1 N : Nat} {H0 : AHeap} {a : Option Addr} {l c : Nat} {xs xs0 : List Int} {lo b i : Nat} {x8 : Int} {Q : Value × AHeap → Prop}
theorem f103_l4 (hk : 2 ≤ k) (hl : b ≤ l) (hM : l ≤ big) : ∀ (m j n : Nat) (xs : List Int) (H : AHeap) (D : List Value), b ≤ j + m → m < n → i < j → St N H0 a l c H xs → Mov i b xs0 xs →
    (∀ ys H D, St N H0 a l c H ys → Mov i b xs0 ys → Ok (f103.K3 k n1 a l c (lo : Int) (b : Int) (i : Int) x8 D H) Q) →
    Ok (f103.L4 k n1 n a l c (lo : Int) (b : Int) (i : Int) x8 (j : Int) D H) Q := by
  intro m
  induction m with
  | zero =>
    intro j n xs H D h1 hn hij h mv next
    obtain ⟨n, rfl⟩ : ∃ j, n = j + 1 := ⟨n - 1, by omega⟩
    rw [f103.L4_s]
    exact ok_biff (by simp only [decide_eq_false_iff_not]; omega) (next xs _ _ h mv)
  | succ m ih =>
    intro j n xs H D h1 hn hij h mv next
    obtain ⟨n, rfl⟩ : ∃ j, n = j + 1 := ⟨n - 1, by omega⟩
    have hlen := h.len
    have hM' := hM
    unfold big at hM
    rw [f103.L4_s]
    refine ok_bif (fun hc => ?_) (fun hc => next xs _ _ h mv)
    rw [decide_eq_true_eq] at hc
    rw [wN (z := (j : Int) - 1) (n := j - 1) (by omega) (by omega), wN (z := (j : Int) + 1) (n := j + 1) (by omega) (by omega)]
    refine ok_cmp (i := j) (j := j - 1) hk h rfl rfl (by omega) (by omega) fun q q' => ok_bif (fun hc2 => next xs _ _ (h.bump _) mv) (fun hc2 => ?_)
    refine ok_swp (i := j) (j := j - 1) (h.bump _) rfl rfl (by omega) (by omega) fun q q' q2 q3 H2 h2' _ => ?_
    exact ih (j + 1) n _ _ _ (by omega) (by omega) (by omega) h2' (mv.trans (Mov.sw (by omega) (by omega) (by omega) (by omega) (by omega))) next
theorem f103_l3 (hk : 2 ≤ k) (hl : b ≤ l) (hib : i ≤ b) (hM : l ≤ big) : ∀ (m j n : Nat) (xs : List Int) (H : AHeap) (D : List Value), j ≤ m → m < n → lo ≤ j → j < i → St N H0 a l c H xs → Mov lo b xs0 xs → Low lo b xs → Ins lo i j xs →
    (∀ ys H D, St N H0 a l c H ys → Mov lo b xs0 ys → Low lo b ys → Up lo i ys → Ok (f103.K2 k n1 a l c (lo : Int) (b : Int) (i : Int) x8 D H) Q) →
    Ok (f103.L3 k n1 n a l c (lo : Int) (b : Int) (i : Int) x8 (j : Int) D H) Q := by
  intro m
  induction m with
  | zero =>
    intro j n xs H D h1 hn hlo hj h mv hlw hs next
    obtain ⟨n, rfl⟩ : ∃ j, n = j + 1 := ⟨n - 1, by omega⟩
    rw [f103.L3_s]
    exact ok_biff (by simp only [decide_eq_false_iff_not]; omega) (next xs _ _ h mv hlw (hs.up hj (.inl (by omega))))
  | succ m ih =>
    intro j n xs H D h1 hn hlo hj h mv hlw hs next
    obtain ⟨n, rfl⟩ : ∃ j, n = j + 1 := ⟨n - 1, by omega⟩
    have hlen := h.len
    have hM' := hM
    unfold big at hM
    rw [f103.L3_s]
    refine ok_bif (fun hc => ?_) (fun hc => by rw [decide_eq_false_iff_not] at hc; exact next xs _ _ h mv hlw (hs.up hj (.inl (by omega))))
    rw [decide_eq_true_eq] at hc
    rw [wN (z := (j : Int) - 1) (n := j - 1) (by omega) (by omega)]
    refine ok_cmp (i := j) (j := j - 1) hk h rfl rfl (by omega) (by omega) fun q q' => ok_bif (fun hc2 => ?_) (fun hc2 => ?_)
    · simp only [Bool.not_eq_true', decide_eq_false_iff_not] at hc2
      refine next xs _ _ (h.bump _) mv hlw (hs.up hj ?_)
      by_cases e : j = lo
      · exact .inl e
      · exact .inr ⟨by omega, hc2⟩
    · simp only [Bool.not_eq_false', decide_eq_true_eq] at hc2
      have hne : j ≠ lo := by
        rintro rfl
        rcases hlw with e | e
        · omega
        · have := e j (Nat.le_refl _) (by omega)
          omega
      have mv1 : Mov lo b xs (sw xs j (j - 1)) := Mov.sw (by omega) (by omega) (by omega) (by omega) (by omega)
      refine ok_swp (i := j) (j := j - 1) (h.bump _) rfl rfl (by omega) (by omega) fun q q' q2 q3 H2 h2' _ => ?_
      exact ih (j - 1) n _ _ _ (by omega) (by omega) (by omega) (by omega) h2' (mv.trans mv1) (hlw.mov mv1) (hs.step hj (by omega) (by omega) hc2) next
theorem f103_l2 (hk : 2 ≤ k) (hl : b ≤ l) (hM : l ≤ big) : ∀ (m i n : Nat) (H : AHeap) (D : List Value), b ≤ i + m → m < n → lo < i → i ≤ b → St N H0 a l c H xs → Up lo i xs →
    (∀ i H D, lo < i → i ≤ b → St N H0 a l c H xs → Up lo i xs → (i = b ∨ gI xs i < gI xs (i - 1)) → Ok (f103.K1 k n1 a l c (lo : Int) (b : Int) (i : Int) x8 D H) Q) →
    Ok (f103.L2 k n1 n a l c (lo : Int) (b : Int) (i : Int) x8 D H) Q := by
  intro m
  induction m with
  | zero =>
    intro i n H D h1 hn hlo hib h hu next
    obtain ⟨n, rfl⟩ : ∃ j, n = j + 1 := ⟨n - 1, by omega⟩
    rw [f103.L2_s]
    exact ok_biff (by simp only [decide_eq_false_iff_not]; omega) (next i _ _ hlo hib (h.bump _) hu (.inl (by omega)))
  | succ m ih =>
    intro i n H D h1 hn hlo hib h hu next
    obtain ⟨n, rfl⟩ : ∃ j, n = j + 1 := ⟨n - 1, by omega⟩
    have hlen := h.len
    have hM' := hM
    unfold big at hM
    rw [f103.L2_s]
    refine ok_bif (fun hc => ?_) (fun hc => by rw [decide_eq_false_iff_not] at hc; exact next i _ _ hlo hib (h.bump _) hu (.inl (by omega)))
    rw [decide_eq_true_eq] at hc
    rw [wN (z := (i : Int) - 1) (n := i - 1) (by omega) (by omega), wN (z := (i : Int) + 1) (n := i + 1) (by omega) (by omega)]
    refine ok_cmp (i := i) (j := i - 1) hk h rfl rfl (by omega) (by omega) fun q q' => ok_bif (fun hc2 => ?_) (fun hc2 => ?_)
    · simp only [Bool.not_eq_true', decide_eq_false_iff_not] at hc2
      refine ih (i + 1) n _ _ (by omega) (by omega) (by omega) (by omega) (h.bump _) (fun p q g1 g2 g3 => ?_) next
      by_cases e : q = i
      · subst e
        by_cases e2 : p = q
        · subst e2; exact Int.le_refl _
        · have := hu p (q - 1) g1 (by omega) (by omega)
          omega
      · exact hu p q g1 g2 (by omega)
    · simp only [Bool.not_eq_false', decide_eq_true_eq] at hc2
      exact next i _ _ hlo hib (h.bump _) hu (.inr hc2)
abbrev R103 (N : Nat) (H0 : AHeap) (a : Option Addr) (l c lo b : Nat) (xs0 : List Int) (r : Value × AHeap) : Prop := ∃ z : Bool, r.1 = .bool z ∧ Fin N H0 a l c lo b xs0 (fun ys => z = true → Up lo b ys) r.2
theorem f103_l1 (hk : l + 4 ≤ k) (hl : b ≤ l) (hM : l ≤ big) : ∀ (m t i n : Nat) (xs : List Int) (H : AHeap) (D : List Value), t + m = 5 → m < n → lo < i → i ≤ b → St N H0 a l c H xs → Mov lo b xs0 xs → Low lo b xs → Up lo i xs →
    Ok (f103.L1 k n a l c (lo : Int) (b : Int) (i : Int) (t : Int) D H) (R103 N H0 a l c lo b xs0) := by
  intro m
  induction m with
  | zero =>
    intro t i n xs H D h1 hn hlo hib h mv hlw hu
    obtain ⟨n, rfl⟩ : ∃ j, n = j + 1 := ⟨n - 1, by omega⟩
    rw [f103.L1_s]
    exact ok_biff (by simp only [decide_eq_false_iff_not]; omega) (Ok.ret ⟨false, rfl, xs, h, mv, fun e => by cases e⟩)
  | succ m ih =>
    intro t i n xs H D h1 hn hlo hib h mv hlw hu
    obtain ⟨n, rfl⟩ : ∃ j, n = j + 1 := ⟨n - 1, by omega⟩
    have hlen := h.len
    have hM' := hM
    unfold big at hM
    rw [f103.L1_s]
    refine ok_bift (by simp only [decide_eq_true_eq]; omega) ?_
    refine f103_l2 (by omega) hl hM' (b - i) i k _ _ (by omega) (by omega) hlo hib h hu fun i H D hlo hib h hu hi => ?_
    rw [f103.K1_eq]
    refine ok_bif (fun hc => ?_) (fun hc => ?_)
    · have e : i = b := by have := eq_of_beq hc; omega
      subst e
      exact Ok.ret ⟨true, rfl, xs, h, mv, fun _ => hu⟩
    · have hne : i ≠ b := by rintro rfl; simp at hc
      refine ok_bif (fun _ => Ok.ret ⟨false, rfl, xs, h, mv, fun e => by cases e⟩) (fun _ => ?_)
      have hc2 : gI xs i < gI xs (i - 1) := by rcases hi with hi | hi <;> omega
      rw [wN (z := (i : Int) - 1) (n := i - 1) (by omega) (by omega)]
      refine ok_swp (i := i) (j := i - 1) h rfl rfl (by omega) (by omega) fun q q' q2 q3 H2 h2 _ => ?_
      have mv1 : Mov lo b xs (sw xs i (i - 1)) := Mov.sw (by omega) (by omega) (by omega) (by omega) (by omega)
      have hlw1 := hlw.mov mv1
      have hins := Ins.start hu hlo (by omega) hc2
      have hl1 := h2.len
      have mv2 := mv.trans mv1
      generalize sw xs i (i - 1) = xs1 at h2 hlw1 hins hl1 mv2
      have k2 : ∀ ys H D, St N H0 a l c H ys → Mov lo b xs0 ys → Low lo b ys → Up lo i ys → Ok (f103.K2 k n a l c (lo : Int) (b : Int) (i : Int) (t : Int) D H) (R103 N H0 a l c lo b xs0) := by
        intro ys H D h mv hlw hu
        have k3 : ∀ zs H D, St N H0 a l c H zs → Mov i b ys zs → Ok (f103.K3 k n a l c (lo : Int) (b : Int) (i : Int) (t : Int) D H) (R103 N H0 a l c lo b xs0) := by
          intro zs H D h mv1
          rw [f103.K3_eq, wN (z := (t : Int) + 1) (n := t + 1) (by omega) (by omega)]
          have mv2 : Mov lo b ys zs := mv1.wide (by omega) (by omega)
          exact ih (t + 1) i n zs H _ (by omega) (by omega) hlo hib h (mv.trans mv2) (hlw.mov mv2) (Up.out (hi := b) hu mv1)
        rw [f103.K2_eq]
        refine ok_bif (fun _ => ?_) (fun _ => k3 ys _ _ h (Mov.refl _ _ _))
        rw [wN (z := (i : Int) + 1) (n := i + 1) (by omega) (by omega)]
        exact f103_l4 (by omega) hl hM' (b - i) (i + 1) k ys H _ (by omega) (by omega) (by omega) h (Mov.refl _ _ _) k3
      refine ok_bif (fun _ => ?_) (fun hc3 => ?_)
      · exact f103_l3 (by omega) hl hib hM' i (i - 1) k _ _ _ (by omega) (by omega) (by omega) (by omega) h2 mv2 hlw1 hins k2
      · rw [wN (z := (i : Int) - (lo : Int)) (n := i - lo) (by omega) (by omega), decide_eq_false_iff_not] at hc3
        exact k2 _ _ _ h2 mv2 hlw1 (hins.up (by omega) (.inl (by omega)))
/-- partialInsertionSort -/
theorem f103_spec {H : AHeap} (hk : l + 8 ≤ k) (hlb : lo < b) (hl : b ≤ l) (hM : l ≤ big) (h : St N H0 a l c H xs) (hlw : Low lo b xs) :
    ∃ z H', C k 103 [.slice a l c, .int .i64 (lo : Int), .int .i64 (b : Int)] H = some (.bool z, H') ∧ Fin N H0 a l c lo b xs (fun ys => z = true → Up lo b ys) H' := by
  obtain ⟨k, rfl⟩ : ∃ j, k = j + 1 := ⟨k - 1, by omega⟩
  have hM' := hM
  unfold big at hM
  rw [f103_eq, wN (z := (lo : Int) + 1) (n := lo + 1) (by omega) (by omega)]
  obtain ⟨⟨v, H'⟩, e, z, e1, h1⟩ := f103_l1 (k := k) (by omega) hl hM' 5 0 (lo + 1) k xs H _ (by omega) (by omega) (by omega) (by omega) h (Mov.refl _ _ _) hlw (fun p q h1 h2 h3 => by
    rw [show p = q from by omega]; exact Int.le_refl _)
  replace e1 : v = .bool z := e1
  subst e1
  exact ⟨z, H', e, h1⟩
end
end Go.Proofs.MxF
end

section
set_option linter.unusedSimpArgs false
/- slices.Sort of up to 63 numbers. -/
set_option linter.unusedVariables false
namespace Go.Proofs.MxF
open Go Go.Mx Go.Proofs
/-- outside of a .. b everything lies where it ends -/
def Pos (lo hi a b : Nat) (xs : List Int) : Prop := (∀ i j, lo ≤ i → i < a → i ≤ j → j < hi → gI xs i ≤ gI xs j) ∧ ∀ i j, lo ≤ i → i ≤ j → b ≤ j → j < hi → gI xs i ≤ gI xs j
section
variable {lo hi A B t : Nat} {xs ys : List Int} {pv : Int}
theorem Mov.src (mv : Mov A B xs ys) (s : Nat) : ∃ s', gI ys s = gI xs s' ∧ (s' = s ∨ (A ≤ s ∧ s < B ∧ A ≤ s' ∧ s' < B)) := by
  by_cases e : A ≤ s ∧ s < B
  · obtain ⟨j, h1, h2, h3⟩ := mv.mem s e.1 e.2
    exact ⟨j, h3, .inr ⟨e.1, e.2, h1, h2⟩⟩
  · exact ⟨s, mv.out s e, .inl rfl⟩
theorem Pos.mov (h : Pos lo hi A B xs) (mv : Mov A B xs ys) (h1 : lo ≤ A) (h3 : B ≤ hi) : Pos lo hi A B ys := by
  constructor
  · intro i j a1 a2 a3 a4
    obtain ⟨i', e1, r1⟩ := Mov.src mv i
    obtain ⟨j', e2, r2⟩ := Mov.src mv j
    rw [e1, e2]
    exact h.1 i' j' (by omega) (by omega) (by omega) (by omega)
  · intro i j a1 a2 a3 a4
    obtain ⟨i', e1, r1⟩ := Mov.src mv i
    obtain ⟨j', e2, r2⟩ := Mov.src mv j
    rw [e1, e2]
    exact h.2 i' j' (by omega) (by omega) (by omega) (by omega)
theorem Pos.done (h : Pos lo hi A B xs) (hu : Up A B xs) : Up lo hi xs := by
  intro i j h1 h2 h3
  by_cases e : i < A
  · exact h.1 i j h1 e h2 h3
  · by_cases e2 : j < B
    · exact hu i j (by omega) h2 e2
    · exact h.2 i j h1 h2 (by omega) h3
theorem Parted.movL (h : Parted A B pv t xs) (mv : Mov A t xs ys) : Parted A B pv t ys :=
  ⟨h.1, h.2.1, fun s a1 a2 => mv.all (p := fun v => v ≤ pv) h.2.2.1 s a1 a2, by rw [mv.out t (by omega)]; exact h.2.2.2.1, fun s a1 a2 => by rw [mv.out s (by omega)]; exact h.2.2.2.2 s a1 a2⟩
theorem Parted.movR (h : Parted A B pv t xs) (mv : Mov (t + 1) B xs ys) : Parted A B pv t ys :=
  ⟨h.1, h.2.1, fun s a1 a2 => by rw [mv.out s (by omega)]; exact h.2.2.1 s a1 a2, by rw [mv.out t (by omega)]; exact h.2.2.2.1,
    fun s a1 a2 => mv.all (p := fun v => pv ≤ v) (fun i h1 h2 => h.2.2.2.2 i (by omega) h2) s (by omega) a2⟩
theorem Pos.left (h : Pos lo hi A B xs) (hp : Parted A B pv t xs) (hu : Up A t xs) : Pos lo hi (t + 1) B xs := by
  refine ⟨fun i j a1 a2 a3 a4 => ?_, h.2⟩
  by_cases e : i < A
  · exact h.1 i j a1 e a3 a4
  · by_cases e2 : j < B
    · by_cases e3 : j < t
      · exact hu i j (by omega) a3 e3
      · have hj : pv ≤ gI xs j := by
          by_cases e4 : j = t
          · subst e4; rw [hp.2.2.2.1]; exact Int.le_refl _
          · exact hp.2.2.2.2 j (by omega) e2
        have hi' : gI xs i ≤ pv := by
          by_cases e4 : i = t
          · subst e4; rw [hp.2.2.2.1]; exact Int.le_refl _
          · exact hp.2.2.1 i (by omega) (by omega)
        omega
    · exact h.2 i j a1 a3 (by omega) a4
theorem Pos.right (h : Pos lo hi A B xs) (hp : Parted A B pv t xs) (hu : Up (t + 1) B xs) : Pos lo hi A t xs := by
  refine ⟨h.1, fun i j a1 a2 a3 a4 => ?_⟩
  by_cases e : i < A
  · exact h.1 i j a1 e a2 a4
  · by_cases e2 : j < B
    · by_cases e3 : t < i
      · exact hu i j (by omega) a2 e2
      · have hj : pv ≤ gI xs j := by
          by_cases e4 : j = t
          · subst e4; rw [hp.2.2.2.1]; exact Int.le_refl _
          · exact hp.2.2.2.2 j (by omega) e2
        have hi' : gI xs i ≤ pv := by
          by_cases e4 : i = t
          · subst e4; rw [hp.2.2.2.1]; exact Int.le_refl _
          · exact hp.2.2.1 i (by omega) (by omega)
        omega
    · exact h.2 i j a1 a2 (by omega) a4
theorem Pos.eq (h : Pos lo hi A B xs) (hm : ∀ s, A ≤ s → s < B → pv ≤ gI xs s) (hl : ∀ s, A ≤ s → s < t → gI xs s ≤ pv) : Pos lo hi t B xs := by
  refine ⟨fun i j a1 a2 a3 a4 => ?_, h.2⟩
  by_cases e : i < A
  · exact h.1 i j a1 e a3 a4
  · by_cases e2 : j < B
    · have := hm j (by omega) e2
      have := hl i (by omega) a2
      omega
    · exact h.2 i j a1 a3 (by omega) a4
theorem Low.sub (h : Low A B xs) (ht : t ≤ B) : Low A t xs := by
  rcases h with h | h
  · exact .inl h
  · exact .inr fun s h1 h2 => h s h1 (by omega)
theorem Parted.low (hp : Parted A B pv t xs) : Low (t + 1) B xs :=
  .inr fun s h1 h2 => by rw [show t + 1 - 1 = t from by omega, hp.2.2.2.1]; exact hp.2.2.2.2 s (by omega) h2
end
section
variable {k n N : Nat} {H0 H : AHeap} {a : Option Addr} {l c : Nat} {xs xs0 : List Int} {lo hi A B : Nat}
theorem f98_ix (hk : l + 5 ≤ k) (hab : A ≤ B) (hl : B ≤ l) (hM : l ≤ big) (h : St N H0 a l c H xs) :
    ∃ H', C k 98 [.slice a l c, .int .i64 (A : Int), .int .i64 (B : Int)] H = some (.tuple #[], H') ∧ Fin N H0 a l c A B xs (Up A B) H' := by
  have hM' := hM
  unfold big at hM
  have hlen := h.len
  have ex : xs = xs.take A ++ ((xs.drop A).take (B - A) ++ xs.drop B) := by
    rw [show xs.drop B = (xs.drop A).drop (B - A) from by rw [List.drop_drop]; congr 1; omega, List.take_append_drop, List.take_append_drop]
  have e1 : (xs.take A).length = A := by simp; omega
  have e2 : ((xs.drop A).take (B - A)).length = B - A := by simp; omega
  generalize xs.take A = P at ex e1
  generalize (xs.drop A).take (B - A) = M at ex e2
  generalize xs.drop B = R at ex
  subst ex
  have sp := f98_spec (k := k) (P := P) (M := M) (R := R) (by unfold maxLen; omega) hk h.own
  rw [e1, e2, show A + (B - A) = B from by omega] at sp
  obtain ⟨H', e, ⟨zs, o, srt, pm⟩, kp⟩ := sp
  have mv := mov_parts (P := P) (R := R) pm
  have up := up_parts (P := P) (R := R) srt
  rw [e1, e2, show A + (B - A) = B from by omega] at mv
  rw [e1, pm.length_eq, e2, show A + (B - A) = B from by omega] at up
  exact ⟨H', e, _, h.then ⟨o, kp⟩, mv, up⟩
abbrev R96 (N : Nat) (H0 : AHeap) (a : Option Addr) (l c lo hi : Nat) (xs0 : List Int) (r : Value × AHeap) : Prop := r.1 = .tuple #[] ∧ Fin N H0 a l c lo hi xs0 (Up lo hi) r.2
theorem f96_loop {M : Nat} (hk : l + 20 ≤ k) (hM : l ≤ big)
    (IH : ∀ (lo hi : Nat) (xs : List Int) (H : AHeap) (x3 : Int), hi - lo < M → lo ≤ hi → hi ≤ l → hi - lo ≤ 63 → St N H0 a l c H xs → Low lo hi xs →
      ∃ H', C k 96 [.slice a l c, .int .i64 (lo : Int), .int .i64 (hi : Int), .int .i64 x3] H = some (.tuple #[], H') ∧ Fin N H0 a l c lo hi xs (Up lo hi) H')
    (hhi : hi ≤ l) (h63 : hi - lo ≤ 63) :
    ∀ (d A B n : Nat) (xs : List Int) (H : AHeap) (D : List Value) (x3 : Int) (b8 b9 : Bool), B - A ≤ d → d < n → d ≤ M → lo ≤ A → A ≤ B → B ≤ hi → St N H0 a l c H xs → Mov lo hi xs0 xs → Pos lo hi A B xs → Low A B xs →
    Ok (f96.L1 k n a l c (A : Int) (B : Int) x3 b8 b9 D H) (R96 N H0 a l c lo hi xs0) := by
  intro d
  induction d using Nat.strongRecOn with
  | ind d ih =>
    intro A B n xs H D x3 b8 b9 h1 hn hdM hlo hab hB h mv hp hlw
    obtain ⟨n, rfl⟩ : ∃ j, n = j + 1 := ⟨n - 1, by omega⟩
    have hM' := hM
    unfold big at hM
    have done : ∀ H', Fin N H0 a l c A B xs (Up A B) H' → R96 N H0 a l c lo hi xs0 (.tuple #[], H') := fun H' ⟨ys, y1, y2, y3⟩ =>
      ⟨rfl, ys, y1, mv.trans (y2.wide hlo hB), (hp.mov y2 hlo hB).done y3⟩
    rw [f96.L1_s, wN (z := (B : Int) - (A : Int)) (n := B - A) (by omega) (by omega)]
    refine ok_bif (fun hc => ok_cT1 (g := []) (f98_ix (by omega) hab (by omega) hM' h) fun H' hp => Ok.ret (done H' hp)) (fun hc => ?_)
    rw [decide_eq_false_iff_not] at hc
    refine ok_bif (fun hc0 => ok_cT1 (g := []) (f99_spec (by omega) hab (by omega) hM' h) fun H' hp => Ok.ret (done H' hp)) (fun hc0 => ?_)
    clear done
    have k5 : ∀ (p : Nat) (x10 : Int) (xs : List Int) (H : AHeap) (D : List Value) (x3 : Int), A ≤ p → p < B → St N H0 a l c H xs → Mov lo hi xs0 xs → Pos lo hi A B xs → Low A B xs →
        Ok (f96.K5 k n a l c (A : Int) (B : Int) x3 x10 (p : Int) D H) (R96 N H0 a l c lo hi xs0) := by
      intro p x10 xs H D x3 hp1 hp2 h mv hp hlw
      rw [f96.K5_eq]
      refine ok_cT (f106_spec (by omega) hp1 hp2 (by omega) hM' h) ?_
      rintro _ H1 ⟨t, z, rfl, ys, h1', mv1, pt⟩
      refine ok_exIq rfl (ok_exB rfl ?_)
      have ht1 := pt.1
      have ht2 := pt.2.1
      have mv2 := mv.trans (mv1.wide hlo hB)
      have hp2 := hp.mov mv1 hlo hB
      have hlw2 := hlw.mov mv1
      rw [wN (z := (t : Int) + 1) (n := t + 1) (by omega) (by omega)]
      refine ok_bif (fun _ => ?_) (fun _ => ?_)
      · refine ok_cT1 (g := []) (IH A t ys H1 x3 (by omega) ht1 (by omega) (by omega) h1' (hlw2.sub (by omega))) fun H2 ⟨zs, z1, z2, z3⟩ => ?_
        have pt2 := pt.movL z2
        exact ih (d - 1) (by omega) (t + 1) B n zs H2 _ _ _ _ (by omega) (by omega) (by omega) (by omega) (by omega) hB z1 (mv2.trans (z2.wide hlo (by omega))) ((hp2.mov (z2.wide (Nat.le_refl _) (by omega)) hlo hB).left pt2 z3) pt2.low
      · refine ok_cT1 (g := []) (IH (t + 1) B ys H1 x3 (by omega) (by omega) (by omega) (by omega) h1' pt.low) fun H2 ⟨zs, z1, z2, z3⟩ => ?_
        have pt2 := pt.movR z2
        have z2' : Mov A B ys zs := z2.wide (by omega) (Nat.le_refl _)
        exact ih (d - 1) (by omega) A t n zs H2 _ _ _ _ (by omega) (by omega) (by omega) hlo ht1 (by omega) z1 (mv2.trans (z2.wide (by omega) hB)) ((hp2.mov z2' hlo hB).right pt2 z3) ((hlw2.mov z2').sub (by omega))
    have k4 : ∀ (p : Nat) (x10 : Int) (xs : List Int) (H : AHeap) (D : List Value) (x3 : Int) (b8 b9 b : Bool), A ≤ p → p < B → St N H0 a l c H xs → Mov lo hi xs0 xs → Pos lo hi A B xs → Low A B xs → (b = true → ∀ s, A ≤ s → s < B → gI xs p ≤ gI xs s) →
        Ok (f96.K4 k n a l c (A : Int) (B : Int) x3 b8 b9 x10 (p : Int) b D H) (R96 N H0 a l c lo hi xs0) := by
      intro p x10 xs H D x3 b8 b9 b hp1 hp2 h mv hp hlw hb
      rw [f96.K4_eq]
      refine ok_bif (fun hc => ?_) (fun _ => k5 p _ xs H _ _ hp1 hp2 h mv hp hlw)
      refine ok_cIn (f105_spec (by omega) hp1 hp2 (by omega) hM' h) fun t H1 ⟨ys, h1', mv1, t1, t2, t3, t4⟩ => ?_
      have hm := mv1.all (p := fun v => gI xs p ≤ v) (hb hc)
      exact ih (d - 1) (by omega) t B n ys H1 _ _ _ _ (by omega) (by omega) (by omega) (by omega) t2 hB h1' (mv.trans (mv1.wide hlo hB)) ((hp.mov mv1 hlo hB).eq hm t3)
        (.inr fun s a1 a2 => by have := hm s (by omega) a2; have := t3 (t - 1) (by omega) (by omega); omega)
    have k3 : ∀ (p : Nat) (x10 : Int) (xs : List Int) (H : AHeap) (D : List Value) (x3 : Int) (b8 b9 : Bool), A ≤ p → p < B → St N H0 a l c H xs → Mov lo hi xs0 xs → Pos lo hi A B xs → Low A B xs →
        Ok (f96.K3 k n a l c (A : Int) (B : Int) x3 b8 b9 x10 (p : Int) D H) (R96 N H0 a l c lo hi xs0) := by
      intro p x10 xs H D x3 b8 b9 hp1 hp2 h mv hp hlw
      rw [f96.K3_eq]
      refine ok_bif (fun hc => ?_) (fun _ => k4 p _ xs _ _ _ _ _ _ hp1 hp2 (h.bump _) mv hp hlw (fun e => by cases e))
      rw [decide_eq_true_eq] at hc
      rw [wN (z := (A : Int) - 1) (n := A - 1) (by omega) (by omega)]
      refine ok_cmp (i := A - 1) (j := p) (by omega) h rfl rfl (by omega) (by omega) fun q q' => ?_
      refine k4 p _ xs _ _ _ _ _ _ hp1 hp2 (h.bump _) mv hp hlw (fun e s a1 a2 => ?_)
      simp only [Bool.not_eq_true', decide_eq_false_iff_not] at e
      rcases hlw with hlw | hlw
      · omega
      · have := hlw s a1 a2
        omega
    have k2 : ∀ (p : Nat) (x10 x12 : Int) (xs : List Int) (H : AHeap) (D : List Value) (x3 : Int) (b8 b9 : Bool), A ≤ p → p < B → St N H0 a l c H xs → Mov lo hi xs0 xs → Pos lo hi A B xs → Low A B xs →
        Ok (f96.K2 k n a l c (A : Int) (B : Int) x3 b8 b9 x10 (p : Int) x12 D H) (R96 N H0 a l c lo hi xs0) := by
      intro p x10 x12 xs H D x3 b8 b9 hp1 hp2 h mv hp hlw
      rw [f96.K2_eq]
      refine ok_bif (fun _ => ok_bif (fun _ => ok_bif (fun _ => ?_) (fun _ => k3 p _ xs _ _ _ _ _ hp1 hp2 h mv hp hlw)) (fun _ => k3 p _ xs _ _ _ _ _ hp1 hp2 h mv hp hlw)) (fun _ => k3 p _ xs _ _ _ _ _ hp1 hp2 h mv hp hlw)
      obtain ⟨z, H1, e, ys, y1, y2, y3⟩ := f103_spec (k := k) (by omega) (show A < B by omega) (by omega) hM' h hlw
      refine ok_cB (P := fun H' => H' = H1) ⟨H1, e, rfl⟩ fun H' eH => ?_
      subst eH
      have mv2 := mv.trans (y2.wide hlo hB)
      refine ok_bif (fun hz => Ok.ret ⟨rfl, ys, y1, mv2, (hp.mov y2 hlo hB).done (y3 hz)⟩) (fun _ => k3 p _ ys _ _ _ _ _ hp1 hp2 y1 mv2 (hp.mov y2 hlo hB) (hlw.mov y2))
    have k1 : ∀ (x10 : Int) (xs : List Int) (H : AHeap) (D : List Value) (x3 : Int) (b8 b9 : Bool), St N H0 a l c H xs → Mov lo hi xs0 xs → Pos lo hi A B xs → Low A B xs →
        Ok (f96.K1 k n a l c (A : Int) (B : Int) x3 b8 b9 x10 D H) (R96 N H0 a l c lo hi xs0) := by
      intro x10 xs H D x3 b8 b9 h mv hp hlw
      rw [f96.K1_eq]
      refine ok_cT (f101_spec (by omega) (show A + 12 < B by omega) (by omega) hM' h) ?_
      rintro _ H1 ⟨h1', t, z, rfl, t1, t2⟩
      refine ok_exIq rfl (ok_exIq rfl (ok_bif (fun _ => ?_) (fun _ => k2 t _ _ xs _ _ _ _ _ t1 t2 h1' mv hp hlw)))
      refine ok_cT1 (g := []) (f102_spec (by omega) (show A < B by omega) (by omega) hM' h1') fun H2 ⟨ys, y1, y2, _⟩ => ?_
      rw [wN (z := (B : Int) - 1) (n := B - 1) (by omega) (by omega), wN (z := (t : Int) - (A : Int)) (n := t - A) (by omega) (by omega),
        wN (z := ((B - 1 : Nat) : Int) - ((t - A : Nat) : Int)) (n := B - 1 - (t - A)) (by omega) (by omega)]
      exact k2 _ _ _ ys _ _ _ _ _ (by omega) (by omega) y1 (mv.trans (y2.wide hlo hB)) (hp.mov y2 hlo hB) (hlw.mov y2)
    refine ok_bif (fun _ => ?_) (fun _ => k1 _ xs _ _ _ _ _ h mv hp hlw)
    refine ok_cT1 (g := []) (f100_spec (by omega) hab (by omega) hM' (by omega) h) fun H2 ⟨ys, y1, y2, _⟩ => ?_
    exact k1 _ ys _ _ _ _ _ y1 (mv.trans (y2.wide hlo hB)) (hp.mov y2 hlo hB) (hlw.mov y2)
/-- pdqsort -/
theorem f96_spec (hM : l ≤ big) : ∀ (m k lo hi : Nat) (xs : List Int) (H : AHeap) (x3 : Int), hi - lo ≤ m → m + l + 100 ≤ k → lo ≤ hi → hi ≤ l → hi - lo ≤ 63 → St N H0 a l c H xs → Low lo hi xs →
    ∃ H', C k 96 [.slice a l c, .int .i64 (lo : Int), .int .i64 (hi : Int), .int .i64 x3] H = some (.tuple #[], H') ∧ Fin N H0 a l c lo hi xs (Up lo hi) H' := by
  intro m
  induction m with
  | zero =>
    intro k lo hi xs H x3 h1 hk h2 h3 h63 h hlw
    obtain ⟨k, rfl⟩ : ∃ j, k = j + 1 := ⟨k - 1, by omega⟩
    rw [f96_eq]
    exact call_of_ok (f96_loop (M := 0) (by omega) hM (fun _ _ _ _ _ h => by omega) h3 h63 0 lo hi k xs H _ _ _ _ h1 (by omega) (Nat.le_refl _) (Nat.le_refl _) h2 (Nat.le_refl _) h (Mov.refl _ _ _) ⟨fun i j _ _ => by omega, fun i j _ _ => by omega⟩ hlw)
  | succ m ih =>
    intro k lo hi xs H x3 h1 hk h2 h3 h63 h hlw
    obtain ⟨k, rfl⟩ : ∃ j, k = j + 1 := ⟨k - 1, by omega⟩
    rw [f96_eq]
    exact call_of_ok (f96_loop (M := m + 1) (by omega) hM (fun lo hi xs H x3 g1 g2 g3 g4 g5 g6 => ih k lo hi xs H x3 (by omega) (by omega) g2 g3 g4 g5 g6) h3 h63 (hi - lo) lo hi k xs H _ _ _ _ (Nat.le_refl _) (by omega) (by omega) (Nat.le_refl _) h2 (Nat.le_refl _) h (Mov.refl _ _ _) ⟨fun i j _ _ => by omega, fun i j _ _ => by omega⟩ hlw)
end
/-- slices.Sort of up to 63 numbers -/
theorem f83_spec {k N : Nat} {a : Option Addr} {l c : Nat} {xs : List Int} {H : AHeap} (hl : l ≤ 63) (hk : 300 ≤ k) (h : Own N 1 H a l c (ints xs)) :
    ∃ H', C k 83 [.slice a l c] H = some (.tuple #[], H') ∧ ((∃ zs, Own N 1 H' a l c (ints zs) ∧ Srt zs ∧ zs.Perm xs) ∧ Keep a H H') := by
  obtain ⟨k, rfl⟩ : ∃ j, k = j + 1 + 1 + 1 + 1 := ⟨k - 4, by omega⟩
  have hlen := h.len
  rw [f83_eq]
  refine call_of_ok ?_
  have ew : IntKind.u64.wrap (l : Int) = (l : Int) := IntWalk.u64_in _ (by omega)
  rw [ew, f97_eq]
  obtain ⟨r, er, _⟩ := len64b k H l hl
  refine ok_cI0 (n := (r : Int)) (eq_of_ok (ok_cI0 (n := (r : Int)) er (Ok.ret rfl))) ?_
  have sp := f96_spec (N := N) (H0 := H) (a := a) (l := l) (c := c) (by unfold big; omega) l (k + 1 + 1 + 1) 0 l xs H (r : Int) (by omega) (by omega) (by omega) (by omega) (by omega) (St.zero h) (.inl rfl)
  refine ok_cT1 (g := []) (P := fun H' => (∃ zs, Own N 1 H' a l c (ints zs) ∧ Srt zs ∧ zs.Perm xs) ∧ Keep a H H') ?_ (fun H' hp => Ok.ret ⟨rfl, hp⟩)
  obtain ⟨H', e, ys, y1, y2, y3⟩ := sp
  exact ⟨H', e, ⟨ys, y1.own, y3.srt (by rw [y1.len]; exact Nat.le_refl _), y2.perm⟩, y1.keep⟩
end Go.Proofs.MxF
end
