/- Texts of this claim, laid together: Sp K1 K2 K3 Q1 Sq Q2 Q3 Q4. -/
import Derived.Test.YtcegcnopakfloaaXJc
import Derived.Test.YtcegcnopakfloaaXJd
section
set_option linter.unusedSimpArgs false
/- Functions of the program as the machine comes to them: printed by a program of this workplace (px.py); the kernel checks each line. -/
set_option linter.unusedVariables false
namespace Go.Proofs.MxF
open Go Go.Mx Go.Proofs

/- f83 "slices.Sort[[]int,int]"  names: 0:x 1:x 2:n -/
theorem f83_eq (k : Nat) (a0 : Option Addr) (l0 : Nat) (c0 : Nat) (H : AHeap) : C (k + 1) 83 [.slice a0 l0 c0] H =
  (cI .i64 (C k 97 [.int .u64 (IntKind.u64.wrap (l0 : Int))] H) fun x H_1 =>
   cT (C k 96 [.slice a0 l0 c0, .int .i64 0, .int .i64 (l0 : Int), .int .i64 x] H_1) fun u H_2 =>
   some (.tuple #[], H_2)) := by kernel_rfl

/- f96 "slices.pdqsortOrdered[int]"  names:  -/
noncomputable def f96.Q0 (k : Nat)  : Kont (Value × AHeap) := retQ Try.prog Try.f96
noncomputable def f96.Q1 (k : Nat)  : Kont (Value × AHeap) := blkQ 0 (f96.Q0 k )
noncomputable def f96.Q2 (k : Nat) (n1 : Nat) : Kont (Value × AHeap) := seqQ (iter (run Try.prog (C k) k (Sub (bodyOf Try.f96) [1, 1, 0, 0])) (f96.Q1 k ) n1) (f96.Q1 k )
noncomputable def f96.Q3 (k : Nat) (n1 : Nat) : Kont (Value × AHeap) := blkQ 1 (f96.Q2 k n1)
noncomputable def f96.Q4 (k : Nat) (n1 : Nat) : Kont (Value × AHeap) := seqQ (gateC (Sub (bodyOf Try.f96) [1, 1, 0, 0, 0, 1, 1, 1, 1, 1, 1, 1, 0]) (Sub (bodyOf Try.f96) [1, 1, 0, 0, 0, 1, 1, 1, 1, 1, 1, 1, 1]) k (run Try.prog (C k) k (Sub (bodyOf Try.f96) [1, 1, 0, 0, 0, 1, 1, 1, 1, 1, 1, 1, 1]) (f96.Q3 k n1))) (f96.Q3 k n1)
noncomputable def f96.L1 (k : Nat) (n1 : Nat) (a0 : Option Addr) (l0 : Nat) (c0 : Nat) (x1 : Int) (x2 : Int) (x3 : Int) (b8 : Bool) (b9 : Bool) (D : List Value) (H : AHeap) : Option (Value × AHeap) :=
  iter (run Try.prog (C k) k (Sub (bodyOf Try.f96) [1, 1, 0, 0])) (f96.Q1 k ) n1 [.slice a0 l0 c0, .int .i64 x1, .int .i64 x2, .int .i64 x3, undef, undef, undef, undef, .bool b8, .bool b9, (D.getD 0 undef), (D.getD 1 undef), (D.getD 2 undef), (D.getD 3 undef), (D.getD 4 undef), (D.getD 5 undef), (D.getD 6 undef), (D.getD 7 undef), (D.getD 8 undef), (D.getD 9 undef), (D.getD 10 undef), (D.getD 11 undef), (D.getD 12 undef), (D.getD 13 undef), undef, undef, undef, undef, (D.getD 14 undef), (D.getD 15 undef), undef, undef, undef, undef, (D.getD 16 undef), (D.getD 17 undef), (D.getD 18 undef), (D.getD 19 undef), (D.getD 20 undef), (D.getD 21 undef), (D.getD 22 undef), (D.getD 23 undef), (D.getD 24 undef), (D.getD 25 undef), (D.getD 26 undef), (D.getD 27 undef), (D.getD 28 undef), (D.getD 29 undef), (D.getD 30 undef), (D.getD 31 undef), (D.getD 32 undef), (D.getD 33 undef), (D.getD 34 undef), (D.getD 35 undef), (D.getD 36 undef), (D.getD 37 undef), (D.getD 38 undef), (D.getD 39 undef), (D.getD 40 undef), (D.getD 41 undef), (D.getD 42 undef), (D.getD 43 undef), (D.getD 44 undef), (D.getD 45 undef), (D.getD 46 undef), (D.getD 47 undef), (D.getD 48 undef), (D.getD 49 undef), (D.getD 50 undef), (D.getD 51 undef), (D.getD 52 undef), (D.getD 53 undef), (D.getD 54 undef), (D.getD 55 undef), (D.getD 56 undef), (D.getD 57 undef), (D.getD 58 undef), (D.getD 59 undef), (D.getD 60 undef), (D.getD 61 undef), (D.getD 62 undef), (D.getD 63 undef), (D.getD 64 undef), (D.getD 65 undef), (D.getD 66 undef), (D.getD 67 undef), (D.getD 68 undef), (D.getD 69 undef), (D.getD 70 undef), (D.getD 71 undef), (D.getD 72 undef), (D.getD 73 undef), (D.getD 74 undef), (D.getD 75 undef), (D.getD 76 undef), (D.getD 77 undef), (D.getD 78 undef), (D.getD 79 undef), (D.getD 80 undef), (D.getD 81 undef), (D.getD 82 undef), (D.getD 83 undef), (D.getD 84 undef), (D.getD 85 undef), (D.getD 86 undef), (D.getD 87 undef), (D.getD 88 undef), (D.getD 89 undef), (D.getD 90 undef), (D.getD 91 undef), (D.getD 92 undef), (D.getD 93 undef), (D.getD 94 undef), (D.getD 95 undef), (D.getD 96 undef), (D.getD 97 undef), (D.getD 98 undef), (D.getD 99 undef), (D.getD 100 undef), (D.getD 101 undef), (D.getD 102 undef), (D.getD 103 undef), (D.getD 104 undef), (D.getD 105 undef), (D.getD 106 undef), (D.getD 107 undef), (D.getD 108 undef), (D.getD 109 undef), (D.getD 110 undef), (D.getD 111 undef), (D.getD 112 undef), (D.getD 113 undef), (D.getD 114 undef), (D.getD 115 undef)] H
noncomputable def f96.K1 (k : Nat) (n1 : Nat) (a0 : Option Addr) (l0 : Nat) (c0 : Nat) (x1 : Int) (x2 : Int) (x3 : Int) (b8 : Bool) (b9 : Bool) (x10 : Int) (D : List Value) (H : AHeap) : Option (Value × AHeap) :=
  gateC (Sub (bodyOf Try.f96) [1, 1, 0, 0, 0, 1, 1, 1, 0]) (Sub (bodyOf Try.f96) [1, 1, 0, 0, 0, 1, 1, 1, 1]) k (run Try.prog (C k) k (Sub (bodyOf Try.f96) [1, 1, 0, 0, 0, 1, 1, 1, 1]) (f96.Q3 k n1)) [.slice a0 l0 c0, .int .i64 x1, .int .i64 x2, .int .i64 x3, undef, undef, undef, undef, .bool b8, .bool b9, .int .i64 x10, (D.getD 0 undef), (D.getD 1 undef), (D.getD 2 undef), (D.getD 3 undef), (D.getD 4 undef), (D.getD 5 undef), (D.getD 6 undef), (D.getD 7 undef), (D.getD 8 undef), (D.getD 9 undef), (D.getD 10 undef), (D.getD 11 undef), (D.getD 12 undef), undef, undef, undef, undef, (D.getD 13 undef), (D.getD 14 undef), undef, undef, undef, undef, (D.getD 15 undef), (D.getD 16 undef), (D.getD 17 undef), (D.getD 18 undef), (D.getD 19 undef), (D.getD 20 undef), (D.getD 21 undef), (D.getD 22 undef), (D.getD 23 undef), (D.getD 24 undef), (D.getD 25 undef), (D.getD 26 undef), (D.getD 27 undef), (D.getD 28 undef), (D.getD 29 undef), (D.getD 30 undef), (D.getD 31 undef), (D.getD 32 undef), (D.getD 33 undef), (D.getD 34 undef), (D.getD 35 undef), (D.getD 36 undef), (D.getD 37 undef), (D.getD 38 undef), (D.getD 39 undef), (D.getD 40 undef), (D.getD 41 undef), (D.getD 42 undef), (D.getD 43 undef), (D.getD 44 undef), (D.getD 45 undef), (D.getD 46 undef), (D.getD 47 undef), (D.getD 48 undef), (D.getD 49 undef), (D.getD 50 undef), (D.getD 51 undef), (D.getD 52 undef), (D.getD 53 undef), (D.getD 54 undef), (D.getD 55 undef), (D.getD 56 undef), (D.getD 57 undef), (D.getD 58 undef), (D.getD 59 undef), (D.getD 60 undef), (D.getD 61 undef), (D.getD 62 undef), (D.getD 63 undef), (D.getD 64 undef), (D.getD 65 undef), (D.getD 66 undef), (D.getD 67 undef), (D.getD 68 undef), (D.getD 69 undef), (D.getD 70 undef), (D.getD 71 undef), (D.getD 72 undef), (D.getD 73 undef), (D.getD 74 undef), (D.getD 75 undef), (D.getD 76 undef), (D.getD 77 undef), (D.getD 78 undef), (D.getD 79 undef), (D.getD 80 undef), (D.getD 81 undef), (D.getD 82 undef), (D.getD 83 undef), (D.getD 84 undef), (D.getD 85 undef), (D.getD 86 undef), (D.getD 87 undef), (D.getD 88 undef), (D.getD 89 undef), (D.getD 90 undef), (D.getD 91 undef), (D.getD 92 undef), (D.getD 93 undef), (D.getD 94 undef), (D.getD 95 undef), (D.getD 96 undef), (D.getD 97 undef), (D.getD 98 undef), (D.getD 99 undef), (D.getD 100 undef), (D.getD 101 undef), (D.getD 102 undef), (D.getD 103 undef), (D.getD 104 undef), (D.getD 105 undef), (D.getD 106 undef), (D.getD 107 undef), (D.getD 108 undef), (D.getD 109 undef), (D.getD 110 undef), (D.getD 111 undef), (D.getD 112 undef), (D.getD 113 undef), (D.getD 114 undef)] H
noncomputable def f96.K2 (k : Nat) (n1 : Nat) (a0 : Option Addr) (l0 : Nat) (c0 : Nat) (x1 : Int) (x2 : Int) (x3 : Int) (b8 : Bool) (b9 : Bool) (x10 : Int) (x11 : Int) (x12 : Int) (D : List Value) (H : AHeap) : Option (Value × AHeap) :=
  gateC (Sub (bodyOf Try.f96) [1, 1, 0, 0, 0, 1, 1, 1, 1, 1, 0]) (Sub (bodyOf Try.f96) [1, 1, 0, 0, 0, 1, 1, 1, 1, 1, 1]) k (run Try.prog (C k) k (Sub (bodyOf Try.f96) [1, 1, 0, 0, 0, 1, 1, 1, 1, 1, 1]) (f96.Q3 k n1)) [.slice a0 l0 c0, .int .i64 x1, .int .i64 x2, .int .i64 x3, undef, undef, undef, undef, .bool b8, .bool b9, .int .i64 x10, .int .i64 x11, .int .i64 x12, (D.getD 0 undef), (D.getD 1 undef), (D.getD 2 undef), (D.getD 3 undef), (D.getD 4 undef), (D.getD 5 undef), (D.getD 6 undef), (D.getD 7 undef), (D.getD 8 undef), (D.getD 9 undef), (D.getD 10 undef), undef, undef, undef, undef, (D.getD 11 undef), (D.getD 12 undef), undef, undef, undef, undef, (D.getD 13 undef), (D.getD 14 undef), (D.getD 15 undef), (D.getD 16 undef), (D.getD 17 undef), (D.getD 18 undef), (D.getD 19 undef), (D.getD 20 undef), (D.getD 21 undef), (D.getD 22 undef), (D.getD 23 undef), (D.getD 24 undef), (D.getD 25 undef), (D.getD 26 undef), (D.getD 27 undef), (D.getD 28 undef), (D.getD 29 undef), (D.getD 30 undef), (D.getD 31 undef), (D.getD 32 undef), (D.getD 33 undef), (D.getD 34 undef), (D.getD 35 undef), (D.getD 36 undef), (D.getD 37 undef), (D.getD 38 undef), (D.getD 39 undef), (D.getD 40 undef), (D.getD 41 undef), (D.getD 42 undef), (D.getD 43 undef), (D.getD 44 undef), (D.getD 45 undef), (D.getD 46 undef), (D.getD 47 undef), (D.getD 48 undef), (D.getD 49 undef), (D.getD 50 undef), (D.getD 51 undef), (D.getD 52 undef), (D.getD 53 undef), (D.getD 54 undef), (D.getD 55 undef), (D.getD 56 undef), (D.getD 57 undef), (D.getD 58 undef), (D.getD 59 undef), (D.getD 60 undef), (D.getD 61 undef), (D.getD 62 undef), (D.getD 63 undef), (D.getD 64 undef), (D.getD 65 undef), (D.getD 66 undef), (D.getD 67 undef), (D.getD 68 undef), (D.getD 69 undef), (D.getD 70 undef), (D.getD 71 undef), (D.getD 72 undef), (D.getD 73 undef), (D.getD 74 undef), (D.getD 75 undef), (D.getD 76 undef), (D.getD 77 undef), (D.getD 78 undef), (D.getD 79 undef), (D.getD 80 undef), (D.getD 81 undef), (D.getD 82 undef), (D.getD 83 undef), (D.getD 84 undef), (D.getD 85 undef), (D.getD 86 undef), (D.getD 87 undef), (D.getD 88 undef), (D.getD 89 undef), (D.getD 90 undef), (D.getD 91 undef), (D.getD 92 undef), (D.getD 93 undef), (D.getD 94 undef), (D.getD 95 undef), (D.getD 96 undef), (D.getD 97 undef), (D.getD 98 undef), (D.getD 99 undef), (D.getD 100 undef), (D.getD 101 undef), (D.getD 102 undef), (D.getD 103 undef), (D.getD 104 undef), (D.getD 105 undef), (D.getD 106 undef), (D.getD 107 undef), (D.getD 108 undef), (D.getD 109 undef), (D.getD 110 undef), (D.getD 111 undef), (D.getD 112 undef)] H
noncomputable def f96.K3 (k : Nat) (n1 : Nat) (a0 : Option Addr) (l0 : Nat) (c0 : Nat) (x1 : Int) (x2 : Int) (x3 : Int) (b8 : Bool) (b9 : Bool) (x10 : Int) (x11 : Int) (D : List Value) (H : AHeap) : Option (Value × AHeap) :=
  gateC (Sub (bodyOf Try.f96) [1, 1, 0, 0, 0, 1, 1, 1, 1, 1, 1, 0]) (Sub (bodyOf Try.f96) [1, 1, 0, 0, 0, 1, 1, 1, 1, 1, 1, 1]) k (run Try.prog (C k) k (Sub (bodyOf Try.f96) [1, 1, 0, 0, 0, 1, 1, 1, 1, 1, 1, 1]) (f96.Q3 k n1)) [.slice a0 l0 c0, .int .i64 x1, .int .i64 x2, .int .i64 x3, undef, undef, undef, undef, .bool b8, .bool b9, .int .i64 x10, .int .i64 x11, (D.getD 0 undef), (D.getD 1 undef), (D.getD 2 undef), (D.getD 3 undef), (D.getD 4 undef), (D.getD 5 undef), (D.getD 6 undef), (D.getD 7 undef), (D.getD 8 undef), (D.getD 9 undef), (D.getD 10 undef), (D.getD 11 undef), undef, undef, undef, undef, (D.getD 12 undef), (D.getD 13 undef), undef, undef, undef, undef, (D.getD 14 undef), (D.getD 15 undef), (D.getD 16 undef), (D.getD 17 undef), (D.getD 18 undef), (D.getD 19 undef), (D.getD 20 undef), (D.getD 21 undef), (D.getD 22 undef), (D.getD 23 undef), (D.getD 24 undef), (D.getD 25 undef), (D.getD 26 undef), (D.getD 27 undef), (D.getD 28 undef), (D.getD 29 undef), (D.getD 30 undef), (D.getD 31 undef), (D.getD 32 undef), (D.getD 33 undef), (D.getD 34 undef), (D.getD 35 undef), (D.getD 36 undef), (D.getD 37 undef), (D.getD 38 undef), (D.getD 39 undef), (D.getD 40 undef), (D.getD 41 undef), (D.getD 42 undef), (D.getD 43 undef), (D.getD 44 undef), (D.getD 45 undef), (D.getD 46 undef), (D.getD 47 undef), (D.getD 48 undef), (D.getD 49 undef), (D.getD 50 undef), (D.getD 51 undef), (D.getD 52 undef), (D.getD 53 undef), (D.getD 54 undef), (D.getD 55 undef), (D.getD 56 undef), (D.getD 57 undef), (D.getD 58 undef), (D.getD 59 undef), (D.getD 60 undef), (D.getD 61 undef), (D.getD 62 undef), (D.getD 63 undef), (D.getD 64 undef), (D.getD 65 undef), (D.getD 66 undef), (D.getD 67 undef), (D.getD 68 undef), (D.getD 69 undef), (D.getD 70 undef), (D.getD 71 undef), (D.getD 72 undef), (D.getD 73 undef), (D.getD 74 undef), (D.getD 75 undef), (D.getD 76 undef), (D.getD 77 undef), (D.getD 78 undef), (D.getD 79 undef), (D.getD 80 undef), (D.getD 81 undef), (D.getD 82 undef), (D.getD 83 undef), (D.getD 84 undef), (D.getD 85 undef), (D.getD 86 undef), (D.getD 87 undef), (D.getD 88 undef), (D.getD 89 undef), (D.getD 90 undef), (D.getD 91 undef), (D.getD 92 undef), (D.getD 93 undef), (D.getD 94 undef), (D.getD 95 undef), (D.getD 96 undef), (D.getD 97 undef), (D.getD 98 undef), (D.getD 99 undef), (D.getD 100 undef), (D.getD 101 undef), (D.getD 102 undef), (D.getD 103 undef), (D.getD 104 undef), (D.getD 105 undef), (D.getD 106 undef), (D.getD 107 undef), (D.getD 108 undef), (D.getD 109 undef), (D.getD 110 undef), (D.getD 111 undef), (D.getD 112 undef), (D.getD 113 undef)] H
noncomputable def f96.K4 (k : Nat) (n1 : Nat) (a0 : Option Addr) (l0 : Nat) (c0 : Nat) (x1 : Int) (x2 : Int) (x3 : Int) (b8 : Bool) (b9 : Bool) (x10 : Int) (x11 : Int) (b87 : Bool) (D : List Value) (H : AHeap) : Option (Value × AHeap) :=
  gateC (Sub (bodyOf Try.f96) [1, 1, 0, 0, 0, 1, 1, 1, 1, 1, 1, 1, 0, 0]) (Sub (bodyOf Try.f96) [1, 1, 0, 0, 0, 1, 1, 1, 1, 1, 1, 1, 0, 1]) k (run Try.prog (C k) k (Sub (bodyOf Try.f96) [1, 1, 0, 0, 0, 1, 1, 1, 1, 1, 1, 1, 0, 1]) (f96.Q4 k n1)) [.slice a0 l0 c0, .int .i64 x1, .int .i64 x2, .int .i64 x3, undef, undef, undef, undef, .bool b8, .bool b9, .int .i64 x10, .int .i64 x11, (D.getD 0 undef), (D.getD 1 undef), (D.getD 2 undef), (D.getD 3 undef), (D.getD 4 undef), (D.getD 5 undef), (D.getD 6 undef), (D.getD 7 undef), (D.getD 8 undef), (D.getD 9 undef), (D.getD 10 undef), (D.getD 11 undef), undef, undef, undef, undef, (D.getD 12 undef), (D.getD 13 undef), undef, undef, undef, undef, (D.getD 14 undef), (D.getD 15 undef), (D.getD 16 undef), (D.getD 17 undef), (D.getD 18 undef), (D.getD 19 undef), (D.getD 20 undef), (D.getD 21 undef), (D.getD 22 undef), (D.getD 23 undef), (D.getD 24 undef), (D.getD 25 undef), (D.getD 26 undef), (D.getD 27 undef), (D.getD 28 undef), (D.getD 29 undef), (D.getD 30 undef), (D.getD 31 undef), (D.getD 32 undef), (D.getD 33 undef), (D.getD 34 undef), (D.getD 35 undef), (D.getD 36 undef), (D.getD 37 undef), (D.getD 38 undef), (D.getD 39 undef), (D.getD 40 undef), (D.getD 41 undef), (D.getD 42 undef), (D.getD 43 undef), (D.getD 44 undef), (D.getD 45 undef), (D.getD 46 undef), (D.getD 47 undef), (D.getD 48 undef), (D.getD 49 undef), (D.getD 50 undef), (D.getD 51 undef), (D.getD 52 undef), (D.getD 53 undef), (D.getD 54 undef), (D.getD 55 undef), (D.getD 56 undef), (D.getD 57 undef), (D.getD 58 undef), (D.getD 59 undef), (D.getD 60 undef), (D.getD 61 undef), (D.getD 62 undef), (D.getD 63 undef), (D.getD 64 undef), (D.getD 65 undef), (D.getD 66 undef), .bool b87, (D.getD 67 undef), (D.getD 68 undef), (D.getD 69 undef), (D.getD 70 undef), (D.getD 71 undef), (D.getD 72 undef), (D.getD 73 undef), (D.getD 74 undef), (D.getD 75 undef), (D.getD 76 undef), (D.getD 77 undef), (D.getD 78 undef), (D.getD 79 undef), (D.getD 80 undef), (D.getD 81 undef), (D.getD 82 undef), (D.getD 83 undef), (D.getD 84 undef), (D.getD 85 undef), (D.getD 86 undef), (D.getD 87 undef), (D.getD 88 undef), (D.getD 89 undef), (D.getD 90 undef), (D.getD 91 undef), (D.getD 92 undef), (D.getD 93 undef), (D.getD 94 undef), (D.getD 95 undef), (D.getD 96 undef), (D.getD 97 undef), (D.getD 98 undef), (D.getD 99 undef), (D.getD 100 undef), (D.getD 101 undef), (D.getD 102 undef), (D.getD 103 undef), (D.getD 104 undef), (D.getD 105 undef), (D.getD 106 undef), (D.getD 107 undef), (D.getD 108 undef), (D.getD 109 undef), (D.getD 110 undef), (D.getD 111 undef), (D.getD 112 undef)] H
noncomputable def f96.K5 (k : Nat) (n1 : Nat) (a0 : Option Addr) (l0 : Nat) (c0 : Nat) (x1 : Int) (x2 : Int) (x3 : Int) (x10 : Int) (x11 : Int) (D : List Value) (H : AHeap) : Option (Value × AHeap) :=
  gateC (Sub (bodyOf Try.f96) [1, 1, 0, 0, 0, 1, 1, 1, 1, 1, 1, 1, 0]) (Sub (bodyOf Try.f96) [1, 1, 0, 0, 0, 1, 1, 1, 1, 1, 1, 1, 1]) k (run Try.prog (C k) k (Sub (bodyOf Try.f96) [1, 1, 0, 0, 0, 1, 1, 1, 1, 1, 1, 1, 1]) (f96.Q3 k n1)) [.slice a0 l0 c0, .int .i64 x1, .int .i64 x2, .int .i64 x3, undef, undef, undef, undef, (D.getD 0 undef), (D.getD 1 undef), .int .i64 x10, .int .i64 x11, (D.getD 2 undef), (D.getD 3 undef), (D.getD 4 undef), (D.getD 5 undef), (D.getD 6 undef), (D.getD 7 undef), (D.getD 8 undef), (D.getD 9 undef), (D.getD 10 undef), (D.getD 11 undef), (D.getD 12 undef), (D.getD 13 undef), undef, undef, undef, undef, (D.getD 14 undef), (D.getD 15 undef), undef, undef, undef, undef, (D.getD 16 undef), (D.getD 17 undef), (D.getD 18 undef), (D.getD 19 undef), (D.getD 20 undef), (D.getD 21 undef), (D.getD 22 undef), (D.getD 23 undef), (D.getD 24 undef), (D.getD 25 undef), (D.getD 26 undef), (D.getD 27 undef), (D.getD 28 undef), (D.getD 29 undef), (D.getD 30 undef), (D.getD 31 undef), (D.getD 32 undef), (D.getD 33 undef), (D.getD 34 undef), (D.getD 35 undef), (D.getD 36 undef), (D.getD 37 undef), (D.getD 38 undef), (D.getD 39 undef), (D.getD 40 undef), (D.getD 41 undef), (D.getD 42 undef), (D.getD 43 undef), (D.getD 44 undef), (D.getD 45 undef), (D.getD 46 undef), (D.getD 47 undef), (D.getD 48 undef), (D.getD 49 undef), (D.getD 50 undef), (D.getD 51 undef), (D.getD 52 undef), (D.getD 53 undef), (D.getD 54 undef), (D.getD 55 undef), (D.getD 56 undef), (D.getD 57 undef), (D.getD 58 undef), (D.getD 59 undef), (D.getD 60 undef), (D.getD 61 undef), (D.getD 62 undef), (D.getD 63 undef), (D.getD 64 undef), (D.getD 65 undef), (D.getD 66 undef), (D.getD 67 undef), (D.getD 68 undef), (D.getD 69 undef), (D.getD 70 undef), (D.getD 71 undef), (D.getD 72 undef), (D.getD 73 undef), (D.getD 74 undef), (D.getD 75 undef), (D.getD 76 undef), (D.getD 77 undef), (D.getD 78 undef), (D.getD 79 undef), (D.getD 80 undef), (D.getD 81 undef), (D.getD 82 undef), (D.getD 83 undef), (D.getD 84 undef), (D.getD 85 undef), (D.getD 86 undef), (D.getD 87 undef), (D.getD 88 undef), (D.getD 89 undef), (D.getD 90 undef), (D.getD 91 undef), (D.getD 92 undef), (D.getD 93 undef), (D.getD 94 undef), (D.getD 95 undef), (D.getD 96 undef), (D.getD 97 undef), (D.getD 98 undef), (D.getD 99 undef), (D.getD 100 undef), (D.getD 101 undef), (D.getD 102 undef), (D.getD 103 undef), (D.getD 104 undef), (D.getD 105 undef), (D.getD 106 undef), (D.getD 107 undef), (D.getD 108 undef), (D.getD 109 undef), (D.getD 110 undef), (D.getD 111 undef), (D.getD 112 undef), (D.getD 113 undef), (D.getD 114 undef), (D.getD 115 undef)] H
theorem f96.L1_z (k : Nat)  (a0 : Option Addr) (l0 : Nat) (c0 : Nat) (x1 : Int) (x2 : Int) (x3 : Int) (b8 : Bool) (b9 : Bool) (D : List Value) (H : AHeap) : f96.L1 k 0 a0 l0 c0 x1 x2 x3 b8 b9 D H = none := by kernel_rfl
theorem f96.L1_s (k : Nat) (n1 : Nat) (a0 : Option Addr) (l0 : Nat) (c0 : Nat) (x1 : Int) (x2 : Int) (x3 : Int) (b8 : Bool) (b9 : Bool) (D : List Value) (H : AHeap) : f96.L1 k (n1 + 1) a0 l0 c0 x1 x2 x3 b8 b9 D H =
  (bif (decide ((IntKind.i64.wrap (x2 - x1)) ≤ (12 : Int))) then
   cT (C k 98 [.slice a0 l0 c0, .int .i64 x1, .int .i64 x2] H) fun u H_1 =>
   some (.tuple #[], H_1)
   else
   bif (x3 == (0 : Int)) then
   cT (C k 99 [.slice a0 l0 c0, .int .i64 x1, .int .i64 x2] H) fun u_1 H_2 =>
   some (.tuple #[], H_2)
   else
   bif (!b8) then
   cT (C k 100 [.slice a0 l0 c0, .int .i64 x1, .int .i64 x2] H) fun u_2 H_3 =>
   f96.K1 k n1 a0 l0 c0 x1 x2 (IntKind.i64.wrap (x3 - (1 : Int))) b8 b9 (IntKind.i64.wrap (x2 - x1)) [(D.getD 1 undef), (D.getD 2 undef), (D.getD 3 undef), (D.getD 4 undef), (D.getD 5 undef), (D.getD 6 undef), (D.getD 7 undef), (D.getD 8 undef), .int .i64 x2, .int .i64 x1, .int .i64 (IntKind.i64.wrap (x2 - x1)), .int .i64 (IntKind.i64.wrap (x2 - x1)), .bool (decide ((IntKind.i64.wrap (x2 - x1)) ≤ (12 : Int))), .int .i64 x3, .bool (x3 == (0 : Int)), .bool b8, .bool (!b8), .slice a0 l0 c0, .int .i64 x1, .int .i64 x2, .tuple u_2, .int .i64 x3, .int .i64 (IntKind.i64.wrap (x3 - (1 : Int))), (D.getD 24 undef), (D.getD 25 undef), (D.getD 26 undef), (D.getD 27 undef), (D.getD 28 undef), (D.getD 29 undef), (D.getD 30 undef), (D.getD 31 undef), (D.getD 32 undef), (D.getD 33 undef), (D.getD 34 undef), (D.getD 35 undef), (D.getD 36 undef), (D.getD 37 undef), (D.getD 38 undef), (D.getD 39 undef), (D.getD 40 undef), (D.getD 41 undef), (D.getD 42 undef), (D.getD 43 undef), (D.getD 44 undef), (D.getD 45 undef), (D.getD 46 undef), (D.getD 47 undef), (D.getD 48 undef), (D.getD 49 undef), (D.getD 50 undef), (D.getD 51 undef), (D.getD 52 undef), (D.getD 53 undef), (D.getD 54 undef), (D.getD 55 undef), (D.getD 56 undef), (D.getD 57 undef), (D.getD 58 undef), (D.getD 59 undef), (D.getD 60 undef), (D.getD 61 undef), (D.getD 62 undef), (D.getD 63 undef), (D.getD 64 undef), (D.getD 65 undef), (D.getD 66 undef), (D.getD 67 undef), (D.getD 68 undef), (D.getD 69 undef), (D.getD 70 undef), (D.getD 71 undef), (D.getD 72 undef), (D.getD 73 undef), (D.getD 74 undef), (D.getD 75 undef), (D.getD 76 undef), (D.getD 77 undef), (D.getD 78 undef), (D.getD 79 undef), (D.getD 80 undef), (D.getD 81 undef), (D.getD 82 undef), (D.getD 83 undef), (D.getD 84 undef), (D.getD 85 undef), (D.getD 86 undef), (D.getD 87 undef), (D.getD 88 undef), (D.getD 89 undef), (D.getD 90 undef), (D.getD 91 undef), (D.getD 92 undef), (D.getD 93 undef), (D.getD 94 undef), (D.getD 95 undef), (D.getD 96 undef), (D.getD 97 undef), (D.getD 98 undef), (D.getD 99 undef), (D.getD 100 undef), (D.getD 101 undef), (D.getD 102 undef), (D.getD 103 undef), (D.getD 104 undef), (D.getD 105 undef), (D.getD 106 undef), (D.getD 107 undef), (D.getD 108 undef), (D.getD 109 undef), (D.getD 110 undef), (D.getD 111 undef), (D.getD 112 undef), (D.getD 113 undef), (D.getD 114 undef), (D.getD 115 undef)] H_3
   else
   f96.K1 k n1 a0 l0 c0 x1 x2 x3 b8 b9 (IntKind.i64.wrap (x2 - x1)) [(D.getD 1 undef), (D.getD 2 undef), (D.getD 3 undef), (D.getD 4 undef), (D.getD 5 undef), (D.getD 6 undef), (D.getD 7 undef), (D.getD 8 undef), .int .i64 x2, .int .i64 x1, .int .i64 (IntKind.i64.wrap (x2 - x1)), .int .i64 (IntKind.i64.wrap (x2 - x1)), .bool (decide ((IntKind.i64.wrap (x2 - x1)) ≤ (12 : Int))), .int .i64 x3, .bool (x3 == (0 : Int)), .bool b8, .bool (!b8), (D.getD 18 undef), (D.getD 19 undef), (D.getD 20 undef), (D.getD 21 undef), (D.getD 22 undef), (D.getD 23 undef), (D.getD 24 undef), (D.getD 25 undef), (D.getD 26 undef), (D.getD 27 undef), (D.getD 28 undef), (D.getD 29 undef), (D.getD 30 undef), (D.getD 31 undef), (D.getD 32 undef), (D.getD 33 undef), (D.getD 34 undef), (D.getD 35 undef), (D.getD 36 undef), (D.getD 37 undef), (D.getD 38 undef), (D.getD 39 undef), (D.getD 40 undef), (D.getD 41 undef), (D.getD 42 undef), (D.getD 43 undef), (D.getD 44 undef), (D.getD 45 undef), (D.getD 46 undef), (D.getD 47 undef), (D.getD 48 undef), (D.getD 49 undef), (D.getD 50 undef), (D.getD 51 undef), (D.getD 52 undef), (D.getD 53 undef), (D.getD 54 undef), (D.getD 55 undef), (D.getD 56 undef), (D.getD 57 undef), (D.getD 58 undef), (D.getD 59 undef), (D.getD 60 undef), (D.getD 61 undef), (D.getD 62 undef), (D.getD 63 undef), (D.getD 64 undef), (D.getD 65 undef), (D.getD 66 undef), (D.getD 67 undef), (D.getD 68 undef), (D.getD 69 undef), (D.getD 70 undef), (D.getD 71 undef), (D.getD 72 undef), (D.getD 73 undef), (D.getD 74 undef), (D.getD 75 undef), (D.getD 76 undef), (D.getD 77 undef), (D.getD 78 undef), (D.getD 79 undef), (D.getD 80 undef), (D.getD 81 undef), (D.getD 82 undef), (D.getD 83 undef), (D.getD 84 undef), (D.getD 85 undef), (D.getD 86 undef), (D.getD 87 undef), (D.getD 88 undef), (D.getD 89 undef), (D.getD 90 undef), (D.getD 91 undef), (D.getD 92 undef), (D.getD 93 undef), (D.getD 94 undef), (D.getD 95 undef), (D.getD 96 undef), (D.getD 97 undef), (D.getD 98 undef), (D.getD 99 undef), (D.getD 100 undef), (D.getD 101 undef), (D.getD 102 undef), (D.getD 103 undef), (D.getD 104 undef), (D.getD 105 undef), (D.getD 106 undef), (D.getD 107 undef), (D.getD 108 undef), (D.getD 109 undef), (D.getD 110 undef), (D.getD 111 undef), (D.getD 112 undef), (D.getD 113 undef), (D.getD 114 undef), (D.getD 115 undef)] H) := by kernel_rfl
theorem f96.K1_eq (k : Nat) (n1 : Nat) (a0 : Option Addr) (l0 : Nat) (c0 : Nat) (x1 : Int) (x2 : Int) (x3 : Int) (b8 : Bool) (b9 : Bool) (x10 : Int) (D : List Value) (H : AHeap) : f96.K1 k n1 a0 l0 c0 x1 x2 x3 b8 b9 x10 D H =
  (cT (C k 101 [.slice a0 l0 c0, .int .i64 x1, .int .i64 x2] H) fun u H_1 =>
   exI .i64 (u.toList[0]?) fun x =>
   exI .i64 (u.toList[1]?) fun x_1 =>
   bif (x_1 == (2 : Int)) then
   cT (C k 102 [.slice a0 l0 c0, .int .i64 x1, .int .i64 x2] H_1) fun u_1 H_2 =>
   f96.K2 k n1 a0 l0 c0 x1 x2 x3 b8 b9 x10 (IntKind.i64.wrap ((IntKind.i64.wrap (x2 - (1 : Int))) - (IntKind.i64.wrap (x - x1)))) 1 [(D.getD 2 undef), (D.getD 3 undef), (D.getD 4 undef), (D.getD 5 undef), (D.getD 6 undef), (D.getD 7 undef), (D.getD 8 undef), (D.getD 9 undef), (D.getD 10 undef), (D.getD 11 undef), (D.getD 12 undef), (D.getD 13 undef), (D.getD 14 undef), (D.getD 15 undef), (D.getD 16 undef), (D.getD 17 undef), (D.getD 18 undef), (D.getD 19 undef), (D.getD 20 undef), (D.getD 21 undef), (D.getD 22 undef), .tuple u, .slice a0 l0 c0, .int .i64 x1, .int .i64 x2, .tuple u, .int .i64 x, .int .i64 x_1, .int .i64 x_1, .bool (x_1 == (2 : Int)), .slice a0 l0 c0, .int .i64 x1, .int .i64 x2, .tuple u_1, .int .i64 x2, .int .i64 (IntKind.i64.wrap (x2 - (1 : Int))), .int .i64 x, .int .i64 x1, .int .i64 (IntKind.i64.wrap (x - x1)), .int .i64 (IntKind.i64.wrap ((IntKind.i64.wrap (x2 - (1 : Int))) - (IntKind.i64.wrap (x - x1)))), (D.getD 42 undef), (D.getD 43 undef), (D.getD 44 undef), (D.getD 45 undef), (D.getD 46 undef), (D.getD 47 undef), (D.getD 48 undef), (D.getD 49 undef), (D.getD 50 undef), (D.getD 51 undef), (D.getD 52 undef), (D.getD 53 undef), (D.getD 54 undef), (D.getD 55 undef), (D.getD 56 undef), (D.getD 57 undef), (D.getD 58 undef), (D.getD 59 undef), (D.getD 60 undef), (D.getD 61 undef), (D.getD 62 undef), (D.getD 63 undef), (D.getD 64 undef), (D.getD 65 undef), (D.getD 66 undef), (D.getD 67 undef), (D.getD 68 undef), (D.getD 69 undef), (D.getD 70 undef), (D.getD 71 undef), (D.getD 72 undef), (D.getD 73 undef), (D.getD 74 undef), (D.getD 75 undef), (D.getD 76 undef), (D.getD 77 undef), (D.getD 78 undef), (D.getD 79 undef), (D.getD 80 undef), (D.getD 81 undef), (D.getD 82 undef), (D.getD 83 undef), (D.getD 84 undef), (D.getD 85 undef), (D.getD 86 undef), (D.getD 87 undef), (D.getD 88 undef), (D.getD 89 undef), (D.getD 90 undef), (D.getD 91 undef), (D.getD 92 undef), (D.getD 93 undef), (D.getD 94 undef), (D.getD 95 undef), (D.getD 96 undef), (D.getD 97 undef), (D.getD 98 undef), (D.getD 99 undef), (D.getD 100 undef), (D.getD 101 undef), (D.getD 102 undef), (D.getD 103 undef), (D.getD 104 undef), (D.getD 105 undef), (D.getD 106 undef), (D.getD 107 undef), (D.getD 108 undef), (D.getD 109 undef), (D.getD 110 undef), (D.getD 111 undef), (D.getD 112 undef), (D.getD 113 undef), (D.getD 114 undef)] H_2
   else
   f96.K2 k n1 a0 l0 c0 x1 x2 x3 b8 b9 x10 x x_1 [(D.getD 2 undef), (D.getD 3 undef), (D.getD 4 undef), (D.getD 5 undef), (D.getD 6 undef), (D.getD 7 undef), (D.getD 8 undef), (D.getD 9 undef), (D.getD 10 undef), (D.getD 11 undef), (D.getD 12 undef), (D.getD 13 undef), (D.getD 14 undef), (D.getD 15 undef), (D.getD 16 undef), (D.getD 17 undef), (D.getD 18 undef), (D.getD 19 undef), (D.getD 20 undef), (D.getD 21 undef), (D.getD 22 undef), .tuple u, .slice a0 l0 c0, .int .i64 x1, .int .i64 x2, .tuple u, .int .i64 x, .int .i64 x_1, .int .i64 x_1, .bool (x_1 == (2 : Int)), (D.getD 32 undef), (D.getD 33 undef), (D.getD 34 undef), (D.getD 35 undef), (D.getD 36 undef), (D.getD 37 undef), (D.getD 38 undef), (D.getD 39 undef), (D.getD 40 undef), (D.getD 41 undef), (D.getD 42 undef), (D.getD 43 undef), (D.getD 44 undef), (D.getD 45 undef), (D.getD 46 undef), (D.getD 47 undef), (D.getD 48 undef), (D.getD 49 undef), (D.getD 50 undef), (D.getD 51 undef), (D.getD 52 undef), (D.getD 53 undef), (D.getD 54 undef), (D.getD 55 undef), (D.getD 56 undef), (D.getD 57 undef), (D.getD 58 undef), (D.getD 59 undef), (D.getD 60 undef), (D.getD 61 undef), (D.getD 62 undef), (D.getD 63 undef), (D.getD 64 undef), (D.getD 65 undef), (D.getD 66 undef), (D.getD 67 undef), (D.getD 68 undef), (D.getD 69 undef), (D.getD 70 undef), (D.getD 71 undef), (D.getD 72 undef), (D.getD 73 undef), (D.getD 74 undef), (D.getD 75 undef), (D.getD 76 undef), (D.getD 77 undef), (D.getD 78 undef), (D.getD 79 undef), (D.getD 80 undef), (D.getD 81 undef), (D.getD 82 undef), (D.getD 83 undef), (D.getD 84 undef), (D.getD 85 undef), (D.getD 86 undef), (D.getD 87 undef), (D.getD 88 undef), (D.getD 89 undef), (D.getD 90 undef), (D.getD 91 undef), (D.getD 92 undef), (D.getD 93 undef), (D.getD 94 undef), (D.getD 95 undef), (D.getD 96 undef), (D.getD 97 undef), (D.getD 98 undef), (D.getD 99 undef), (D.getD 100 undef), (D.getD 101 undef), (D.getD 102 undef), (D.getD 103 undef), (D.getD 104 undef), (D.getD 105 undef), (D.getD 106 undef), (D.getD 107 undef), (D.getD 108 undef), (D.getD 109 undef), (D.getD 110 undef), (D.getD 111 undef), (D.getD 112 undef), (D.getD 113 undef), (D.getD 114 undef)] H_1) := by
  unfold f96.K1
  rw [gateC_eq]
  kernel_rfl
theorem f96.K2_eq (k : Nat) (n1 : Nat) (a0 : Option Addr) (l0 : Nat) (c0 : Nat) (x1 : Int) (x2 : Int) (x3 : Int) (b8 : Bool) (b9 : Bool) (x10 : Int) (x11 : Int) (x12 : Int) (D : List Value) (H : AHeap) : f96.K2 k n1 a0 l0 c0 x1 x2 x3 b8 b9 x10 x11 x12 D H =
  (bif b8 then
   bif b9 then
   bif (x12 == (1 : Int)) then
   cB (C k 103 [.slice a0 l0 c0, .int .i64 x1, .int .i64 x2] H) fun b H_1 =>
   bif b then
   some (.tuple #[], H_1)
   else
   f96.K3 k n1 a0 l0 c0 x1 x2 x3 b8 b9 x10 x11 [.int .i64 x12, (D.getD 0 undef), (D.getD 1 undef), (D.getD 2 undef), (D.getD 3 undef), (D.getD 4 undef), (D.getD 5 undef), (D.getD 6 undef), (D.getD 7 undef), (D.getD 8 undef), (D.getD 9 undef), (D.getD 10 undef), (D.getD 11 undef), (D.getD 12 undef), (D.getD 13 undef), (D.getD 14 undef), (D.getD 15 undef), (D.getD 16 undef), (D.getD 17 undef), (D.getD 18 undef), (D.getD 19 undef), (D.getD 20 undef), (D.getD 21 undef), (D.getD 22 undef), (D.getD 23 undef), (D.getD 24 undef), (D.getD 25 undef), (D.getD 26 undef), (D.getD 27 undef), (D.getD 28 undef), (D.getD 29 undef), (D.getD 30 undef), (D.getD 31 undef), (D.getD 32 undef), (D.getD 33 undef), (D.getD 34 undef), (D.getD 35 undef), (D.getD 36 undef), (D.getD 37 undef), (D.getD 38 undef), (D.getD 39 undef), .bool b8, .bool true, .bool b9, .bool b9, .bool true, .int .i64 x12, .bool (x12 == (1 : Int)), .bool (x12 == (1 : Int)), .slice a0 l0 c0, .int .i64 x1, .int .i64 x2, .bool b, (D.getD 52 undef), (D.getD 53 undef), (D.getD 54 undef), (D.getD 55 undef), (D.getD 56 undef), (D.getD 57 undef), (D.getD 58 undef), (D.getD 59 undef), (D.getD 60 undef), (D.getD 61 undef), (D.getD 62 undef), (D.getD 63 undef), (D.getD 64 undef), (D.getD 65 undef), (D.getD 66 undef), (D.getD 67 undef), (D.getD 68 undef), (D.getD 69 undef), (D.getD 70 undef), (D.getD 71 undef), (D.getD 72 undef), (D.getD 73 undef), (D.getD 74 undef), (D.getD 75 undef), (D.getD 76 undef), (D.getD 77 undef), (D.getD 78 undef), (D.getD 79 undef), (D.getD 80 undef), (D.getD 81 undef), (D.getD 82 undef), (D.getD 83 undef), (D.getD 84 undef), (D.getD 85 undef), (D.getD 86 undef), (D.getD 87 undef), (D.getD 88 undef), (D.getD 89 undef), (D.getD 90 undef), (D.getD 91 undef), (D.getD 92 undef), (D.getD 93 undef), (D.getD 94 undef), (D.getD 95 undef), (D.getD 96 undef), (D.getD 97 undef), (D.getD 98 undef), (D.getD 99 undef), (D.getD 100 undef), (D.getD 101 undef), (D.getD 102 undef), (D.getD 103 undef), (D.getD 104 undef), (D.getD 105 undef), (D.getD 106 undef), (D.getD 107 undef), (D.getD 108 undef), (D.getD 109 undef), (D.getD 110 undef), (D.getD 111 undef), (D.getD 112 undef)] H_1
   else
   f96.K3 k n1 a0 l0 c0 x1 x2 x3 b8 b9 x10 x11 [.int .i64 x12, (D.getD 0 undef), (D.getD 1 undef), (D.getD 2 undef), (D.getD 3 undef), (D.getD 4 undef), (D.getD 5 undef), (D.getD 6 undef), (D.getD 7 undef), (D.getD 8 undef), (D.getD 9 undef), (D.getD 10 undef), (D.getD 11 undef), (D.getD 12 undef), (D.getD 13 undef), (D.getD 14 undef), (D.getD 15 undef), (D.getD 16 undef), (D.getD 17 undef), (D.getD 18 undef), (D.getD 19 undef), (D.getD 20 undef), (D.getD 21 undef), (D.getD 22 undef), (D.getD 23 undef), (D.getD 24 undef), (D.getD 25 undef), (D.getD 26 undef), (D.getD 27 undef), (D.getD 28 undef), (D.getD 29 undef), (D.getD 30 undef), (D.getD 31 undef), (D.getD 32 undef), (D.getD 33 undef), (D.getD 34 undef), (D.getD 35 undef), (D.getD 36 undef), (D.getD 37 undef), (D.getD 38 undef), (D.getD 39 undef), .bool b8, .bool true, .bool b9, .bool b9, .bool true, .int .i64 x12, .bool (x12 == (1 : Int)), .bool (x12 == (1 : Int)), (D.getD 48 undef), (D.getD 49 undef), (D.getD 50 undef), (D.getD 51 undef), (D.getD 52 undef), (D.getD 53 undef), (D.getD 54 undef), (D.getD 55 undef), (D.getD 56 undef), (D.getD 57 undef), (D.getD 58 undef), (D.getD 59 undef), (D.getD 60 undef), (D.getD 61 undef), (D.getD 62 undef), (D.getD 63 undef), (D.getD 64 undef), (D.getD 65 undef), (D.getD 66 undef), (D.getD 67 undef), (D.getD 68 undef), (D.getD 69 undef), (D.getD 70 undef), (D.getD 71 undef), (D.getD 72 undef), (D.getD 73 undef), (D.getD 74 undef), (D.getD 75 undef), (D.getD 76 undef), (D.getD 77 undef), (D.getD 78 undef), (D.getD 79 undef), (D.getD 80 undef), (D.getD 81 undef), (D.getD 82 undef), (D.getD 83 undef), (D.getD 84 undef), (D.getD 85 undef), (D.getD 86 undef), (D.getD 87 undef), (D.getD 88 undef), (D.getD 89 undef), (D.getD 90 undef), (D.getD 91 undef), (D.getD 92 undef), (D.getD 93 undef), (D.getD 94 undef), (D.getD 95 undef), (D.getD 96 undef), (D.getD 97 undef), (D.getD 98 undef), (D.getD 99 undef), (D.getD 100 undef), (D.getD 101 undef), (D.getD 102 undef), (D.getD 103 undef), (D.getD 104 undef), (D.getD 105 undef), (D.getD 106 undef), (D.getD 107 undef), (D.getD 108 undef), (D.getD 109 undef), (D.getD 110 undef), (D.getD 111 undef), (D.getD 112 undef)] H
   else
   f96.K3 k n1 a0 l0 c0 x1 x2 x3 b8 b9 x10 x11 [.int .i64 x12, (D.getD 0 undef), (D.getD 1 undef), (D.getD 2 undef), (D.getD 3 undef), (D.getD 4 undef), (D.getD 5 undef), (D.getD 6 undef), (D.getD 7 undef), (D.getD 8 undef), (D.getD 9 undef), (D.getD 10 undef), (D.getD 11 undef), (D.getD 12 undef), (D.getD 13 undef), (D.getD 14 undef), (D.getD 15 undef), (D.getD 16 undef), (D.getD 17 undef), (D.getD 18 undef), (D.getD 19 undef), (D.getD 20 undef), (D.getD 21 undef), (D.getD 22 undef), (D.getD 23 undef), (D.getD 24 undef), (D.getD 25 undef), (D.getD 26 undef), (D.getD 27 undef), (D.getD 28 undef), (D.getD 29 undef), (D.getD 30 undef), (D.getD 31 undef), (D.getD 32 undef), (D.getD 33 undef), (D.getD 34 undef), (D.getD 35 undef), (D.getD 36 undef), (D.getD 37 undef), (D.getD 38 undef), (D.getD 39 undef), .bool b8, .bool true, .bool b9, .bool b9, .bool false, undef, undef, .bool false, (D.getD 48 undef), (D.getD 49 undef), (D.getD 50 undef), (D.getD 51 undef), (D.getD 52 undef), (D.getD 53 undef), (D.getD 54 undef), (D.getD 55 undef), (D.getD 56 undef), (D.getD 57 undef), (D.getD 58 undef), (D.getD 59 undef), (D.getD 60 undef), (D.getD 61 undef), (D.getD 62 undef), (D.getD 63 undef), (D.getD 64 undef), (D.getD 65 undef), (D.getD 66 undef), (D.getD 67 undef), (D.getD 68 undef), (D.getD 69 undef), (D.getD 70 undef), (D.getD 71 undef), (D.getD 72 undef), (D.getD 73 undef), (D.getD 74 undef), (D.getD 75 undef), (D.getD 76 undef), (D.getD 77 undef), (D.getD 78 undef), (D.getD 79 undef), (D.getD 80 undef), (D.getD 81 undef), (D.getD 82 undef), (D.getD 83 undef), (D.getD 84 undef), (D.getD 85 undef), (D.getD 86 undef), (D.getD 87 undef), (D.getD 88 undef), (D.getD 89 undef), (D.getD 90 undef), (D.getD 91 undef), (D.getD 92 undef), (D.getD 93 undef), (D.getD 94 undef), (D.getD 95 undef), (D.getD 96 undef), (D.getD 97 undef), (D.getD 98 undef), (D.getD 99 undef), (D.getD 100 undef), (D.getD 101 undef), (D.getD 102 undef), (D.getD 103 undef), (D.getD 104 undef), (D.getD 105 undef), (D.getD 106 undef), (D.getD 107 undef), (D.getD 108 undef), (D.getD 109 undef), (D.getD 110 undef), (D.getD 111 undef), (D.getD 112 undef)] H
   else
   f96.K3 k n1 a0 l0 c0 x1 x2 x3 b8 b9 x10 x11 [.int .i64 x12, (D.getD 0 undef), (D.getD 1 undef), (D.getD 2 undef), (D.getD 3 undef), (D.getD 4 undef), (D.getD 5 undef), (D.getD 6 undef), (D.getD 7 undef), (D.getD 8 undef), (D.getD 9 undef), (D.getD 10 undef), (D.getD 11 undef), (D.getD 12 undef), (D.getD 13 undef), (D.getD 14 undef), (D.getD 15 undef), (D.getD 16 undef), (D.getD 17 undef), (D.getD 18 undef), (D.getD 19 undef), (D.getD 20 undef), (D.getD 21 undef), (D.getD 22 undef), (D.getD 23 undef), (D.getD 24 undef), (D.getD 25 undef), (D.getD 26 undef), (D.getD 27 undef), (D.getD 28 undef), (D.getD 29 undef), (D.getD 30 undef), (D.getD 31 undef), (D.getD 32 undef), (D.getD 33 undef), (D.getD 34 undef), (D.getD 35 undef), (D.getD 36 undef), (D.getD 37 undef), (D.getD 38 undef), (D.getD 39 undef), .bool b8, .bool false, undef, .bool false, .bool false, undef, undef, .bool false, (D.getD 48 undef), (D.getD 49 undef), (D.getD 50 undef), (D.getD 51 undef), (D.getD 52 undef), (D.getD 53 undef), (D.getD 54 undef), (D.getD 55 undef), (D.getD 56 undef), (D.getD 57 undef), (D.getD 58 undef), (D.getD 59 undef), (D.getD 60 undef), (D.getD 61 undef), (D.getD 62 undef), (D.getD 63 undef), (D.getD 64 undef), (D.getD 65 undef), (D.getD 66 undef), (D.getD 67 undef), (D.getD 68 undef), (D.getD 69 undef), (D.getD 70 undef), (D.getD 71 undef), (D.getD 72 undef), (D.getD 73 undef), (D.getD 74 undef), (D.getD 75 undef), (D.getD 76 undef), (D.getD 77 undef), (D.getD 78 undef), (D.getD 79 undef), (D.getD 80 undef), (D.getD 81 undef), (D.getD 82 undef), (D.getD 83 undef), (D.getD 84 undef), (D.getD 85 undef), (D.getD 86 undef), (D.getD 87 undef), (D.getD 88 undef), (D.getD 89 undef), (D.getD 90 undef), (D.getD 91 undef), (D.getD 92 undef), (D.getD 93 undef), (D.getD 94 undef), (D.getD 95 undef), (D.getD 96 undef), (D.getD 97 undef), (D.getD 98 undef), (D.getD 99 undef), (D.getD 100 undef), (D.getD 101 undef), (D.getD 102 undef), (D.getD 103 undef), (D.getD 104 undef), (D.getD 105 undef), (D.getD 106 undef), (D.getD 107 undef), (D.getD 108 undef), (D.getD 109 undef), (D.getD 110 undef), (D.getD 111 undef), (D.getD 112 undef)] H) := by
  unfold f96.K2
  rw [gateC_eq]
  kernel_rfl
theorem f96.K3_eq (k : Nat) (n1 : Nat) (a0 : Option Addr) (l0 : Nat) (c0 : Nat) (x1 : Int) (x2 : Int) (x3 : Int) (b8 : Bool) (b9 : Bool) (x10 : Int) (x11 : Int) (D : List Value) (H : AHeap) : f96.K3 k n1 a0 l0 c0 x1 x2 x3 b8 b9 x10 x11 D H =
  (bif (decide (x1 > (0 : Int))) then
   a0.bind fun q =>
   if 0 ≤ (IntKind.i64.wrap (x1 - (1 : Int))) ∧ (IntKind.i64.wrap (x1 - (1 : Int))) < (l0 : Int) then
   bif sameB H (H.bump 15) q.block then
   (ldI .i64 (H.bump 15) q.block (q.off + (IntKind.i64.wrap (x1 - (1 : Int))).toNat * 1)).bind fun x =>
   a0.bind fun q_1 =>
   if 0 ≤ x11 ∧ x11 < (l0 : Int) then
   bif sameB H (H.bump 15) q_1.block then
   (ldI .i64 (H.bump 15) q_1.block (q_1.off + x11.toNat * 1)).bind fun x_1 =>
   cB (C k 104 [.int .i64 x, .int .i64 x_1] (H.bump 15)) fun b H_1 =>
   f96.K4 k n1 a0 l0 c0 x1 x2 x3 b8 b9 x10 x11 (!b) [(D.getD 0 undef), (D.getD 1 undef), (D.getD 2 undef), (D.getD 3 undef), (D.getD 4 undef), (D.getD 5 undef), (D.getD 6 undef), (D.getD 7 undef), (D.getD 8 undef), (D.getD 9 undef), (D.getD 10 undef), (D.getD 11 undef), (D.getD 12 undef), (D.getD 13 undef), (D.getD 14 undef), (D.getD 15 undef), (D.getD 16 undef), (D.getD 17 undef), (D.getD 18 undef), (D.getD 19 undef), (D.getD 20 undef), (D.getD 21 undef), (D.getD 22 undef), (D.getD 23 undef), (D.getD 24 undef), (D.getD 25 undef), (D.getD 26 undef), (D.getD 27 undef), (D.getD 28 undef), (D.getD 29 undef), (D.getD 30 undef), (D.getD 31 undef), (D.getD 32 undef), (D.getD 33 undef), (D.getD 34 undef), (D.getD 35 undef), (D.getD 36 undef), (D.getD 37 undef), (D.getD 38 undef), (D.getD 39 undef), (D.getD 40 undef), (D.getD 41 undef), (D.getD 42 undef), (D.getD 43 undef), (D.getD 44 undef), (D.getD 45 undef), (D.getD 46 undef), (D.getD 47 undef), (D.getD 48 undef), (D.getD 49 undef), (D.getD 50 undef), (D.getD 51 undef), (D.getD 52 undef), .int .i64 x1, .bool (decide (x1 > (0 : Int))), .bool true, .slice a0 l0 c0, .int .i64 x1, .int .i64 (IntKind.i64.wrap (x1 - (1 : Int))), .pointer (some ⟨q.block, q.off + (IntKind.i64.wrap (x1 - (1 : Int))).toNat * 1, none⟩), .int .i64 x, .slice a0 l0 c0, .int .i64 x11, .pointer (some ⟨q_1.block, q_1.off + x11.toNat * 1, none⟩), .int .i64 x_1, .bool b, .bool (!b), (D.getD 68 undef), (D.getD 69 undef), (D.getD 70 undef), (D.getD 71 undef), (D.getD 72 undef), (D.getD 73 undef), (D.getD 74 undef), (D.getD 75 undef), (D.getD 76 undef), (D.getD 77 undef), (D.getD 78 undef), (D.getD 79 undef), (D.getD 80 undef), (D.getD 81 undef), (D.getD 82 undef), (D.getD 83 undef), (D.getD 84 undef), (D.getD 85 undef), (D.getD 86 undef), (D.getD 87 undef), (D.getD 88 undef), (D.getD 89 undef), (D.getD 90 undef), (D.getD 91 undef), (D.getD 92 undef), (D.getD 93 undef), (D.getD 94 undef), (D.getD 95 undef), (D.getD 96 undef), (D.getD 97 undef), (D.getD 98 undef), (D.getD 99 undef), (D.getD 100 undef), (D.getD 101 undef), (D.getD 102 undef), (D.getD 103 undef), (D.getD 104 undef), (D.getD 105 undef), (D.getD 106 undef), (D.getD 107 undef), (D.getD 108 undef), (D.getD 109 undef), (D.getD 110 undef), (D.getD 111 undef), (D.getD 112 undef), (D.getD 113 undef)] H_1
   else none
   else none
   else none
   else none
   else
   f96.K4 k n1 a0 l0 c0 x1 x2 x3 b8 b9 x10 x11 false [(D.getD 0 undef), (D.getD 1 undef), (D.getD 2 undef), (D.getD 3 undef), (D.getD 4 undef), (D.getD 5 undef), (D.getD 6 undef), (D.getD 7 undef), (D.getD 8 undef), (D.getD 9 undef), (D.getD 10 undef), (D.getD 11 undef), (D.getD 12 undef), (D.getD 13 undef), (D.getD 14 undef), (D.getD 15 undef), (D.getD 16 undef), (D.getD 17 undef), (D.getD 18 undef), (D.getD 19 undef), (D.getD 20 undef), (D.getD 21 undef), (D.getD 22 undef), (D.getD 23 undef), (D.getD 24 undef), (D.getD 25 undef), (D.getD 26 undef), (D.getD 27 undef), (D.getD 28 undef), (D.getD 29 undef), (D.getD 30 undef), (D.getD 31 undef), (D.getD 32 undef), (D.getD 33 undef), (D.getD 34 undef), (D.getD 35 undef), (D.getD 36 undef), (D.getD 37 undef), (D.getD 38 undef), (D.getD 39 undef), (D.getD 40 undef), (D.getD 41 undef), (D.getD 42 undef), (D.getD 43 undef), (D.getD 44 undef), (D.getD 45 undef), (D.getD 46 undef), (D.getD 47 undef), (D.getD 48 undef), (D.getD 49 undef), (D.getD 50 undef), (D.getD 51 undef), (D.getD 52 undef), .int .i64 x1, .bool (decide (x1 > (0 : Int))), .bool false, undef, undef, undef, undef, undef, undef, undef, undef, undef, undef, undef, (D.getD 68 undef), (D.getD 69 undef), (D.getD 70 undef), (D.getD 71 undef), (D.getD 72 undef), (D.getD 73 undef), (D.getD 74 undef), (D.getD 75 undef), (D.getD 76 undef), (D.getD 77 undef), (D.getD 78 undef), (D.getD 79 undef), (D.getD 80 undef), (D.getD 81 undef), (D.getD 82 undef), (D.getD 83 undef), (D.getD 84 undef), (D.getD 85 undef), (D.getD 86 undef), (D.getD 87 undef), (D.getD 88 undef), (D.getD 89 undef), (D.getD 90 undef), (D.getD 91 undef), (D.getD 92 undef), (D.getD 93 undef), (D.getD 94 undef), (D.getD 95 undef), (D.getD 96 undef), (D.getD 97 undef), (D.getD 98 undef), (D.getD 99 undef), (D.getD 100 undef), (D.getD 101 undef), (D.getD 102 undef), (D.getD 103 undef), (D.getD 104 undef), (D.getD 105 undef), (D.getD 106 undef), (D.getD 107 undef), (D.getD 108 undef), (D.getD 109 undef), (D.getD 110 undef), (D.getD 111 undef), (D.getD 112 undef), (D.getD 113 undef)] (H.bump 15)) := by
  unfold f96.K3
  rw [gateC_eq]
  kernel_rfl
theorem f96.K4_eq (k : Nat) (n1 : Nat) (a0 : Option Addr) (l0 : Nat) (c0 : Nat) (x1 : Int) (x2 : Int) (x3 : Int) (b8 : Bool) (b9 : Bool) (x10 : Int) (x11 : Int) (b87 : Bool) (D : List Value) (H : AHeap) : f96.K4 k n1 a0 l0 c0 x1 x2 x3 b8 b9 x10 x11 b87 D H =
  (bif b87 then
   cI .i64 (C k 105 [.slice a0 l0 c0, .int .i64 x1, .int .i64 x2, .int .i64 x11] H) fun x H_1 =>
   f96.L1 k n1 a0 l0 c0 x x2 x3 b8 b9 [.int .i64 x10, .int .i64 x11, (D.getD 0 undef), .int .i64 x, (D.getD 2 undef), (D.getD 3 undef), (D.getD 4 undef), (D.getD 5 undef), (D.getD 6 undef), (D.getD 7 undef), (D.getD 8 undef), (D.getD 9 undef), (D.getD 10 undef), (D.getD 11 undef), (D.getD 12 undef), (D.getD 13 undef), (D.getD 14 undef), (D.getD 15 undef), (D.getD 16 undef), (D.getD 17 undef), (D.getD 18 undef), (D.getD 19 undef), (D.getD 20 undef), (D.getD 21 undef), (D.getD 22 undef), (D.getD 23 undef), (D.getD 24 undef), (D.getD 25 undef), (D.getD 26 undef), (D.getD 27 undef), (D.getD 28 undef), (D.getD 29 undef), (D.getD 30 undef), (D.getD 31 undef), (D.getD 32 undef), (D.getD 33 undef), (D.getD 34 undef), (D.getD 35 undef), (D.getD 36 undef), (D.getD 37 undef), (D.getD 38 undef), (D.getD 39 undef), (D.getD 40 undef), (D.getD 41 undef), (D.getD 42 undef), (D.getD 43 undef), (D.getD 44 undef), (D.getD 45 undef), (D.getD 46 undef), (D.getD 47 undef), (D.getD 48 undef), (D.getD 49 undef), (D.getD 50 undef), (D.getD 51 undef), (D.getD 52 undef), (D.getD 53 undef), (D.getD 54 undef), (D.getD 55 undef), (D.getD 56 undef), (D.getD 57 undef), (D.getD 58 undef), (D.getD 59 undef), (D.getD 60 undef), (D.getD 61 undef), (D.getD 62 undef), (D.getD 63 undef), (D.getD 64 undef), (D.getD 65 undef), (D.getD 66 undef), .bool b87, .slice a0 l0 c0, .int .i64 x1, .int .i64 x2, .int .i64 x11, .int .i64 x, .int .i64 x, (D.getD 73 undef), (D.getD 74 undef), (D.getD 75 undef), (D.getD 76 undef), (D.getD 77 undef), (D.getD 78 undef), (D.getD 79 undef), (D.getD 80 undef), (D.getD 81 undef), (D.getD 82 undef), (D.getD 83 undef), (D.getD 84 undef), (D.getD 85 undef), (D.getD 86 undef), (D.getD 87 undef), (D.getD 88 undef), (D.getD 89 undef), (D.getD 90 undef), (D.getD 91 undef), (D.getD 92 undef), (D.getD 93 undef), (D.getD 94 undef), (D.getD 95 undef), (D.getD 96 undef), (D.getD 97 undef), (D.getD 98 undef), (D.getD 99 undef), (D.getD 100 undef), (D.getD 101 undef), (D.getD 102 undef), (D.getD 103 undef), (D.getD 104 undef), (D.getD 105 undef), (D.getD 106 undef), (D.getD 107 undef), (D.getD 108 undef), (D.getD 109 undef), (D.getD 110 undef), (D.getD 111 undef), (D.getD 112 undef)] H_1
   else
   f96.K5 k n1 a0 l0 c0 x1 x2 x3 x10 x11 [.bool b8, .bool b9, (D.getD 0 undef), (D.getD 1 undef), (D.getD 2 undef), (D.getD 3 undef), (D.getD 4 undef), (D.getD 5 undef), (D.getD 6 undef), (D.getD 7 undef), (D.getD 8 undef), (D.getD 9 undef), (D.getD 10 undef), (D.getD 11 undef), (D.getD 12 undef), (D.getD 13 undef), (D.getD 14 undef), (D.getD 15 undef), (D.getD 16 undef), (D.getD 17 undef), (D.getD 18 undef), (D.getD 19 undef), (D.getD 20 undef), (D.getD 21 undef), (D.getD 22 undef), (D.getD 23 undef), (D.getD 24 undef), (D.getD 25 undef), (D.getD 26 undef), (D.getD 27 undef), (D.getD 28 undef), (D.getD 29 undef), (D.getD 30 undef), (D.getD 31 undef), (D.getD 32 undef), (D.getD 33 undef), (D.getD 34 undef), (D.getD 35 undef), (D.getD 36 undef), (D.getD 37 undef), (D.getD 38 undef), (D.getD 39 undef), (D.getD 40 undef), (D.getD 41 undef), (D.getD 42 undef), (D.getD 43 undef), (D.getD 44 undef), (D.getD 45 undef), (D.getD 46 undef), (D.getD 47 undef), (D.getD 48 undef), (D.getD 49 undef), (D.getD 50 undef), (D.getD 51 undef), (D.getD 52 undef), (D.getD 53 undef), (D.getD 54 undef), (D.getD 55 undef), (D.getD 56 undef), (D.getD 57 undef), (D.getD 58 undef), (D.getD 59 undef), (D.getD 60 undef), (D.getD 61 undef), (D.getD 62 undef), (D.getD 63 undef), (D.getD 64 undef), (D.getD 65 undef), (D.getD 66 undef), .bool b87, (D.getD 67 undef), (D.getD 68 undef), (D.getD 69 undef), (D.getD 70 undef), (D.getD 71 undef), (D.getD 72 undef), (D.getD 73 undef), (D.getD 74 undef), (D.getD 75 undef), (D.getD 76 undef), (D.getD 77 undef), (D.getD 78 undef), (D.getD 79 undef), (D.getD 80 undef), (D.getD 81 undef), (D.getD 82 undef), (D.getD 83 undef), (D.getD 84 undef), (D.getD 85 undef), (D.getD 86 undef), (D.getD 87 undef), (D.getD 88 undef), (D.getD 89 undef), (D.getD 90 undef), (D.getD 91 undef), (D.getD 92 undef), (D.getD 93 undef), (D.getD 94 undef), (D.getD 95 undef), (D.getD 96 undef), (D.getD 97 undef), (D.getD 98 undef), (D.getD 99 undef), (D.getD 100 undef), (D.getD 101 undef), (D.getD 102 undef), (D.getD 103 undef), (D.getD 104 undef), (D.getD 105 undef), (D.getD 106 undef), (D.getD 107 undef), (D.getD 108 undef), (D.getD 109 undef), (D.getD 110 undef), (D.getD 111 undef), (D.getD 112 undef)] H) := by
  unfold f96.K4
  rw [gateC_eq]
  kernel_rfl
theorem f96.K5_eq (k : Nat) (n1 : Nat) (a0 : Option Addr) (l0 : Nat) (c0 : Nat) (x1 : Int) (x2 : Int) (x3 : Int) (x10 : Int) (x11 : Int) (D : List Value) (H : AHeap) : f96.K5 k n1 a0 l0 c0 x1 x2 x3 x10 x11 D H =
  (cT (C k 106 [.slice a0 l0 c0, .int .i64 x1, .int .i64 x2, .int .i64 x11] H) fun u H_1 =>
   exI .i64 (u.toList[0]?) fun x =>
   exB (u.toList[1]?) fun b =>
   bif (decide ((IntKind.i64.wrap (x - x1)) < (IntKind.i64.wrap (x2 - x)))) then
   cT (C k 96 [.slice a0 l0 c0, .int .i64 x1, .int .i64 x, .int .i64 x3] H_1) fun u_1 H_2 =>
   f96.L1 k n1 a0 l0 c0 (IntKind.i64.wrap (x + (1 : Int))) x2 x3 (decide ((IntKind.i64.wrap (x - x1)) ≥ (IntKind.i64.wrap (x10.tdiv (8 : Int))))) b [.int .i64 x10, .int .i64 x11, (D.getD 2 undef), (D.getD 3 undef), .int .i64 x, .bool b, .int .i64 (IntKind.i64.wrap (x - x1)), .int .i64 (IntKind.i64.wrap (x2 - x)), .int .i64 (IntKind.i64.wrap (x10.tdiv (8 : Int))), (D.getD 9 undef), (D.getD 10 undef), (D.getD 11 undef), (D.getD 12 undef), (D.getD 13 undef), (D.getD 14 undef), (D.getD 15 undef), (D.getD 16 undef), (D.getD 17 undef), (D.getD 18 undef), (D.getD 19 undef), (D.getD 20 undef), (D.getD 21 undef), (D.getD 22 undef), (D.getD 23 undef), (D.getD 24 undef), (D.getD 25 undef), (D.getD 26 undef), (D.getD 27 undef), (D.getD 28 undef), (D.getD 29 undef), (D.getD 30 undef), (D.getD 31 undef), (D.getD 32 undef), (D.getD 33 undef), (D.getD 34 undef), (D.getD 35 undef), (D.getD 36 undef), (D.getD 37 undef), (D.getD 38 undef), (D.getD 39 undef), (D.getD 40 undef), (D.getD 41 undef), (D.getD 42 undef), (D.getD 43 undef), (D.getD 44 undef), (D.getD 45 undef), (D.getD 46 undef), (D.getD 47 undef), (D.getD 48 undef), (D.getD 49 undef), (D.getD 50 undef), (D.getD 51 undef), (D.getD 52 undef), (D.getD 53 undef), (D.getD 54 undef), (D.getD 55 undef), (D.getD 56 undef), (D.getD 57 undef), (D.getD 58 undef), (D.getD 59 undef), (D.getD 60 undef), (D.getD 61 undef), (D.getD 62 undef), (D.getD 63 undef), (D.getD 64 undef), (D.getD 65 undef), (D.getD 66 undef), (D.getD 67 undef), (D.getD 68 undef), (D.getD 69 undef), (D.getD 70 undef), (D.getD 71 undef), (D.getD 72 undef), (D.getD 73 undef), (D.getD 74 undef), (D.getD 75 undef), .tuple u, .slice a0 l0 c0, .int .i64 x1, .int .i64 x2, .int .i64 x11, .tuple u, .int .i64 x, .bool b, .bool b, .int .i64 x, .int .i64 x1, .int .i64 (IntKind.i64.wrap (x - x1)), .int .i64 x2, .int .i64 x, .int .i64 (IntKind.i64.wrap (x2 - x)), .int .i64 x10, .int .i64 (IntKind.i64.wrap (x10.tdiv (8 : Int))), .int .i64 (IntKind.i64.wrap (x - x1)), .int .i64 (IntKind.i64.wrap (x2 - x)), .bool (decide ((IntKind.i64.wrap (x - x1)) < (IntKind.i64.wrap (x2 - x)))), .int .i64 (IntKind.i64.wrap (x - x1)), .int .i64 (IntKind.i64.wrap (x10.tdiv (8 : Int))), .bool (decide ((IntKind.i64.wrap (x - x1)) ≥ (IntKind.i64.wrap (x10.tdiv (8 : Int))))), .slice a0 l0 c0, .int .i64 x1, .int .i64 x, .int .i64 x3, .tuple u_1, .int .i64 x, .int .i64 (IntKind.i64.wrap (x + (1 : Int))), (D.getD 106 undef), (D.getD 107 undef), (D.getD 108 undef), (D.getD 109 undef), (D.getD 110 undef), (D.getD 111 undef), (D.getD 112 undef), (D.getD 113 undef), (D.getD 114 undef), (D.getD 115 undef)] H_2
   else
   cT (C k 96 [.slice a0 l0 c0, .int .i64 (IntKind.i64.wrap (x + (1 : Int))), .int .i64 x2, .int .i64 x3] H_1) fun u_2 H_3 =>
   f96.L1 k n1 a0 l0 c0 x1 x x3 (decide ((IntKind.i64.wrap (x2 - x)) ≥ (IntKind.i64.wrap (x10.tdiv (8 : Int))))) b [.int .i64 x10, .int .i64 x11, (D.getD 2 undef), (D.getD 3 undef), .int .i64 x, .bool b, .int .i64 (IntKind.i64.wrap (x - x1)), .int .i64 (IntKind.i64.wrap (x2 - x)), .int .i64 (IntKind.i64.wrap (x10.tdiv (8 : Int))), (D.getD 9 undef), (D.getD 10 undef), (D.getD 11 undef), (D.getD 12 undef), (D.getD 13 undef), (D.getD 14 undef), (D.getD 15 undef), (D.getD 16 undef), (D.getD 17 undef), (D.getD 18 undef), (D.getD 19 undef), (D.getD 20 undef), (D.getD 21 undef), (D.getD 22 undef), (D.getD 23 undef), (D.getD 24 undef), (D.getD 25 undef), (D.getD 26 undef), (D.getD 27 undef), (D.getD 28 undef), (D.getD 29 undef), (D.getD 30 undef), (D.getD 31 undef), (D.getD 32 undef), (D.getD 33 undef), (D.getD 34 undef), (D.getD 35 undef), (D.getD 36 undef), (D.getD 37 undef), (D.getD 38 undef), (D.getD 39 undef), (D.getD 40 undef), (D.getD 41 undef), (D.getD 42 undef), (D.getD 43 undef), (D.getD 44 undef), (D.getD 45 undef), (D.getD 46 undef), (D.getD 47 undef), (D.getD 48 undef), (D.getD 49 undef), (D.getD 50 undef), (D.getD 51 undef), (D.getD 52 undef), (D.getD 53 undef), (D.getD 54 undef), (D.getD 55 undef), (D.getD 56 undef), (D.getD 57 undef), (D.getD 58 undef), (D.getD 59 undef), (D.getD 60 undef), (D.getD 61 undef), (D.getD 62 undef), (D.getD 63 undef), (D.getD 64 undef), (D.getD 65 undef), (D.getD 66 undef), (D.getD 67 undef), (D.getD 68 undef), (D.getD 69 undef), (D.getD 70 undef), (D.getD 71 undef), (D.getD 72 undef), (D.getD 73 undef), (D.getD 74 undef), (D.getD 75 undef), .tuple u, .slice a0 l0 c0, .int .i64 x1, .int .i64 x2, .int .i64 x11, .tuple u, .int .i64 x, .bool b, .bool b, .int .i64 x, .int .i64 x1, .int .i64 (IntKind.i64.wrap (x - x1)), .int .i64 x2, .int .i64 x, .int .i64 (IntKind.i64.wrap (x2 - x)), .int .i64 x10, .int .i64 (IntKind.i64.wrap (x10.tdiv (8 : Int))), .int .i64 (IntKind.i64.wrap (x - x1)), .int .i64 (IntKind.i64.wrap (x2 - x)), .bool (decide ((IntKind.i64.wrap (x - x1)) < (IntKind.i64.wrap (x2 - x)))), (D.getD 96 undef), (D.getD 97 undef), (D.getD 98 undef), (D.getD 99 undef), (D.getD 100 undef), (D.getD 101 undef), (D.getD 102 undef), (D.getD 103 undef), (D.getD 104 undef), (D.getD 105 undef), .int .i64 (IntKind.i64.wrap (x2 - x)), .int .i64 (IntKind.i64.wrap (x10.tdiv (8 : Int))), .bool (decide ((IntKind.i64.wrap (x2 - x)) ≥ (IntKind.i64.wrap (x10.tdiv (8 : Int))))), .slice a0 l0 c0, .int .i64 x, .int .i64 (IntKind.i64.wrap (x + (1 : Int))), .int .i64 x2, .int .i64 x3, .tuple u_2, .int .i64 x] H_3) := by
  unfold f96.K5
  rw [gateC_eq]
  kernel_rfl
theorem f96_eq (k : Nat) (a0 : Option Addr) (l0 : Nat) (c0 : Nat) (x1 : Int) (x2 : Int) (x3 : Int) (H : AHeap) : C (k + 1) 96 [.slice a0 l0 c0, .int .i64 x1, .int .i64 x2, .int .i64 x3] H =
  (f96.L1 k k a0 l0 c0 x1 x2 x3 true true [undef, undef, undef, undef, undef, undef, undef, undef, undef, undef, undef, undef, undef, undef, undef, undef, undef, undef, undef, undef, undef, undef, undef, undef, undef, undef, undef, undef, undef, undef, undef, undef, undef, undef, undef, undef, undef, undef, undef, undef, undef, undef, undef, undef, undef, undef, undef, undef, undef, undef, undef, undef, undef, undef, undef, undef, undef, undef, undef, undef, undef, undef, undef, undef, undef, undef, undef, undef, undef, undef, undef, undef, undef, undef, undef, undef, undef, undef, undef, undef, undef, undef, undef, undef, undef, undef, undef, undef, undef, undef, undef, undef, undef, undef, undef, undef, undef, undef, undef, undef, undef, undef, undef, undef, undef, undef, undef, undef, undef, undef, undef, undef, undef, undef, undef, undef] H) := by kernel_rfl

/- f97 "math/bits.Len"  names: 0:x 1:x -/
theorem f97_eq (k : Nat) (x0 : Int) (H : AHeap) : C (k + 1) 97 [.int .u64 x0] H =
  (cI .i64 (C k 108 [.int .u64 x0] H) fun x H_1 =>
   some (.int .i64 x, H_1)) := by kernel_rfl

/- f98 "slices.insertionSortOrdered[int]"  names: 0:data 1:a 2:b 3:data 4:a 5:b 6:i 7:j -/
noncomputable def f98.Q0 (k : Nat)  : Kont (Value × AHeap) := retQ Try.prog Try.f98
noncomputable def f98.Q1 (k : Nat)  : Kont (Value × AHeap) := blkQ 0 (f98.Q0 k )
noncomputable def f98.Q2 (k : Nat) (n1 : Nat) : Kont (Value × AHeap) := seqQ (iter (run Try.prog (C k) k (Sub (bodyOf Try.f98) [1, 0, 0])) (f98.Q1 k ) n1) (f98.Q1 k )
noncomputable def f98.Q3 (k : Nat) (n1 : Nat) : Kont (Value × AHeap) := seqQ (gateC (Sub (bodyOf Try.f98) [1, 0, 0, 1, 0]) (Sub (bodyOf Try.f98) [1, 0, 0, 1, 1]) k (run Try.prog (C k) k (Sub (bodyOf Try.f98) [1, 0, 0, 1, 1]) (f98.Q2 k n1))) (f98.Q2 k n1)
noncomputable def f98.Q4 (k : Nat) (n1 : Nat) : Kont (Value × AHeap) := blkQ 1 (f98.Q3 k n1)
noncomputable def f98.Q5 (k : Nat) (n1 : Nat) : Kont (Value × AHeap) := blkQ 2 (f98.Q4 k n1)
noncomputable def f98.Q6 (k : Nat) (n1 : Nat) (n2 : Nat) : Kont (Value × AHeap) := seqQ (iter (run Try.prog (C k) k (Sub (bodyOf Try.f98) [1, 0, 0, 1, 0, 0, 1, 0, 0])) (f98.Q5 k n1) n2) (f98.Q5 k n1)
noncomputable def f98.L1 (k : Nat) (n1 : Nat) (a0 : Option Addr) (l0 : Nat) (c0 : Nat) (x1 : Int) (x2 : Int) (x6 : Int) (D : List Value) (H : AHeap) : Option (Value × AHeap) :=
  iter (run Try.prog (C k) k (Sub (bodyOf Try.f98) [1, 0, 0])) (f98.Q1 k ) n1 [.slice a0 l0 c0, .int .i64 x1, .int .i64 x2, undef, undef, undef, .int .i64 x6, (D.getD 0 undef), (D.getD 1 undef), (D.getD 2 undef), (D.getD 3 undef), (D.getD 4 undef), (D.getD 5 undef), (D.getD 6 undef), (D.getD 7 undef), (D.getD 8 undef), (D.getD 9 undef), (D.getD 10 undef), (D.getD 11 undef), (D.getD 12 undef), (D.getD 13 undef), (D.getD 14 undef), (D.getD 15 undef), (D.getD 16 undef), (D.getD 17 undef), (D.getD 18 undef), (D.getD 19 undef), (D.getD 20 undef), (D.getD 21 undef), (D.getD 22 undef), (D.getD 23 undef), (D.getD 24 undef), (D.getD 25 undef), (D.getD 26 undef), (D.getD 27 undef), (D.getD 28 undef), (D.getD 29 undef), (D.getD 30 undef), (D.getD 31 undef), (D.getD 32 undef), (D.getD 33 undef), (D.getD 34 undef), (D.getD 35 undef), (D.getD 36 undef), (D.getD 37 undef), (D.getD 38 undef), (D.getD 39 undef), (D.getD 40 undef), (D.getD 41 undef)] H
noncomputable def f98.L2 (k : Nat) (n1 : Nat) (n2 : Nat) (a0 : Option Addr) (l0 : Nat) (c0 : Nat) (x1 : Int) (x2 : Int) (x6 : Int) (x7 : Int) (D : List Value) (H : AHeap) : Option (Value × AHeap) :=
  iter (run Try.prog (C k) k (Sub (bodyOf Try.f98) [1, 0, 0, 1, 0, 0, 1, 0, 0])) (f98.Q5 k n1) n2 [.slice a0 l0 c0, .int .i64 x1, .int .i64 x2, undef, undef, undef, .int .i64 x6, .int .i64 x7, (D.getD 0 undef), (D.getD 1 undef), (D.getD 2 undef), (D.getD 3 undef), (D.getD 4 undef), (D.getD 5 undef), (D.getD 6 undef), (D.getD 7 undef), (D.getD 8 undef), (D.getD 9 undef), (D.getD 10 undef), (D.getD 11 undef), (D.getD 12 undef), (D.getD 13 undef), (D.getD 14 undef), (D.getD 15 undef), (D.getD 16 undef), (D.getD 17 undef), (D.getD 18 undef), (D.getD 19 undef), (D.getD 20 undef), (D.getD 21 undef), (D.getD 22 undef), (D.getD 23 undef), (D.getD 24 undef), (D.getD 25 undef), (D.getD 26 undef), (D.getD 27 undef), (D.getD 28 undef), (D.getD 29 undef), (D.getD 30 undef), (D.getD 31 undef), (D.getD 32 undef), (D.getD 33 undef), (D.getD 34 undef), (D.getD 35 undef), (D.getD 36 undef), (D.getD 37 undef), (D.getD 38 undef), (D.getD 39 undef), (D.getD 40 undef)] H
noncomputable def f98.K1 (k : Nat) (n1 : Nat) (n2 : Nat) (a0 : Option Addr) (l0 : Nat) (c0 : Nat) (x1 : Int) (x2 : Int) (x6 : Int) (x7 : Int) (D : List Value) (H : AHeap) : Option (Value × AHeap) :=
  gateC (Sub (bodyOf Try.f98) [1, 0, 0, 1, 0, 0, 1, 0, 0, 0]) (Sub (bodyOf Try.f98) [1, 0, 0, 1, 0, 0, 1, 0, 0, 1]) k (run Try.prog (C k) k (Sub (bodyOf Try.f98) [1, 0, 0, 1, 0, 0, 1, 0, 0, 1]) (f98.Q6 k n1 n2)) [.slice a0 l0 c0, .int .i64 x1, .int .i64 x2, undef, undef, undef, .int .i64 x6, .int .i64 x7, (D.getD 0 undef), (D.getD 1 undef), (D.getD 2 undef), (D.getD 3 undef), (D.getD 4 undef), (D.getD 5 undef), (D.getD 6 undef), (D.getD 7 undef), (D.getD 8 undef), (D.getD 9 undef), (D.getD 10 undef), (D.getD 11 undef), (D.getD 12 undef), (D.getD 13 undef), (D.getD 14 undef), (D.getD 15 undef), (D.getD 16 undef), (D.getD 17 undef), (D.getD 18 undef), (D.getD 19 undef), (D.getD 20 undef), (D.getD 21 undef), (D.getD 22 undef), (D.getD 23 undef), (D.getD 24 undef), (D.getD 25 undef), (D.getD 26 undef), (D.getD 27 undef), (D.getD 28 undef), (D.getD 29 undef), (D.getD 30 undef), (D.getD 31 undef), (D.getD 32 undef), (D.getD 33 undef), (D.getD 34 undef), (D.getD 35 undef), (D.getD 36 undef), (D.getD 37 undef), (D.getD 38 undef), (D.getD 39 undef), (D.getD 40 undef)] H
theorem f98.L1_z (k : Nat)  (a0 : Option Addr) (l0 : Nat) (c0 : Nat) (x1 : Int) (x2 : Int) (x6 : Int) (D : List Value) (H : AHeap) : f98.L1 k 0 a0 l0 c0 x1 x2 x6 D H = none := by kernel_rfl
theorem f98.L1_s (k : Nat) (n1 : Nat) (a0 : Option Addr) (l0 : Nat) (c0 : Nat) (x1 : Int) (x2 : Int) (x6 : Int) (D : List Value) (H : AHeap) : f98.L1 k (n1 + 1) a0 l0 c0 x1 x2 x6 D H =
  (bif (decide (x6 < x2)) then
   f98.L2 k n1 k a0 l0 c0 x1 x2 x6 x6 [(D.getD 1 undef), (D.getD 2 undef), .int .i64 x6, .int .i64 x2, .bool (decide (x6 < x2)), (D.getD 6 undef), (D.getD 7 undef), .int .i64 x6, (D.getD 9 undef), (D.getD 10 undef), (D.getD 11 undef), (D.getD 12 undef), (D.getD 13 undef), (D.getD 14 undef), (D.getD 15 undef), (D.getD 16 undef), (D.getD 17 undef), (D.getD 18 undef), (D.getD 19 undef), (D.getD 20 undef), (D.getD 21 undef), (D.getD 22 undef), (D.getD 23 undef), (D.getD 24 undef), (D.getD 25 undef), (D.getD 26 undef), (D.getD 27 undef), (D.getD 28 undef), (D.getD 29 undef), (D.getD 30 undef), (D.getD 31 undef), (D.getD 32 undef), (D.getD 33 undef), (D.getD 34 undef), (D.getD 35 undef), (D.getD 36 undef), (D.getD 37 undef), (D.getD 38 undef), (D.getD 39 undef), (D.getD 40 undef), (D.getD 41 undef)] H
   else
   some (.tuple #[], H)) := by kernel_rfl
theorem f98.L2_z (k : Nat) (n1 : Nat) (a0 : Option Addr) (l0 : Nat) (c0 : Nat) (x1 : Int) (x2 : Int) (x6 : Int) (x7 : Int) (D : List Value) (H : AHeap) : f98.L2 k n1 0 a0 l0 c0 x1 x2 x6 x7 D H = none := by kernel_rfl
theorem f98.L2_s (k : Nat) (n1 : Nat) (n2 : Nat) (a0 : Option Addr) (l0 : Nat) (c0 : Nat) (x1 : Int) (x2 : Int) (x6 : Int) (x7 : Int) (D : List Value) (H : AHeap) : f98.L2 k n1 (n2 + 1) a0 l0 c0 x1 x2 x6 x7 D H =
  (bif (decide (x7 > x1)) then
   a0.bind fun q =>
   if 0 ≤ x7 ∧ x7 < (l0 : Int) then
   bif sameB H (H.bump 15) q.block then
   (ldI .i64 (H.bump 15) q.block (q.off + x7.toNat * 1)).bind fun x =>
   a0.bind fun q_1 =>
   if 0 ≤ (IntKind.i64.wrap (x7 - (1 : Int))) ∧ (IntKind.i64.wrap (x7 - (1 : Int))) < (l0 : Int) then
   bif sameB H (H.bump 15) q_1.block then
   (ldI .i64 (H.bump 15) q_1.block (q_1.off + (IntKind.i64.wrap (x7 - (1 : Int))).toNat * 1)).bind fun x_1 =>
   cB (C k 104 [.int .i64 x, .int .i64 x_1] (H.bump 15)) fun b H_1 =>
   bif b then
   f98.K1 k n1 n2 a0 l0 c0 x1 x2 x6 x7 [(D.getD 0 undef), (D.getD 1 undef), (D.getD 2 undef), (D.getD 3 undef), (D.getD 4 undef), (D.getD 5 undef), (D.getD 6 undef), (D.getD 7 undef), .int .i64 x7, .int .i64 x1, .bool (decide (x7 > x1)), .bool true, .slice a0 l0 c0, .int .i64 x7, .pointer (some ⟨q.block, q.off + x7.toNat * 1, none⟩), .int .i64 x, .slice a0 l0 c0, .int .i64 x7, .int .i64 (IntKind.i64.wrap (x7 - (1 : Int))), .pointer (some ⟨q_1.block, q_1.off + (IntKind.i64.wrap (x7 - (1 : Int))).toNat * 1, none⟩), .int .i64 x_1, .bool b, .bool b, (D.getD 23 undef), (D.getD 24 undef), (D.getD 25 undef), (D.getD 26 undef), (D.getD 27 undef), (D.getD 28 undef), (D.getD 29 undef), (D.getD 30 undef), (D.getD 31 undef), (D.getD 32 undef), (D.getD 33 undef), (D.getD 34 undef), (D.getD 35 undef), (D.getD 36 undef), (D.getD 37 undef), (D.getD 38 undef), (D.getD 39 undef), (D.getD 40 undef)] H_1
   else
   f98.L1 k n1 a0 l0 c0 x1 x2 (IntKind.i64.wrap (x6 + (1 : Int))) [.int .i64 x7, (D.getD 0 undef), (D.getD 1 undef), (D.getD 2 undef), (D.getD 3 undef), (D.getD 4 undef), .int .i64 x6, .int .i64 (IntKind.i64.wrap (x6 + (1 : Int))), (D.getD 7 undef), .int .i64 x7, .int .i64 x1, .bool (decide (x7 > x1)), .bool true, .slice a0 l0 c0, .int .i64 x7, .pointer (some ⟨q.block, q.off + x7.toNat * 1, none⟩), .int .i64 x, .slice a0 l0 c0, .int .i64 x7, .int .i64 (IntKind.i64.wrap (x7 - (1 : Int))), .pointer (some ⟨q_1.block, q_1.off + (IntKind.i64.wrap (x7 - (1 : Int))).toNat * 1, none⟩), .int .i64 x_1, .bool b, .bool b, (D.getD 23 undef), (D.getD 24 undef), (D.getD 25 undef), (D.getD 26 undef), (D.getD 27 undef), (D.getD 28 undef), (D.getD 29 undef), (D.getD 30 undef), (D.getD 31 undef), (D.getD 32 undef), (D.getD 33 undef), (D.getD 34 undef), (D.getD 35 undef), (D.getD 36 undef), (D.getD 37 undef), (D.getD 38 undef), (D.getD 39 undef), (D.getD 40 undef)] H_1
   else none
   else none
   else none
   else none
   else
   f98.L1 k n1 a0 l0 c0 x1 x2 (IntKind.i64.wrap (x6 + (1 : Int))) [.int .i64 x7, (D.getD 0 undef), (D.getD 1 undef), (D.getD 2 undef), (D.getD 3 undef), (D.getD 4 undef), .int .i64 x6, .int .i64 (IntKind.i64.wrap (x6 + (1 : Int))), (D.getD 7 undef), .int .i64 x7, .int .i64 x1, .bool (decide (x7 > x1)), .bool false, undef, undef, undef, undef, undef, undef, undef, undef, undef, undef, .bool false, (D.getD 23 undef), (D.getD 24 undef), (D.getD 25 undef), (D.getD 26 undef), (D.getD 27 undef), (D.getD 28 undef), (D.getD 29 undef), (D.getD 30 undef), (D.getD 31 undef), (D.getD 32 undef), (D.getD 33 undef), (D.getD 34 undef), (D.getD 35 undef), (D.getD 36 undef), (D.getD 37 undef), (D.getD 38 undef), (D.getD 39 undef), (D.getD 40 undef)] (H.bump 15)) := by kernel_rfl
theorem f98.K1_eq (k : Nat) (n1 : Nat) (n2 : Nat) (a0 : Option Addr) (l0 : Nat) (c0 : Nat) (x1 : Int) (x2 : Int) (x6 : Int) (x7 : Int) (D : List Value) (H : AHeap) : f98.K1 k n1 n2 a0 l0 c0 x1 x2 x6 x7 D H =
  (a0.bind fun q =>
   if 0 ≤ (IntKind.i64.wrap (x7 - (1 : Int))) ∧ (IntKind.i64.wrap (x7 - (1 : Int))) < (l0 : Int) then
   bif sameB H (H.bump 18) q.block then
   (ldI .i64 (H.bump 18) q.block (q.off + (IntKind.i64.wrap (x7 - (1 : Int))).toNat * 1)).bind fun x =>
   a0.bind fun q_1 =>
   if 0 ≤ x7 ∧ x7 < (l0 : Int) then
   bif sameB H (H.bump 18) q_1.block then
   (ldI .i64 (H.bump 18) q_1.block (q_1.off + x7.toNat * 1)).bind fun x_1 =>
   a0.bind fun q_2 =>
   if 0 ≤ x7 ∧ x7 < (l0 : Int) then
   (AHeap.wr (H.bump 18) q_2.block (q_2.off + x7.toNat * 1) [.int .i64 x]).bind fun H_1 =>
   a0.bind fun q_3 =>
   if 0 ≤ (IntKind.i64.wrap (x7 - (1 : Int))) ∧ (IntKind.i64.wrap (x7 - (1 : Int))) < (l0 : Int) then
   (AHeap.wr H_1 q_3.block (q_3.off + (IntKind.i64.wrap (x7 - (1 : Int))).toNat * 1) [.int .i64 x_1]).bind fun H_2 =>
   f98.L2 k n1 n2 a0 l0 c0 x1 x2 x6 (IntKind.i64.wrap (x7 - (1 : Int))) [(D.getD 0 undef), (D.getD 1 undef), (D.getD 2 undef), (D.getD 3 undef), (D.getD 4 undef), (D.getD 5 undef), (D.getD 6 undef), (D.getD 7 undef), (D.getD 8 undef), (D.getD 9 undef), (D.getD 10 undef), (D.getD 11 undef), (D.getD 12 undef), (D.getD 13 undef), (D.getD 14 undef), (D.getD 15 undef), (D.getD 16 undef), (D.getD 17 undef), (D.getD 18 undef), (D.getD 19 undef), (D.getD 20 undef), (D.getD 21 undef), (D.getD 22 undef), .int .i64 x7, .int .i64 (IntKind.i64.wrap (x7 - (1 : Int))), .slice a0 l0 c0, .int .i64 x7, .slice a0 l0 c0, .int .i64 x7, .int .i64 (IntKind.i64.wrap (x7 - (1 : Int))), .slice a0 l0 c0, .int .i64 x7, .int .i64 (IntKind.i64.wrap (x7 - (1 : Int))), .pointer (some ⟨q.block, q.off + (IntKind.i64.wrap (x7 - (1 : Int))).toNat * 1, none⟩), .int .i64 x, .slice a0 l0 c0, .int .i64 x7, .pointer (some ⟨q_1.block, q_1.off + x7.toNat * 1, none⟩), .int .i64 x_1, .pointer (some ⟨q_2.block, q_2.off + x7.toNat * 1, none⟩), .pointer (some ⟨q_3.block, q_3.off + (IntKind.i64.wrap (x7 - (1 : Int))).toNat * 1, none⟩)] H_2
   else none
   else none
   else none
   else none
   else none
   else none) := by
  unfold f98.K1
  rw [gateC_eq]
  kernel_rfl
theorem f98_eq (k : Nat) (a0 : Option Addr) (l0 : Nat) (c0 : Nat) (x1 : Int) (x2 : Int) (H : AHeap) : C (k + 1) 98 [.slice a0 l0 c0, .int .i64 x1, .int .i64 x2] H =
  (f98.L1 k k a0 l0 c0 x1 x2 (IntKind.i64.wrap (x1 + (1 : Int))) [undef, .int .i64 x1, .int .i64 (IntKind.i64.wrap (x1 + (1 : Int))), undef, undef, undef, undef, undef, undef, undef, undef, undef, undef, undef, undef, undef, undef, undef, undef, undef, undef, undef, undef, undef, undef, undef, undef, undef, undef, undef, undef, undef, undef, undef, undef, undef, undef, undef, undef, undef, undef, undef] H) := by kernel_rfl

/- f104 "cmp.Less[int]"  names: 0:x 1:y 2:x 3:y -/
theorem f104_eq (k : Nat) (x0 : Int) (x1 : Int) (H : AHeap) : C (k + 1) 104 [.int .i64 x0, .int .i64 x1] H =
  (cB (C k 114 [.int .i64 x0] H) fun b H_1 =>
   bif b then
   cB (C k 114 [.int .i64 x1] H_1) fun b_1 H_2 =>
   bif (!b_1) then
   some (.bool true, H_2)
   else
   some (.bool (decide (x0 < x1)), H_2)
   else
   some (.bool (decide (x0 < x1)), H_1)) := by kernel_rfl

/- f114 "cmp.isNaN[int]"  names: 0:x 1:x -/
theorem f114_eq (k : Nat) (x0 : Int) (H : AHeap) : C (k + 1) 114 [.int .i64 x0] H =
  (some (.bool (x0 != x0), H)) := by kernel_rfl

end Go.Proofs.MxF
end

section
set_option linter.unusedSimpArgs false
/- Sorting a short list where it lies. -/
set_option linter.unusedVariables false
namespace Go.Mx
open Go Go.Proofs
theorem own_get {N : Nat} {H : AHeap} {a : Option Addr} {l c : Nat} {xs : List Int} (h : Own N 1 H a l c (ints xs)) {t : Nat} {x : Int} (ht : xs[t]? = some x) :
    ∃ q, a = some q ∧ ldI .i64 H q.block (q.off + t * 1) = some x ∧ (∀ H', Agree H H' → sameB H H' q.block = true) ∧ q.off = 0 ∧ q.spot = none := by
  have hl : t < xs.length := (List.getElem?_eq_some_iff.1 ht).1
  obtain ⟨q, e, hq⟩ := h.ints.ld ht
  rcases h.2.2 with ⟨e1, e2⟩ | ⟨i, b, e1, h0, h1, _⟩
  · rw [e1] at e; cases e
  · refine ⟨q, e, by rw [Nat.mul_one]; exact hq, ?_⟩
    rw [e1] at e; cases e
    exact ⟨fun H' A => sameB_agree h1 A, rfl, rfl⟩
end Go.Mx
namespace Go.Proofs.MxF
open Go Go.Mx Go.Proofs
theorem ints_set' (xs : List Int) (t : Nat) (v : Int) : (ints xs).set t (.int .i64 v) = ints (xs.set t v) := by
  unfold ints; rw [List.map_set]
theorem app26' (H : AHeap) (a a' : Option Addr) (l c l' c' : Nat) : apndV Try.prog [26, 26] H (.slice a l c) (.slice a' l' c') = (firstC H 1 l' (.slice a' l' c')).bind fun news => apndS 1 8 H a l c news l' := by kernel_rfl
theorem wrapP {j : Nat} (h : j + 1 ≤ maxLen) : IntKind.i64.wrap (((j + 1 : Nat) : Int) - 1) = (j : Int) := by
  unfold maxLen at h
  rw [IntWalk.i64_in _ (by omega)]; omega
theorem f104_spec {k : Nat} (hk : 2 ≤ k) (x y : Int) (H : AHeap) : C k 104 [.int .i64 x, .int .i64 y] H = some (.bool (decide (x < y)), H) := by
  obtain ⟨k, rfl⟩ : ∃ j, k = j + 1 + 1 := ⟨k - 2, by omega⟩
  rw [f104_eq]
  apply eq_of_ok
  refine ok_cB0 (n := x != x) (f114_eq k x H) (ok_biff (by simp) (Ok.ret rfl))
abbrev Srt (xs : List Int) : Prop := xs.Pairwise (· ≤ ·)
theorem srt_insert {A B : List Int} {v : Int} (h : Srt (A ++ B)) (h1 : ∀ x ∈ A, x ≤ v) (h2 : ∀ x ∈ B, v < x) : Srt (A ++ v :: B) := by
  rw [Srt, List.pairwise_append] at h ⊢
  refine ⟨h.1, List.pairwise_cons.2 ⟨fun x hx => Int.le_of_lt (h2 x hx), h.2.1⟩, fun x hx y hy => ?_⟩
  rcases List.mem_cons.1 hy with rfl | hy
  · exact h1 x hx
  · exact h.2.2 x hx y hy

theorem f98_l2 {k N : Nat} (hk : 2 ≤ k) {a : Option Addr} {l c i n1 : Nat} {P : List Int} {x2 : Int} (hl : l ≤ maxLen) {Q : Value × AHeap → Prop} : ∀ (m : Nat) (A B R : List Int) (v : Int) (H : AHeap) (D : List Value) (n2 : Nat),
    A.length = m → m < n2 → Own N 1 H a l c (ints (P ++ (A ++ v :: (B ++ R)))) → Srt (A ++ B) → (∀ b ∈ B, v < b) → P.length + A.length + B.length = i →
    (∀ zs H' D', Own N 1 H' a l c (ints (P ++ (zs ++ R))) → zs.length = A.length + 1 + B.length → Srt zs → zs.Perm (A ++ v :: B) → Keep a H H' → Ok (f98.L1 k n1 a l c (P.length : Int) x2 (IntKind.i64.wrap ((i : Int) + 1)) D' H') Q) →
    Ok (f98.L2 k n1 n2 a l c (P.length : Int) x2 (i : Int) ((P.length + m : Nat) : Int) D H) Q := by
  intro m
  induction m with
  | zero =>
    intro A B R v H D n2 hA hn h hs hv hi next
    obtain ⟨n2, rfl⟩ : ∃ j, n2 = j + 1 := ⟨n2 - 1, by omega⟩
    rw [f98.L2_s]
    obtain rfl := List.eq_nil_of_length_eq_zero hA
    refine ok_biff (by simp only [decide_eq_false_iff_not]; omega) (next (v :: B) (H.bump 15) _ (h.agree (agree_bump H 15)) (by simp; omega) (srt_insert (A := []) hs (by simp) hv) (List.Perm.refl _) (agree_bump H 15).keep)
  | succ m ih =>
    intro A B R v H D n2 hA hn h hs hv hi next
    obtain ⟨n2, rfl⟩ : ∃ j, n2 = j + 1 := ⟨n2 - 1, by omega⟩
    rw [f98.L2_s]
    obtain ⟨A', w, rfl⟩ : ∃ A' w, A = A' ++ [w] := ⟨A.dropLast, A.getLast (by intro e; subst e; cases hA), (List.dropLast_concat_getLast _).symm⟩
    have hm : A'.length = m := by simp at hA; exact hA
    have hlen := h.len
    simp only [List.length_append, List.length_cons, List.length_nil] at hlen
    have g1 : (P ++ (A' ++ [w] ++ v :: (B ++ R)))[P.length + (m + 1)]? = some v := by
      rw [List.getElem?_append_right (by omega), List.getElem?_append_right (by simp; omega)]
      simp [hm]
    have g0 : (P ++ (A' ++ [w] ++ v :: (B ++ R)))[P.length + m]? = some w := by
      rw [List.getElem?_append_right (by omega), List.append_assoc, List.getElem?_append_right (by omega)]
      simp [hm]
    have e0 : IntKind.i64.wrap (((P.length + (m + 1) : Nat) : Int) - 1) = ((P.length + m : Nat) : Int) := wrapP (j := P.length + m) (by omega)
    obtain ⟨q, eq, q1, qs, _, _⟩ := own_get h g1
    obtain ⟨q', eq', q0, _⟩ := own_get h g0
    rw [eq] at eq'
    cases eq'
    have Ab := agree_bump H 15
    have hb := h.agree Ab
    obtain ⟨p, ep, p1, _⟩ := own_get hb g1
    obtain ⟨p', ep', p0, _⟩ := own_get hb g0
    rw [eq] at ep ep'
    cases ep
    cases ep'
    refine ok_bift (by simp only [decide_eq_true_eq]; omega) (ok_bind eq (ok_if (by omega) (ok_bift (qs _ Ab) (ok_bind p1 (ok_bind eq ?_)))))
    rw [e0]
    refine ok_if (by omega) (ok_bift (qs _ Ab) (ok_bind p0 (ok_cB0 (f104_spec hk v w _) (ok_bif (fun hc => ?_) (fun hc => ?_)))))
    · rw [decide_eq_true_eq] at hc
      rw [f98.K1_eq, e0]
      have Ab2 := agree_bump (H.bump 15) 18
      have hb2 := hb.agree Ab2
      obtain ⟨r, er, r1, rs, _⟩ := own_get hb g1
      rw [eq] at er
      cases er
      obtain ⟨r, er, r1, _⟩ := own_get hb2 g1
      rw [eq] at er
      cases er
      obtain ⟨r, er, r0, _⟩ := own_get hb2 g0
      rw [eq] at er
      cases er
      refine ok_bind eq (ok_if (by omega) (ok_bift (rs _ Ab2) (ok_bind r0 (ok_bind eq (ok_if (by omega) (ok_bift (rs _ Ab2) (ok_bind r1 (ok_bind eq (ok_if (by omega) ?_)))))))))
      obtain ⟨s, H3, es, hw, h3, k3, n3⟩ := own_set hb2 (t := P.length + (m + 1)) (by omega) (.int .i64 w)
      rw [eq] at es
      cases es
      refine ok_bind hw (ok_bind eq (ok_if (by omega) ?_))
      obtain ⟨s, H4, es, hw4, h4, k4, n4⟩ := own_set h3 (t := P.length + m) (by omega) (.int .i64 v)
      rw [eq] at es
      cases es
      refine ok_bind hw4 ?_
      rw [ints_set', ints_set'] at h4
      have ex : ((P ++ (A' ++ [w] ++ v :: (B ++ R))).set (P.length + (m + 1)) w).set (P.length + m) v = P ++ (A' ++ v :: (w :: B ++ R)) := by
        rw [List.set_append_right _ _ (by omega), List.set_append_right _ _ (by omega)]
        rw [show P.length + (m + 1) - P.length = m + 1 from by omega, show P.length + m - P.length = m from by omega]
        rw [List.append_assoc, List.set_append_right _ _ (by omega), List.set_append_right _ _ (by omega), hm]
        simp
      rw [ex] at h4
      have K4 : Keep a H H4 := (Keep.of_agree (Ab.trans Ab2) k3).trans (Orig.refl _ _) k4
      refine ih A' (w :: B) R v H4 _ n2 hm (by omega) h4 (by rw [List.append_assoc] at hs; exact hs) (fun b hb => ?_) (by simp only [List.length_append, List.length_cons, List.length_nil] at hi ⊢; omega) (fun zs H' D' o1 o2 o3 o4 o5 => ?_)
      · rcases List.mem_cons.1 hb with rfl | hb
        · exact hc
        · exact hv b hb
      · refine next zs H' D' o1 (by rw [o2]; simp only [List.length_append, List.length_cons, List.length_nil]; omega) o3 (o4.trans ?_) (K4.trans (Orig.refl _ _) o5)
        rw [List.append_assoc]
        exact List.Perm.append_left _ (List.Perm.swap _ _ _)
    · rw [decide_eq_false_iff_not] at hc
      have hle : w ≤ v := by omega
      refine next (A' ++ [w] ++ v :: B) _ _ (by rw [show P ++ (A' ++ [w] ++ v :: B ++ R) = P ++ (A' ++ [w] ++ v :: (B ++ R)) from by simp]; exact hb) (by simp; omega) (srt_insert hs (fun x hx => ?_) hv) (List.Perm.refl _) Ab.keep
      rw [Srt, List.append_assoc, List.pairwise_append] at hs
      rcases List.mem_append.1 hx with hx | hx
      · exact Int.le_trans (hs.2.2 x hx w (by simp)) hle
      · rw [List.mem_singleton] at hx; subst hx; exact hle

theorem f98_l1 {k N : Nat} {a : Option Addr} {l c : Nat} {P R2 : List Int} {x2 : Int} (hl : l ≤ maxLen) (hk : l + 3 ≤ k) : ∀ (m : Nat) (S R1 : List Int) (H : AHeap) (D : List Value) (n : Nat),
    R1.length = m → m < n → Own N 1 H a l c (ints (P ++ (S ++ (R1 ++ R2)))) → Srt S → x2 = ((P.length + S.length + m : Nat) : Int) →
    Ok (f98.L1 k n a l c (P.length : Int) x2 ((P.length + S.length : Nat) : Int) D H) fun r => r.1 = .tuple #[] ∧ (∃ zs, Own N 1 r.2 a l c (ints (P ++ (zs ++ R2))) ∧ Srt zs ∧ zs.Perm (S ++ R1)) ∧ Keep a H r.2 := by
  intro m
  induction m with
  | zero =>
    intro S R1 H D n hR hn h hs hx
    obtain ⟨n, rfl⟩ : ∃ j, n = j + 1 := ⟨n - 1, by omega⟩
    rw [f98.L1_s]
    obtain rfl := List.eq_nil_of_length_eq_zero hR
    refine ok_biff (by simp only [decide_eq_false_iff_not]; omega) (Ok.ret ⟨rfl, ⟨S, h, hs, by rw [List.append_nil]⟩, (Agree.refl H).keep⟩)
  | succ m ih =>
    intro S R1 H D n hR hn h hs hx
    obtain ⟨n, rfl⟩ : ∃ j, n = j + 1 := ⟨n - 1, by omega⟩
    rw [f98.L1_s]
    cases R1 with
    | nil => cases hR
    | cons v R1 =>
      have hlen := h.len
      simp only [List.length_append, List.length_cons] at hlen hR
      refine ok_bift (by simp only [decide_eq_true_eq]; omega) ?_
      refine f98_l2 (N := N) (by omega) (P := P) (i := P.length + S.length) hl S.length S [] (R1 ++ R2) v H _ k rfl (by omega) h (by rw [List.append_nil]; exact hs) (fun b hb => by cases hb) rfl (fun zs H' D' o1 o2 o3 o4 o5 => ?_)
      rw [wrapS (l := P.length + S.length + 1) (by omega) (by omega)]
      have o2' : zs.length = S.length + 1 := o2
      obtain ⟨r, e, e1, ⟨ws, w1, w2, w3⟩, e3⟩ := ih zs R1 H' D' n (by omega) (by omega) o1 o3 (by omega)
      rw [show P.length + S.length + 1 = P.length + zs.length from by omega]
      refine ⟨r, e, e1, ⟨ws, w1, w2, w3.trans ?_⟩, o5.trans (Orig.refl _ _) e3⟩
      exact (o4.append_right R1).trans (by simp)
theorem f98_spec {k N : Nat} {a : Option Addr} {l c : Nat} {P M R : List Int} {H : AHeap} (hl : l < maxLen) (hk : l + 5 ≤ k) (h : Own N 1 H a l c (ints (P ++ (M ++ R)))) :
    ∃ H', C k 98 [.slice a l c, .int .i64 (P.length : Int), .int .i64 ((P.length + M.length : Nat) : Int)] H = some (.tuple #[], H') ∧ ((∃ zs, Own N 1 H' a l c (ints (P ++ (zs ++ R))) ∧ Srt zs ∧ zs.Perm M) ∧ Keep a H H') := by
  obtain ⟨k, rfl⟩ : ∃ j, k = j + 1 := ⟨k - 1, by omega⟩
  have hlen := h.len
  simp only [List.length_append] at hlen
  rw [f98_eq]
  refine call_of_ok ?_
  have e0 : IntKind.i64.wrap ((P.length : Int) + 1) = ((P.length + 1 : Nat) : Int) := by unfold maxLen at hl; rw [IntWalk.i64_in _ (by omega)]; omega
  rw [e0]
  cases M with
  | nil =>
    obtain ⟨k, rfl⟩ : ∃ j, k = j + 1 := ⟨k - 1, by omega⟩
    rw [f98.L1_s]
    exact ok_biff (by simp only [decide_eq_false_iff_not, List.length_nil]; omega) (Ok.ret ⟨rfl, ⟨[], h, .nil, .nil⟩, (Agree.refl H).keep⟩)
  | cons v M =>
    simp only [List.length_cons] at hlen ⊢
    have key := fun D => f98_l1 (k := k) (N := N) (P := P) (R2 := R) (x2 := ((P.length + (M.length + 1) : Nat) : Int)) (Nat.le_of_lt hl) (by omega) M.length [v] M H D k rfl (by omega) (by simpa using h) (List.pairwise_singleton _ _) (by simp only [List.length_cons, List.length_nil]; omega)
    exact key _

theorem len64 (k : Nat) (H : AHeap) (n : Nat) (h : n ≤ 12) : ∃ r, C (k + 1 + 1) 108 [.int .u64 (n : Int)] H = some (.int .i64 r, H) := by
  match n, h with
  | 0, _ => exact ⟨0, by kernel_rfl⟩
  | 1, _ => exact ⟨1, by kernel_rfl⟩
  | 2, _ => exact ⟨2, by kernel_rfl⟩
  | 3, _ => exact ⟨2, by kernel_rfl⟩
  | 4, _ => exact ⟨3, by kernel_rfl⟩
  | 5, _ => exact ⟨3, by kernel_rfl⟩
  | 6, _ => exact ⟨3, by kernel_rfl⟩
  | 7, _ => exact ⟨3, by kernel_rfl⟩
  | 8, _ => exact ⟨4, by kernel_rfl⟩
  | 9, _ => exact ⟨4, by kernel_rfl⟩
  | 10, _ => exact ⟨4, by kernel_rfl⟩
  | 11, _ => exact ⟨4, by kernel_rfl⟩
  | 12, _ => exact ⟨4, by kernel_rfl⟩

/-- slices.Sort of a short slice -/
theorem f83_short {k N : Nat} {a : Option Addr} {l c : Nat} {xs : List Int} {H : AHeap} (hl : l ≤ 12) (hk : 30 ≤ k) (h : Own N 1 H a l c (ints xs)) :
    ∃ H', C k 83 [.slice a l c] H = some (.tuple #[], H') ∧ ((∃ zs, Own N 1 H' a l c (ints zs) ∧ Srt zs ∧ zs.Perm xs) ∧ Keep a H H') := by
  obtain ⟨k, rfl⟩ : ∃ j, k = j + 1 + 1 + 1 + 1 := ⟨k - 4, by omega⟩
  have hlen := h.len
  rw [f83_eq]
  refine call_of_ok ?_
  have ew : IntKind.u64.wrap (l : Int) = (l : Int) := IntWalk.u64_in _ (by omega)
  rw [ew, f97_eq]
  obtain ⟨r, er⟩ := len64 k H l hl
  refine ok_cI0 (n := r) (eq_of_ok (ok_cI0 (n := r) er (Ok.ret rfl))) ?_
  have hM : l < maxLen := by unfold maxLen; omega
  have h0 : Own N 1 H a l c (ints ([] ++ (xs ++ []))) := by simpa using h
  have sp := f98_spec (k := k + 1 + 1) (P := []) (M := xs) (R := []) hM (by omega) h0
  have en : ((([] : List Int).length + xs.length : Nat) : Int) = (l : Int) := by rw [hlen]; simp
  rw [en] at sp
  refine ok_cT1 (g := []) (P := fun H' => (∃ zs, Own N 1 H' a l c (ints zs) ∧ Srt zs ∧ zs.Perm xs) ∧ Keep a H H') ?_ (fun H' hp => Ok.ret ⟨rfl, hp⟩)
  rw [f96_eq]
  refine call_of_ok ?_
  rw [f96.L1_s]
  have e12 : IntKind.i64.wrap ((l : Int) - 0) = (l : Int) := by rw [IntWalk.i64_in _ (by omega)]; omega
  rw [e12]
  refine ok_bift (by simp only [decide_eq_true_eq]; omega) (ok_cT1 (g := []) sp fun H' hp => Ok.ret ⟨rfl, ?_⟩)
  obtain ⟨⟨zs, h1, h2, h3⟩, h4⟩ := hp
  exact ⟨⟨zs, by simpa using h1, h2, h3⟩, h4⟩
end Go.Proofs.MxF
end

section
set_option linter.unusedSimpArgs false
/- Equal neighbours taken out, where the list lies. -/
set_option linter.unusedVariables false
namespace Go.Mx
open Go Go.Proofs
def cmpS (acc : List Int) (v : Int) : List Int := if acc.getLast? = some v then acc else acc ++ [v]
/-- equal neighbours taken out -/
def cmp (xs : List Int) : List Int := xs.foldl cmpS []
theorem cmp_snoc (xs : List Int) (v : Int) : cmp (xs ++ [v]) = cmpS (cmp xs) v := by unfold cmp; rw [List.foldl_append]; rfl
theorem snoc_ind {p : List Int → Prop} (h0 : p []) (h1 : ∀ xs v, p xs → p (xs ++ [v])) : ∀ xs, p xs := by
  intro xs
  have : ∀ n (xs : List Int), xs.length = n → p xs := by
    intro n
    induction n with
    | zero => intro xs h; rw [List.eq_nil_of_length_eq_zero h]; exact h0
    | succ n ih =>
      intro xs h
      have hne : xs ≠ [] := by intro e; subst e; cases h
      rw [← List.dropLast_concat_getLast hne]
      exact h1 _ _ (ih _ (by rw [List.length_dropLast]; omega))
  exact this _ xs rfl
theorem cmp_last (xs : List Int) : (cmp xs).getLast? = xs.getLast? := by
  refine snoc_ind (p := fun xs => (cmp xs).getLast? = xs.getLast?) rfl (fun xs v ih => ?_) xs
  rw [cmp_snoc]
  unfold cmpS
  split
  · next h => rw [h]; simp
  · simp
theorem mem_cmp {xs : List Int} : ∀ {v : Int}, v ∈ cmp xs ↔ v ∈ xs := by
  refine snoc_ind (p := fun xs => ∀ {v : Int}, v ∈ cmp xs ↔ v ∈ xs) (fun {v} => Iff.rfl) (fun xs w ih v => ?_) xs
  rw [cmp_snoc, List.mem_append, List.mem_singleton]
  unfold cmpS
  split
  · next h =>
    rw [ih]
    constructor
    · exact .inl
    · rintro (h1 | rfl)
      · exact h1
      · exact ih.1 (List.mem_of_getLast? h)
  · rw [List.mem_append, List.mem_singleton, ih]
theorem cmp_strict {xs : List Int} : xs.Pairwise (· ≤ ·) → (cmp xs).Pairwise (· < ·) := by
  refine snoc_ind (p := fun xs => xs.Pairwise (· ≤ ·) → (cmp xs).Pairwise (· < ·)) (fun _ => .nil) (fun xs v ih h => ?_) xs
  rw [List.pairwise_append] at h
  rw [cmp_snoc]
  unfold cmpS
  split
  · exact ih h.1
  · next hne =>
    rw [List.pairwise_append]
    refine ⟨ih h.1, List.pairwise_singleton _ _, fun x hx y hy => ?_⟩
    rw [List.mem_singleton] at hy
    subst hy
    have hle := h.2.2 x (mem_cmp.1 hx) y (by simp)
    rcases Int.lt_or_eq_of_le hle with h1 | rfl
    · exact h1
    · exfalso
      -- x is the greatest element, and is in cmp xs: then it is the last one
      have hs := ih h.1
      obtain ⟨z, hz⟩ : ∃ z, (cmp xs).getLast? = some z := by
        cases e : (cmp xs).getLast? with
        | none => rw [List.getLast?_eq_none_iff] at e; rw [e] at hx; cases hx
        | some z => exact ⟨z, rfl⟩
      have hzle : z ≤ x := h.2.2 z (mem_cmp.1 (List.mem_of_getLast? hz)) x (by simp)
      have hne' : cmp xs ≠ [] := by intro e; rw [e] at hx; cases hx
      have hd := List.dropLast_concat_getLast hne'
      have hz' : (cmp xs).getLast hne' = z := by
        rw [List.getLast?_eq_some_getLast hne'] at hz; exact Option.some.inj hz
      rw [hz'] at hd
      rw [← hd, List.mem_append, List.mem_singleton] at hx
      rcases hx with hx | rfl
      · rw [← hd, List.pairwise_append] at hs
        have := hs.2.2 x hx z (by simp)
        omega
      · exact hne hz
theorem cmp_take {xs : List Int} {i : Nat} {v w : Int} (h : xs[i + 1]? = some v) (h' : xs[i]? = some w) : cmp (xs.take (i + 1 + 1)) = if w = v then cmp (xs.take (i + 1)) else cmp (xs.take (i + 1)) ++ [v] := by
  have e : xs.take (i + 1 + 1) = xs.take (i + 1) ++ [v] := by rw [List.take_add_one, h]; rfl
  have e' : xs.take (i + 1) = xs.take i ++ [w] := by rw [List.take_add_one, h']; rfl
  rw [e, cmp_snoc]
  unfold cmpS
  rw [cmp_last, e']
  simp only [List.getLast?_append, List.getLast?_singleton, Option.some_or, Option.some.injEq]
theorem strict_ext : ∀ {xs ys : List Int}, xs.Pairwise (· < ·) → ys.Pairwise (· < ·) → (∀ v, v ∈ xs ↔ v ∈ ys) → xs = ys := by
  intro xs
  induction xs with
  | nil =>
    intro ys _ _ h
    cases ys with
    | nil => rfl
    | cons y ys => have := (h y).2 (by simp); cases this
  | cons x xs ih =>
    intro ys hx hy h
    cases ys with
    | nil => have := (h x).1 (by simp); cases this
    | cons y ys =>
      rw [List.pairwise_cons] at hx hy
      have hxy : x = y := by
        have h1 := (h x).1 (by simp)
        have h2 := (h y).2 (by simp)
        rcases List.mem_cons.1 h1 with e | h1
        · exact e
        · rcases List.mem_cons.1 h2 with e | h2
          · exact e.symm
          · have := hy.1 x h1; have := hx.1 y h2; omega
      subst hxy
      congr 1
      refine ih hx.2 hy.2 fun v => ?_
      constructor
      · intro hv
        rcases List.mem_cons.1 ((h v).1 (List.mem_cons_of_mem _ hv)) with rfl | h3
        · have := hx.1 v hv; omega
        · exact h3
      · intro hv
        rcases List.mem_cons.1 ((h v).2 (List.mem_cons_of_mem _ hv)) with rfl | h3
        · have := hy.1 v hv; omega
        · exact h3
theorem cutLo {a : Option Addr} {l c lo : Nat} (h : lo ≤ l) (hc : l ≤ c) : cutSl 1 a l c (some (lo : Int)) none none = some (a.map fun a => ⟨a.block, a.off + lo * 1, a.spot⟩, l - lo, c - lo) := by
  unfold cutSl cutBounds
  dsimp only
  simp only [Option.getD_some, Option.isSome_none]
  rw [if_pos (by omega)]
  simp
theorem cutHi {a : Option Addr} {l c hi : Nat} (h : hi ≤ l) (hc : l ≤ c) : cutSl 1 a l c none (some (hi : Int)) none = some (a, hi, c) := by
  unfold cutSl cutBounds
  dsimp only
  simp only [Option.getD_none, Option.isSome_none]
  rw [if_pos (by omega)]
  simp
end Go.Mx
end

section
set_option linter.unusedSimpArgs false
/- slices.Compact and lockset.set. -/
set_option linter.unusedVariables false
namespace Go.Proofs.MxF
open Go Go.Mx Go.Proofs
theorem clear26 (H : AHeap) (q : Addr) (n c : Nat) : clearV Try.prog [26] H (.slice (some q) n c) = if n = 0 then some H else H.wr q.block q.off (rep [.int .i64 0] n) := by kernel_rfl
theorem rep_len (v : Value) (n : Nat) : (rep [v] n).length = n := by
  induction n with
  | zero => rfl
  | succ n ih => rw [rep]; simp [ih]
/-- the tail cleared, and the slice cut -/
theorem own_clear {N : Nat} {H : AHeap} {a : Option Addr} {l c k : Nat} {xs : List Int} (h : Own N 1 H a l c (ints xs)) (hk : k ≤ l) {q : Addr} (hq : a = some q) (c' : Nat) :
    ∃ H', clearV Try.prog [26] H (.slice (some ⟨q.block, q.off + k * 1, q.spot⟩) (l - k) c') = some H' ∧ Own N 1 H' a k c (ints (xs.take k)) ∧ Keep a H H' := by
  rw [clear26]
  rcases h.2.2 with ⟨e, e2⟩ | ⟨i, b, e, h0, h1, h2, h3, h4, h5⟩
  · rw [e] at hq; cases hq
  rw [e] at hq
  cases hq
  have hlen := h.1
  have hlc := h.2.1
  have ht : ∀ cells : List Value, cells.take (k * 1) = b.cells.take (k * 1) → cells.take (k * 1) = ints (xs.take k) := by
    intro cells hc
    rw [hc]
    have : ints (xs.take k) = (ints xs).take k := by unfold ints; rw [List.map_take]
    rw [this, ← h5, List.take_take, Nat.mul_one, Nat.mul_one, Nat.min_eq_left hk]
  have hxl : (xs.take k).length = k := by
    have : (ints xs).length = xs.length := by simp [ints]
    rw [List.length_take]
    omega
  by_cases hz : l - k = 0
  · rw [if_pos hz]
    exact ⟨H, rfl, ⟨by simp only [ints, List.length_map, hxl, Nat.mul_one], by omega, .inr ⟨i, b, e, h0, h1, h2, h3, h4, ht _ rfl⟩⟩, (Agree.refl H).keep⟩
  · rw [if_neg hz]
    obtain ⟨H', hw, w1, w2, w3⟩ := wr_at (o := 0 + k * 1) (vs := rep [.int .i64 0] (l - k)) h1 h2 (by rw [rep_len]; omega)
    refine ⟨H', hw, ⟨by simp only [ints, List.length_map, hxl, Nat.mul_one], by omega, .inr ⟨i, _, e, h0, w2, h2, h3, ?_, ht _ ?_⟩⟩, ⟨by omega, fun j hj hne => w3 j fun e1 => hne _ e e1.symm, fun f j hj => ?_⟩⟩
    · show (splice b.cells (0 + k * 1) (rep [.int .i64 0] (l - k))).length = c * 1
      unfold splice
      simp only [List.length_append, List.length_take, List.length_drop, rep_len]
      omega
    · show (splice b.cells (0 + k * 1) (rep [.int .i64 0] (l - k))).take (k * 1) = _
      unfold splice
      rw [List.append_assoc, List.take_append_of_le_length (by rw [List.length_take]; omega), List.take_take, Nat.zero_add, Nat.min_self]
    · rw [w1] at hj
      rw [w3 j (by have := h1.1; omega)]
      exact f j hj

theorem ldoff {H : AHeap} {b : Nat} {o o' : Nat} {x : Int} (h : ldI .i64 H b o = some x) (e : o = o') : ldI .i64 H b o' = some x := by rw [← e]; exact h

theorem f84_l2 {k N : Nat} {a : Option Addr} {l c i0 n1 : Nat} {xs : List Int} {q : Addr} (hq : a = some q) (hq0 : q.off = 0) (hl : l < maxLen) : ∀ (m p w n2 : Nat) (ys : List Int) (H : AHeap) (D : List Value),
    p + m = l → m < n2 → i0 < p → 0 < w → w ≤ p - 1 → xs.length = l → Own N 1 H a l c (ints ys) → ys.take w = cmp (xs.take p) → ys.drop (p - 1) = xs.drop (p - 1) →
    Ok (f84.L2 k n1 n2 a l c (w : Int) (some ⟨q.block, q.off + i0 * 1, q.spot⟩) (l - i0) (c - i0) ((p - i0 : Nat) : Int) D H) fun r => ∃ l', r.1 = .slice a l' c ∧ (Own N 1 r.2 a l' c (ints (cmp xs)) ∧ Keep a H r.2) := by
  intro m
  induction m with
  | zero =>
    intro p w n2 ys H D hm hn hi hw hwp hxl h ht hd
    obtain ⟨n2, rfl⟩ : ∃ j, n2 = j + 1 := ⟨n2 - 1, by omega⟩
    rw [f84.L2_s]
    refine ok_biff (by simp only [decide_eq_false_iff_not]; omega) ?_
    refine ok_bSl (cutLo (by omega) h.2.1) ?_
    obtain ⟨H', e, h1, h2⟩ := own_clear h (k := w) (by omega) hq (c - w)
    subst hq
    refine ok_bind e (ok_bSl (cutHi (by omega) h.2.1) (Ok.ret ⟨w, rfl, ?_, h2⟩))
    rw [ht, List.take_of_length_le (by omega)] at h1
    exact h1
  | succ m ih =>
    intro p w n2 ys H D hm hn hi hw hwp hxl h ht hd
    obtain ⟨n2, rfl⟩ : ∃ j, n2 = j + 1 := ⟨n2 - 1, by omega⟩
    rw [f84.L2_s]
    have hlen := h.len
    obtain ⟨p', rfl⟩ : ∃ p', p = p' + 1 := ⟨p - 1, by omega⟩
    rw [Nat.add_sub_cancel] at hd hwp
    have hy : ∀ j, p' ≤ j → ys[j]? = xs[j]? := by
      intro j hj
      have : (ys.drop p')[j - p']? = (xs.drop p')[j - p']? := by rw [hd]
      rw [List.getElem?_drop, List.getElem?_drop, show p' + (j - p') = j from by omega] at this
      exact this
    have g1 : xs[p' + 1]? = some xs[p' + 1] := List.getElem?_eq_getElem (by omega)
    have g0 : xs[p']? = some xs[p'] := List.getElem?_eq_getElem (by omega)
    have hct := cmp_take g1 g0
    revert g1 g0 hct
    generalize xs[p' + 1] = x
    generalize xs[p'] = y
    intro g1 g0 hct
    rw [← hy (p' + 1) (by omega)] at g1
    rw [← hy p' (by omega)] at g0
    have Ab := agree_bump H 10
    have hb := h.agree Ab
    obtain ⟨s, es, l1, ls, _⟩ := own_get h g1
    rw [hq] at es
    cases es
    obtain ⟨s, es, m1, _⟩ := own_get hb g1
    rw [hq] at es
    cases es
    obtain ⟨s, es, m0, _⟩ := own_get hb g0
    rw [hq] at es
    cases es
    have e1 : (((p' + 1 - i0 : Nat) : Int)).toNat = p' + 1 - i0 := by omega
    have e0 : IntKind.i64.wrap (((p' + 1 - i0 : Nat) : Int) - 1) = ((p' - i0 : Nat) : Int) := by
      unfold maxLen at hl
      rw [IntWalk.i64_in _ (by omega)]; omega
    refine ok_bift (by simp only [decide_eq_true_eq]; omega) (ok_bind rfl (ok_if (by omega) (ok_bift (ls _ Ab) ?_)))
    refine ok_bind (ldoff m1 (by rw [e1]; show q.off + (p' + 1) * 1 = q.off + i0 * 1 + (p' + 1 - i0) * 1; omega)) (ok_bind rfl ?_)
    rw [e0]
    refine ok_if (by omega) (ok_bift (ls _ Ab) (ok_bind (ldoff m0 (by show q.off + p' * 1 = q.off + i0 * 1 + (((p' - i0 : Nat) : Int)).toNat * 1; omega)) ?_))
    have ew : IntKind.i64.wrap (((p' + 1 - i0 : Nat) : Int) + 1) = ((p' + 1 + 1 - i0 : Nat) : Int) := by
      unfold maxLen at hl
      rw [IntWalk.i64_in _ (by omega)]; omega
    have ew2 : IntKind.i64.wrap ((w : Int) + 1) = ((w + 1 : Nat) : Int) := wrapS (l := l) (by omega) (Nat.le_of_lt hl)
    refine ok_bif (fun hc => ?_) (fun hc => ?_)
    · simp only [bne_iff_ne, ne_eq] at hc
      refine ok_bind rfl (ok_if (by omega) (ok_bind (ldoff m1 (by rw [e1]; show q.off + (p' + 1) * 1 = q.off + i0 * 1 + (p' + 1 - i0) * 1; omega)) (ok_bind hq (ok_if (by omega) ?_))))
      obtain ⟨s, H2, es, hwr, h2, k2, n2'⟩ := own_set hb (t := w) (by omega) (.int .i64 x)
      rw [hq] at es
      cases es
      refine ok_bind hwr ?_
      rw [ints_set'] at h2
      rw [ew, ew2]
      have t2 : (ys.set w x).take (w + 1) = cmp (xs.take (p' + 1 + 1)) := by
        rw [hct, if_neg (fun e => hc e.symm), ← ht, List.take_add_one, List.getElem?_set_self (by omega), List.take_set, List.set_eq_of_length_le (by rw [List.length_take]; omega)]
        rfl
      have d2 : (ys.set w x).drop (p' + 1 + 1 - 1) = xs.drop (p' + 1 + 1 - 1) := by
        rw [Nat.add_sub_cancel, List.drop_set_of_lt (by omega)]
        have := congrArg (List.drop 1) hd
        rw [List.drop_drop, List.drop_drop] at this
        exact this
      obtain ⟨r, e, l', r1, r2, r3⟩ := ih (p' + 1 + 1) (w + 1) n2 (ys.set w x) H2 _ (by omega) (by omega) (by omega) (by omega) (by omega) hxl h2 t2 d2
      exact ⟨r, e, l', r1, r2, (Keep.of_agree Ab k2).trans (Orig.refl _ _) r3⟩
    · simp only [bne_eq_false_iff_eq] at hc
      rw [ew]
      have t2 : ys.take w = cmp (xs.take (p' + 1 + 1)) := by rw [hct, if_pos hc.symm]; exact ht
      have d2 : ys.drop (p' + 1 + 1 - 1) = xs.drop (p' + 1 + 1 - 1) := by
        rw [Nat.add_sub_cancel]
        have := congrArg (List.drop 1) hd
        rw [List.drop_drop, List.drop_drop] at this
        exact this
      obtain ⟨r, e, l', r1, r2, r3⟩ := ih (p' + 1 + 1) w n2 ys (H.bump 10) _ (by omega) (by omega) (by omega) (by omega) (by omega) hxl hb t2 d2
      exact ⟨r, e, l', r1, r2, Keep.of_agree Ab r3⟩

theorem f84_l1 {k N : Nat} {a : Option Addr} {l c : Nat} {xs : List Int} (hl : l < maxLen) (hk : l < k) : ∀ (m i n : Nat) (H : AHeap) (D : List Value),
    i + m = l → m < n → 1 ≤ i → Own N 1 H a l c (ints xs) → cmp (xs.take i) = xs.take i →
    Ok (f84.L1 k n a l c (i : Int) D H) fun r => ∃ l', r.1 = .slice a l' c ∧ (Own N 1 r.2 a l' c (ints (cmp xs)) ∧ Keep a H r.2) := by
  intro m
  induction m with
  | zero =>
    intro i n H D hm hn hi h hc
    obtain ⟨n, rfl⟩ : ∃ j, n = j + 1 := ⟨n - 1, by omega⟩
    rw [f84.L1_s]
    refine ok_biff (by simp only [decide_eq_false_iff_not]; omega) (Ok.ret ⟨l, rfl, ?_, (Agree.refl H).keep⟩)
    have := h.len
    rw [List.take_of_length_le (by omega)] at hc
    rw [hc]; exact h
  | succ m ih =>
    intro i n H D hm hn hi h hc
    obtain ⟨n, rfl⟩ : ∃ j, n = j + 1 := ⟨n - 1, by omega⟩
    rw [f84.L1_s]
    have hlen := h.len
    obtain ⟨i, rfl⟩ : ∃ i', i = i' + 1 := ⟨i - 1, by omega⟩
    have g1 : xs[i + 1]? = some xs[i + 1] := List.getElem?_eq_getElem (by omega)
    have g0 : xs[i]? = some xs[i] := List.getElem?_eq_getElem (by omega)
    have hct := cmp_take g1 g0
    have htk : xs.take (i + 1 + 1) = xs.take (i + 1) ++ [xs[i + 1]] := by rw [List.take_add_one, g1]; rfl
    revert g1 g0 hct htk
    generalize xs[i + 1] = x
    generalize xs[i] = y
    intro g1 g0 hct htk
    have Ab := agree_bump H 10
    have hb := h.agree Ab
    obtain ⟨q, eq, l1, ls, hq0, _⟩ := own_get h g1
    obtain ⟨s, es, m1, _⟩ := own_get hb g1
    rw [eq] at es
    cases es
    obtain ⟨s, es, m0, _⟩ := own_get hb g0
    rw [eq] at es
    cases es
    refine ok_bift (by simp only [decide_eq_true_eq]; omega) (ok_bind eq (ok_if (by omega) (ok_bift (ls _ Ab) (ok_bind m1 (ok_bind eq ?_)))))
    rw [wrapP (j := i) (by omega)]
    refine ok_if (by omega) (ok_bift (ls _ Ab) (ok_bind m0 (ok_bif (fun hb' => ?_) (fun hb' => ?_))))
    · rw [beq_iff_eq] at hb'
      subst hb'
      refine ok_bSl (cutLo (by omega) h.2.1) ?_
      rw [eq]
      rw [if_pos rfl] at hct
      have key := fun D => f84_l2 (k := k) (N := N) (a := some q) (l := l) (c := c) (i0 := i + 1) (n1 := n) (xs := xs) (q := q) rfl hq0 hl m (i + 1 + 1) (i + 1) k xs (H.bump 10) D (by omega) (by omega) (by omega) (by omega) (by omega) hlen.symm (by rw [← eq]; exact hb) (by rw [hct, hc]) rfl
      rw [show i + 1 + 1 - (i + 1) = 1 from by omega] at key
      obtain ⟨r, e, l', r1, r2, r3⟩ := key _
      exact ⟨r, e, l', r1, r2, Keep.of_agree Ab r3⟩
    · have hne : ¬ (y = x) := by simp only [beq_eq_false_iff_ne, ne_eq] at hb'; exact fun e => hb' e.symm
      rw [wrapS (i := i + 1) (l := l) (by omega) (Nat.le_of_lt hl)]
      rw [if_neg hne, hc, ← htk] at hct
      obtain ⟨r, e, l', r1, r2, r3⟩ := ih (i + 1 + 1) n (H.bump 10) _ (by omega) (by omega) (by omega) hb hct
      exact ⟨r, e, l', r1, r2, Keep.of_agree Ab r3⟩
theorem cmp_short {xs : List Int} (h : xs.length < 2) : cmp xs = xs := by
  match xs, h with
  | [], _ => rfl
  | [x], _ => rfl
theorem f84_spec {k N : Nat} {a : Option Addr} {l c : Nat} {xs : List Int} {H : AHeap} (hl : l < maxLen) (hk : l + 3 ≤ k) (h : Own N 1 H a l c (ints xs)) :
    ∃ a' l' c' H', C k 84 [.slice a l c] H = some (.slice a' l' c', H') ∧ (a' = a ∧ Own N 1 H' a l' c' (ints (cmp xs)) ∧ Keep a H H') := by
  obtain ⟨k, rfl⟩ : ∃ j, k = j + 1 := ⟨k - 1, by omega⟩
  rw [f84_eq]
  have hlen := h.len
  refine callsl_of_ok (ok_bif (fun hc => Ok.ret ⟨a, l, c, rfl, rfl, ?_, (Agree.refl H).keep⟩) (fun hc => ?_))
  · rw [decide_eq_true_eq] at hc
    rw [cmp_short (by omega)]; exact h
  · rw [decide_eq_false_iff_not] at hc
    have key := fun D => f84_l1 (k := k) (N := N) (xs := xs) hl (by omega) (l - 1) 1 k H D (by omega) (by omega) (by omega) h (cmp_short (by rw [List.length_take]; omega))
    obtain ⟨r, e, l', r1, r2, r3⟩ := key _
    exact ⟨r, e, a, l', c, r1, rfl, r2, r3⟩
end Go.Proofs.MxF
end

section
set_option linter.unusedSimpArgs false
/- Positions in a list of numbers, rearrangements of a part of it, heaps. -/
set_option linter.unusedVariables false
namespace Go.Mx
open Go Go.Proofs
abbrev gI (xs : List Int) (i : Nat) : Int := xs.getD i 0
theorem gI_some {xs : List Int} {i : Nat} (h : i < xs.length) : xs[i]? = some (gI xs i) := by
  rw [gI, List.getD_eq_getElem?_getD, List.getElem?_eq_getElem h]; rfl
theorem gI_set {xs : List Int} {i j : Nat} {v : Int} (h : i < xs.length) : gI (xs.set i v) j = if i = j then v else gI xs j := by
  unfold gI
  rw [List.getD_eq_getElem?_getD, List.getD_eq_getElem?_getD, List.getElem?_set]
  by_cases e : i = j
  · subst e; simp [h]
  · simp [e]
/-- two places exchanged -/
def sw (xs : List Int) (i j : Nat) : List Int := (xs.set i (gI xs j)).set j (gI xs i)
theorem sw_len (xs : List Int) (i j : Nat) : (sw xs i j).length = xs.length := by simp [sw]
theorem gI_sw {xs : List Int} {i j : Nat} (hi : i < xs.length) (hj : j < xs.length) (t : Nat) :
    gI (sw xs i j) t = if t = j then gI xs i else if t = i then gI xs j else gI xs t := by
  rw [sw, gI_set (by simpa using hj), gI_set hi]
  by_cases h1 : t = j
  · subst h1; simp
  · rw [if_neg (fun e => h1 e.symm), if_neg h1]
    by_cases h2 : t = i
    · subst h2; simp
    · rw [if_neg (fun e => h2 e.symm), if_neg h2]
theorem sw_perm {xs : List Int} {i j : Nat} (hi : i < xs.length) (hj : j < xs.length) : (sw xs i j).Perm xs := by
  have h := List.set_set_perm hi hj
  have e1 : gI xs j = xs[j] := by have := gI_some hj; rw [List.getElem?_eq_getElem hj] at this; exact (Option.some.inj this).symm
  have e2 : gI xs i = xs[i] := by have := gI_some hi; rw [List.getElem?_eq_getElem hi] at this; exact (Option.some.inj this).symm
  rw [sw, e1, e2]; exact h
/-- ys is xs with the part from lo to hi rearranged -/
structure Mov (lo hi : Nat) (xs ys : List Int) : Prop where
  len : ys.length = xs.length
  out : ∀ i, ¬(lo ≤ i ∧ i < hi) → gI ys i = gI xs i
  perm : ys.Perm xs
  mem : ∀ i, lo ≤ i → i < hi → ∃ j, lo ≤ j ∧ j < hi ∧ gI ys i = gI xs j
theorem Mov.refl (lo hi : Nat) (xs : List Int) : Mov lo hi xs xs := ⟨rfl, fun _ _ => rfl, .refl _, fun i h1 h2 => ⟨i, h1, h2, rfl⟩⟩
theorem Mov.trans {lo hi : Nat} {xs ys zs : List Int} (h : Mov lo hi xs ys) (h' : Mov lo hi ys zs) : Mov lo hi xs zs where
  len := h'.len.trans h.len
  out i hi := (h'.out i hi).trans (h.out i hi)
  perm := h'.perm.trans h.perm
  mem i h1 h2 := by
    obtain ⟨j, a, b, e⟩ := h'.mem i h1 h2
    obtain ⟨t, c, d, e'⟩ := h.mem j a b
    exact ⟨t, c, d, e.trans e'⟩
theorem Mov.wide {lo hi lo' hi' : Nat} {xs ys : List Int} (h : Mov lo hi xs ys) (h1 : lo' ≤ lo) (h2 : hi ≤ hi') : Mov lo' hi' xs ys where
  len := h.len
  out i hi := h.out i (by omega)
  perm := h.perm
  mem i a b := by
    by_cases hc : lo ≤ i ∧ i < hi
    · obtain ⟨j, c, d, e⟩ := h.mem i hc.1 hc.2
      exact ⟨j, by omega, by omega, e⟩
    · exact ⟨i, a, b, h.out i hc⟩
theorem Mov.sw {lo hi : Nat} {xs : List Int} {i j : Nat} (hi1 : lo ≤ i) (hi2 : i < hi) (hj1 : lo ≤ j) (hj2 : j < hi) (hl : hi ≤ xs.length) : Mov lo hi xs (sw xs i j) where
  len := sw_len _ _ _
  out t ht := by rw [gI_sw (by omega) (by omega), if_neg (by rintro rfl; exact ht ⟨hj1, hj2⟩), if_neg (by rintro rfl; exact ht ⟨hi1, hi2⟩)]
  perm := sw_perm (by omega) (by omega)
  mem t a b := by
    rw [gI_sw (by omega) (by omega)]
    by_cases h1 : t = j
    · exact ⟨i, hi1, hi2, by rw [if_pos h1]⟩
    · by_cases h2 : t = i
      · exact ⟨j, hj1, hj2, by rw [if_neg h1, if_pos h2]⟩
      · exact ⟨t, a, b, by rw [if_neg h1, if_neg h2]⟩
theorem Mov.all {lo hi : Nat} {xs ys : List Int} {p : Int → Prop} (h : Mov lo hi xs ys) (hp : ∀ i, lo ≤ i → i < hi → p (gI xs i)) (i : Nat) (h1 : lo ≤ i) (h2 : i < hi) : p (gI ys i) := by
  obtain ⟨j, a, b, e⟩ := h.mem i h1 h2
  rw [e]; exact hp j a b
/-- sorted from lo to hi -/
def Up (lo hi : Nat) (xs : List Int) : Prop := ∀ i j, lo ≤ i → i ≤ j → j < hi → gI xs i ≤ gI xs j
theorem Up.srt {xs : List Int} {n : Nat} (h : Up 0 n xs) (hn : xs.length ≤ n) : xs.Pairwise (· ≤ ·) := by
  rw [List.pairwise_iff_getElem]
  intro i j hi hj hij
  have := h i j (by omega) (by omega) (by omega)
  have e1 := gI_some hi
  have e2 := gI_some hj
  rw [List.getElem?_eq_getElem hi] at e1
  rw [List.getElem?_eq_getElem hj] at e2
  rw [Option.some.inj e1, Option.some.inj e2]; exact this
/-- the middle of three parts, as positions -/
theorem mov_parts {P M zs R : List Int} (h : zs.Perm M) : Mov P.length (P.length + M.length) (P ++ (M ++ R)) (P ++ (zs ++ R)) := by
  have hl : zs.length = M.length := h.length_eq
  have hg : ∀ (L : List Int), L.length = M.length → ∀ i, gI (P ++ (L ++ R)) i = if i < P.length then gI P i else if i - P.length < M.length then gI L (i - P.length) else gI R (i - P.length - M.length) := by
    intro L e i
    unfold gI
    simp only [List.getD_eq_getElem?_getD]
    by_cases h1 : i < P.length
    · rw [List.getElem?_append_left h1, if_pos h1]
    · rw [List.getElem?_append_right (by omega), if_neg h1]
      by_cases h2 : i - P.length < M.length
      · rw [List.getElem?_append_left (by omega), if_pos h2]
      · rw [List.getElem?_append_right (by omega), if_neg h2, e]
  refine ⟨by simp [hl], fun i hi => ?_, List.Perm.append_left _ (h.append_right _), fun i h1 h2 => ?_⟩
  · rw [hg zs hl, hg M rfl]
    by_cases h1 : i < P.length
    · rw [if_pos h1, if_pos h1]
    · rw [if_neg h1, if_neg h1, if_neg (by omega), if_neg (by omega)]
  · have hx : gI zs (i - P.length) ∈ M := by
      refine h.mem_iff.1 ?_
      have := gI_some (xs := zs) (i := i - P.length) (by omega)
      exact List.mem_of_getElem? this
    obtain ⟨t, ht, e⟩ := List.mem_iff_getElem.1 hx
    refine ⟨P.length + t, by omega, by omega, ?_⟩
    rw [hg zs hl, hg M rfl, if_neg (by omega), if_pos (by omega), if_neg (by omega), if_pos (by omega), ← e]
    have e2 := gI_some ht
    rw [List.getElem?_eq_getElem ht] at e2
    rw [show P.length + t - P.length = t from by omega]
    exact Option.some.inj e2
theorem up_parts {P zs R : List Int} (h : zs.Pairwise (· ≤ ·)) : Up P.length (P.length + zs.length) (P ++ (zs ++ R)) := by
  intro i j h1 h2 h3
  have hg : ∀ t, P.length ≤ t → t < P.length + zs.length → gI (P ++ (zs ++ R)) t = gI zs (t - P.length) := by
    intro t a b
    unfold gI
    simp only [List.getD_eq_getElem?_getD]
    rw [List.getElem?_append_right (by omega), List.getElem?_append_left (by omega)]
  rw [hg i h1 (by omega), hg j (by omega) h3]
  by_cases e : i = j
  · subst e; exact Int.le_refl _
  · have hi : i - P.length < zs.length := by omega
    have hj : j - P.length < zs.length := by omega
    have := (List.pairwise_iff_getElem.1 h) (i - P.length) (j - P.length) hi hj (by omega)
    have e1 := gI_some hi
    have e2 := gI_some hj
    rw [List.getElem?_eq_getElem hi] at e1
    rw [List.getElem?_eq_getElem hj] at e2
    rw [← Option.some.inj e1, ← Option.some.inj e2]; exact this
/-- a heap of the places f + lo .. f + hi - 1, from number lo on -/
def Hp (f lo hi : Nat) (xs : List Int) : Prop := ∀ i c, lo ≤ i → (c = 2 * i + 1 ∨ c = 2 * i + 2) → c < hi → gI xs (f + c) ≤ gI xs (f + i)
/-- a heap but at r; what is above r is above r's children -/
def Hx (f lo hi r : Nat) (xs : List Int) : Prop :=
  (∀ i c, lo ≤ i → i ≠ r → (c = 2 * i + 1 ∨ c = 2 * i + 2) → c < hi → gI xs (f + c) ≤ gI xs (f + i)) ∧
  ∀ p c, lo ≤ p → (r = 2 * p + 1 ∨ r = 2 * p + 2) → (c = 2 * r + 1 ∨ c = 2 * r + 2) → c < hi → gI xs (f + c) ≤ gI xs (f + p)
theorem Hp.hx {f lo hi : Nat} {xs : List Int} (h : Hp f (lo + 1) hi xs) : Hx f lo hi lo xs :=
  ⟨fun i c h1 h2 h3 h4 => h i c (by omega) h3 h4, fun p c h1 h2 => by omega⟩
theorem Hx.done {f lo hi r : Nat} {xs : List Int} (h : Hx f lo hi r xs) (hc : ∀ c, (c = 2 * r + 1 ∨ c = 2 * r + 2) → c < hi → gI xs (f + c) ≤ gI xs (f + r)) : Hp f lo hi xs := by
  intro i c h1 h2 h3
  by_cases e : i = r
  · subst e; exact hc c h2 h3
  · exact h.1 i c h1 e h2 h3
theorem Hx.step {f lo hi r d : Nat} {xs : List Int} (h : Hx f lo hi r xs) (hr : lo ≤ r) (hd : d = 2 * r + 1 ∨ d = 2 * r + 2) (hh : d < hi) (hl : f + hi ≤ xs.length)
    (hmax : ∀ c, (c = 2 * r + 1 ∨ c = 2 * r + 2) → c < hi → gI xs (f + c) ≤ gI xs (f + d)) (hgt : gI xs (f + r) ≤ gI xs (f + d)) : Hx f lo hi d (sw xs (f + r) (f + d)) := by
  have hg : ∀ t, gI (sw xs (f + r) (f + d)) (f + t) = if t = d then gI xs (f + r) else if t = r then gI xs (f + d) else gI xs (f + t) := by
    intro t
    rw [gI_sw (by omega) (by omega)]
    by_cases h1 : t = d
    · rw [if_pos (by omega), if_pos h1]
    · rw [if_neg (by omega), if_neg h1]
      by_cases h2 : t = r
      · rw [if_pos (by omega), if_pos h2]
      · rw [if_neg (by omega), if_neg h2]
  constructor
  · intro i c h1 h2 h3 h4
    rw [hg, hg, if_neg h2]
    by_cases e : i = r
    · subst e
      rw [if_pos rfl]
      by_cases e1 : c = d
      · rw [if_pos e1]; exact hgt
      · rw [if_neg e1, if_neg (by omega)]; exact hmax c h3 h4
    · rw [if_neg e]
      by_cases e1 : c = d
      · exfalso; omega
      · rw [if_neg e1]
        by_cases e2 : c = r
        · rw [if_pos e2]; subst e2; exact h.2 i d h1 h3 hd hh
        · rw [if_neg e2]; exact h.1 i c h1 e h3 h4
  · intro p c h1 h2 h3 h4
    have ep : p = r := by omega
    subst ep
    rw [hg, hg, if_neg (by omega), if_neg (by omega), if_neg (by omega), if_pos rfl]
    exact h.1 d c (by omega) (by omega) h3 h4
theorem Hp.top {f hi : Nat} {xs : List Int} (h : Hp f 0 hi xs) : ∀ (n i : Nat), i < n → i < hi → gI xs (f + i) ≤ gI xs (f + 0) := by
  intro n
  induction n with
  | zero => intro i hi; omega
  | succ n ih =>
    intro i h1 h2
    by_cases e : i = 0
    · subst e; exact Int.le_refl _
    · have h3 := h ((i - 1) / 2) i (by omega) (by omega) h2
      exact Int.le_trans h3 (ih ((i - 1) / 2) (by omega) (by omega))
end Go.Mx
end

section
set_option linter.unusedSimpArgs false
/- Functions of the program as the machine comes to them: printed by a program of this workplace (px.py); the kernel checks each line. -/
set_option linter.unusedVariables false
namespace Go.Proofs.MxF
open Go Go.Mx Go.Proofs

/- f100 "slices.breakPatternsOrdered[int]"  names:  -/
noncomputable def f100.Q0 (k : Nat)  : Kont (Value × AHeap) := retQ Try.prog Try.f100
noncomputable def f100.Q1 (k : Nat)  : Kont (Value × AHeap) := blkQ 0 (f100.Q0 k )
noncomputable def f100.Q2 (k : Nat) (n1 : Nat) : Kont (Value × AHeap) := seqQ (iter (run Try.prog (C k) k (Sub (bodyOf Try.f100) [1, 1, 0, 1, 1, 1, 0, 0])) (f100.Q1 k ) n1) (f100.Q1 k )
noncomputable def f100.Q3 (k : Nat) (n1 : Nat) : Kont (Value × AHeap) := seqQ (gateC (Sub (bodyOf Try.f100) [1, 1, 0, 1, 1, 1, 0, 0, 1, 0]) (Sub (bodyOf Try.f100) [1, 1, 0, 1, 1, 1, 0, 0, 1, 1]) k (run Try.prog (C k) k (Sub (bodyOf Try.f100) [1, 1, 0, 1, 1, 1, 0, 0, 1, 1]) (f100.Q2 k n1))) (f100.Q2 k n1)
noncomputable def f100.Q4 (k : Nat) (n1 : Nat) : Kont (Value × AHeap) := blkQ 1 (f100.Q3 k n1)
noncomputable def f100.L1 (k : Nat) (n1 : Nat) (a0 : Option Addr) (l0 : Nat) (c0 : Nat) (x1 : Int) (x6 : Int) (p7 : Nat) (x8 : Int) (x9 : Int) (D : List Value) (H : AHeap) : Option (Value × AHeap) :=
  iter (run Try.prog (C k) k (Sub (bodyOf Try.f100) [1, 1, 0, 1, 1, 1, 0, 0])) (f100.Q1 k ) n1 [.slice a0 l0 c0, .int .i64 x1, (D.getD 0 undef), undef, undef, undef, .int .i64 x6, .pointer (some ⟨p7, 0, none⟩), .int .u64 x8, .int .i64 x9, (D.getD 1 undef), (D.getD 2 undef), (D.getD 3 undef), (D.getD 4 undef), (D.getD 5 undef), (D.getD 6 undef), (D.getD 7 undef), (D.getD 8 undef), (D.getD 9 undef), (D.getD 10 undef), (D.getD 11 undef), (D.getD 12 undef), (D.getD 13 undef), (D.getD 14 undef), (D.getD 15 undef), (D.getD 16 undef), (D.getD 17 undef), (D.getD 18 undef), (D.getD 19 undef), (D.getD 20 undef), (D.getD 21 undef), (D.getD 22 undef), (D.getD 23 undef), (D.getD 24 undef), (D.getD 25 undef), (D.getD 26 undef), (D.getD 27 undef), (D.getD 28 undef), (D.getD 29 undef), (D.getD 30 undef), (D.getD 31 undef), (D.getD 32 undef), (D.getD 33 undef), (D.getD 34 undef), (D.getD 35 undef), (D.getD 36 undef), (D.getD 37 undef), (D.getD 38 undef), (D.getD 39 undef), (D.getD 40 undef), (D.getD 41 undef), (D.getD 42 undef), (D.getD 43 undef), (D.getD 44 undef), (D.getD 45 undef), (D.getD 46 undef), (D.getD 47 undef), (D.getD 48 undef), (D.getD 49 undef), (D.getD 50 undef), (D.getD 51 undef), (D.getD 52 undef), (D.getD 53 undef), (D.getD 54 undef), (D.getD 55 undef)] H
noncomputable def f100.K1 (k : Nat) (n1 : Nat) (a0 : Option Addr) (l0 : Nat) (c0 : Nat) (x1 : Int) (x6 : Int) (p7 : Nat) (x8 : Int) (x9 : Int) (x10 : Int) (D : List Value) (H : AHeap) : Option (Value × AHeap) :=
  gateC (Sub (bodyOf Try.f100) [1, 1, 0, 1, 1, 1, 0, 0, 1, 0, 0, 1, 0]) (Sub (bodyOf Try.f100) [1, 1, 0, 1, 1, 1, 0, 0, 1, 0, 0, 1, 1]) k (run Try.prog (C k) k (Sub (bodyOf Try.f100) [1, 1, 0, 1, 1, 1, 0, 0, 1, 0, 0, 1, 1]) (f100.Q4 k n1)) [.slice a0 l0 c0, .int .i64 x1, (D.getD 0 undef), undef, undef, undef, .int .i64 x6, .pointer (some ⟨p7, 0, none⟩), .int .u64 x8, .int .i64 x9, .int .i64 x10, (D.getD 1 undef), (D.getD 2 undef), (D.getD 3 undef), (D.getD 4 undef), (D.getD 5 undef), (D.getD 6 undef), (D.getD 7 undef), (D.getD 8 undef), (D.getD 9 undef), (D.getD 10 undef), (D.getD 11 undef), (D.getD 12 undef), (D.getD 13 undef), (D.getD 14 undef), (D.getD 15 undef), (D.getD 16 undef), (D.getD 17 undef), (D.getD 18 undef), (D.getD 19 undef), (D.getD 20 undef), (D.getD 21 undef), (D.getD 22 undef), (D.getD 23 undef), (D.getD 24 undef), (D.getD 25 undef), (D.getD 26 undef), (D.getD 27 undef), (D.getD 28 undef), (D.getD 29 undef), (D.getD 30 undef), (D.getD 31 undef), (D.getD 32 undef), (D.getD 33 undef), (D.getD 34 undef), (D.getD 35 undef), (D.getD 36 undef), (D.getD 37 undef), (D.getD 38 undef), (D.getD 39 undef), (D.getD 40 undef), (D.getD 41 undef), (D.getD 42 undef), (D.getD 43 undef), (D.getD 44 undef), (D.getD 45 undef), (D.getD 46 undef), (D.getD 47 undef), (D.getD 48 undef), (D.getD 49 undef), (D.getD 50 undef), (D.getD 51 undef), (D.getD 52 undef), (D.getD 53 undef), (D.getD 54 undef)] H
theorem f100.L1_z (k : Nat)  (a0 : Option Addr) (l0 : Nat) (c0 : Nat) (x1 : Int) (x6 : Int) (p7 : Nat) (x8 : Int) (x9 : Int) (D : List Value) (H : AHeap) : f100.L1 k 0 a0 l0 c0 x1 x6 p7 x8 x9 D H = none := by kernel_rfl
theorem f100.L1_s (k : Nat) (n1 : Nat) (a0 : Option Addr) (l0 : Nat) (c0 : Nat) (x1 : Int) (x6 : Int) (p7 : Nat) (x8 : Int) (x9 : Int) (D : List Value) (H : AHeap) : f100.L1 k (n1 + 1) a0 l0 c0 x1 x6 p7 x8 x9 D H =
  (bif (decide (x9 ≤ (IntKind.i64.wrap ((IntKind.i64.wrap (x1 + (IntKind.i64.wrap ((IntKind.i64.wrap (x6.tdiv (4 : Int))) * (2 : Int))))) + (1 : Int))))) then
   cI .u64 (C k 111 [.pointer (some ⟨p7, 0, none⟩)] H) fun x H_1 =>
   bif (decide ((IntKind.i64.wrap (IntKind.u64.wrap (((BitVec.ofInt (IntKind.u64.bits) x &&& BitVec.ofInt (IntKind.u64.bits) (IntKind.u64.wrap (x8 - (1 : Int)))).toNat : Int)))) ≥ x6)) then
   f100.K1 k n1 a0 l0 c0 x1 x6 p7 x8 x9 (IntKind.i64.wrap ((IntKind.i64.wrap (IntKind.u64.wrap (((BitVec.ofInt (IntKind.u64.bits) x &&& BitVec.ofInt (IntKind.u64.bits) (IntKind.u64.wrap (x8 - (1 : Int)))).toNat : Int)))) - x6)) [(D.getD 0 undef), (D.getD 2 undef), (D.getD 3 undef), (D.getD 4 undef), (D.getD 5 undef), (D.getD 6 undef), (D.getD 7 undef), (D.getD 8 undef), (D.getD 9 undef), (D.getD 10 undef), (D.getD 11 undef), (D.getD 12 undef), (D.getD 13 undef), (D.getD 14 undef), (D.getD 15 undef), (D.getD 16 undef), .int .i64 x9, .int .i64 x1, .int .i64 x6, .int .i64 (IntKind.i64.wrap (x6.tdiv (4 : Int))), .int .i64 (IntKind.i64.wrap ((IntKind.i64.wrap (x6.tdiv (4 : Int))) * (2 : Int))), .int .i64 (IntKind.i64.wrap (x1 + (IntKind.i64.wrap ((IntKind.i64.wrap (x6.tdiv (4 : Int))) * (2 : Int))))), .int .i64 (IntKind.i64.wrap ((IntKind.i64.wrap (x1 + (IntKind.i64.wrap ((IntKind.i64.wrap (x6.tdiv (4 : Int))) * (2 : Int))))) + (1 : Int))), .bool (decide (x9 ≤ (IntKind.i64.wrap ((IntKind.i64.wrap (x1 + (IntKind.i64.wrap ((IntKind.i64.wrap (x6.tdiv (4 : Int))) * (2 : Int))))) + (1 : Int))))), (D.getD 25 undef), (D.getD 26 undef), .int .u64 x, .int .u64 x8, .int .u64 (IntKind.u64.wrap (x8 - (1 : Int))), .int .u64 (IntKind.u64.wrap (((BitVec.ofInt (IntKind.u64.bits) x &&& BitVec.ofInt (IntKind.u64.bits) (IntKind.u64.wrap (x8 - (1 : Int)))).toNat : Int))), .int .i64 (IntKind.i64.wrap (IntKind.u64.wrap (((BitVec.ofInt (IntKind.u64.bits) x &&& BitVec.ofInt (IntKind.u64.bits) (IntKind.u64.wrap (x8 - (1 : Int)))).toNat : Int)))), .int .i64 (IntKind.i64.wrap (IntKind.u64.wrap (((BitVec.ofInt (IntKind.u64.bits) x &&& BitVec.ofInt (IntKind.u64.bits) (IntKind.u64.wrap (x8 - (1 : Int)))).toNat : Int)))), .int .i64 x6, .bool (decide ((IntKind.i64.wrap (IntKind.u64.wrap (((BitVec.ofInt (IntKind.u64.bits) x &&& BitVec.ofInt (IntKind.u64.bits) (IntKind.u64.wrap (x8 - (1 : Int)))).toNat : Int)))) ≥ x6)), .int .i64 (IntKind.i64.wrap (IntKind.u64.wrap (((BitVec.ofInt (IntKind.u64.bits) x &&& BitVec.ofInt (IntKind.u64.bits) (IntKind.u64.wrap (x8 - (1 : Int)))).toNat : Int)))), .int .i64 x6, .int .i64 (IntKind.i64.wrap ((IntKind.i64.wrap (IntKind.u64.wrap (((BitVec.ofInt (IntKind.u64.bits) x &&& BitVec.ofInt (IntKind.u64.bits) (IntKind.u64.wrap (x8 - (1 : Int)))).toNat : Int)))) - x6)), (D.getD 38 undef), (D.getD 39 undef), (D.getD 40 undef), (D.getD 41 undef), (D.getD 42 undef), (D.getD 43 undef), (D.getD 44 undef), (D.getD 45 undef), (D.getD 46 undef), (D.getD 47 undef), (D.getD 48 undef), (D.getD 49 undef), (D.getD 50 undef), (D.getD 51 undef), (D.getD 52 undef), (D.getD 53 undef), (D.getD 54 undef), (D.getD 55 undef)] H_1
   else
   f100.K1 k n1 a0 l0 c0 x1 x6 p7 x8 x9 (IntKind.i64.wrap (IntKind.u64.wrap (((BitVec.ofInt (IntKind.u64.bits) x &&& BitVec.ofInt (IntKind.u64.bits) (IntKind.u64.wrap (x8 - (1 : Int)))).toNat : Int)))) [(D.getD 0 undef), (D.getD 2 undef), (D.getD 3 undef), (D.getD 4 undef), (D.getD 5 undef), (D.getD 6 undef), (D.getD 7 undef), (D.getD 8 undef), (D.getD 9 undef), (D.getD 10 undef), (D.getD 11 undef), (D.getD 12 undef), (D.getD 13 undef), (D.getD 14 undef), (D.getD 15 undef), (D.getD 16 undef), .int .i64 x9, .int .i64 x1, .int .i64 x6, .int .i64 (IntKind.i64.wrap (x6.tdiv (4 : Int))), .int .i64 (IntKind.i64.wrap ((IntKind.i64.wrap (x6.tdiv (4 : Int))) * (2 : Int))), .int .i64 (IntKind.i64.wrap (x1 + (IntKind.i64.wrap ((IntKind.i64.wrap (x6.tdiv (4 : Int))) * (2 : Int))))), .int .i64 (IntKind.i64.wrap ((IntKind.i64.wrap (x1 + (IntKind.i64.wrap ((IntKind.i64.wrap (x6.tdiv (4 : Int))) * (2 : Int))))) + (1 : Int))), .bool (decide (x9 ≤ (IntKind.i64.wrap ((IntKind.i64.wrap (x1 + (IntKind.i64.wrap ((IntKind.i64.wrap (x6.tdiv (4 : Int))) * (2 : Int))))) + (1 : Int))))), (D.getD 25 undef), (D.getD 26 undef), .int .u64 x, .int .u64 x8, .int .u64 (IntKind.u64.wrap (x8 - (1 : Int))), .int .u64 (IntKind.u64.wrap (((BitVec.ofInt (IntKind.u64.bits) x &&& BitVec.ofInt (IntKind.u64.bits) (IntKind.u64.wrap (x8 - (1 : Int)))).toNat : Int))), .int .i64 (IntKind.i64.wrap (IntKind.u64.wrap (((BitVec.ofInt (IntKind.u64.bits) x &&& BitVec.ofInt (IntKind.u64.bits) (IntKind.u64.wrap (x8 - (1 : Int)))).toNat : Int)))), .int .i64 (IntKind.i64.wrap (IntKind.u64.wrap (((BitVec.ofInt (IntKind.u64.bits) x &&& BitVec.ofInt (IntKind.u64.bits) (IntKind.u64.wrap (x8 - (1 : Int)))).toNat : Int)))), .int .i64 x6, .bool (decide ((IntKind.i64.wrap (IntKind.u64.wrap (((BitVec.ofInt (IntKind.u64.bits) x &&& BitVec.ofInt (IntKind.u64.bits) (IntKind.u64.wrap (x8 - (1 : Int)))).toNat : Int)))) ≥ x6)), (D.getD 35 undef), (D.getD 36 undef), (D.getD 37 undef), (D.getD 38 undef), (D.getD 39 undef), (D.getD 40 undef), (D.getD 41 undef), (D.getD 42 undef), (D.getD 43 undef), (D.getD 44 undef), (D.getD 45 undef), (D.getD 46 undef), (D.getD 47 undef), (D.getD 48 undef), (D.getD 49 undef), (D.getD 50 undef), (D.getD 51 undef), (D.getD 52 undef), (D.getD 53 undef), (D.getD 54 undef), (D.getD 55 undef)] H_1
   else
   some (.tuple #[], H)) := by kernel_rfl
theorem f100.K1_eq (k : Nat) (n1 : Nat) (a0 : Option Addr) (l0 : Nat) (c0 : Nat) (x1 : Int) (x6 : Int) (p7 : Nat) (x8 : Int) (x9 : Int) (x10 : Int) (D : List Value) (H : AHeap) : f100.K1 k n1 a0 l0 c0 x1 x6 p7 x8 x9 x10 D H =
  (a0.bind fun q =>
   if 0 ≤ (IntKind.i64.wrap (x1 + x10)) ∧ (IntKind.i64.wrap (x1 + x10)) < (l0 : Int) then
   bif sameB H (H.bump 20) q.block then
   (ldI .i64 (H.bump 20) q.block (q.off + (IntKind.i64.wrap (x1 + x10)).toNat * 1)).bind fun x =>
   a0.bind fun q_1 =>
   if 0 ≤ x9 ∧ x9 < (l0 : Int) then
   bif sameB H (H.bump 20) q_1.block then
   (ldI .i64 (H.bump 20) q_1.block (q_1.off + x9.toNat * 1)).bind fun x_1 =>
   a0.bind fun q_2 =>
   if 0 ≤ x9 ∧ x9 < (l0 : Int) then
   (AHeap.wr (H.bump 20) q_2.block (q_2.off + x9.toNat * 1) [.int .i64 x]).bind fun H_1 =>
   a0.bind fun q_3 =>
   if 0 ≤ (IntKind.i64.wrap (x1 + x10)) ∧ (IntKind.i64.wrap (x1 + x10)) < (l0 : Int) then
   (AHeap.wr H_1 q_3.block (q_3.off + (IntKind.i64.wrap (x1 + x10)).toNat * 1) [.int .i64 x_1]).bind fun H_2 =>
   f100.L1 k n1 a0 l0 c0 x1 x6 p7 x8 (IntKind.i64.wrap (x9 + (1 : Int))) [(D.getD 0 undef), .int .i64 x10, (D.getD 1 undef), (D.getD 2 undef), (D.getD 3 undef), (D.getD 4 undef), (D.getD 5 undef), (D.getD 6 undef), (D.getD 7 undef), (D.getD 8 undef), (D.getD 9 undef), (D.getD 10 undef), (D.getD 11 undef), (D.getD 12 undef), (D.getD 13 undef), (D.getD 14 undef), (D.getD 15 undef), (D.getD 16 undef), (D.getD 17 undef), (D.getD 18 undef), (D.getD 19 undef), (D.getD 20 undef), (D.getD 21 undef), (D.getD 22 undef), (D.getD 23 undef), .int .i64 x9, .int .i64 (IntKind.i64.wrap (x9 + (1 : Int))), (D.getD 26 undef), (D.getD 27 undef), (D.getD 28 undef), (D.getD 29 undef), (D.getD 30 undef), (D.getD 31 undef), (D.getD 32 undef), (D.getD 33 undef), (D.getD 34 undef), (D.getD 35 undef), (D.getD 36 undef), .slice a0 l0 c0, .int .i64 x9, .slice a0 l0 c0, .int .i64 x1, .int .i64 x10, .int .i64 (IntKind.i64.wrap (x1 + x10)), .slice a0 l0 c0, .int .i64 x1, .int .i64 x10, .int .i64 (IntKind.i64.wrap (x1 + x10)), .pointer (some ⟨q.block, q.off + (IntKind.i64.wrap (x1 + x10)).toNat * 1, none⟩), .int .i64 x, .slice a0 l0 c0, .int .i64 x9, .pointer (some ⟨q_1.block, q_1.off + x9.toNat * 1, none⟩), .int .i64 x_1, .pointer (some ⟨q_2.block, q_2.off + x9.toNat * 1, none⟩), .pointer (some ⟨q_3.block, q_3.off + (IntKind.i64.wrap (x1 + x10)).toNat * 1, none⟩)] H_2
   else none
   else none
   else none
   else none
   else none
   else none) := by
  unfold f100.K1
  rw [gateC_eq]
  kernel_rfl
theorem f100_eq (k : Nat) (a0 : Option Addr) (l0 : Nat) (c0 : Nat) (x1 : Int) (x2 : Int) (H : AHeap) : C (k + 1) 100 [.slice a0 l0 c0, .int .i64 x1, .int .i64 x2] H =
  (bif (decide ((IntKind.i64.wrap (x2 - x1)) ≥ (8 : Int))) then
   alK none H ⟨[.int .u64 0], 0, .rw, 0⟩ fun i H_1 =>
   (AHeap.wr H_1 i (0) [.int .u64 (IntKind.u64.wrap (IntKind.i64.wrap (x2 - x1)))]).bind fun H_2 =>
   cI .u64 (C k 110 [.int .i64 (IntKind.i64.wrap (x2 - x1))] H_2) fun x H_3 =>
   f100.L1 k k a0 l0 c0 x1 (IntKind.i64.wrap (x2 - x1)) i x (IntKind.i64.wrap ((IntKind.i64.wrap (x1 + (IntKind.i64.wrap ((IntKind.i64.wrap ((IntKind.i64.wrap (x2 - x1)).tdiv (4 : Int))) * (2 : Int))))) - (1 : Int))) [.int .i64 x2, undef, .int .i64 x2, .int .i64 x1, .int .i64 (IntKind.i64.wrap (x2 - x1)), .int .i64 (IntKind.i64.wrap (x2 - x1)), .bool (decide ((IntKind.i64.wrap (x2 - x1)) ≥ (8 : Int))), .int .i64 (IntKind.i64.wrap (x2 - x1)), .int .u64 (IntKind.u64.wrap (IntKind.i64.wrap (x2 - x1))), .int .i64 (IntKind.i64.wrap (x2 - x1)), .int .u64 x, .int .i64 x1, .int .i64 (IntKind.i64.wrap (x2 - x1)), .int .i64 (IntKind.i64.wrap ((IntKind.i64.wrap (x2 - x1)).tdiv (4 : Int))), .int .i64 (IntKind.i64.wrap ((IntKind.i64.wrap ((IntKind.i64.wrap (x2 - x1)).tdiv (4 : Int))) * (2 : Int))), .int .i64 (IntKind.i64.wrap (x1 + (IntKind.i64.wrap ((IntKind.i64.wrap ((IntKind.i64.wrap (x2 - x1)).tdiv (4 : Int))) * (2 : Int))))), .int .i64 (IntKind.i64.wrap ((IntKind.i64.wrap (x1 + (IntKind.i64.wrap ((IntKind.i64.wrap ((IntKind.i64.wrap (x2 - x1)).tdiv (4 : Int))) * (2 : Int))))) - (1 : Int))), undef, undef, undef, undef, undef, undef, undef, undef, undef, undef, undef, undef, undef, undef, undef, undef, undef, undef, undef, undef, undef, undef, undef, undef, undef, undef, undef, undef, undef, undef, undef, undef, undef, undef, undef, undef, undef, undef, undef] H_3
   else
   some (.tuple #[], H)) := by kernel_rfl

/- f101 "slices.choosePivotOrdered[int]"  names: 0:data 1:a 2:b 3:data 4:a 5:b 6:pivot 7:hint 8:l 9:swaps 10:i 11:j 12:k -/
noncomputable def f101.Q0 (k : Nat)  : Kont (Value × AHeap) := retQ Try.prog Try.f101
noncomputable def f101.K1 (k : Nat)  (p9 : Nat) (x11 : Int) (D : List Value) (H : AHeap) : Option (Value × AHeap) :=
  gateC (Sub (bodyOf Try.f101) [1, 1, 1, 1, 1, 1, 0]) (Sub (bodyOf Try.f101) [1, 1, 1, 1, 1, 1, 1]) k (run Try.prog (C k) k (Sub (bodyOf Try.f101) [1, 1, 1, 1, 1, 1, 1]) (f101.Q0 k )) [(D.getD 0 undef), (D.getD 1 undef), (D.getD 2 undef), undef, undef, undef, (D.getD 3 undef), (D.getD 4 undef), (D.getD 5 undef), .pointer (some ⟨p9, 0, none⟩), (D.getD 6 undef), .int .i64 x11, (D.getD 7 undef), (D.getD 8 undef), (D.getD 9 undef), (D.getD 10 undef), (D.getD 11 undef), (D.getD 12 undef), (D.getD 13 undef), (D.getD 14 undef), (D.getD 15 undef), (D.getD 16 undef), (D.getD 17 undef), (D.getD 18 undef), (D.getD 19 undef), (D.getD 20 undef), (D.getD 21 undef), (D.getD 22 undef), (D.getD 23 undef), (D.getD 24 undef), (D.getD 25 undef), (D.getD 26 undef), (D.getD 27 undef), (D.getD 28 undef), (D.getD 29 undef), (D.getD 30 undef), (D.getD 31 undef), (D.getD 32 undef), (D.getD 33 undef), (D.getD 34 undef), (D.getD 35 undef), (D.getD 36 undef), (D.getD 37 undef), (D.getD 38 undef), (D.getD 39 undef), (D.getD 40 undef), (D.getD 41 undef), (D.getD 42 undef), (D.getD 43 undef), undef, undef, undef, undef, undef, undef, undef, undef] H
theorem f101.K1_eq (k : Nat)  (p9 : Nat) (x11 : Int) (D : List Value) (H : AHeap) : f101.K1 k  p9 x11 D H =
  ((ldI .i64 H p9 (0)).bind fun x =>
   bif (x == (0 : Int)) then
   some (.tuple #[.int .i64 x11, .int .i64 1], H)
   else
   bif (x == (12 : Int)) then
   some (.tuple #[.int .i64 x11, .int .i64 2], H)
   else
   some (.tuple #[.int .i64 x11, .int .i64 0], H)) := by
  unfold f101.K1
  rw [gateC_eq]
  kernel_rfl
theorem f101_eq (k : Nat) (a0 : Option Addr) (l0 : Nat) (c0 : Nat) (x1 : Int) (x2 : Int) (H : AHeap) : C (k + 1) 101 [.slice a0 l0 c0, .int .i64 x1, .int .i64 x2] H =
  (alK none H ⟨[.int .i64 0], 0, .rw, 0⟩ fun i H_1 =>
   bif (decide ((IntKind.i64.wrap (x2 - x1)) ≥ (8 : Int))) then
   bif (decide ((IntKind.i64.wrap (x2 - x1)) ≥ (50 : Int))) then
   cI .i64 (C k 112 [.slice a0 l0 c0, .int .i64 (IntKind.i64.wrap (x1 + (IntKind.i64.wrap ((IntKind.i64.wrap ((IntKind.i64.wrap (x2 - x1)).tdiv (4 : Int))) * (1 : Int))))), .pointer (some ⟨i, 0, none⟩)] H_1) fun x H_2 =>
   cI .i64 (C k 112 [.slice a0 l0 c0, .int .i64 (IntKind.i64.wrap (x1 + (IntKind.i64.wrap ((IntKind.i64.wrap ((IntKind.i64.wrap (x2 - x1)).tdiv (4 : Int))) * (2 : Int))))), .pointer (some ⟨i, 0, none⟩)] H_2) fun x_1 H_3 =>
   cI .i64 (C k 112 [.slice a0 l0 c0, .int .i64 (IntKind.i64.wrap (x1 + (IntKind.i64.wrap ((IntKind.i64.wrap ((IntKind.i64.wrap (x2 - x1)).tdiv (4 : Int))) * (3 : Int))))), .pointer (some ⟨i, 0, none⟩)] H_3) fun x_2 H_4 =>
   cI .i64 (C k 113 [.slice a0 l0 c0, .int .i64 x, .int .i64 x_1, .int .i64 x_2, .pointer (some ⟨i, 0, none⟩)] H_4) fun x_3 H_5 =>
   f101.K1 k i x_3 [.slice a0 l0 c0, .int .i64 x1, .int .i64 x2, .int .i64 0, .int .i64 0, .int .i64 (IntKind.i64.wrap (x2 - x1)), .int .i64 x, .int .i64 x_2, .int .i64 x2, .int .i64 x1, .int .i64 (IntKind.i64.wrap (x2 - x1)), .int .i64 x1, .int .i64 (IntKind.i64.wrap (x2 - x1)), .int .i64 (IntKind.i64.wrap ((IntKind.i64.wrap (x2 - x1)).tdiv (4 : Int))), .int .i64 (IntKind.i64.wrap ((IntKind.i64.wrap ((IntKind.i64.wrap (x2 - x1)).tdiv (4 : Int))) * (1 : Int))), .int .i64 (IntKind.i64.wrap (x1 + (IntKind.i64.wrap ((IntKind.i64.wrap ((IntKind.i64.wrap (x2 - x1)).tdiv (4 : Int))) * (1 : Int))))), .int .i64 x1, .int .i64 (IntKind.i64.wrap (x2 - x1)), .int .i64 (IntKind.i64.wrap ((IntKind.i64.wrap (x2 - x1)).tdiv (4 : Int))), .int .i64 (IntKind.i64.wrap ((IntKind.i64.wrap ((IntKind.i64.wrap (x2 - x1)).tdiv (4 : Int))) * (2 : Int))), .int .i64 (IntKind.i64.wrap (x1 + (IntKind.i64.wrap ((IntKind.i64.wrap ((IntKind.i64.wrap (x2 - x1)).tdiv (4 : Int))) * (2 : Int))))), .int .i64 x1, .int .i64 (IntKind.i64.wrap (x2 - x1)), .int .i64 (IntKind.i64.wrap ((IntKind.i64.wrap (x2 - x1)).tdiv (4 : Int))), .int .i64 (IntKind.i64.wrap ((IntKind.i64.wrap ((IntKind.i64.wrap (x2 - x1)).tdiv (4 : Int))) * (3 : Int))), .int .i64 (IntKind.i64.wrap (x1 + (IntKind.i64.wrap ((IntKind.i64.wrap ((IntKind.i64.wrap (x2 - x1)).tdiv (4 : Int))) * (3 : Int))))), .int .i64 (IntKind.i64.wrap (x2 - x1)), .bool (decide ((IntKind.i64.wrap (x2 - x1)) ≥ (8 : Int))), .int .i64 (IntKind.i64.wrap (x2 - x1)), .bool (decide ((IntKind.i64.wrap (x2 - x1)) ≥ (50 : Int))), .slice a0 l0 c0, .int .i64 (IntKind.i64.wrap (x1 + (IntKind.i64.wrap ((IntKind.i64.wrap ((IntKind.i64.wrap (x2 - x1)).tdiv (4 : Int))) * (1 : Int))))), .int .i64 x, .slice a0 l0 c0, .int .i64 (IntKind.i64.wrap (x1 + (IntKind.i64.wrap ((IntKind.i64.wrap ((IntKind.i64.wrap (x2 - x1)).tdiv (4 : Int))) * (2 : Int))))), .int .i64 x_1, .slice a0 l0 c0, .int .i64 (IntKind.i64.wrap (x1 + (IntKind.i64.wrap ((IntKind.i64.wrap ((IntKind.i64.wrap (x2 - x1)).tdiv (4 : Int))) * (3 : Int))))), .int .i64 x_2, .slice a0 l0 c0, .int .i64 x, .int .i64 x_1, .int .i64 x_2, .int .i64 x_3] H_5
   else
   cI .i64 (C k 113 [.slice a0 l0 c0, .int .i64 (IntKind.i64.wrap (x1 + (IntKind.i64.wrap ((IntKind.i64.wrap ((IntKind.i64.wrap (x2 - x1)).tdiv (4 : Int))) * (1 : Int))))), .int .i64 (IntKind.i64.wrap (x1 + (IntKind.i64.wrap ((IntKind.i64.wrap ((IntKind.i64.wrap (x2 - x1)).tdiv (4 : Int))) * (2 : Int))))), .int .i64 (IntKind.i64.wrap (x1 + (IntKind.i64.wrap ((IntKind.i64.wrap ((IntKind.i64.wrap (x2 - x1)).tdiv (4 : Int))) * (3 : Int))))), .pointer (some ⟨i, 0, none⟩)] H_1) fun x_4 H_6 =>
   f101.K1 k i x_4 [.slice a0 l0 c0, .int .i64 x1, .int .i64 x2, .int .i64 0, .int .i64 0, .int .i64 (IntKind.i64.wrap (x2 - x1)), .int .i64 (IntKind.i64.wrap (x1 + (IntKind.i64.wrap ((IntKind.i64.wrap ((IntKind.i64.wrap (x2 - x1)).tdiv (4 : Int))) * (1 : Int))))), .int .i64 (IntKind.i64.wrap (x1 + (IntKind.i64.wrap ((IntKind.i64.wrap ((IntKind.i64.wrap (x2 - x1)).tdiv (4 : Int))) * (3 : Int))))), .int .i64 x2, .int .i64 x1, .int .i64 (IntKind.i64.wrap (x2 - x1)), .int .i64 x1, .int .i64 (IntKind.i64.wrap (x2 - x1)), .int .i64 (IntKind.i64.wrap ((IntKind.i64.wrap (x2 - x1)).tdiv (4 : Int))), .int .i64 (IntKind.i64.wrap ((IntKind.i64.wrap ((IntKind.i64.wrap (x2 - x1)).tdiv (4 : Int))) * (1 : Int))), .int .i64 (IntKind.i64.wrap (x1 + (IntKind.i64.wrap ((IntKind.i64.wrap ((IntKind.i64.wrap (x2 - x1)).tdiv (4 : Int))) * (1 : Int))))), .int .i64 x1, .int .i64 (IntKind.i64.wrap (x2 - x1)), .int .i64 (IntKind.i64.wrap ((IntKind.i64.wrap (x2 - x1)).tdiv (4 : Int))), .int .i64 (IntKind.i64.wrap ((IntKind.i64.wrap ((IntKind.i64.wrap (x2 - x1)).tdiv (4 : Int))) * (2 : Int))), .int .i64 (IntKind.i64.wrap (x1 + (IntKind.i64.wrap ((IntKind.i64.wrap ((IntKind.i64.wrap (x2 - x1)).tdiv (4 : Int))) * (2 : Int))))), .int .i64 x1, .int .i64 (IntKind.i64.wrap (x2 - x1)), .int .i64 (IntKind.i64.wrap ((IntKind.i64.wrap (x2 - x1)).tdiv (4 : Int))), .int .i64 (IntKind.i64.wrap ((IntKind.i64.wrap ((IntKind.i64.wrap (x2 - x1)).tdiv (4 : Int))) * (3 : Int))), .int .i64 (IntKind.i64.wrap (x1 + (IntKind.i64.wrap ((IntKind.i64.wrap ((IntKind.i64.wrap (x2 - x1)).tdiv (4 : Int))) * (3 : Int))))), .int .i64 (IntKind.i64.wrap (x2 - x1)), .bool (decide ((IntKind.i64.wrap (x2 - x1)) ≥ (8 : Int))), .int .i64 (IntKind.i64.wrap (x2 - x1)), .bool (decide ((IntKind.i64.wrap (x2 - x1)) ≥ (50 : Int))), undef, undef, undef, undef, undef, undef, undef, undef, undef, .slice a0 l0 c0, .int .i64 (IntKind.i64.wrap (x1 + (IntKind.i64.wrap ((IntKind.i64.wrap ((IntKind.i64.wrap (x2 - x1)).tdiv (4 : Int))) * (1 : Int))))), .int .i64 (IntKind.i64.wrap (x1 + (IntKind.i64.wrap ((IntKind.i64.wrap ((IntKind.i64.wrap (x2 - x1)).tdiv (4 : Int))) * (2 : Int))))), .int .i64 (IntKind.i64.wrap (x1 + (IntKind.i64.wrap ((IntKind.i64.wrap ((IntKind.i64.wrap (x2 - x1)).tdiv (4 : Int))) * (3 : Int))))), .int .i64 x_4] H_6
   else
   f101.K1 k i (IntKind.i64.wrap (x1 + (IntKind.i64.wrap ((IntKind.i64.wrap ((IntKind.i64.wrap (x2 - x1)).tdiv (4 : Int))) * (2 : Int))))) [.slice a0 l0 c0, .int .i64 x1, .int .i64 x2, .int .i64 0, .int .i64 0, .int .i64 (IntKind.i64.wrap (x2 - x1)), .int .i64 (IntKind.i64.wrap (x1 + (IntKind.i64.wrap ((IntKind.i64.wrap ((IntKind.i64.wrap (x2 - x1)).tdiv (4 : Int))) * (1 : Int))))), .int .i64 (IntKind.i64.wrap (x1 + (IntKind.i64.wrap ((IntKind.i64.wrap ((IntKind.i64.wrap (x2 - x1)).tdiv (4 : Int))) * (3 : Int))))), .int .i64 x2, .int .i64 x1, .int .i64 (IntKind.i64.wrap (x2 - x1)), .int .i64 x1, .int .i64 (IntKind.i64.wrap (x2 - x1)), .int .i64 (IntKind.i64.wrap ((IntKind.i64.wrap (x2 - x1)).tdiv (4 : Int))), .int .i64 (IntKind.i64.wrap ((IntKind.i64.wrap ((IntKind.i64.wrap (x2 - x1)).tdiv (4 : Int))) * (1 : Int))), .int .i64 (IntKind.i64.wrap (x1 + (IntKind.i64.wrap ((IntKind.i64.wrap ((IntKind.i64.wrap (x2 - x1)).tdiv (4 : Int))) * (1 : Int))))), .int .i64 x1, .int .i64 (IntKind.i64.wrap (x2 - x1)), .int .i64 (IntKind.i64.wrap ((IntKind.i64.wrap (x2 - x1)).tdiv (4 : Int))), .int .i64 (IntKind.i64.wrap ((IntKind.i64.wrap ((IntKind.i64.wrap (x2 - x1)).tdiv (4 : Int))) * (2 : Int))), .int .i64 (IntKind.i64.wrap (x1 + (IntKind.i64.wrap ((IntKind.i64.wrap ((IntKind.i64.wrap (x2 - x1)).tdiv (4 : Int))) * (2 : Int))))), .int .i64 x1, .int .i64 (IntKind.i64.wrap (x2 - x1)), .int .i64 (IntKind.i64.wrap ((IntKind.i64.wrap (x2 - x1)).tdiv (4 : Int))), .int .i64 (IntKind.i64.wrap ((IntKind.i64.wrap ((IntKind.i64.wrap (x2 - x1)).tdiv (4 : Int))) * (3 : Int))), .int .i64 (IntKind.i64.wrap (x1 + (IntKind.i64.wrap ((IntKind.i64.wrap ((IntKind.i64.wrap (x2 - x1)).tdiv (4 : Int))) * (3 : Int))))), .int .i64 (IntKind.i64.wrap (x2 - x1)), .bool (decide ((IntKind.i64.wrap (x2 - x1)) ≥ (8 : Int))), undef, undef, undef, undef, undef, undef, undef, undef, undef, undef, undef, undef, undef, undef, undef, undef] H_1) := by kernel_rfl

/- f102 "slices.reverseRangeOrdered[int]"  names: 0:data 1:a 2:b 3:data 4:a 5:b 6:i 7:j -/
noncomputable def f102.Q0 (k : Nat)  : Kont (Value × AHeap) := retQ Try.prog Try.f102
noncomputable def f102.Q1 (k : Nat)  : Kont (Value × AHeap) := blkQ 0 (f102.Q0 k )
noncomputable def f102.L1 (k : Nat) (n1 : Nat) (a0 : Option Addr) (l0 : Nat) (c0 : Nat) (x6 : Int) (x7 : Int) (D : List Value) (H : AHeap) : Option (Value × AHeap) :=
  iter (run Try.prog (C k) k (Sub (bodyOf Try.f102) [1, 1, 0, 0])) (f102.Q1 k ) n1 [.slice a0 l0 c0, (D.getD 0 undef), (D.getD 1 undef), undef, undef, undef, .int .i64 x6, .int .i64 x7, (D.getD 2 undef), (D.getD 3 undef), (D.getD 4 undef), (D.getD 5 undef), (D.getD 6 undef), (D.getD 7 undef), (D.getD 8 undef), (D.getD 9 undef), (D.getD 10 undef), (D.getD 11 undef), (D.getD 12 undef), (D.getD 13 undef), (D.getD 14 undef), (D.getD 15 undef), (D.getD 16 undef), (D.getD 17 undef), (D.getD 18 undef), (D.getD 19 undef), (D.getD 20 undef), (D.getD 21 undef), (D.getD 22 undef), (D.getD 23 undef), (D.getD 24 undef), (D.getD 25 undef)] H
theorem f102.L1_z (k : Nat)  (a0 : Option Addr) (l0 : Nat) (c0 : Nat) (x6 : Int) (x7 : Int) (D : List Value) (H : AHeap) : f102.L1 k 0 a0 l0 c0 x6 x7 D H = none := by kernel_rfl
theorem f102.L1_s (k : Nat) (n1 : Nat) (a0 : Option Addr) (l0 : Nat) (c0 : Nat) (x6 : Int) (x7 : Int) (D : List Value) (H : AHeap) : f102.L1 k (n1 + 1) a0 l0 c0 x6 x7 D H =
  (bif (decide (x6 < x7)) then
   a0.bind fun q =>
   if 0 ≤ x7 ∧ x7 < (l0 : Int) then
   bif sameB H (H.bump 16) q.block then
   (ldI .i64 (H.bump 16) q.block (q.off + x7.toNat * 1)).bind fun x =>
   a0.bind fun q_1 =>
   if 0 ≤ x6 ∧ x6 < (l0 : Int) then
   bif sameB H (H.bump 16) q_1.block then
   (ldI .i64 (H.bump 16) q_1.block (q_1.off + x6.toNat * 1)).bind fun x_1 =>
   a0.bind fun q_2 =>
   if 0 ≤ x6 ∧ x6 < (l0 : Int) then
   (AHeap.wr (H.bump 16) q_2.block (q_2.off + x6.toNat * 1) [.int .i64 x]).bind fun H_1 =>
   a0.bind fun q_3 =>
   if 0 ≤ x7 ∧ x7 < (l0 : Int) then
   (AHeap.wr H_1 q_3.block (q_3.off + x7.toNat * 1) [.int .i64 x_1]).bind fun H_2 =>
   f102.L1 k n1 a0 l0 c0 (IntKind.i64.wrap (x6 + (1 : Int))) (IntKind.i64.wrap (x7 - (1 : Int))) [(D.getD 0 undef), (D.getD 1 undef), (D.getD 2 undef), (D.getD 3 undef), (D.getD 4 undef), .int .i64 x6, .int .i64 x7, .bool (decide (x6 < x7)), .slice a0 l0 c0, .int .i64 x6, .slice a0 l0 c0, .int .i64 x7, .slice a0 l0 c0, .int .i64 x7, .pointer (some ⟨q.block, q.off + x7.toNat * 1, none⟩), .int .i64 x, .slice a0 l0 c0, .int .i64 x6, .pointer (some ⟨q_1.block, q_1.off + x6.toNat * 1, none⟩), .int .i64 x_1, .pointer (some ⟨q_2.block, q_2.off + x6.toNat * 1, none⟩), .pointer (some ⟨q_3.block, q_3.off + x7.toNat * 1, none⟩), .int .i64 x6, .int .i64 (IntKind.i64.wrap (x6 + (1 : Int))), .int .i64 x7, .int .i64 (IntKind.i64.wrap (x7 - (1 : Int)))] H_2
   else none
   else none
   else none
   else none
   else none
   else none
   else
   some (.tuple #[], H)) := by kernel_rfl
theorem f102_eq (k : Nat) (a0 : Option Addr) (l0 : Nat) (c0 : Nat) (x1 : Int) (x2 : Int) (H : AHeap) : C (k + 1) 102 [.slice a0 l0 c0, .int .i64 x1, .int .i64 x2] H =
  (f102.L1 k k a0 l0 c0 x1 (IntKind.i64.wrap (x2 - (1 : Int))) [.int .i64 x1, .int .i64 x2, .int .i64 x1, .int .i64 x2, .int .i64 (IntKind.i64.wrap (x2 - (1 : Int))), undef, undef, undef, undef, undef, undef, undef, undef, undef, undef, undef, undef, undef, undef, undef, undef, undef, undef, undef, undef, undef] H) := by kernel_rfl

/- f109 "slices.siftDownOrdered[int]"  names:  -/
noncomputable def f109.Q0 (k : Nat)  : Kont (Value × AHeap) := retQ Try.prog Try.f109
noncomputable def f109.Q1 (k : Nat)  : Kont (Value × AHeap) := blkQ 0 (f109.Q0 k )
noncomputable def f109.Q2 (k : Nat) (n1 : Nat) : Kont (Value × AHeap) := seqQ (iter (run Try.prog (C k) k (Sub (bodyOf Try.f109) [1, 0, 0])) (f109.Q1 k ) n1) (f109.Q1 k )
noncomputable def f109.Q3 (k : Nat) (n1 : Nat) : Kont (Value × AHeap) := blkQ 1 (f109.Q2 k n1)
noncomputable def f109.L1 (k : Nat) (n1 : Nat) (a0 : Option Addr) (l0 : Nat) (c0 : Nat) (x2 : Int) (x3 : Int) (x8 : Int) (D : List Value) (H : AHeap) : Option (Value × AHeap) :=
  iter (run Try.prog (C k) k (Sub (bodyOf Try.f109) [1, 0, 0])) (f109.Q1 k ) n1 [.slice a0 l0 c0, (D.getD 0 undef), .int .i64 x2, .int .i64 x3, undef, undef, undef, undef, .int .i64 x8, (D.getD 1 undef), (D.getD 2 undef), (D.getD 3 undef), (D.getD 4 undef), (D.getD 5 undef), (D.getD 6 undef), (D.getD 7 undef), (D.getD 8 undef), (D.getD 9 undef), (D.getD 10 undef), (D.getD 11 undef), (D.getD 12 undef), (D.getD 13 undef), (D.getD 14 undef), (D.getD 15 undef), (D.getD 16 undef), (D.getD 17 undef), (D.getD 18 undef), (D.getD 19 undef), (D.getD 20 undef), (D.getD 21 undef), (D.getD 22 undef), (D.getD 23 undef), (D.getD 24 undef), (D.getD 25 undef), (D.getD 26 undef), (D.getD 27 undef), (D.getD 28 undef), (D.getD 29 undef), (D.getD 30 undef), (D.getD 31 undef), (D.getD 32 undef), (D.getD 33 undef), (D.getD 34 undef), (D.getD 35 undef), (D.getD 36 undef), (D.getD 37 undef), (D.getD 38 undef), (D.getD 39 undef), (D.getD 40 undef), (D.getD 41 undef), (D.getD 42 undef), (D.getD 43 undef), (D.getD 44 undef), (D.getD 45 undef), (D.getD 46 undef), (D.getD 47 undef), (D.getD 48 undef), (D.getD 49 undef), (D.getD 50 undef), (D.getD 51 undef), (D.getD 52 undef), (D.getD 53 undef), (D.getD 54 undef), (D.getD 55 undef), (D.getD 56 undef), (D.getD 57 undef), (D.getD 58 undef), (D.getD 59 undef), (D.getD 60 undef), (D.getD 61 undef), (D.getD 62 undef), (D.getD 63 undef), (D.getD 64 undef), (D.getD 65 undef), (D.getD 66 undef), (D.getD 67 undef)] H
noncomputable def f109.K1 (k : Nat) (n1 : Nat) (a0 : Option Addr) (l0 : Nat) (c0 : Nat) (x2 : Int) (x3 : Int) (x8 : Int) (x9 : Int) (D : List Value) (H : AHeap) : Option (Value × AHeap) :=
  gateC (Sub (bodyOf Try.f109) [1, 0, 0, 0, 1, 1, 0]) (Sub (bodyOf Try.f109) [1, 0, 0, 0, 1, 1, 1]) k (run Try.prog (C k) k (Sub (bodyOf Try.f109) [1, 0, 0, 0, 1, 1, 1]) (f109.Q3 k n1)) [.slice a0 l0 c0, (D.getD 0 undef), .int .i64 x2, .int .i64 x3, undef, undef, undef, undef, .int .i64 x8, .int .i64 x9, (D.getD 1 undef), (D.getD 2 undef), (D.getD 3 undef), (D.getD 4 undef), (D.getD 5 undef), (D.getD 6 undef), (D.getD 7 undef), (D.getD 8 undef), (D.getD 9 undef), (D.getD 10 undef), (D.getD 11 undef), (D.getD 12 undef), (D.getD 13 undef), (D.getD 14 undef), (D.getD 15 undef), (D.getD 16 undef), (D.getD 17 undef), (D.getD 18 undef), (D.getD 19 undef), (D.getD 20 undef), (D.getD 21 undef), (D.getD 22 undef), (D.getD 23 undef), (D.getD 24 undef), (D.getD 25 undef), (D.getD 26 undef), (D.getD 27 undef), (D.getD 28 undef), (D.getD 29 undef), (D.getD 30 undef), (D.getD 31 undef), (D.getD 32 undef), (D.getD 33 undef), (D.getD 34 undef), (D.getD 35 undef), (D.getD 36 undef), (D.getD 37 undef), (D.getD 38 undef), (D.getD 39 undef), (D.getD 40 undef), (D.getD 41 undef), (D.getD 42 undef), (D.getD 43 undef), (D.getD 44 undef), (D.getD 45 undef), (D.getD 46 undef), (D.getD 47 undef), (D.getD 48 undef), (D.getD 49 undef), (D.getD 50 undef), (D.getD 51 undef), (D.getD 52 undef), (D.getD 53 undef), (D.getD 54 undef), (D.getD 55 undef), (D.getD 56 undef), (D.getD 57 undef), (D.getD 58 undef), (D.getD 59 undef), (D.getD 60 undef), (D.getD 61 undef), (D.getD 62 undef), (D.getD 63 undef), (D.getD 64 undef), (D.getD 65 undef), (D.getD 66 undef)] H
theorem f109.L1_z (k : Nat)  (a0 : Option Addr) (l0 : Nat) (c0 : Nat) (x2 : Int) (x3 : Int) (x8 : Int) (D : List Value) (H : AHeap) : f109.L1 k 0 a0 l0 c0 x2 x3 x8 D H = none := by kernel_rfl
theorem f109.L1_s (k : Nat) (n1 : Nat) (a0 : Option Addr) (l0 : Nat) (c0 : Nat) (x2 : Int) (x3 : Int) (x8 : Int) (D : List Value) (H : AHeap) : f109.L1 k (n1 + 1) a0 l0 c0 x2 x3 x8 D H =
  (bif (decide ((IntKind.i64.wrap ((IntKind.i64.wrap ((2 : Int) * x8)) + (1 : Int))) ≥ x2)) then
   some (.tuple #[], H)
   else
   bif (decide ((IntKind.i64.wrap ((IntKind.i64.wrap ((IntKind.i64.wrap ((2 : Int) * x8)) + (1 : Int))) + (1 : Int))) < x2)) then
   a0.bind fun q =>
   if 0 ≤ (IntKind.i64.wrap (x3 + (IntKind.i64.wrap ((IntKind.i64.wrap ((2 : Int) * x8)) + (1 : Int))))) ∧ (IntKind.i64.wrap (x3 + (IntKind.i64.wrap ((IntKind.i64.wrap ((2 : Int) * x8)) + (1 : Int))))) < (l0 : Int) then
   bif sameB H (H.bump 20) q.block then
   (ldI .i64 (H.bump 20) q.block (q.off + (IntKind.i64.wrap (x3 + (IntKind.i64.wrap ((IntKind.i64.wrap ((2 : Int) * x8)) + (1 : Int))))).toNat * 1)).bind fun x =>
   a0.bind fun q_1 =>
   if 0 ≤ (IntKind.i64.wrap ((IntKind.i64.wrap (x3 + (IntKind.i64.wrap ((IntKind.i64.wrap ((2 : Int) * x8)) + (1 : Int))))) + (1 : Int))) ∧ (IntKind.i64.wrap ((IntKind.i64.wrap (x3 + (IntKind.i64.wrap ((IntKind.i64.wrap ((2 : Int) * x8)) + (1 : Int))))) + (1 : Int))) < (l0 : Int) then
   bif sameB H (H.bump 20) q_1.block then
   (ldI .i64 (H.bump 20) q_1.block (q_1.off + (IntKind.i64.wrap ((IntKind.i64.wrap (x3 + (IntKind.i64.wrap ((IntKind.i64.wrap ((2 : Int) * x8)) + (1 : Int))))) + (1 : Int))).toNat * 1)).bind fun x_1 =>
   cB (C k 104 [.int .i64 x, .int .i64 x_1] (H.bump 20)) fun b H_1 =>
   bif b then
   f109.K1 k n1 a0 l0 c0 x2 x3 x8 (IntKind.i64.wrap ((IntKind.i64.wrap ((IntKind.i64.wrap ((2 : Int) * x8)) + (1 : Int))) + (1 : Int))) [(D.getD 0 undef), (D.getD 2 undef), .int .i64 x8, .int .i64 (IntKind.i64.wrap ((2 : Int) * x8)), .int .i64 (IntKind.i64.wrap ((IntKind.i64.wrap ((2 : Int) * x8)) + (1 : Int))), .int .i64 (IntKind.i64.wrap ((IntKind.i64.wrap ((2 : Int) * x8)) + (1 : Int))), .int .i64 x2, .bool (decide ((IntKind.i64.wrap ((IntKind.i64.wrap ((2 : Int) * x8)) + (1 : Int))) ≥ x2)), .int .i64 (IntKind.i64.wrap ((IntKind.i64.wrap ((2 : Int) * x8)) + (1 : Int))), .int .i64 (IntKind.i64.wrap ((IntKind.i64.wrap ((IntKind.i64.wrap ((2 : Int) * x8)) + (1 : Int))) + (1 : Int))), .int .i64 x2, .bool (decide ((IntKind.i64.wrap ((IntKind.i64.wrap ((IntKind.i64.wrap ((2 : Int) * x8)) + (1 : Int))) + (1 : Int))) < x2)), .bool true, .slice a0 l0 c0, .int .i64 x3, .int .i64 (IntKind.i64.wrap ((IntKind.i64.wrap ((2 : Int) * x8)) + (1 : Int))), .int .i64 (IntKind.i64.wrap (x3 + (IntKind.i64.wrap ((IntKind.i64.wrap ((2 : Int) * x8)) + (1 : Int))))), .pointer (some ⟨q.block, q.off + (IntKind.i64.wrap (x3 + (IntKind.i64.wrap ((IntKind.i64.wrap ((2 : Int) * x8)) + (1 : Int))))).toNat * 1, none⟩), .int .i64 x, .slice a0 l0 c0, .int .i64 x3, .int .i64 (IntKind.i64.wrap ((IntKind.i64.wrap ((2 : Int) * x8)) + (1 : Int))), .int .i64 (IntKind.i64.wrap (x3 + (IntKind.i64.wrap ((IntKind.i64.wrap ((2 : Int) * x8)) + (1 : Int))))), .int .i64 (IntKind.i64.wrap ((IntKind.i64.wrap (x3 + (IntKind.i64.wrap ((IntKind.i64.wrap ((2 : Int) * x8)) + (1 : Int))))) + (1 : Int))), .pointer (some ⟨q_1.block, q_1.off + (IntKind.i64.wrap ((IntKind.i64.wrap (x3 + (IntKind.i64.wrap ((IntKind.i64.wrap ((2 : Int) * x8)) + (1 : Int))))) + (1 : Int))).toNat * 1, none⟩), .int .i64 x_1, .bool b, .bool b, .int .i64 (IntKind.i64.wrap ((IntKind.i64.wrap ((2 : Int) * x8)) + (1 : Int))), .int .i64 (IntKind.i64.wrap ((IntKind.i64.wrap ((IntKind.i64.wrap ((2 : Int) * x8)) + (1 : Int))) + (1 : Int))), (D.getD 31 undef), (D.getD 32 undef), (D.getD 33 undef), (D.getD 34 undef), (D.getD 35 undef), (D.getD 36 undef), (D.getD 37 undef), (D.getD 38 undef), (D.getD 39 undef), (D.getD 40 undef), (D.getD 41 undef), (D.getD 42 undef), (D.getD 43 undef), (D.getD 44 undef), (D.getD 45 undef), (D.getD 46 undef), (D.getD 47 undef), (D.getD 48 undef), (D.getD 49 undef), (D.getD 50 undef), (D.getD 51 undef), (D.getD 52 undef), (D.getD 53 undef), (D.getD 54 undef), (D.getD 55 undef), (D.getD 56 undef), (D.getD 57 undef), (D.getD 58 undef), (D.getD 59 undef), (D.getD 60 undef), (D.getD 61 undef), (D.getD 62 undef), (D.getD 63 undef), (D.getD 64 undef), (D.getD 65 undef), (D.getD 66 undef), (D.getD 67 undef)] H_1
   else
   f109.K1 k n1 a0 l0 c0 x2 x3 x8 (IntKind.i64.wrap ((IntKind.i64.wrap ((2 : Int) * x8)) + (1 : Int))) [(D.getD 0 undef), (D.getD 2 undef), .int .i64 x8, .int .i64 (IntKind.i64.wrap ((2 : Int) * x8)), .int .i64 (IntKind.i64.wrap ((IntKind.i64.wrap ((2 : Int) * x8)) + (1 : Int))), .int .i64 (IntKind.i64.wrap ((IntKind.i64.wrap ((2 : Int) * x8)) + (1 : Int))), .int .i64 x2, .bool (decide ((IntKind.i64.wrap ((IntKind.i64.wrap ((2 : Int) * x8)) + (1 : Int))) ≥ x2)), .int .i64 (IntKind.i64.wrap ((IntKind.i64.wrap ((2 : Int) * x8)) + (1 : Int))), .int .i64 (IntKind.i64.wrap ((IntKind.i64.wrap ((IntKind.i64.wrap ((2 : Int) * x8)) + (1 : Int))) + (1 : Int))), .int .i64 x2, .bool (decide ((IntKind.i64.wrap ((IntKind.i64.wrap ((IntKind.i64.wrap ((2 : Int) * x8)) + (1 : Int))) + (1 : Int))) < x2)), .bool true, .slice a0 l0 c0, .int .i64 x3, .int .i64 (IntKind.i64.wrap ((IntKind.i64.wrap ((2 : Int) * x8)) + (1 : Int))), .int .i64 (IntKind.i64.wrap (x3 + (IntKind.i64.wrap ((IntKind.i64.wrap ((2 : Int) * x8)) + (1 : Int))))), .pointer (some ⟨q.block, q.off + (IntKind.i64.wrap (x3 + (IntKind.i64.wrap ((IntKind.i64.wrap ((2 : Int) * x8)) + (1 : Int))))).toNat * 1, none⟩), .int .i64 x, .slice a0 l0 c0, .int .i64 x3, .int .i64 (IntKind.i64.wrap ((IntKind.i64.wrap ((2 : Int) * x8)) + (1 : Int))), .int .i64 (IntKind.i64.wrap (x3 + (IntKind.i64.wrap ((IntKind.i64.wrap ((2 : Int) * x8)) + (1 : Int))))), .int .i64 (IntKind.i64.wrap ((IntKind.i64.wrap (x3 + (IntKind.i64.wrap ((IntKind.i64.wrap ((2 : Int) * x8)) + (1 : Int))))) + (1 : Int))), .pointer (some ⟨q_1.block, q_1.off + (IntKind.i64.wrap ((IntKind.i64.wrap (x3 + (IntKind.i64.wrap ((IntKind.i64.wrap ((2 : Int) * x8)) + (1 : Int))))) + (1 : Int))).toNat * 1, none⟩), .int .i64 x_1, .bool b, .bool b, (D.getD 29 undef), (D.getD 30 undef), (D.getD 31 undef), (D.getD 32 undef), (D.getD 33 undef), (D.getD 34 undef), (D.getD 35 undef), (D.getD 36 undef), (D.getD 37 undef), (D.getD 38 undef), (D.getD 39 undef), (D.getD 40 undef), (D.getD 41 undef), (D.getD 42 undef), (D.getD 43 undef), (D.getD 44 undef), (D.getD 45 undef), (D.getD 46 undef), (D.getD 47 undef), (D.getD 48 undef), (D.getD 49 undef), (D.getD 50 undef), (D.getD 51 undef), (D.getD 52 undef), (D.getD 53 undef), (D.getD 54 undef), (D.getD 55 undef), (D.getD 56 undef), (D.getD 57 undef), (D.getD 58 undef), (D.getD 59 undef), (D.getD 60 undef), (D.getD 61 undef), (D.getD 62 undef), (D.getD 63 undef), (D.getD 64 undef), (D.getD 65 undef), (D.getD 66 undef), (D.getD 67 undef)] H_1
   else none
   else none
   else none
   else none
   else
   f109.K1 k n1 a0 l0 c0 x2 x3 x8 (IntKind.i64.wrap ((IntKind.i64.wrap ((2 : Int) * x8)) + (1 : Int))) [(D.getD 0 undef), (D.getD 2 undef), .int .i64 x8, .int .i64 (IntKind.i64.wrap ((2 : Int) * x8)), .int .i64 (IntKind.i64.wrap ((IntKind.i64.wrap ((2 : Int) * x8)) + (1 : Int))), .int .i64 (IntKind.i64.wrap ((IntKind.i64.wrap ((2 : Int) * x8)) + (1 : Int))), .int .i64 x2, .bool (decide ((IntKind.i64.wrap ((IntKind.i64.wrap ((2 : Int) * x8)) + (1 : Int))) ≥ x2)), .int .i64 (IntKind.i64.wrap ((IntKind.i64.wrap ((2 : Int) * x8)) + (1 : Int))), .int .i64 (IntKind.i64.wrap ((IntKind.i64.wrap ((IntKind.i64.wrap ((2 : Int) * x8)) + (1 : Int))) + (1 : Int))), .int .i64 x2, .bool (decide ((IntKind.i64.wrap ((IntKind.i64.wrap ((IntKind.i64.wrap ((2 : Int) * x8)) + (1 : Int))) + (1 : Int))) < x2)), .bool false, undef, undef, undef, undef, undef, undef, undef, undef, undef, undef, undef, undef, undef, undef, .bool false, (D.getD 29 undef), (D.getD 30 undef), (D.getD 31 undef), (D.getD 32 undef), (D.getD 33 undef), (D.getD 34 undef), (D.getD 35 undef), (D.getD 36 undef), (D.getD 37 undef), (D.getD 38 undef), (D.getD 39 undef), (D.getD 40 undef), (D.getD 41 undef), (D.getD 42 undef), (D.getD 43 undef), (D.getD 44 undef), (D.getD 45 undef), (D.getD 46 undef), (D.getD 47 undef), (D.getD 48 undef), (D.getD 49 undef), (D.getD 50 undef), (D.getD 51 undef), (D.getD 52 undef), (D.getD 53 undef), (D.getD 54 undef), (D.getD 55 undef), (D.getD 56 undef), (D.getD 57 undef), (D.getD 58 undef), (D.getD 59 undef), (D.getD 60 undef), (D.getD 61 undef), (D.getD 62 undef), (D.getD 63 undef), (D.getD 64 undef), (D.getD 65 undef), (D.getD 66 undef), (D.getD 67 undef)] (H.bump 20)) := by kernel_rfl
theorem f109.K1_eq (k : Nat) (n1 : Nat) (a0 : Option Addr) (l0 : Nat) (c0 : Nat) (x2 : Int) (x3 : Int) (x8 : Int) (x9 : Int) (D : List Value) (H : AHeap) : f109.K1 k n1 a0 l0 c0 x2 x3 x8 x9 D H =
  (a0.bind fun q =>
   if 0 ≤ (IntKind.i64.wrap (x3 + x8)) ∧ (IntKind.i64.wrap (x3 + x8)) < (l0 : Int) then
   bif sameB H (H.bump 14) q.block then
   (ldI .i64 (H.bump 14) q.block (q.off + (IntKind.i64.wrap (x3 + x8)).toNat * 1)).bind fun x =>
   a0.bind fun q_1 =>
   if 0 ≤ (IntKind.i64.wrap (x3 + x9)) ∧ (IntKind.i64.wrap (x3 + x9)) < (l0 : Int) then
   bif sameB H (H.bump 14) q_1.block then
   (ldI .i64 (H.bump 14) q_1.block (q_1.off + (IntKind.i64.wrap (x3 + x9)).toNat * 1)).bind fun x_1 =>
   cB (C k 104 [.int .i64 x, .int .i64 x_1] (H.bump 14)) fun b H_1 =>
   bif (!b) then
   some (.tuple #[], H_1)
   else
   a0.bind fun q_2 =>
   if 0 ≤ (IntKind.i64.wrap (x3 + x9)) ∧ (IntKind.i64.wrap (x3 + x9)) < (l0 : Int) then
   bif sameB H_1 (H_1.bump 24) q_2.block then
   (ldI .i64 (H_1.bump 24) q_2.block (q_2.off + (IntKind.i64.wrap (x3 + x9)).toNat * 1)).bind fun x_2 =>
   a0.bind fun q_3 =>
   if 0 ≤ (IntKind.i64.wrap (x3 + x8)) ∧ (IntKind.i64.wrap (x3 + x8)) < (l0 : Int) then
   bif sameB H_1 (H_1.bump 24) q_3.block then
   (ldI .i64 (H_1.bump 24) q_3.block (q_3.off + (IntKind.i64.wrap (x3 + x8)).toNat * 1)).bind fun x_3 =>
   a0.bind fun q_4 =>
   if 0 ≤ (IntKind.i64.wrap (x3 + x8)) ∧ (IntKind.i64.wrap (x3 + x8)) < (l0 : Int) then
   (AHeap.wr (H_1.bump 24) q_4.block (q_4.off + (IntKind.i64.wrap (x3 + x8)).toNat * 1) [.int .i64 x_2]).bind fun H_2 =>
   a0.bind fun q_5 =>
   if 0 ≤ (IntKind.i64.wrap (x3 + x9)) ∧ (IntKind.i64.wrap (x3 + x9)) < (l0 : Int) then
   (AHeap.wr H_2 q_5.block (q_5.off + (IntKind.i64.wrap (x3 + x9)).toNat * 1) [.int .i64 x_3]).bind fun H_3 =>
   f109.L1 k n1 a0 l0 c0 x2 x3 x9 [(D.getD 0 undef), .int .i64 x9, (D.getD 1 undef), (D.getD 2 undef), (D.getD 3 undef), (D.getD 4 undef), (D.getD 5 undef), (D.getD 6 undef), (D.getD 7 undef), (D.getD 8 undef), (D.getD 9 undef), (D.getD 10 undef), (D.getD 11 undef), (D.getD 12 undef), (D.getD 13 undef), (D.getD 14 undef), (D.getD 15 undef), (D.getD 16 undef), (D.getD 17 undef), (D.getD 18 undef), (D.getD 19 undef), (D.getD 20 undef), (D.getD 21 undef), (D.getD 22 undef), (D.getD 23 undef), (D.getD 24 undef), (D.getD 25 undef), (D.getD 26 undef), (D.getD 27 undef), (D.getD 28 undef), (D.getD 29 undef), .slice a0 l0 c0, .int .i64 x3, .int .i64 x8, .int .i64 (IntKind.i64.wrap (x3 + x8)), .pointer (some ⟨q.block, q.off + (IntKind.i64.wrap (x3 + x8)).toNat * 1, none⟩), .int .i64 x, .slice a0 l0 c0, .int .i64 x3, .int .i64 x9, .int .i64 (IntKind.i64.wrap (x3 + x9)), .pointer (some ⟨q_1.block, q_1.off + (IntKind.i64.wrap (x3 + x9)).toNat * 1, none⟩), .int .i64 x_1, .bool b, .bool (!b), .slice a0 l0 c0, .int .i64 x3, .int .i64 x8, .int .i64 (IntKind.i64.wrap (x3 + x8)), .slice a0 l0 c0, .int .i64 x3, .int .i64 x9, .int .i64 (IntKind.i64.wrap (x3 + x9)), .slice a0 l0 c0, .int .i64 x3, .int .i64 x9, .int .i64 (IntKind.i64.wrap (x3 + x9)), .pointer (some ⟨q_2.block, q_2.off + (IntKind.i64.wrap (x3 + x9)).toNat * 1, none⟩), .int .i64 x_2, .slice a0 l0 c0, .int .i64 x3, .int .i64 x8, .int .i64 (IntKind.i64.wrap (x3 + x8)), .pointer (some ⟨q_3.block, q_3.off + (IntKind.i64.wrap (x3 + x8)).toNat * 1, none⟩), .int .i64 x_3, .pointer (some ⟨q_4.block, q_4.off + (IntKind.i64.wrap (x3 + x8)).toNat * 1, none⟩), .pointer (some ⟨q_5.block, q_5.off + (IntKind.i64.wrap (x3 + x9)).toNat * 1, none⟩), .int .i64 x9] H_3
   else none
   else none
   else none
   else none
   else none
   else none
   else none
   else none
   else none
   else none) := by
  unfold f109.K1
  rw [gateC_eq]
  kernel_rfl
theorem f109_eq (k : Nat) (a0 : Option Addr) (l0 : Nat) (c0 : Nat) (x1 : Int) (x2 : Int) (x3 : Int) (H : AHeap) : C (k + 1) 109 [.slice a0 l0 c0, .int .i64 x1, .int .i64 x2, .int .i64 x3] H =
  (f109.L1 k k a0 l0 c0 x2 x3 x1 [.int .i64 x1, undef, .int .i64 x1, undef, undef, undef, undef, undef, undef, undef, undef, undef, undef, undef, undef, undef, undef, undef, undef, undef, undef, undef, undef, undef, undef, undef, undef, undef, undef, undef, undef, undef, undef, undef, undef, undef, undef, undef, undef, undef, undef, undef, undef, undef, undef, undef, undef, undef, undef, undef, undef, undef, undef, undef, undef, undef, undef, undef, undef, undef, undef, undef, undef, undef, undef, undef, undef, undef] H) := by kernel_rfl

/- f110 "slices.nextPowerOfTwo"  names: 0:length 1:length -/
theorem f110_eq (k : Nat) (x0 : Int) (H : AHeap) : C (k + 1) 110 [.int .i64 x0] H =
  (cI .i64 (C k 97 [.int .u64 (IntKind.u64.wrap x0)] H) fun x H_1 =>
   if x < 0 then none else
   some (.int .u64 (IntKind.u64.wrap ((1 : Int) * 2 ^ (min x.toNat (IntKind.u64.bits)))), H_1)) := by kernel_rfl

/- f111 "(*slices.xorshift).Next"  names: 0:r 1:r -/
theorem f111_eq (k : Nat) (p0 : Option Addr) (H : AHeap) : C (k + 1) 111 [.pointer p0] H =
  (p0.bind fun q =>
   bif sameB H (H.bump 10) q.block then
   (ldI .u64 (H.bump 10) q.block (q.off)).bind fun x =>
   p0.bind fun q_1 =>
   bif sameB H (H.bump 10) q_1.block then
   (ldI .u64 (H.bump 10) q_1.block (q_1.off)).bind fun x_1 =>
   p0.bind fun q_2 =>
   (AHeap.wr (H.bump 10) q_2.block (q_2.off) [.int .u64 (IntKind.u64.wrap (((BitVec.ofInt (IntKind.u64.bits) x ^^^ BitVec.ofInt (IntKind.u64.bits) (IntKind.u64.wrap (x_1 * 2 ^ (min (13 : Int).toNat (IntKind.u64.bits))))).toNat : Int)))]).bind fun H_1 =>
   p0.bind fun q_3 =>
   bif sameB H_1 (H_1.bump 10) q_3.block then
   (ldI .u64 (H_1.bump 10) q_3.block (q_3.off)).bind fun x_2 =>
   p0.bind fun q_4 =>
   bif sameB H_1 (H_1.bump 10) q_4.block then
   (ldI .u64 (H_1.bump 10) q_4.block (q_4.off)).bind fun x_3 =>
   p0.bind fun q_5 =>
   (AHeap.wr (H_1.bump 10) q_5.block (q_5.off) [.int .u64 (IntKind.u64.wrap (((BitVec.ofInt (IntKind.u64.bits) x_2 ^^^ BitVec.ofInt (IntKind.u64.bits) (x_3.fdiv (2 ^ (min (7 : Int).toNat (IntKind.u64.bits))))).toNat : Int)))]).bind fun H_2 =>
   p0.bind fun q_6 =>
   bif sameB H_2 (H_2.bump 10) q_6.block then
   (ldI .u64 (H_2.bump 10) q_6.block (q_6.off)).bind fun x_4 =>
   p0.bind fun q_7 =>
   bif sameB H_2 (H_2.bump 10) q_7.block then
   (ldI .u64 (H_2.bump 10) q_7.block (q_7.off)).bind fun x_5 =>
   p0.bind fun q_8 =>
   (AHeap.wr (H_2.bump 10) q_8.block (q_8.off) [.int .u64 (IntKind.u64.wrap (((BitVec.ofInt (IntKind.u64.bits) x_4 ^^^ BitVec.ofInt (IntKind.u64.bits) (IntKind.u64.wrap (x_5 * 2 ^ (min (17 : Int).toNat (IntKind.u64.bits))))).toNat : Int)))]).bind fun H_3 =>
   p0.bind fun q_9 =>
   (ldI .u64 H_3 q_9.block (q_9.off)).bind fun x_6 =>
   some (.int .u64 x_6, H_3)
   else none
   else none
   else none
   else none
   else none
   else none) := by kernel_rfl

/- f112 "slices.medianAdjacentOrdered[int]"  names: 0:data 1:a 2:swaps 3:data 4:a 5:swaps -/
theorem f112_eq (k : Nat) (a0 : Option Addr) (l0 : Nat) (c0 : Nat) (x1 : Int) (p2 : Option Addr) (H : AHeap) : C (k + 1) 112 [.slice a0 l0 c0, .int .i64 x1, .pointer p2] H =
  (cI .i64 (C k 113 [.slice a0 l0 c0, .int .i64 (IntKind.i64.wrap (x1 - (1 : Int))), .int .i64 x1, .int .i64 (IntKind.i64.wrap (x1 + (1 : Int))), .pointer p2] H) fun x H_1 =>
   some (.int .i64 x, H_1)) := by kernel_rfl

/- f113 "slices.medianOrdered[int]"  names: 0:data 1:a 2:b 3:c 4:swaps 5:data 6:a 7:b 8:c 9:swaps -/
theorem f113_eq (k : Nat) (a0 : Option Addr) (l0 : Nat) (c0 : Nat) (x1 : Int) (x2 : Int) (x3 : Int) (p4 : Option Addr) (H : AHeap) : C (k + 1) 113 [.slice a0 l0 c0, .int .i64 x1, .int .i64 x2, .int .i64 x3, .pointer p4] H =
  (cT (C k 115 [.slice a0 l0 c0, .int .i64 x1, .int .i64 x2, .pointer p4] H) fun u H_1 =>
   exI .i64 (u.toList[0]?) fun x =>
   exI .i64 (u.toList[1]?) fun x_1 =>
   cT (C k 115 [.slice a0 l0 c0, .int .i64 x_1, .int .i64 x3, .pointer p4] H_1) fun u_1 H_2 =>
   exI .i64 (u_1.toList[0]?) fun x_2 =>
   exI .i64 (u_1.toList[1]?) fun x_3 =>
   cT (C k 115 [.slice a0 l0 c0, .int .i64 x, .int .i64 x_2, .pointer p4] H_2) fun u_2 H_3 =>
   exI .i64 (u_2.toList[0]?) fun x_4 =>
   exI .i64 (u_2.toList[1]?) fun x_5 =>
   some (.int .i64 x_5, H_3)) := by kernel_rfl

/- f115 "slices.order2Ordered[int]"  names: 0:data 1:a 2:b 3:swaps 4:data 5:a 6:b 7:swaps -/
theorem f115_eq (k : Nat) (a0 : Option Addr) (l0 : Nat) (c0 : Nat) (x1 : Int) (x2 : Int) (p3 : Option Addr) (H : AHeap) : C (k + 1) 115 [.slice a0 l0 c0, .int .i64 x1, .int .i64 x2, .pointer p3] H =
  (a0.bind fun q =>
   if 0 ≤ x2 ∧ x2 < (l0 : Int) then
   bif sameB H (H.bump 9) q.block then
   (ldI .i64 (H.bump 9) q.block (q.off + x2.toNat * 1)).bind fun x =>
   a0.bind fun q_1 =>
   if 0 ≤ x1 ∧ x1 < (l0 : Int) then
   bif sameB H (H.bump 9) q_1.block then
   (ldI .i64 (H.bump 9) q_1.block (q_1.off + x1.toNat * 1)).bind fun x_1 =>
   cB (C k 104 [.int .i64 x, .int .i64 x_1] (H.bump 9)) fun b H_1 =>
   bif b then
   p3.bind fun q_2 =>
   (ldI .i64 H_1 q_2.block (q_2.off)).bind fun x_2 =>
   p3.bind fun q_3 =>
   (AHeap.wr H_1 q_3.block (q_3.off) [.int .i64 (IntKind.i64.wrap (x_2 + (1 : Int)))]).bind fun H_2 =>
   some (.tuple #[.int .i64 x2, .int .i64 x1], H_2)
   else
   some (.tuple #[.int .i64 x1, .int .i64 x2], H_1)
   else none
   else none
   else none
   else none) := by kernel_rfl

/- f99 "slices.heapSortOrdered[int]"  names: 0:data 1:a 2:b 3:data 4:a 5:b 6:first 7:lo 8:hi 9:i 10:i -/
noncomputable def f99.Q0 (k : Nat)  : Kont (Value × AHeap) := retQ Try.prog Try.f99
noncomputable def f99.Q1 (k : Nat)  : Kont (Value × AHeap) := seqQ (gateC (Sub (bodyOf Try.f99) [1, 1, 1, 0]) (Sub (bodyOf Try.f99) [1, 1, 1, 1]) k (run Try.prog (C k) k (Sub (bodyOf Try.f99) [1, 1, 1, 1]) (f99.Q0 k ))) (f99.Q0 k )
noncomputable def f99.Q2 (k : Nat)  : Kont (Value × AHeap) := blkQ 0 (f99.Q1 k )
noncomputable def f99.Q3 (k : Nat)  : Kont (Value × AHeap) := blkQ 2 (f99.Q0 k )
noncomputable def f99.L1 (k : Nat) (n1 : Nat) (a0 : Option Addr) (l0 : Nat) (c0 : Nat) (x6 : Int) (x7 : Int) (x8 : Int) (x9 : Int) (D : List Value) (H : AHeap) : Option (Value × AHeap) :=
  iter (run Try.prog (C k) k (Sub (bodyOf Try.f99) [1, 1, 1, 0, 1, 0, 0])) (f99.Q2 k ) n1 [.slice a0 l0 c0, (D.getD 0 undef), (D.getD 1 undef), undef, undef, undef, .int .i64 x6, .int .i64 x7, .int .i64 x8, .int .i64 x9, undef, (D.getD 2 undef), (D.getD 3 undef), (D.getD 4 undef), (D.getD 5 undef), (D.getD 6 undef), (D.getD 7 undef), (D.getD 8 undef), (D.getD 9 undef), (D.getD 10 undef), (D.getD 11 undef), (D.getD 12 undef), (D.getD 13 undef), (D.getD 14 undef), (D.getD 15 undef), (D.getD 16 undef), (D.getD 17 undef), undef, undef, undef, undef, undef, undef, undef, undef, undef, undef, undef, undef, undef, undef, undef, undef, undef, undef, undef, undef, undef, undef, undef, undef, undef, undef, undef, undef, undef] H
noncomputable def f99.L2 (k : Nat) (n1 : Nat) (a0 : Option Addr) (l0 : Nat) (c0 : Nat) (x6 : Int) (x7 : Int) (x10 : Int) (D : List Value) (H : AHeap) : Option (Value × AHeap) :=
  iter (run Try.prog (C k) k (Sub (bodyOf Try.f99) [1, 1, 1, 1, 1, 0, 0])) (f99.Q3 k ) n1 [.slice a0 l0 c0, (D.getD 0 undef), (D.getD 1 undef), undef, undef, undef, .int .i64 x6, .int .i64 x7, (D.getD 2 undef), (D.getD 3 undef), .int .i64 x10, (D.getD 4 undef), (D.getD 5 undef), (D.getD 6 undef), (D.getD 7 undef), (D.getD 8 undef), (D.getD 9 undef), (D.getD 10 undef), (D.getD 11 undef), (D.getD 12 undef), (D.getD 13 undef), (D.getD 14 undef), (D.getD 15 undef), (D.getD 16 undef), (D.getD 17 undef), (D.getD 18 undef), (D.getD 19 undef), (D.getD 20 undef), (D.getD 21 undef), (D.getD 22 undef), (D.getD 23 undef), (D.getD 24 undef), (D.getD 25 undef), (D.getD 26 undef), (D.getD 27 undef), (D.getD 28 undef), (D.getD 29 undef), (D.getD 30 undef), (D.getD 31 undef), (D.getD 32 undef), (D.getD 33 undef), (D.getD 34 undef), (D.getD 35 undef), (D.getD 36 undef), (D.getD 37 undef), (D.getD 38 undef), (D.getD 39 undef), (D.getD 40 undef), (D.getD 41 undef), (D.getD 42 undef), (D.getD 43 undef), (D.getD 44 undef), (D.getD 45 undef), (D.getD 46 undef), (D.getD 47 undef), (D.getD 48 undef)] H
theorem f99.L1_z (k : Nat)  (a0 : Option Addr) (l0 : Nat) (c0 : Nat) (x6 : Int) (x7 : Int) (x8 : Int) (x9 : Int) (D : List Value) (H : AHeap) : f99.L1 k 0 a0 l0 c0 x6 x7 x8 x9 D H = none := by kernel_rfl
theorem f99.L1_s (k : Nat) (n1 : Nat) (a0 : Option Addr) (l0 : Nat) (c0 : Nat) (x6 : Int) (x7 : Int) (x8 : Int) (x9 : Int) (D : List Value) (H : AHeap) : f99.L1 k (n1 + 1) a0 l0 c0 x6 x7 x8 x9 D H =
  (bif (decide (x9 ≥ (0 : Int))) then
   cT (C k 109 [.slice a0 l0 c0, .int .i64 x9, .int .i64 x8, .int .i64 x6] H) fun u H_1 =>
   f99.L1 k n1 a0 l0 c0 x6 x7 x8 (IntKind.i64.wrap (x9 - (1 : Int))) [(D.getD 0 undef), (D.getD 1 undef), (D.getD 2 undef), (D.getD 3 undef), (D.getD 4 undef), (D.getD 5 undef), (D.getD 6 undef), (D.getD 7 undef), (D.getD 8 undef), .int .i64 x9, .bool (decide (x9 ≥ (0 : Int))), .int .i64 x9, .int .i64 (IntKind.i64.wrap (x9 - (1 : Int))), .slice a0 l0 c0, .int .i64 x9, .int .i64 x8, .int .i64 x6, .tuple u] H_1
   else
   f99.L2 k k a0 l0 c0 x6 x7 (IntKind.i64.wrap (x8 - (1 : Int))) [(D.getD 0 undef), (D.getD 1 undef), .int .i64 x8, .int .i64 x9, (D.getD 2 undef), (D.getD 3 undef), (D.getD 4 undef), (D.getD 5 undef), (D.getD 6 undef), (D.getD 7 undef), (D.getD 8 undef), .int .i64 x9, .bool (decide (x9 ≥ (0 : Int))), (D.getD 11 undef), (D.getD 12 undef), (D.getD 13 undef), (D.getD 14 undef), (D.getD 15 undef), (D.getD 16 undef), (D.getD 17 undef), .int .i64 x8, .int .i64 (IntKind.i64.wrap (x8 - (1 : Int))), undef, undef, undef, undef, undef, undef, undef, undef, undef, undef, undef, undef, undef, undef, undef, undef, undef, undef, undef, undef, undef, undef, undef, undef, undef, undef, undef] H) := by kernel_rfl
theorem f99.L2_z (k : Nat)  (a0 : Option Addr) (l0 : Nat) (c0 : Nat) (x6 : Int) (x7 : Int) (x10 : Int) (D : List Value) (H : AHeap) : f99.L2 k 0 a0 l0 c0 x6 x7 x10 D H = none := by kernel_rfl
theorem f99.L2_s (k : Nat) (n1 : Nat) (a0 : Option Addr) (l0 : Nat) (c0 : Nat) (x6 : Int) (x7 : Int) (x10 : Int) (D : List Value) (H : AHeap) : f99.L2 k (n1 + 1) a0 l0 c0 x6 x7 x10 D H =
  (bif (decide (x10 ≥ (0 : Int))) then
   a0.bind fun q =>
   if 0 ≤ (IntKind.i64.wrap (x6 + x10)) ∧ (IntKind.i64.wrap (x6 + x10)) < (l0 : Int) then
   bif sameB H (H.bump 20) q.block then
   (ldI .i64 (H.bump 20) q.block (q.off + (IntKind.i64.wrap (x6 + x10)).toNat * 1)).bind fun x =>
   a0.bind fun q_1 =>
   if 0 ≤ x6 ∧ x6 < (l0 : Int) then
   bif sameB H (H.bump 20) q_1.block then
   (ldI .i64 (H.bump 20) q_1.block (q_1.off + x6.toNat * 1)).bind fun x_1 =>
   a0.bind fun q_2 =>
   if 0 ≤ x6 ∧ x6 < (l0 : Int) then
   (AHeap.wr (H.bump 20) q_2.block (q_2.off + x6.toNat * 1) [.int .i64 x]).bind fun H_1 =>
   a0.bind fun q_3 =>
   if 0 ≤ (IntKind.i64.wrap (x6 + x10)) ∧ (IntKind.i64.wrap (x6 + x10)) < (l0 : Int) then
   (AHeap.wr H_1 q_3.block (q_3.off + (IntKind.i64.wrap (x6 + x10)).toNat * 1) [.int .i64 x_1]).bind fun H_2 =>
   cT (C k 109 [.slice a0 l0 c0, .int .i64 x7, .int .i64 x10, .int .i64 x6] H_2) fun u H_3 =>
   f99.L2 k n1 a0 l0 c0 x6 x7 (IntKind.i64.wrap (x10 - (1 : Int))) [(D.getD 0 undef), (D.getD 1 undef), (D.getD 2 undef), (D.getD 3 undef), (D.getD 4 undef), (D.getD 5 undef), (D.getD 6 undef), (D.getD 7 undef), (D.getD 8 undef), (D.getD 9 undef), (D.getD 10 undef), (D.getD 11 undef), (D.getD 12 undef), (D.getD 13 undef), (D.getD 14 undef), (D.getD 15 undef), (D.getD 16 undef), (D.getD 17 undef), (D.getD 18 undef), (D.getD 19 undef), (D.getD 20 undef), (D.getD 21 undef), .int .i64 x10, .bool (decide (x10 ≥ (0 : Int))), .int .i64 x10, .int .i64 (IntKind.i64.wrap (x10 - (1 : Int))), .slice a0 l0 c0, .int .i64 x6, .slice a0 l0 c0, .int .i64 x6, .int .i64 x10, .int .i64 (IntKind.i64.wrap (x6 + x10)), .slice a0 l0 c0, .int .i64 x6, .int .i64 x10, .int .i64 (IntKind.i64.wrap (x6 + x10)), .pointer (some ⟨q.block, q.off + (IntKind.i64.wrap (x6 + x10)).toNat * 1, none⟩), .int .i64 x, .slice a0 l0 c0, .int .i64 x6, .pointer (some ⟨q_1.block, q_1.off + x6.toNat * 1, none⟩), .int .i64 x_1, .pointer (some ⟨q_2.block, q_2.off + x6.toNat * 1, none⟩), .pointer (some ⟨q_3.block, q_3.off + (IntKind.i64.wrap (x6 + x10)).toNat * 1, none⟩), .slice a0 l0 c0, .int .i64 x7, .int .i64 x10, .int .i64 x6, .tuple u] H_3
   else none
   else none
   else none
   else none
   else none
   else none
   else
   some (.tuple #[], H)) := by kernel_rfl
theorem f99_eq (k : Nat) (a0 : Option Addr) (l0 : Nat) (c0 : Nat) (x1 : Int) (x2 : Int) (H : AHeap) : C (k + 1) 99 [.slice a0 l0 c0, .int .i64 x1, .int .i64 x2] H =
  (f99.L1 k k a0 l0 c0 x1 0 (IntKind.i64.wrap (x2 - x1)) (IntKind.i64.wrap ((IntKind.i64.wrap ((IntKind.i64.wrap (x2 - x1)) - (1 : Int))).tdiv (2 : Int))) [.int .i64 x1, .int .i64 x2, .int .i64 x1, .int .i64 x2, .int .i64 x1, .int .i64 (IntKind.i64.wrap (x2 - x1)), .int .i64 (IntKind.i64.wrap (x2 - x1)), .int .i64 (IntKind.i64.wrap ((IntKind.i64.wrap (x2 - x1)) - (1 : Int))), .int .i64 (IntKind.i64.wrap ((IntKind.i64.wrap ((IntKind.i64.wrap (x2 - x1)) - (1 : Int))).tdiv (2 : Int))), undef, undef, undef, undef, undef, undef, undef, undef, undef] H) := by kernel_rfl

end Go.Proofs.MxF
end

section
set_option linter.unusedSimpArgs false
/- Comparing two places of a slice, exchanging two places; the heap sort. -/
set_option linter.unusedVariables false
namespace Go.Proofs.MxF
open Go Go.Mx Go.Proofs
/-- lengths whose sums do not wrap -/
def big : Nat := 1152921504606846976
structure St (N : Nat) (H0 : AHeap) (a : Option Addr) (l c : Nat) (H : AHeap) (xs : List Int) : Prop where
  own : Own N 1 H a l c (ints xs)
  keep : Keep a H0 H
section
variable {k n N : Nat} {H0 H : AHeap} {a : Option Addr} {l c : Nat} {xs : List Int} {Q : Value × AHeap → Prop}
theorem St.len (h : St N H0 a l c H xs) : xs.length = l := h.own.len.symm
theorem St.bump (h : St N H0 a l c H xs) (n : Nat) : St N H0 a l c (H.bump n) xs := ⟨h.own.agree (agree_bump H n), h.keep.trans (Orig.refl _ _) (agree_bump H n).keep⟩
theorem St.zero (h : Own N 1 H a l c (ints xs)) : St N H a l c H xs := ⟨h, (Agree.refl H).keep⟩
theorem St.then {H1 : AHeap} {ys : List Int} (h : St N H0 a l c H xs) (h' : St N H a l c H1 ys) : St N H0 a l c H1 ys := ⟨h'.own, h.keep.trans (Orig.refl _ _) h'.keep⟩
theorem wN {z : Int} {n : Nat} (e : z = (n : Int)) (h : n ≤ 9223372036854775807) : IntKind.i64.wrap z = (n : Int) := by
  rw [e]; exact IntWalk.i64_in _ (by omega)
theorem wZ {z y : Int} (e : z = y) (h : -9223372036854775808 ≤ y) (h' : y ≤ 9223372036854775807) : IntKind.i64.wrap z = y := by
  rw [e]; exact IntWalk.i64_in _ (by omega)

theorem ok_cmp {i j : Nat} {ei ej : Int} {K : Addr → Int → Addr → Int → Bool → AHeap → Option (Value × AHeap)} (hk : 2 ≤ k) (h : St N H0 a l c H xs) (hei : ei = (i : Int)) (hej : ej = (j : Int)) (hi : i < l) (hj : j < l)
    (next : ∀ q q', Ok (K q (gI xs i) q' (gI xs j) (decide (gI xs i < gI xs j)) (H.bump n)) Q) :
    Ok (a.bind fun q => if 0 ≤ ei ∧ ei < (l : Int) then (bif sameB H (H.bump n) q.block then ((ldI .i64 (H.bump n) q.block (q.off + ei.toNat * 1)).bind fun x =>
      a.bind fun q_1 => if 0 ≤ ej ∧ ej < (l : Int) then (bif sameB H (H.bump n) q_1.block then ((ldI .i64 (H.bump n) q_1.block (q_1.off + ej.toNat * 1)).bind fun x_1 =>
        cB (C k 104 [.int .i64 x, .int .i64 x_1] (H.bump n)) fun b H_1 => K q x q_1 x_1 b H_1) else none) else none) else none) else none) Q := by
  subst hei hej
  have hlen := h.len
  obtain ⟨q, eq, _, qs, _⟩ := own_get h.own (gI_some (i := i) (by omega))
  obtain ⟨q', eq', _, qs', _⟩ := own_get h.own (gI_some (i := j) (by omega))
  obtain ⟨p, ep, p1, _⟩ := own_get (h.bump n).own (gI_some (i := i) (by omega))
  obtain ⟨p', ep', p1', _⟩ := own_get (h.bump n).own (gI_some (i := j) (by omega))
  rw [eq] at ep ep' eq'
  cases ep; cases ep'; cases eq'
  exact ok_bind eq (ok_if (by omega) (ok_bift (qs _ (agree_bump H n)) (ok_bind p1 (ok_bind eq (ok_if (by omega) (ok_bift (qs' _ (agree_bump H n)) (ok_bind p1' (ok_cB0 (f104_spec hk _ _ _) (next q q)))))))))

theorem ok_swp {i j : Nat} {ei ej : Int} {K : Addr → Int → Addr → Int → Addr → Addr → AHeap → Option (Value × AHeap)} (h : St N H0 a l c H xs) (hei : ei = (i : Int)) (hej : ej = (j : Int)) (hi : i < l) (hj : j < l)
    (next : ∀ q q' q2 q3 H2, St N H0 a l c H2 (sw xs i j) → H.next ≤ H2.next → Ok (K q (gI xs j) q' (gI xs i) q2 q3 H2) Q) :
    Ok (a.bind fun q => if 0 ≤ ej ∧ ej < (l : Int) then (bif sameB H (H.bump n) q.block then ((ldI .i64 (H.bump n) q.block (q.off + ej.toNat * 1)).bind fun x =>
      a.bind fun q_1 => if 0 ≤ ei ∧ ei < (l : Int) then (bif sameB H (H.bump n) q_1.block then ((ldI .i64 (H.bump n) q_1.block (q_1.off + ei.toNat * 1)).bind fun x_1 =>
        a.bind fun q_2 => if 0 ≤ ei ∧ ei < (l : Int) then ((AHeap.wr (H.bump n) q_2.block (q_2.off + ei.toNat * 1) [.int .i64 x]).bind fun H_1 =>
          a.bind fun q_3 => if 0 ≤ ej ∧ ej < (l : Int) then ((AHeap.wr H_1 q_3.block (q_3.off + ej.toNat * 1) [.int .i64 x_1]).bind fun H_2 => K q x q_1 x_1 q_2 q_3 H_2) else none) else none) else none) else none) else none) else none) Q := by
  subst hei hej
  have hlen := h.len
  have hb := h.bump n
  obtain ⟨q, eq, _, qs, _⟩ := own_get h.own (gI_some (i := i) (by omega))
  obtain ⟨q', eq', _, qs', _⟩ := own_get h.own (gI_some (i := j) (by omega))
  obtain ⟨p, ep, p1, _⟩ := own_get hb.own (gI_some (i := i) (by omega))
  obtain ⟨p', ep', p1', _⟩ := own_get hb.own (gI_some (i := j) (by omega))
  rw [eq] at ep ep' eq'
  cases ep; cases ep'; cases eq'
  refine ok_bind eq (ok_if (by omega) (ok_bift (qs' _ (agree_bump H n)) (ok_bind p1' (ok_bind eq (ok_if (by omega) (ok_bift (qs _ (agree_bump H n)) (ok_bind p1 (ok_bind eq (ok_if (by omega) ?_)))))))))
  obtain ⟨s, H3, es, hw, h3, k3, n3⟩ := own_set hb.own (t := i) hi (.int .i64 (gI xs j))
  rw [eq] at es
  cases es
  refine ok_bind hw (ok_bind eq (ok_if (by omega) ?_))
  obtain ⟨s, H4, es, hw4, h4, k4, n4⟩ := own_set h3 (t := j) hj (.int .i64 (gI xs i))
  rw [eq] at es
  cases es
  refine ok_bind hw4 (next q q q q H4 ⟨?_, ?_⟩ ?_)
  · rw [ints_set', ints_set'] at h4; exact h4
  · exact (hb.keep.trans (Orig.refl _ _) k3).trans (Orig.refl _ _) k4
  · rw [n4, n3]; exact (agree_bump H n).next
end
/-- ends with a rearrangement that has p -/
def Fin (N : Nat) (H0 : AHeap) (a : Option Addr) (l c lo hi : Nat) (xs : List Int) (p : List Int → Prop) (H : AHeap) : Prop := ∃ ys, St N H0 a l c H ys ∧ Mov lo hi xs ys ∧ p ys
section
variable {k n N : Nat} {H0 H : AHeap} {a : Option Addr} {l c : Nat} {xs xs0 : List Int} {f lo hi : Nat}
theorem f109_l1 (hk : 2 ≤ k) (hl : f + hi ≤ l) (hM : l ≤ big) : ∀ (m r n : Nat) (xs : List Int) (H : AHeap) (D : List Value), hi ≤ r + m → r ≤ hi → lo ≤ r → m < n → St N H0 a l c H xs → Mov f (f + hi) xs0 xs → Hx f lo hi r xs →
    Ok (f109.L1 k n a l c (hi : Int) (f : Int) (r : Int) D H) fun o => o.1 = .tuple #[] ∧ Fin N H0 a l c f (f + hi) xs0 (Hp f lo hi) o.2 := by
  intro m
  induction m with
  | zero =>
    intro r n xs H D h1 h2 h3 hn h mv hx
    obtain ⟨n, rfl⟩ : ∃ j, n = j + 1 := ⟨n - 1, by omega⟩
    unfold big at hM
    rw [f109.L1_s, wN (z := 2 * (r : Int)) (n := 2 * r) (by omega) (by omega), wN (z := ((2 * r : Nat) : Int) + 1) (n := 2 * r + 1) (by omega) (by omega)]
    exact ok_bift (by simp only [decide_eq_true_eq]; omega) (Ok.ret ⟨rfl, xs, h, mv, hx.done fun c hc hh => by omega⟩)
  | succ m ih =>
    intro r n xs H D h1 h2 h3 hn h mv hx
    obtain ⟨n, rfl⟩ : ∃ j, n = j + 1 := ⟨n - 1, by omega⟩
    have hlen := h.len
    have hM' := hM
    unfold big at hM
    have key : ∀ (d : Nat) (H : AHeap) (D : List Value), St N H0 a l c H xs → (d = 2 * r + 1 ∨ d = 2 * r + 2) → d < hi → (∀ c, (c = 2 * r + 1 ∨ c = 2 * r + 2) → c < hi → gI xs (f + c) ≤ gI xs (f + d)) →
        Ok (f109.K1 k n a l c (hi : Int) (f : Int) (r : Int) (d : Int) D H) fun o => o.1 = .tuple #[] ∧ Fin N H0 a l c f (f + hi) xs0 (Hp f lo hi) o.2 := by
      intro d H D h hd hh hm
      rw [f109.K1_eq, wN (z := (f : Int) + (r : Int)) (n := f + r) (by omega) (by omega), wN (z := (f : Int) + (d : Int)) (n := f + d) (by omega) (by omega)]
      refine ok_cmp (i := f + r) (j := f + d) hk h rfl rfl (by omega) (by omega) fun q q' => ok_bif (fun hc => Ok.ret ⟨rfl, xs, h.bump _, mv, hx.done fun c hc1 hc2 => ?_⟩) (fun hc => ?_)
      · simp only [Bool.not_eq_true', decide_eq_false_iff_not] at hc
        have := hm c hc1 hc2
        omega
      · simp only [Bool.not_eq_false', decide_eq_true_eq] at hc
        refine ok_swp (i := f + r) (j := f + d) (h.bump 14) rfl rfl (by omega) (by omega) fun q q' q2 q3 H2 h2' _ => ?_
        exact ih d n _ H2 _ (by omega) (by omega) (by omega) (by omega) h2' (mv.trans (Mov.sw (by omega) (by omega) (by omega) (by omega) (by omega))) (hx.step h3 hd hh (by omega) hm (Int.le_of_lt hc))
    rw [f109.L1_s, wN (z := 2 * (r : Int)) (n := 2 * r) (by omega) (by omega), wN (z := ((2 * r : Nat) : Int) + 1) (n := 2 * r + 1) (by omega) (by omega), wN (z := ((2 * r + 1 : Nat) : Int) + 1) (n := 2 * r + 2) (by omega) (by omega), wN (z := (f : Int) + ((2 * r + 1 : Nat) : Int)) (n := f + (2 * r + 1)) (by omega) (by omega)]
    refine ok_bif (fun hc => Ok.ret ⟨rfl, xs, h, mv, hx.done fun c hc1 hh => by rw [decide_eq_true_eq] at hc; omega⟩) (fun hc => ?_)
    rw [decide_eq_false_iff_not] at hc
    refine ok_bif (fun hc2 => ?_) (fun hc2 => ?_)
    · rw [decide_eq_true_eq] at hc2
      rw [wN (z := ((f + (2 * r + 1) : Nat) : Int) + 1) (n := f + (2 * r + 2)) (by omega) (by omega)]
      refine ok_cmp (i := f + (2 * r + 1)) (j := f + (2 * r + 2)) hk h rfl rfl (by omega) (by omega) fun q q' => ok_bif (fun hc => ?_) (fun hc => ?_)
      · rw [decide_eq_true_eq] at hc
        refine key (2 * r + 2) _ _ (h.bump _) (.inr rfl) (by omega) fun c h1 h2 => ?_
        rcases h1 with rfl | rfl <;> omega
      · rw [decide_eq_false_iff_not] at hc
        refine key (2 * r + 1) _ _ (h.bump _) (.inl rfl) (by omega) fun c h1 h2 => ?_
        rcases h1 with rfl | rfl <;> omega
    · rw [decide_eq_false_iff_not] at hc2
      refine key (2 * r + 1) _ _ (h.bump _) (.inl rfl) (by omega) fun c h1 h2 => ?_
      rcases h1 with rfl | rfl <;> omega
theorem f109_spec (hk : l + 4 ≤ k) (hl : f + hi ≤ l) (hM : l ≤ big) (hlo : lo ≤ hi) (h : St N H0 a l c H xs) (hp : Hp f (lo + 1) hi xs) :
    ∃ H', C k 109 [.slice a l c, .int .i64 (lo : Int), .int .i64 (hi : Int), .int .i64 (f : Int)] H = some (.tuple #[], H') ∧ Fin N H0 a l c f (f + hi) xs (Hp f lo hi) H' := by
  obtain ⟨k, rfl⟩ : ∃ j, k = j + 1 := ⟨k - 1, by omega⟩
  rw [f109_eq]
  exact call_of_ok (f109_l1 (by omega) hl hM hi lo k xs H _ (by omega) hlo (by omega) (by omega) h (Mov.refl _ _ _) hp.hx)
/-- the greatest ones lie sorted at the end -/
def Tl (f t hi : Nat) (xs : List Int) : Prop := ∀ i j, f ≤ i → i ≤ j → f + t ≤ j → j < f + hi → gI xs i ≤ gI xs j
theorem Tl.mov {t : Nat} {ys : List Int} (h : Tl f t hi xs) (mv : Mov f (f + t) xs ys) : Tl f t hi ys := by
  intro i j h1 h2 h3 h4
  rw [mv.out j (by omega)]
  by_cases e : i < f + t
  · obtain ⟨i', a, b, e'⟩ := mv.mem i h1 e
    rw [e']; exact h i' j a (by omega) h3 h4
  · rw [mv.out i (by omega)]; exact h i j h1 h2 h3 h4
theorem Tl.step {s : Nat} (h : Tl f (s + 1) hi xs) (hp : Hp f 0 (s + 1) xs) (hs : s < hi) (hl : f + hi ≤ xs.length) : Tl f s hi (sw xs f (f + s)) := by
  have top : ∀ i, f ≤ i → i ≤ f + s → gI xs i ≤ gI xs f := by
    intro i h1 h2
    have := hp.top (s + 1) (i - f) (by omega) (by omega)
    rw [show f + (i - f) = i from by omega] at this
    exact this
  intro i j h1 h2 h3 h4
  have mv : Mov f (f + (s + 1)) xs (sw xs f (f + s)) := Mov.sw (by omega) (by omega) (by omega) (by omega) (by omega)
  by_cases e : j = f + s
  · subst e
    rw [gI_sw (by omega) (by omega) (f + s), if_pos rfl]
    exact mv.all (p := fun v => v ≤ gI xs f) (fun t a b => top t a (by omega)) i h1 (by omega)
  · exact (h.mov mv) i j h1 h2 (by omega) h4
theorem Hp.less {s : Nat} (hp : Hp f 0 (s + 1) xs) (hl : f + s < xs.length) : Hp f (0 + 1) s (sw xs f (f + s)) := by
  intro i c h1 h2 h3
  rw [gI_sw (by omega) (by omega), gI_sw (by omega) (by omega), if_neg (by omega), if_neg (by omega), if_neg (by omega), if_neg (by omega)]
  exact hp i c (by omega) h2 (by omega)
theorem f99_l2 (hk : l + 4 ≤ k) (hl : f + hi ≤ l) (hM : l ≤ big) : ∀ (t n : Nat) (xs : List Int) (H : AHeap) (D : List Value), t ≤ hi → t < n → St N H0 a l c H xs → Mov f (f + hi) xs0 xs → Hp f 0 t xs → Tl f t hi xs →
    Ok (f99.L2 k n a l c (f : Int) 0 ((t : Int) - 1) D H) fun o => o.1 = .tuple #[] ∧ Fin N H0 a l c f (f + hi) xs0 (Up f (f + hi)) o.2 := by
  intro t
  induction t with
  | zero =>
    intro n xs H D ht hn h mv hp tl
    obtain ⟨n, rfl⟩ : ∃ j, n = j + 1 := ⟨n - 1, by omega⟩
    rw [f99.L2_s]
    exact ok_biff (by simp only [decide_eq_false_iff_not]; omega) (Ok.ret ⟨rfl, xs, h, mv, fun i j h1 h2 h3 => tl i j h1 h2 (by omega) h3⟩)
  | succ s ih =>
    intro n xs H D ht hn h mv hp tl
    obtain ⟨n, rfl⟩ : ∃ j, n = j + 1 := ⟨n - 1, by omega⟩
    have hlen := h.len
    have hM' := hM
    unfold big at hM
    rw [f99.L2_s, show ((s + 1 : Nat) : Int) - 1 = (s : Int) from by omega, wN (z := (f : Int) + (s : Int)) (n := f + s) (by omega) (by omega)]
    refine ok_bift (by simp only [decide_eq_true_eq]; omega) ?_
    refine ok_swp (i := f) (j := f + s) h rfl rfl (by omega) (by omega) fun q q' q2 q3 H2 h2 _ => ?_
    refine ok_cT1 (g := []) (f109_spec (lo := 0) (f := f) (hi := s) hk (by omega) hM' (by omega) h2 (Hp.less hp (by omega))) fun H' ⟨ys, y1, y2, y3⟩ => ?_
    rw [wZ (z := (s : Int) - 1) (y := (s : Int) - 1) rfl (by omega) (by omega)]
    have mv1 : Mov f (f + hi) xs (sw xs f (f + s)) := Mov.sw (by omega) (by omega) (by omega) (by omega) (by omega)
    exact ih n ys H' _ (by omega) (by omega) y1 ((mv.trans mv1).trans (y2.wide (by omega) (by omega))) y3 ((tl.step hp (by omega) (by omega)).mov y2)
theorem f99_l1 (hk : l + 4 ≤ k) (hl : f + hi ≤ l) (hM : l ≤ big) : ∀ (t n : Nat) (xs : List Int) (H : AHeap) (D : List Value), t ≤ hi + 1 → t < n → (hi = 0 ∨ t ≤ hi) → St N H0 a l c H xs → Mov f (f + hi) xs0 xs → Hp f t hi xs →
    Ok (f99.L1 k n a l c (f : Int) 0 (hi : Int) ((t : Int) - 1) D H) fun o => o.1 = .tuple #[] ∧ Fin N H0 a l c f (f + hi) xs0 (Up f (f + hi)) o.2 := by
  intro t
  induction t with
  | zero =>
    intro n xs H D ht hn ht2 h mv hp
    obtain ⟨n, rfl⟩ : ∃ j, n = j + 1 := ⟨n - 1, by omega⟩
    have hM' := hM
    unfold big at hM
    rw [f99.L1_s, wZ (z := (hi : Int) - 1) (y := (hi : Int) - 1) rfl (by omega) (by omega)]
    exact ok_biff (by simp only [decide_eq_false_iff_not]; omega) (f99_l2 hk hl hM' hi k xs H _ (by omega) (by omega) h mv hp fun i j h1 h2 h3 h4 => by omega)
  | succ s ih =>
    intro n xs H D ht hn ht2 h mv hp
    obtain ⟨n, rfl⟩ : ∃ j, n = j + 1 := ⟨n - 1, by omega⟩
    have hM' := hM
    unfold big at hM
    rw [f99.L1_s, show ((s + 1 : Nat) : Int) - 1 = (s : Int) from by omega]
    refine ok_bift (by simp only [decide_eq_true_eq]; omega) ?_
    refine ok_cT1 (g := []) (f109_spec (lo := s) (f := f) (hi := hi) hk (by omega) hM' (by omega) h hp) fun H' ⟨ys, y1, y2, y3⟩ => ?_
    rw [wZ (z := (s : Int) - 1) (y := (s : Int) - 1) rfl (by omega) (by omega)]
    exact ih n ys H' _ (by omega) (by omega) (by omega) y1 (mv.trans y2) y3
theorem f99_spec {b : Nat} (hk : l + 6 ≤ k) (hab : f ≤ b) (hl : b ≤ l) (hM : l ≤ big) (h : St N H0 a l c H xs) :
    ∃ H', C k 99 [.slice a l c, .int .i64 (f : Int), .int .i64 (b : Int)] H = some (.tuple #[], H') ∧ Fin N H0 a l c f b xs (Up f b) H' := by
  obtain ⟨k, rfl⟩ : ∃ j, k = j + 1 := ⟨k - 1, by omega⟩
  have hM' := hM
  unfold big at hM
  rw [f99_eq, wN (z := (b : Int) - (f : Int)) (n := b - f) (by omega) (by omega)]
  obtain ⟨hi, rfl⟩ : ∃ hi, b = f + hi := ⟨b - f, by omega⟩
  rw [show f + hi - f = hi from by omega, wZ (z := (hi : Int) - 1) (y := (hi : Int) - 1) rfl (by omega) (by omega)]
  have e : IntKind.i64.wrap (((hi : Int) - 1).tdiv 2) = (((hi - 1) / 2 + 1 : Nat) : Int) - 1 := by
    by_cases h0 : hi = 0
    · subst h0; decide
    · rw [show (hi : Int) - 1 = ((hi - 1 : Nat) : Int) from by omega, Int.tdiv_eq_ediv_of_nonneg (by omega)]
      exact wZ (by omega) (by omega) (by omega)
  rw [e]
  exact call_of_ok (f99_l1 (by omega) hl hM' _ k xs H _ (by omega) (by omega) (by omega) h (Mov.refl _ _ _) fun i c h1 h2 h3 => by omega)
/-- reverseRange -/
theorem f102_l1 {lo b : Nat} (hl : b ≤ l) (hM : l ≤ big) : ∀ (m i j n : Nat) (xs : List Int) (H : AHeap) (D : List Value), j < i + m → m < n → lo ≤ i → j < b → i ≤ j + 1 → St N H0 a l c H xs → Mov lo b xs0 xs →
    Ok (f102.L1 k n a l c (i : Int) (j : Int) D H) fun o => o.1 = .tuple #[] ∧ Fin N H0 a l c lo b xs0 (fun _ => True) o.2 := by
  intro m
  induction m with
  | zero =>
    intro i j n xs H D h1 hn h2 h3 h4 h mv
    obtain ⟨n, rfl⟩ : ∃ j, n = j + 1 := ⟨n - 1, by omega⟩
    rw [f102.L1_s]
    exact ok_biff (by simp only [decide_eq_false_iff_not]; omega) (Ok.ret ⟨rfl, xs, h, mv, trivial⟩)
  | succ m ih =>
    intro i j n xs H D h1 hn h2 h3 h4 h mv
    obtain ⟨n, rfl⟩ : ∃ j, n = j + 1 := ⟨n - 1, by omega⟩
    have hlen := h.len
    have hM' := hM
    unfold big at hM
    rw [f102.L1_s]
    refine ok_bif (fun hc => ?_) (fun hc => Ok.ret ⟨rfl, xs, h, mv, trivial⟩)
    rw [decide_eq_true_eq] at hc
    refine ok_swp (i := i) (j := j) h rfl rfl (by omega) (by omega) fun q q' q2 q3 H2 h2' _ => ?_
    rw [wN (z := (i : Int) + 1) (n := i + 1) (by omega) (by omega), wN (z := (j : Int) - 1) (n := j - 1) (by omega) (by omega)]
    exact ih (i + 1) (j - 1) n _ H2 _ (by omega) (by omega) (by omega) (by omega) (by omega) h2' (mv.trans (Mov.sw (by omega) (by omega) (by omega) (by omega) (by omega)))
theorem f102_spec {b : Nat} (hk : l + 4 ≤ k) (hab : f < b) (hl : b ≤ l) (hM : l ≤ big) (h : St N H0 a l c H xs) :
    ∃ H', C k 102 [.slice a l c, .int .i64 (f : Int), .int .i64 (b : Int)] H = some (.tuple #[], H') ∧ Fin N H0 a l c f b xs (fun _ => True) H' := by
  obtain ⟨k, rfl⟩ : ∃ j, k = j + 1 := ⟨k - 1, by omega⟩
  have hM' := hM
  unfold big at hM
  rw [f102_eq, wN (z := (b : Int) - 1) (n := b - 1) (by omega) (by omega)]
  exact call_of_ok (f102_l1 hl hM' (b - f) f (b - 1) k xs H _ (by omega) (by omega) (by omega) (by omega) (by omega) h (Mov.refl _ _ _))
end
end Go.Proofs.MxF
end

section
set_option linter.unusedSimpArgs false
/- A number in a box beside a slice; which place the sort divides at; places exchanged at random. -/
set_option linter.unusedVariables false
namespace Go.Proofs.MxF
open Go Go.Mx Go.Proofs
theorem ok_exIq {R : Type} {Q : R → Prop} {X : Option Value} {κ : IntKind} {K : Int → Option R} {n : Int} (h : X = some (.int κ n)) (k : Ok (K n) Q) : Ok (exI κ X K) Q := by
  subst h
  unfold exI asI
  simpa using k
theorem Wrote.keepP {H H' : AHeap} {p : Nat} {b : Blk} (w : Wrote H H' p b) : Keep (some ⟨p, 0, none⟩) H H' :=
  ⟨by rw [w.next]; exact Nat.le_refl _, fun j _ hne => w.old j (fun e => hne _ rfl e.symm), fun f => w.fresh f⟩
structure SB (κ : IntKind) (p N : Nat) (H0 : AHeap) (a : Option Addr) (l c : Nat) (H : AHeap) (xs : List Int) : Prop where
  st : St N H0 a l c H xs
  box : ∃ z v, At H p ⟨[.int κ z], 0, .rw, v⟩
  new : H0.next ≤ p
  off : ∀ q, a = some q → q.block ≠ p
section
variable {κ : IntKind} {p k n N : Nat} {H0 H : AHeap} {a : Option Addr} {l c : Nat} {xs : List Int}
theorem SB.bump (h : SB κ p N H0 a l c H xs) (n : Nat) : SB κ p N H0 a l c (H.bump n) xs :=
  ⟨h.st.bump n, by obtain ⟨z, v, e⟩ := h.box; exact ⟨z, v, e.agree (agree_bump H n)⟩, h.new, h.off⟩
theorem SB.wr (h : SB κ p N H0 a l c H xs) {z : Int} {R : Type} {Q : R → Prop} {K : AHeap → Option R} (next : ∀ H', SB κ p N H0 a l c H' xs → Ok (K H') Q) : Ok ((AHeap.wr H p 0 [.int κ z]).bind K) Q := by
  obtain ⟨z0, v, e⟩ := h.box
  refine ok_wr e rfl (by simp) fun H' w => next H' ⟨⟨h.st.own.keep (Wrote.keepP w) (fun q q' e1 e2 e3 => ?_), h.st.keep.trans (fun q e1 => ?_) (Wrote.keepP w)⟩, ⟨z, v + 1, ?_⟩, h.new, h.off⟩
  · cases e2; exact h.off q e1 e3.symm
  · cases e1; exact .inr h.new
  · exact w.at'
theorem SB.ld (h : SB κ p N H0 a l c H xs) {R : Type} {Q : R → Prop} {K : Int → Option R} (next : ∀ z, Ok (K z) Q) : Ok ((ldI κ H p 0).bind K) Q := by
  obtain ⟨z0, v, e⟩ := h.box
  exact ok_bind (ldI_at (n := z0) e (by simp) rfl) (next z0)
theorem SB.same (h : SB κ p N H0 a l c H xs) (n : Nat) : sameB H (H.bump n) p = true := by
  obtain ⟨z0, v, e⟩ := h.box
  exact sameB_agree e (agree_bump H n)
/-- order2 -/
theorem f115_spec {i j : Nat} (hk : 3 ≤ k) (hi : i < l) (hj : j < l) (h : SB .i64 p N H0 a l c H xs) :
    ∃ g H', C k 115 [.slice a l c, .int .i64 (i : Int), .int .i64 (j : Int), .pointer (some ⟨p, 0, none⟩)] H = some (.tuple (g : List Value).toArray, H') ∧
      (SB .i64 p N H0 a l c H' xs ∧ ∃ i' j' : Nat, g = [.int .i64 (i' : Int), .int .i64 (j' : Int)] ∧ (i' = i ∨ i' = j) ∧ (j' = i ∨ j' = j)) := by
  obtain ⟨k, rfl⟩ : ∃ j, k = j + 1 := ⟨k - 1, by omega⟩
  rw [f115_eq]
  have := ok_cmp (n := 9) (i := j) (j := i) (k := k) (K := fun q x q_1 x_1 b H_1 => bif b then (some (⟨p, 0, none⟩ : Addr)).bind fun q_2 => (ldI .i64 H_1 q_2.block (q_2.off)).bind fun x_2 => (some (⟨p, 0, none⟩ : Addr)).bind fun q_3 => (AHeap.wr H_1 q_3.block (q_3.off) [.int .i64 (IntKind.i64.wrap (x_2 + (1 : Int)))]).bind fun H_2 =>
    some (.tuple #[.int .i64 (j : Int), .int .i64 (i : Int)], H_2) else some (.tuple #[.int .i64 (i : Int), .int .i64 (j : Int)], H_1))
    (Q := fun r => ∃ g : List Value, r.1 = .tuple g.toArray ∧ (SB .i64 p N H0 a l c r.2 xs ∧ ∃ i' j' : Nat, g = [.int .i64 (i' : Int), .int .i64 (j' : Int)] ∧ (i' = i ∨ i' = j) ∧ (j' = i ∨ j' = j))) (by omega) h.st rfl rfl hj hi
    (fun q q' => ok_bif (fun hc => ok_bind rfl ((h.bump 9).ld fun z => ok_bind rfl ((h.bump 9).wr fun H' h' => Ok.ret ⟨_, rfl, h', j, i, rfl, .inr rfl, .inl rfl⟩))) (fun hc => Ok.ret ⟨_, rfl, h.bump 9, i, j, rfl, .inl rfl, .inr rfl⟩))
  obtain ⟨⟨v, H'⟩, e, g, e1, h1⟩ := this
  replace e1 : v = .tuple g.toArray := e1
  subst e1
  exact ⟨g, H', e, h1⟩
/-- median -/
theorem f113_spec {i j m : Nat} (hk : 4 ≤ k) (hi : i < l) (hj : j < l) (hm : m < l) (h : SB .i64 p N H0 a l c H xs) :
    ∃ t H', C k 113 [.slice a l c, .int .i64 (i : Int), .int .i64 (j : Int), .int .i64 (m : Int), .pointer (some ⟨p, 0, none⟩)] H = some (.int .i64 ((t : Nat) : Int), H') ∧
      (SB .i64 p N H0 a l c H' xs ∧ (t = i ∨ t = j ∨ t = m)) := by
  obtain ⟨k, rfl⟩ : ∃ j, k = j + 1 := ⟨k - 1, by omega⟩
  rw [f113_eq]
  have : Ok (cT (C k 115 [.slice a l c, .int .i64 (i : Int), .int .i64 (j : Int), .pointer (some ⟨p, 0, none⟩)] H) fun u H_1 =>
   exI .i64 (u.toList[0]?) fun x =>
   exI .i64 (u.toList[1]?) fun x_1 =>
   cT (C k 115 [.slice a l c, .int .i64 x_1, .int .i64 (m : Int), .pointer (some ⟨p, 0, none⟩)] H_1) fun u_1 H_2 =>
   exI .i64 (u_1.toList[0]?) fun x_2 =>
   exI .i64 (u_1.toList[1]?) fun x_3 =>
   cT (C k 115 [.slice a l c, .int .i64 x, .int .i64 x_2, .pointer (some ⟨p, 0, none⟩)] H_2) fun u_2 H_3 =>
   exI .i64 (u_2.toList[0]?) fun x_4 =>
   exI .i64 (u_2.toList[1]?) fun x_5 =>
   some ((.int .i64 x_5 : Value), H_3)) (fun r => ∃ t : Nat, r.1 = .int .i64 (t : Int) ∧ (SB .i64 p N H0 a l c r.2 xs ∧ (t = i ∨ t = j ∨ t = m))) := by
    refine ok_cT (f115_spec (by omega) hi hj h) ?_
    rintro _ H1 ⟨h1, i1, j1, rfl, hi1, hj1⟩
    refine ok_exIq rfl (ok_exIq rfl (ok_cT (f115_spec (by omega) (by omega) hm h1) ?_))
    rintro _ H2 ⟨h2, j2, k2, rfl, hj2, hk2⟩
    refine ok_exIq rfl (ok_exIq rfl (ok_cT (f115_spec (by omega) (by omega) (by omega) h2) ?_))
    rintro _ H3 ⟨h3, i3, j3, rfl, hi3, hj3⟩
    exact ok_exIq rfl (ok_exIq rfl (Ok.ret ⟨j3, rfl, h3, by omega⟩))
  obtain ⟨⟨v, H'⟩, e, t, e1, h1⟩ := this
  replace e1 : v = .int .i64 (t : Int) := e1
  subst e1
  exact ⟨t, H', e, h1⟩
theorem f112_spec {i : Nat} (hk : 5 ≤ k) (h0 : 0 < i) (hi : i + 1 < l) (hM : l ≤ big) (h : SB .i64 p N H0 a l c H xs) :
    ∃ t H', C k 112 [.slice a l c, .int .i64 (i : Int), .pointer (some ⟨p, 0, none⟩)] H = some (.int .i64 ((t : Nat) : Int), H') ∧
      (SB .i64 p N H0 a l c H' xs ∧ i - 1 ≤ t ∧ t ≤ i + 1) := by
  obtain ⟨k, rfl⟩ : ∃ j, k = j + 1 := ⟨k - 1, by omega⟩
  unfold big at hM
  rw [f112_eq, wN (z := (i : Int) - 1) (n := i - 1) (by omega) (by omega), wN (z := (i : Int) + 1) (n := i + 1) (by omega) (by omega)]
  obtain ⟨t, H', e, h1, h2⟩ := f113_spec (k := k) (i := i - 1) (j := i) (m := i + 1) (by omega) (by omega) (by omega) (by omega) h
  rw [e]
  exact ⟨t, H', rfl, h1, by omega⟩
theorem ok_cIn {R : Type} {Q : R → Prop} {X : Option (Value × AHeap)} {κ : IntKind} {K : Int → AHeap → Option R} {P : Nat → AHeap → Prop} (h : ∃ t H', X = some (.int κ ((t : Nat) : Int), H') ∧ P t H') (k : ∀ t H', P t H' → Ok (K (t : Int) H') Q) : Ok (cI κ X K) Q := by
  obtain ⟨t, H', e, hp⟩ := h
  exact ok_cI (P := P t) ⟨H', e, hp⟩ (k t)
theorem wD {z : Int} {n : Nat} {d : Nat} (e : z = (n : Int)) (h : n ≤ 9223372036854775807) (hd : 0 < d) : IntKind.i64.wrap (z.tdiv (d : Int)) = ((n / d : Nat) : Int) := by
  subst e
  have : ((n : Int)).tdiv (d : Int) = ((n / d : Nat) : Int) := by rw [Int.tdiv_eq_ediv_of_nonneg (by omega)]; rfl
  rw [this]
  have h2 := Nat.div_le_self n d
  generalize n / d = m at h2
  exact IntWalk.i64_in _ (by omega)
/-- choosePivot -/
theorem f101_spec {lo b : Nat} (hk : 8 ≤ k) (hb : lo + 12 < b) (hl : b ≤ l) (hM : l ≤ big) (h : St N H0 a l c H xs) :
    ∃ g H', C k 101 [.slice a l c, .int .i64 (lo : Int), .int .i64 (b : Int)] H = some (.tuple (g : List Value).toArray, H') ∧
      (St N H0 a l c H' xs ∧ ∃ (t : Nat) (z : Int), g = [.int .i64 (t : Int), .int .i64 z] ∧ lo ≤ t ∧ t < b) := by
  obtain ⟨k, rfl⟩ : ∃ j, k = j + 1 := ⟨k - 1, by omega⟩
  have hM' := hM
  unfold big at hM
  rw [f101_eq, wN (z := (b : Int) - (lo : Int)) (n := b - lo) (by omega) (by omega)]
  generalize hn : b - lo = nn
  have e4 : IntKind.i64.wrap (((nn : Nat) : Int).tdiv 4) = ((nn / 4 : Nat) : Int) := wD (d := 4) rfl (by omega) (by omega)
  rw [e4, wN (z := ((nn / 4 : Nat) : Int) * 1) (n := nn / 4) (by omega) (by omega), wN (z := ((nn / 4 : Nat) : Int) * 2) (n := nn / 4 * 2) (by omega) (by omega), wN (z := ((nn / 4 : Nat) : Int) * 3) (n := nn / 4 * 3) (by omega) (by omega),
    wN (z := (lo : Int) + ((nn / 4 : Nat) : Int)) (n := lo + nn / 4) (by omega) (by omega), wN (z := (lo : Int) + ((nn / 4 * 2 : Nat) : Int)) (n := lo + nn / 4 * 2) (by omega) (by omega), wN (z := (lo : Int) + ((nn / 4 * 3 : Nat) : Int)) (n := lo + nn / 4 * 3) (by omega) (by omega)]
  have fin : ∀ (p t : Nat) (D : List Value) (H' : AHeap), SB .i64 p N H0 a l c H' xs → lo ≤ t → t < b → Ok (f101.K1 k p (t : Int) D H') (fun r => ∃ g : List Value, r.1 = .tuple g.toArray ∧ (St N H0 a l c r.2 xs ∧ ∃ (t : Nat) (z : Int), g = [.int .i64 (t : Int), .int .i64 z] ∧ lo ≤ t ∧ t < b)) := by
    intro p t D H' h' h1 h2
    rw [f101.K1_eq]
    exact h'.ld fun z => ok_bif (fun _ => Ok.ret ⟨_, rfl, h'.st, t, 1, rfl, h1, h2⟩) (fun _ => ok_bif (fun _ => Ok.ret ⟨_, rfl, h'.st, t, 2, rfl, h1, h2⟩) (fun _ => Ok.ret ⟨_, rfl, h'.st, t, 0, rfl, h1, h2⟩))
  suffices hs : Ok (R := Value × AHeap) _ (fun r => ∃ g : List Value, r.1 = .tuple g.toArray ∧ (St N H0 a l c r.2 xs ∧ ∃ (t : Nat) (z : Int), g = [.int .i64 (t : Int), .int .i64 z] ∧ lo ≤ t ∧ t < b)) by
    obtain ⟨⟨v, H'⟩, e, g, e1, h1⟩ := hs
    replace e1 : v = .tuple g.toArray := e1
    subst e1
    exact ⟨g, H', e, h1⟩
  refine ok_al fun i H1 hi hn1 A1 at1 => ?_
  have h1 : SB .i64 i N H0 a l c H1 xs := ⟨⟨h.own.agree A1, h.keep.trans (Orig.refl _ _) A1.keep⟩, ⟨0, 0, at1⟩, by rw [hi]; exact h.keep.next, fun q e => by have := h.own.cells.below q e; omega⟩
  refine ok_bift (by simp only [decide_eq_true_eq]; omega) (ok_bif (fun hc => ?_) (fun hc => ?_))
  · rw [decide_eq_true_eq] at hc
    refine ok_cIn (f112_spec (by omega) (by omega) (by omega) hM' h1) fun t1 H2 h2 => ok_cIn (f112_spec (by omega) (by omega) (by omega) hM' h2.1) fun t2 H3 h3 => ok_cIn (f112_spec (by omega) (by omega) (by omega) hM' h3.1) fun t3 H4 h4 => ?_
    obtain ⟨h2, b2⟩ := h2
    obtain ⟨h3, b3⟩ := h3
    obtain ⟨h4, b4⟩ := h4
    refine ok_cIn (f113_spec (by omega) (by omega) (by omega) (by omega) h4) fun t5 H5 h5 => fin _ _ _ _ h5.1 (by have := h5.2; omega) (by have := h5.2; omega)
  · refine ok_cIn (f113_spec (by omega) (by omega) (by omega) (by omega) h1) fun t5 H5 h5 => fin _ _ _ _ h5.1 (by have := h5.2; omega) (by have := h5.2; omega)
end
end Go.Proofs.MxF
end

section
set_option linter.unusedSimpArgs false
/- Places exchanged at random. -/
set_option linter.unusedVariables false
namespace Go.Proofs.MxF
open Go Go.Mx Go.Proofs
theorem len64b (k : Nat) (H : AHeap) (n : Nat) (h : n ≤ 63) : ∃ r : Nat, C (k + 1 + 1) 108 [.int .u64 (n : Int)] H = some (.int .i64 (r : Int), H) ∧ (n = 0 ∨ 2 ^ r ≤ 2 * n) ∧ r ≤ 6 := by
  match n, h with
  | 0, _ => exact ⟨0, by kernel_rfl, .inl rfl, by omega⟩
  | 1, _ => exact ⟨1, by kernel_rfl, .inr (by decide), by omega⟩
  | 2, _ => exact ⟨2, by kernel_rfl, .inr (by decide), by omega⟩
  | 3, _ => exact ⟨2, by kernel_rfl, .inr (by decide), by omega⟩
  | 4, _ => exact ⟨3, by kernel_rfl, .inr (by decide), by omega⟩
  | 5, _ => exact ⟨3, by kernel_rfl, .inr (by decide), by omega⟩
  | 6, _ => exact ⟨3, by kernel_rfl, .inr (by decide), by omega⟩
  | 7, _ => exact ⟨3, by kernel_rfl, .inr (by decide), by omega⟩
  | 8, _ => exact ⟨4, by kernel_rfl, .inr (by decide), by omega⟩
  | 9, _ => exact ⟨4, by kernel_rfl, .inr (by decide), by omega⟩
  | 10, _ => exact ⟨4, by kernel_rfl, .inr (by decide), by omega⟩
  | 11, _ => exact ⟨4, by kernel_rfl, .inr (by decide), by omega⟩
  | 12, _ => exact ⟨4, by kernel_rfl, .inr (by decide), by omega⟩
  | 13, _ => exact ⟨4, by kernel_rfl, .inr (by decide), by omega⟩
  | 14, _ => exact ⟨4, by kernel_rfl, .inr (by decide), by omega⟩
  | 15, _ => exact ⟨4, by kernel_rfl, .inr (by decide), by omega⟩
  | 16, _ => exact ⟨5, by kernel_rfl, .inr (by decide), by omega⟩
  | 17, _ => exact ⟨5, by kernel_rfl, .inr (by decide), by omega⟩
  | 18, _ => exact ⟨5, by kernel_rfl, .inr (by decide), by omega⟩
  | 19, _ => exact ⟨5, by kernel_rfl, .inr (by decide), by omega⟩
  | 20, _ => exact ⟨5, by kernel_rfl, .inr (by decide), by omega⟩
  | 21, _ => exact ⟨5, by kernel_rfl, .inr (by decide), by omega⟩
  | 22, _ => exact ⟨5, by kernel_rfl, .inr (by decide), by omega⟩
  | 23, _ => exact ⟨5, by kernel_rfl, .inr (by decide), by omega⟩
  | 24, _ => exact ⟨5, by kernel_rfl, .inr (by decide), by omega⟩
  | 25, _ => exact ⟨5, by kernel_rfl, .inr (by decide), by omega⟩
  | 26, _ => exact ⟨5, by kernel_rfl, .inr (by decide), by omega⟩
  | 27, _ => exact ⟨5, by kernel_rfl, .inr (by decide), by omega⟩
  | 28, _ => exact ⟨5, by kernel_rfl, .inr (by decide), by omega⟩
  | 29, _ => exact ⟨5, by kernel_rfl, .inr (by decide), by omega⟩
  | 30, _ => exact ⟨5, by kernel_rfl, .inr (by decide), by omega⟩
  | 31, _ => exact ⟨5, by kernel_rfl, .inr (by decide), by omega⟩
  | 32, _ => exact ⟨6, by kernel_rfl, .inr (by decide), by omega⟩
  | 33, _ => exact ⟨6, by kernel_rfl, .inr (by decide), by omega⟩
  | 34, _ => exact ⟨6, by kernel_rfl, .inr (by decide), by omega⟩
  | 35, _ => exact ⟨6, by kernel_rfl, .inr (by decide), by omega⟩
  | 36, _ => exact ⟨6, by kernel_rfl, .inr (by decide), by omega⟩
  | 37, _ => exact ⟨6, by kernel_rfl, .inr (by decide), by omega⟩
  | 38, _ => exact ⟨6, by kernel_rfl, .inr (by decide), by omega⟩
  | 39, _ => exact ⟨6, by kernel_rfl, .inr (by decide), by omega⟩
  | 40, _ => exact ⟨6, by kernel_rfl, .inr (by decide), by omega⟩
  | 41, _ => exact ⟨6, by kernel_rfl, .inr (by decide), by omega⟩
  | 42, _ => exact ⟨6, by kernel_rfl, .inr (by decide), by omega⟩
  | 43, _ => exact ⟨6, by kernel_rfl, .inr (by decide), by omega⟩
  | 44, _ => exact ⟨6, by kernel_rfl, .inr (by decide), by omega⟩
  | 45, _ => exact ⟨6, by kernel_rfl, .inr (by decide), by omega⟩
  | 46, _ => exact ⟨6, by kernel_rfl, .inr (by decide), by omega⟩
  | 47, _ => exact ⟨6, by kernel_rfl, .inr (by decide), by omega⟩
  | 48, _ => exact ⟨6, by kernel_rfl, .inr (by decide), by omega⟩
  | 49, _ => exact ⟨6, by kernel_rfl, .inr (by decide), by omega⟩
  | 50, _ => exact ⟨6, by kernel_rfl, .inr (by decide), by omega⟩
  | 51, _ => exact ⟨6, by kernel_rfl, .inr (by decide), by omega⟩
  | 52, _ => exact ⟨6, by kernel_rfl, .inr (by decide), by omega⟩
  | 53, _ => exact ⟨6, by kernel_rfl, .inr (by decide), by omega⟩
  | 54, _ => exact ⟨6, by kernel_rfl, .inr (by decide), by omega⟩
  | 55, _ => exact ⟨6, by kernel_rfl, .inr (by decide), by omega⟩
  | 56, _ => exact ⟨6, by kernel_rfl, .inr (by decide), by omega⟩
  | 57, _ => exact ⟨6, by kernel_rfl, .inr (by decide), by omega⟩
  | 58, _ => exact ⟨6, by kernel_rfl, .inr (by decide), by omega⟩
  | 59, _ => exact ⟨6, by kernel_rfl, .inr (by decide), by omega⟩
  | 60, _ => exact ⟨6, by kernel_rfl, .inr (by decide), by omega⟩
  | 61, _ => exact ⟨6, by kernel_rfl, .inr (by decide), by omega⟩
  | 62, _ => exact ⟨6, by kernel_rfl, .inr (by decide), by omega⟩
  | 63, _ => exact ⟨6, by kernel_rfl, .inr (by decide), by omega⟩
  | n + 64, h => exact absurd h (by omega)
theorem f110_spec {k n : Nat} {H : AHeap} (hk : 5 ≤ k) (h0 : 0 < n) (h : n ≤ 63) : ∃ m : Nat, C k 110 [.int .i64 (n : Int)] H = some (.int .u64 (m : Int), H) ∧ 0 < m ∧ m ≤ 2 * n := by
  obtain ⟨k, rfl⟩ : ∃ j, k = j + 1 + 1 + 1 + 1 := ⟨k - 4, by omega⟩
  rw [f110_eq, show IntKind.u64.wrap (n : Int) = (n : Int) from IntWalk.u64_in _ (by omega), f97_eq]
  obtain ⟨r, er, hr, hr6⟩ := len64b k H n h
  refine ⟨2 ^ r, ?_, Nat.pos_of_ne_zero (by simp), by omega⟩
  refine eq_of_ok (ok_cI0 (n := (r : Int)) (eq_of_ok (ok_cI0 (n := (r : Int)) er (Ok.ret rfl))) (ok_ifn (by omega) ?_))
  have e : (1 : Int) * 2 ^ (min ((r : Int)).toNat (IntKind.u64.bits)) = ((2 ^ r : Nat) : Int) := by
    rw [Int.toNat_natCast, show min r (IntKind.u64.bits) = r from Nat.min_eq_left (by show r ≤ 64; omega), Int.one_mul]
    exact (Int.natCast_pow 2 r).symm
  rw [e]
  have h64 : 2 ^ r ≤ 2 ^ 6 := Nat.pow_le_pow_right (by omega) hr6
  generalize 2 ^ r = m at h64
  rw [show IntKind.u64.wrap (m : Int) = (m : Int) from IntWalk.u64_in _ (by omega)]
  exact Ok.ret rfl
section
variable {p k N : Nat} {H0 H : AHeap} {a : Option Addr} {l c : Nat} {xs xs0 : List Int} {lo b : Nat}
theorem f111_spec (hk : 1 ≤ k) (h : SB .u64 p N H0 a l c H xs) : ∃ (z : Int) (H' : AHeap), C k 111 [.pointer (some ⟨p, 0, none⟩)] H = some (.int .u64 z, H') ∧ SB .u64 p N H0 a l c H' xs := by
  obtain ⟨k, rfl⟩ : ∃ j, k = j + 1 := ⟨k - 1, by omega⟩
  rw [f111_eq]
  suffices hs : Ok (R := Value × AHeap) _ (fun r => ∃ z : Int, r.1 = .int .u64 z ∧ SB .u64 p N H0 a l c r.2 xs) by
    obtain ⟨⟨v, H'⟩, e, z, e1, h1⟩ := hs
    replace e1 : v = .int .u64 z := e1
    subst e1
    exact ⟨z, H', e, h1⟩
  refine ok_bind rfl (ok_bift (h.same 10) ((h.bump 10).ld fun x => ok_bind rfl (ok_bift (h.same 10) ((h.bump 10).ld fun x1 => ok_bind rfl ((h.bump 10).wr fun H1 h1 => ?_)))))
  refine ok_bind rfl (ok_bift (h1.same 10) ((h1.bump 10).ld fun x => ok_bind rfl (ok_bift (h1.same 10) ((h1.bump 10).ld fun x1 => ok_bind rfl ((h1.bump 10).wr fun H2 h2 => ?_)))))
  refine ok_bind rfl (ok_bift (h2.same 10) ((h2.bump 10).ld fun x => ok_bind rfl (ok_bift (h2.same 10) ((h2.bump 10).ld fun x1 => ok_bind rfl ((h2.bump 10).wr fun H3 h3 => ?_)))))
  exact ok_bind rfl (h3.ld fun z => Ok.ret ⟨z, rfl, h3⟩)
theorem and_lt {x : Int} {m : Nat} (h0 : 0 < m) (h : m ≤ 9223372036854775807) :
    ∃ v : Nat, v < m ∧ IntKind.i64.wrap (IntKind.u64.wrap (((BitVec.ofInt (IntKind.u64.bits) x &&& BitVec.ofInt (IntKind.u64.bits) (IntKind.u64.wrap ((m : Int) - 1))).toNat : Nat) : Int)) = (v : Int) := by
  rw [show IntKind.u64.wrap ((m : Int) - 1) = ((m - 1 : Nat) : Int) from by rw [IntWalk.u64_in _ (by omega)]; omega]
  have hle : (BitVec.ofInt (IntKind.u64.bits) x &&& BitVec.ofInt (IntKind.u64.bits) ((m - 1 : Nat) : Int)).toNat ≤ m - 1 := by
    rw [BitVec.toNat_and]
    refine Nat.le_trans Nat.and_le_right ?_
    show (BitVec.ofInt 64 ((m - 1 : Nat) : Int)).toNat ≤ m - 1
    rw [BitVec.toNat_ofInt]
    omega
  generalize (BitVec.ofInt (IntKind.u64.bits) x &&& BitVec.ofInt (IntKind.u64.bits) ((m - 1 : Nat) : Int)).toNat = v at hle
  refine ⟨v, by omega, ?_⟩
  rw [IntWalk.u64_in _ (by omega), IntWalk.i64_in _ (by omega)]
theorem SB.swp {κ : IntKind} (h : SB κ p N H0 a l c H xs) {H2 : AHeap} {ys : List Int} (h2 : St N H a l c H2 ys) : SB κ p N H0 a l c H2 ys :=
  ⟨h.st.then h2, by obtain ⟨z, v, e⟩ := h.box; exact ⟨z, v, e.keep h2.keep (fun q eq => h.off q eq)⟩, h.new, h.off⟩
theorem ok_swpB {κ : IntKind} {n i j : Nat} {ei ej : Int} {K : Addr → Int → Addr → Int → Addr → Addr → AHeap → Option (Value × AHeap)} {Q : Value × AHeap → Prop} (h : SB κ p N H0 a l c H xs) (hei : ei = (i : Int)) (hej : ej = (j : Int)) (hi : i < l) (hj : j < l)
    (next : ∀ q q' q2 q3 H2, SB κ p N H0 a l c H2 (sw xs i j) → Ok (K q (gI xs j) q' (gI xs i) q2 q3 H2) Q) :
    Ok (a.bind fun q => if 0 ≤ ej ∧ ej < (l : Int) then (bif sameB H (H.bump n) q.block then ((ldI .i64 (H.bump n) q.block (q.off + ej.toNat * 1)).bind fun x =>
      a.bind fun q_1 => if 0 ≤ ei ∧ ei < (l : Int) then (bif sameB H (H.bump n) q_1.block then ((ldI .i64 (H.bump n) q_1.block (q_1.off + ei.toNat * 1)).bind fun x_1 =>
        a.bind fun q_2 => if 0 ≤ ei ∧ ei < (l : Int) then ((AHeap.wr (H.bump n) q_2.block (q_2.off + ei.toNat * 1) [.int .i64 x]).bind fun H_1 =>
          a.bind fun q_3 => if 0 ≤ ej ∧ ej < (l : Int) then ((AHeap.wr H_1 q_3.block (q_3.off + ej.toNat * 1) [.int .i64 x_1]).bind fun H_2 => K q x q_1 x_1 q_2 q_3 H_2) else none) else none) else none) else none) else none) else none) Q :=
  ok_swp (St.zero h.st.own) hei hej hi hj fun q q' q2 q3 H2 h2 _ => next q q' q2 q3 H2 (h.swp h2)
theorem f100_l1 {i0 m : Nat} (hk : 1 ≤ k) (hM : l ≤ big) (hb : b ≤ l) (h8 : lo + 8 ≤ b) (hi0 : i0 = lo + (b - lo) / 4 * 2 - 1) (hm0 : 0 < m) (hm : m ≤ 2 * (b - lo)) : ∀ (d i n : Nat) (xs : List Int) (H : AHeap) (D : List Value), i + d = i0 + 3 → i0 ≤ i → d < n → SB .u64 p N H0 a l c H xs → Mov lo b xs0 xs →
    Ok (f100.L1 k n a l c (lo : Int) ((b - lo : Nat) : Int) p (m : Int) (i : Int) D H) fun r => r.1 = .tuple #[] ∧ Fin N H0 a l c lo b xs0 (fun _ => True) r.2 := by
  intro d
  have hM' := hM
  unfold big at hM
  have e1 : IntKind.i64.wrap ((IntKind.i64.wrap ((lo : Int) + (IntKind.i64.wrap ((IntKind.i64.wrap (((b - lo : Nat) : Int).tdiv (4 : Int))) * (2 : Int))))) + (1 : Int)) = ((i0 + 2 : Nat) : Int) := by
    rw [show IntKind.i64.wrap (((b - lo : Nat) : Int).tdiv (4 : Int)) = (((b - lo) / 4 : Nat) : Int) from wD (d := 4) rfl (by omega) (by omega)]
    rw [wN (z := (((b - lo) / 4 : Nat) : Int) * 2) (n := (b - lo) / 4 * 2) (by omega) (by omega), wN (z := (lo : Int) + (((b - lo) / 4 * 2 : Nat) : Int)) (n := lo + (b - lo) / 4 * 2) (by omega) (by omega)]
    exact wN (by omega) (by omega)
  induction d with
  | zero =>
    intro i n xs H D h1 h2 hn h mv
    obtain ⟨n, rfl⟩ : ∃ j, n = j + 1 := ⟨n - 1, by omega⟩
    rw [f100.L1_s, e1]
    exact ok_biff (by simp only [decide_eq_false_iff_not]; omega) (Ok.ret ⟨rfl, xs, h.st, mv, trivial⟩)
  | succ d ih =>
    intro i n xs H D h1 h2 hn h mv
    obtain ⟨n, rfl⟩ : ∃ j, n = j + 1 := ⟨n - 1, by omega⟩
    rw [f100.L1_s, e1]
    refine ok_bift (by simp only [decide_eq_true_eq]; omega) ?_
    obtain ⟨z, H1, ez, h1'⟩ := f111_spec hk h
    refine ok_cI (P := fun H' => H' = H1) ⟨H1, ez, rfl⟩ fun H' eH => ?_
    subst eH
    obtain ⟨v, hv, ev⟩ := and_lt (x := z) hm0 (by omega)
    rw [ev]
    have key : ∀ (o : Nat) (D : List Value), o < b - lo → Ok (f100.K1 k n a l c (lo : Int) ((b - lo : Nat) : Int) p (m : Int) (i : Int) (o : Int) D H') fun r => r.1 = .tuple #[] ∧ Fin N H0 a l c lo b xs0 (fun _ => True) r.2 := by
      intro o D ho
      have hlen := h1'.st.len
      rw [f100.K1_eq, wN (z := (lo : Int) + (o : Int)) (n := lo + o) (by omega) (by omega), wN (z := (i : Int) + 1) (n := i + 1) (by omega) (by omega)]
      refine ok_swpB (i := i) (j := lo + o) h1' rfl rfl (by omega) (by omega) fun q q' q2 q3 H2 h2' => ?_
      exact ih (i + 1) n _ _ _ (by omega) (by omega) (by omega) h2' (mv.trans (Mov.sw (by omega) (by omega) (by omega) (by omega) (by omega)))
    refine ok_bif (fun hc => ?_) (fun hc => ?_)
    · rw [decide_eq_true_eq] at hc
      rw [wN (z := (v : Int) - ((b - lo : Nat) : Int)) (n := v - (b - lo)) (by omega) (by omega)]
      exact key _ _ (by omega)
    · rw [decide_eq_false_iff_not] at hc
      exact key _ _ (by omega)
/-- breakPatterns -/
theorem f100_spec (hk : 8 ≤ k) (hlb : lo ≤ b) (hb : b ≤ l) (hM : l ≤ big) (h63 : b - lo ≤ 63) (h : St N H0 a l c H xs) :
    ∃ H', C k 100 [.slice a l c, .int .i64 (lo : Int), .int .i64 (b : Int)] H = some (.tuple #[], H') ∧ Fin N H0 a l c lo b xs (fun _ => True) H' := by
  obtain ⟨k, rfl⟩ : ∃ j, k = j + 1 := ⟨k - 1, by omega⟩
  have hM' := hM
  unfold big at hM
  rw [f100_eq, wN (z := (b : Int) - (lo : Int)) (n := b - lo) (by omega) (by omega)]
  refine call_of_ok (ok_bif (fun hc => ?_) (fun hc => Ok.ret ⟨rfl, xs, h, Mov.refl _ _ _, trivial⟩))
  rw [decide_eq_true_eq] at hc
  refine ok_al fun i H1 hi hn1 A1 at1 => ?_
  have h1 : SB .u64 i N H0 a l c H1 xs := ⟨⟨h.own.agree A1, h.keep.trans (Orig.refl _ _) A1.keep⟩, ⟨0, 0, at1⟩, by rw [hi]; exact h.keep.next, fun q e => by have := h.own.cells.below q e; omega⟩
  refine h1.wr fun H2 h2 => ?_
  obtain ⟨m, em, m0, m1⟩ := f110_spec (k := k) (n := b - lo) (H := H2) (by omega) (by omega) h63
  refine ok_cI0 (n := (m : Int)) em ?_
  rw [show IntKind.i64.wrap (((b - lo : Nat) : Int).tdiv (4 : Int)) = (((b - lo) / 4 : Nat) : Int) from wD (d := 4) rfl (by omega) (by omega)]
  rw [wN (z := (((b - lo) / 4 : Nat) : Int) * 2) (n := (b - lo) / 4 * 2) (by omega) (by omega), wN (z := (lo : Int) + (((b - lo) / 4 * 2 : Nat) : Int)) (n := lo + (b - lo) / 4 * 2) (by omega) (by omega),
    wN (z := ((lo + (b - lo) / 4 * 2 : Nat) : Int) - 1) (n := lo + (b - lo) / 4 * 2 - 1) (by omega) (by omega)]
  exact f100_l1 (by omega) hM' hb (by omega) rfl m0 m1 3 _ k xs _ _ (by omega) (by omega) (by omega) h2 (Mov.refl _ _ _)
end
end Go.Proofs.MxF
end
