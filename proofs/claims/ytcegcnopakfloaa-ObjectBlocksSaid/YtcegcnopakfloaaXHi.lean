/- Texts of this claim, laid together: Of O25 O28 O29 O30. -/
import Derived.Test.YtcegcnopakfloaaXHc
import Derived.Test.YtcegcnopakfloaaXHh
section
set_option linter.unusedSimpArgs false
/- Functions of the program as the machine comes to them: printed by a program of this workplace (px.py); the kernel checks each line. -/
set_option linter.unusedVariables false
namespace Go.Proofs.MxF
open Go Go.Mx Go.Proofs

/- f42 "interleave/interleavelaw08.safe"  names:  -/
noncomputable def f42.Q0 (k : Nat)  : Kont (Value × AHeap) := retQ Try.prog Try.f42
noncomputable def f42.Q1 (k : Nat)  : Kont (Value × AHeap) := seqQ (gateC (Sub (bodyOf Try.f42) [1, 1, 0]) (Sub (bodyOf Try.f42) [1, 1, 1]) k (run Try.prog (C k) k (Sub (bodyOf Try.f42) [1, 1, 1]) (f42.Q0 k ))) (f42.Q0 k )
noncomputable def f42.Q2 (k : Nat)  : Kont (Value × AHeap) := blkQ 0 (f42.Q1 k )
noncomputable def f42.Q3 (k : Nat) (n1 : Nat) : Kont (Value × AHeap) := seqQ (iter (run Try.prog (C k) k (Sub (bodyOf Try.f42) [1, 1, 0, 1, 0, 0])) (f42.Q2 k ) n1) (f42.Q2 k )
noncomputable def f42.Q4 (k : Nat) (n1 : Nat) : Kont (Value × AHeap) := seqQ (gateC (Sub (bodyOf Try.f42) [1, 1, 0, 1, 0, 0, 1, 0]) (Sub (bodyOf Try.f42) [1, 1, 0, 1, 0, 0, 1, 1]) k (run Try.prog (C k) k (Sub (bodyOf Try.f42) [1, 1, 0, 1, 0, 0, 1, 1]) (f42.Q3 k n1))) (f42.Q3 k n1)
noncomputable def f42.Q5 (k : Nat) (n1 : Nat) : Kont (Value × AHeap) := blkQ 1 (f42.Q4 k n1)
noncomputable def f42.Q6 (k : Nat)  : Kont (Value × AHeap) := seqQ (gateC (Sub (bodyOf Try.f42) [1, 1, 1, 0]) (Sub (bodyOf Try.f42) [1, 1, 1, 1]) k (run Try.prog (C k) k (Sub (bodyOf Try.f42) [1, 1, 1, 1]) (f42.Q0 k ))) (f42.Q0 k )
noncomputable def f42.Q7 (k : Nat)  : Kont (Value × AHeap) := blkQ 4 (f42.Q6 k )
noncomputable def f42.Q8 (k : Nat) (n1 : Nat) : Kont (Value × AHeap) := blkQ 2 (f42.Q5 k n1)
noncomputable def f42.Q9 (k : Nat) (n1 : Nat) : Kont (Value × AHeap) := seqQ (iter (run Try.prog (C k) k (Sub (bodyOf Try.f42) [1, 1, 1, 0, 1, 0, 0])) (f42.Q7 k ) n1) (f42.Q7 k )
noncomputable def f42.Q10 (k : Nat) (n1 : Nat) : Kont (Value × AHeap) := seqQ (gateC (Sub (bodyOf Try.f42) [1, 1, 1, 0, 1, 0, 0, 1, 0]) (Sub (bodyOf Try.f42) [1, 1, 1, 0, 1, 0, 0, 1, 1]) k (run Try.prog (C k) k (Sub (bodyOf Try.f42) [1, 1, 1, 0, 1, 0, 0, 1, 1]) (f42.Q9 k n1))) (f42.Q9 k n1)
noncomputable def f42.Q11 (k : Nat) (n1 : Nat) : Kont (Value × AHeap) := blkQ 5 (f42.Q10 k n1)
noncomputable def f42.K1 (k : Nat)  (p2 : Nat) (p3 : Nat) (D : List Value) (H : AHeap) : Option (Value × AHeap) :=
  gateC (Sub (bodyOf Try.f42) [1, 0]) (Sub (bodyOf Try.f42) [1, 1]) k (run Try.prog (C k) k (Sub (bodyOf Try.f42) [1, 1]) (f42.Q0 k )) [(D.getD 0 undef), (D.getD 1 undef), .pointer (some ⟨p2, 0, none⟩), .pointer (some ⟨p3, 0, none⟩), (D.getD 2 undef), undef, undef, undef, undef, undef, undef, undef, undef, (D.getD 3 undef), (D.getD 4 undef), (D.getD 5 undef), (D.getD 6 undef), (D.getD 7 undef), (D.getD 8 undef), (D.getD 9 undef), (D.getD 10 undef), (D.getD 11 undef), (D.getD 12 undef), undef, undef, undef, undef, undef, undef, undef, undef, undef, undef, undef, undef, undef, undef, undef, undef, undef, undef, undef, undef, undef, undef, undef, undef, undef, undef, undef, undef, undef, undef, undef, undef, undef, undef, undef, undef, undef, undef, undef, undef, undef, undef, undef, undef, undef, undef, undef, undef, undef, undef, undef, undef, undef, undef, undef, undef, undef, undef, undef, undef, undef, undef, undef, undef, undef, undef, undef, undef, undef, undef, undef, undef, undef, undef, undef, undef, undef, undef, undef, undef, undef, undef, undef, undef, undef, undef, undef, undef, undef, undef, undef, undef, undef, undef, undef, undef, undef, undef, undef, undef, undef, undef, undef, undef, undef, undef, undef, undef, undef, undef, undef, undef, undef, undef, undef, undef, undef, undef, undef, undef, undef, undef, undef, undef, undef, undef, undef, undef, undef, undef, undef, undef, undef, undef, undef, undef, undef, undef, undef, undef, undef, undef, undef, undef, undef, undef, undef, undef, undef, undef, undef, undef, undef, undef, undef, undef, undef, undef, undef, undef, undef, undef, undef, undef, undef, undef, undef, undef, undef, undef, undef, undef, undef, undef, undef, undef, undef, undef, undef, undef, undef, undef] H
noncomputable def f42.L1 (k : Nat) (n1 : Nat) (p2 : Nat) (p3 : Nat) (x5 : Int) (D : List Value) (H : AHeap) : Option (Value × AHeap) :=
  iter (run Try.prog (C k) k (Sub (bodyOf Try.f42) [1, 1, 0, 1, 0, 0])) (f42.Q2 k ) n1 [(D.getD 0 undef), (D.getD 1 undef), .pointer (some ⟨p2, 0, none⟩), .pointer (some ⟨p3, 0, none⟩), (D.getD 2 undef), .int .i64 x5, (D.getD 3 undef), (D.getD 4 undef), undef, undef, undef, undef, undef, (D.getD 5 undef), (D.getD 6 undef), (D.getD 7 undef), (D.getD 8 undef), (D.getD 9 undef), (D.getD 10 undef), (D.getD 11 undef), (D.getD 12 undef), (D.getD 13 undef), (D.getD 14 undef), (D.getD 15 undef), (D.getD 16 undef), (D.getD 17 undef), (D.getD 18 undef), (D.getD 19 undef), (D.getD 20 undef), (D.getD 21 undef), (D.getD 22 undef), (D.getD 23 undef), (D.getD 24 undef), (D.getD 25 undef), (D.getD 26 undef), (D.getD 27 undef), (D.getD 28 undef), (D.getD 29 undef), (D.getD 30 undef), (D.getD 31 undef), (D.getD 32 undef), (D.getD 33 undef), (D.getD 34 undef), (D.getD 35 undef), (D.getD 36 undef), (D.getD 37 undef), (D.getD 38 undef), (D.getD 39 undef), (D.getD 40 undef), (D.getD 41 undef), (D.getD 42 undef), (D.getD 43 undef), (D.getD 44 undef), (D.getD 45 undef), (D.getD 46 undef), (D.getD 47 undef), (D.getD 48 undef), (D.getD 49 undef), (D.getD 50 undef), (D.getD 51 undef), (D.getD 52 undef), (D.getD 53 undef), (D.getD 54 undef), (D.getD 55 undef), (D.getD 56 undef), (D.getD 57 undef), (D.getD 58 undef), (D.getD 59 undef), (D.getD 60 undef), (D.getD 61 undef), (D.getD 62 undef), (D.getD 63 undef), (D.getD 64 undef), (D.getD 65 undef), (D.getD 66 undef), (D.getD 67 undef), (D.getD 68 undef), (D.getD 69 undef), (D.getD 70 undef), (D.getD 71 undef), (D.getD 72 undef), (D.getD 73 undef), (D.getD 74 undef), (D.getD 75 undef), (D.getD 76 undef), (D.getD 77 undef), (D.getD 78 undef), (D.getD 79 undef), (D.getD 80 undef), (D.getD 81 undef), (D.getD 82 undef), (D.getD 83 undef), (D.getD 84 undef), (D.getD 85 undef), (D.getD 86 undef), (D.getD 87 undef), (D.getD 88 undef), (D.getD 89 undef), (D.getD 90 undef), (D.getD 91 undef), (D.getD 92 undef), (D.getD 93 undef), (D.getD 94 undef), (D.getD 95 undef), (D.getD 96 undef), (D.getD 97 undef), (D.getD 98 undef), (D.getD 99 undef), (D.getD 100 undef), (D.getD 101 undef), (D.getD 102 undef), (D.getD 103 undef), (D.getD 104 undef), (D.getD 105 undef), undef, undef, undef, undef, undef, undef, undef, undef, undef, undef, undef, undef, undef, undef, undef, undef, undef, undef, undef, undef, undef, undef, undef, undef, undef, undef, undef, undef, undef, undef, undef, undef, undef, undef, undef, undef, undef, undef, undef, undef, undef, undef, undef, undef, undef, undef, undef, undef, undef, undef, undef, undef, undef, undef, undef, undef, undef, undef, undef, undef, undef, undef, undef, undef, undef, undef, undef, undef, undef, undef, undef, undef, undef, undef, undef, undef, undef, undef, undef, undef, undef, undef, undef, undef, undef, undef, undef, undef, undef, undef, undef] H
noncomputable def f42.K2 (k : Nat) (n1 : Nat) (p2 : Nat) (p3 : Nat) (x5 : Int) (p6 : Nat) (D : List Value) (H : AHeap) : Option (Value × AHeap) :=
  gateC (Sub (bodyOf Try.f42) [1, 1, 0, 1, 0, 0, 1, 0, 0, 1, 0]) (Sub (bodyOf Try.f42) [1, 1, 0, 1, 0, 0, 1, 0, 0, 1, 1]) k (run Try.prog (C k) k (Sub (bodyOf Try.f42) [1, 1, 0, 1, 0, 0, 1, 0, 0, 1, 1]) (f42.Q5 k n1)) [(D.getD 0 undef), (D.getD 1 undef), .pointer (some ⟨p2, 0, none⟩), .pointer (some ⟨p3, 0, none⟩), (D.getD 2 undef), .int .i64 x5, .pointer (some ⟨p6, 0, none⟩), (D.getD 3 undef), undef, undef, undef, undef, undef, (D.getD 4 undef), (D.getD 5 undef), (D.getD 6 undef), (D.getD 7 undef), (D.getD 8 undef), (D.getD 9 undef), (D.getD 10 undef), (D.getD 11 undef), (D.getD 12 undef), (D.getD 13 undef), (D.getD 14 undef), (D.getD 15 undef), (D.getD 16 undef), (D.getD 17 undef), (D.getD 18 undef), (D.getD 19 undef), (D.getD 20 undef), (D.getD 21 undef), (D.getD 22 undef), (D.getD 23 undef), (D.getD 24 undef), (D.getD 25 undef), (D.getD 26 undef), (D.getD 27 undef), (D.getD 28 undef), (D.getD 29 undef), (D.getD 30 undef), (D.getD 31 undef), (D.getD 32 undef), (D.getD 33 undef), (D.getD 34 undef), (D.getD 35 undef), (D.getD 36 undef), (D.getD 37 undef), (D.getD 38 undef), (D.getD 39 undef), (D.getD 40 undef), (D.getD 41 undef), (D.getD 42 undef), (D.getD 43 undef), (D.getD 44 undef), (D.getD 45 undef), (D.getD 46 undef), (D.getD 47 undef), (D.getD 48 undef), (D.getD 49 undef), (D.getD 50 undef), (D.getD 51 undef), (D.getD 52 undef), (D.getD 53 undef), (D.getD 54 undef), (D.getD 55 undef), (D.getD 56 undef), (D.getD 57 undef), (D.getD 58 undef), (D.getD 59 undef), (D.getD 60 undef), (D.getD 61 undef), (D.getD 62 undef), (D.getD 63 undef), (D.getD 64 undef), (D.getD 65 undef), (D.getD 66 undef), (D.getD 67 undef), (D.getD 68 undef), (D.getD 69 undef), (D.getD 70 undef), (D.getD 71 undef), (D.getD 72 undef), (D.getD 73 undef), (D.getD 74 undef), (D.getD 75 undef), (D.getD 76 undef), (D.getD 77 undef), (D.getD 78 undef), (D.getD 79 undef), (D.getD 80 undef), (D.getD 81 undef), (D.getD 82 undef), (D.getD 83 undef), (D.getD 84 undef), (D.getD 85 undef), (D.getD 86 undef), (D.getD 87 undef), (D.getD 88 undef), (D.getD 89 undef), (D.getD 90 undef), (D.getD 91 undef), (D.getD 92 undef), (D.getD 93 undef), (D.getD 94 undef), (D.getD 95 undef), (D.getD 96 undef), (D.getD 97 undef), (D.getD 98 undef), (D.getD 99 undef), (D.getD 100 undef), (D.getD 101 undef), (D.getD 102 undef), (D.getD 103 undef), (D.getD 104 undef), undef, undef, undef, undef, undef, undef, undef, undef, undef, undef, undef, undef, undef, undef, undef, undef, undef, undef, undef, undef, undef, undef, undef, undef, undef, undef, undef, undef, undef, undef, undef, undef, undef, undef, undef, undef, undef, undef, undef, undef, undef, undef, undef, undef, undef, undef, undef, undef, undef, undef, undef, undef, undef, undef, undef, undef, undef, undef, undef, undef, undef, undef, undef, undef, undef, undef, undef, undef, undef, undef, undef, undef, undef, undef, undef, undef, undef, undef, undef, undef, undef, undef, undef, undef, undef, undef, undef, undef, undef, undef, undef] H
noncomputable def f42.L2 (k : Nat) (n1 : Nat) (p2 : Nat) (p3 : Nat) (x8 : Int) (D : List Value) (H : AHeap) : Option (Value × AHeap) :=
  iter (run Try.prog (C k) k (Sub (bodyOf Try.f42) [1, 1, 1, 0, 1, 0, 0])) (f42.Q7 k ) n1 [(D.getD 0 undef), (D.getD 1 undef), .pointer (some ⟨p2, 0, none⟩), .pointer (some ⟨p3, 0, none⟩), (D.getD 2 undef), (D.getD 3 undef), (D.getD 4 undef), (D.getD 5 undef), .int .i64 x8, (D.getD 6 undef), (D.getD 7 undef), (D.getD 8 undef), (D.getD 9 undef), (D.getD 10 undef), (D.getD 11 undef), (D.getD 12 undef), (D.getD 13 undef), (D.getD 14 undef), (D.getD 15 undef), (D.getD 16 undef), (D.getD 17 undef), (D.getD 18 undef), (D.getD 19 undef), (D.getD 20 undef), (D.getD 21 undef), (D.getD 22 undef), (D.getD 23 undef), (D.getD 24 undef), (D.getD 25 undef), (D.getD 26 undef), (D.getD 27 undef), (D.getD 28 undef), (D.getD 29 undef), (D.getD 30 undef), (D.getD 31 undef), (D.getD 32 undef), (D.getD 33 undef), (D.getD 34 undef), (D.getD 35 undef), (D.getD 36 undef), (D.getD 37 undef), (D.getD 38 undef), (D.getD 39 undef), (D.getD 40 undef), (D.getD 41 undef), (D.getD 42 undef), (D.getD 43 undef), (D.getD 44 undef), (D.getD 45 undef), (D.getD 46 undef), (D.getD 47 undef), (D.getD 48 undef), (D.getD 49 undef), (D.getD 50 undef), (D.getD 51 undef), (D.getD 52 undef), (D.getD 53 undef), (D.getD 54 undef), (D.getD 55 undef), (D.getD 56 undef), (D.getD 57 undef), (D.getD 58 undef), (D.getD 59 undef), (D.getD 60 undef), (D.getD 61 undef), (D.getD 62 undef), (D.getD 63 undef), (D.getD 64 undef), (D.getD 65 undef), (D.getD 66 undef), (D.getD 67 undef), (D.getD 68 undef), (D.getD 69 undef), (D.getD 70 undef), (D.getD 71 undef), (D.getD 72 undef), (D.getD 73 undef), (D.getD 74 undef), (D.getD 75 undef), (D.getD 76 undef), (D.getD 77 undef), (D.getD 78 undef), (D.getD 79 undef), (D.getD 80 undef), (D.getD 81 undef), (D.getD 82 undef), (D.getD 83 undef), (D.getD 84 undef), (D.getD 85 undef), (D.getD 86 undef), (D.getD 87 undef), (D.getD 88 undef), (D.getD 89 undef), (D.getD 90 undef), (D.getD 91 undef), (D.getD 92 undef), (D.getD 93 undef), (D.getD 94 undef), (D.getD 95 undef), (D.getD 96 undef), (D.getD 97 undef), (D.getD 98 undef), (D.getD 99 undef), (D.getD 100 undef), (D.getD 101 undef), (D.getD 102 undef), (D.getD 103 undef), (D.getD 104 undef), (D.getD 105 undef), (D.getD 106 undef), (D.getD 107 undef), (D.getD 108 undef), (D.getD 109 undef), (D.getD 110 undef), (D.getD 111 undef), (D.getD 112 undef), (D.getD 113 undef), (D.getD 114 undef), (D.getD 115 undef), (D.getD 116 undef), (D.getD 117 undef), (D.getD 118 undef), (D.getD 119 undef), (D.getD 120 undef), (D.getD 121 undef), (D.getD 122 undef), (D.getD 123 undef), (D.getD 124 undef), (D.getD 125 undef), (D.getD 126 undef), (D.getD 127 undef), (D.getD 128 undef), (D.getD 129 undef), (D.getD 130 undef), (D.getD 131 undef), (D.getD 132 undef), (D.getD 133 undef), (D.getD 134 undef), (D.getD 135 undef), (D.getD 136 undef), (D.getD 137 undef), (D.getD 138 undef), (D.getD 139 undef), (D.getD 140 undef), (D.getD 141 undef), (D.getD 142 undef), (D.getD 143 undef), (D.getD 144 undef), (D.getD 145 undef), (D.getD 146 undef), (D.getD 147 undef), (D.getD 148 undef), (D.getD 149 undef), (D.getD 150 undef), (D.getD 151 undef), (D.getD 152 undef), (D.getD 153 undef), (D.getD 154 undef), (D.getD 155 undef), (D.getD 156 undef), (D.getD 157 undef), (D.getD 158 undef), (D.getD 159 undef), (D.getD 160 undef), (D.getD 161 undef), (D.getD 162 undef), (D.getD 163 undef), (D.getD 164 undef), (D.getD 165 undef), (D.getD 166 undef), (D.getD 167 undef), (D.getD 168 undef), (D.getD 169 undef), (D.getD 170 undef), (D.getD 171 undef), (D.getD 172 undef), (D.getD 173 undef), (D.getD 174 undef), (D.getD 175 undef), (D.getD 176 undef), (D.getD 177 undef), (D.getD 178 undef), (D.getD 179 undef), (D.getD 180 undef), (D.getD 181 undef), (D.getD 182 undef), (D.getD 183 undef), (D.getD 184 undef), (D.getD 185 undef), (D.getD 186 undef), (D.getD 187 undef), (D.getD 188 undef), (D.getD 189 undef), (D.getD 190 undef), undef, undef, undef, undef, undef, undef, undef, undef, undef, undef, undef] H
noncomputable def f42.L3 (k : Nat) (n1 : Nat) (n2 : Nat) (p2 : Nat) (p3 : Nat) (x5 : Int) (p6 : Nat) (x7 : Int) (D : List Value) (H : AHeap) : Option (Value × AHeap) :=
  iter (run Try.prog (C k) k (Sub (bodyOf Try.f42) [1, 1, 0, 1, 0, 0, 1, 0, 0, 1, 1, 1, 0, 0])) (f42.Q8 k n1) n2 [(D.getD 0 undef), (D.getD 1 undef), .pointer (some ⟨p2, 0, none⟩), .pointer (some ⟨p3, 0, none⟩), (D.getD 2 undef), .int .i64 x5, .pointer (some ⟨p6, 0, none⟩), .int .i64 x7, undef, undef, undef, undef, undef, (D.getD 3 undef), (D.getD 4 undef), (D.getD 5 undef), (D.getD 6 undef), (D.getD 7 undef), (D.getD 8 undef), (D.getD 9 undef), (D.getD 10 undef), (D.getD 11 undef), (D.getD 12 undef), (D.getD 13 undef), (D.getD 14 undef), (D.getD 15 undef), (D.getD 16 undef), (D.getD 17 undef), (D.getD 18 undef), (D.getD 19 undef), (D.getD 20 undef), (D.getD 21 undef), (D.getD 22 undef), (D.getD 23 undef), (D.getD 24 undef), (D.getD 25 undef), (D.getD 26 undef), (D.getD 27 undef), (D.getD 28 undef), (D.getD 29 undef), (D.getD 30 undef), (D.getD 31 undef), (D.getD 32 undef), (D.getD 33 undef), (D.getD 34 undef), (D.getD 35 undef), (D.getD 36 undef), (D.getD 37 undef), (D.getD 38 undef), (D.getD 39 undef), (D.getD 40 undef), (D.getD 41 undef), (D.getD 42 undef), (D.getD 43 undef), (D.getD 44 undef), (D.getD 45 undef), (D.getD 46 undef), (D.getD 47 undef), (D.getD 48 undef), (D.getD 49 undef), (D.getD 50 undef), (D.getD 51 undef), (D.getD 52 undef), (D.getD 53 undef), (D.getD 54 undef), (D.getD 55 undef), (D.getD 56 undef), (D.getD 57 undef), (D.getD 58 undef), (D.getD 59 undef), (D.getD 60 undef), (D.getD 61 undef), (D.getD 62 undef), (D.getD 63 undef), (D.getD 64 undef), (D.getD 65 undef), (D.getD 66 undef), (D.getD 67 undef), (D.getD 68 undef), (D.getD 69 undef), (D.getD 70 undef), (D.getD 71 undef), (D.getD 72 undef), (D.getD 73 undef), (D.getD 74 undef), (D.getD 75 undef), (D.getD 76 undef), (D.getD 77 undef), (D.getD 78 undef), (D.getD 79 undef), (D.getD 80 undef), (D.getD 81 undef), (D.getD 82 undef), (D.getD 83 undef), (D.getD 84 undef), (D.getD 85 undef), (D.getD 86 undef), (D.getD 87 undef), (D.getD 88 undef), (D.getD 89 undef), (D.getD 90 undef), (D.getD 91 undef), (D.getD 92 undef), (D.getD 93 undef), (D.getD 94 undef), (D.getD 95 undef), (D.getD 96 undef), (D.getD 97 undef), (D.getD 98 undef), (D.getD 99 undef), (D.getD 100 undef), (D.getD 101 undef), (D.getD 102 undef), (D.getD 103 undef), undef, undef, undef, undef, undef, undef, undef, undef, undef, undef, undef, undef, undef, undef, undef, undef, undef, undef, undef, undef, undef, undef, undef, undef, undef, undef, undef, undef, undef, undef, undef, undef, undef, undef, undef, undef, undef, undef, undef, undef, undef, undef, undef, undef, undef, undef, undef, undef, undef, undef, undef, undef, undef, undef, undef, undef, undef, undef, undef, undef, undef, undef, undef, undef, undef, undef, undef, undef, undef, undef, undef, undef, undef, undef, undef, undef, undef, undef, undef, undef, undef, undef, undef, undef, undef, undef, undef, undef, undef, undef, undef] H
noncomputable def f42.K3 (k : Nat) (n1 : Nat) (p2 : Nat) (p3 : Nat) (x8 : Int) (p9 : Nat) (b10 : Bool) (D : List Value) (H : AHeap) : Option (Value × AHeap) :=
  gateC (Sub (bodyOf Try.f42) [1, 1, 1, 0, 1, 0, 0, 1, 0, 0, 1, 0]) (Sub (bodyOf Try.f42) [1, 1, 1, 0, 1, 0, 0, 1, 0, 0, 1, 1]) k (run Try.prog (C k) k (Sub (bodyOf Try.f42) [1, 1, 1, 0, 1, 0, 0, 1, 0, 0, 1, 1]) (f42.Q11 k n1)) [(D.getD 0 undef), (D.getD 1 undef), .pointer (some ⟨p2, 0, none⟩), .pointer (some ⟨p3, 0, none⟩), (D.getD 2 undef), (D.getD 3 undef), (D.getD 4 undef), (D.getD 5 undef), .int .i64 x8, .pointer (some ⟨p9, 0, none⟩), .bool b10, (D.getD 6 undef), (D.getD 7 undef), (D.getD 8 undef), (D.getD 9 undef), (D.getD 10 undef), (D.getD 11 undef), (D.getD 12 undef), (D.getD 13 undef), (D.getD 14 undef), (D.getD 15 undef), (D.getD 16 undef), (D.getD 17 undef), (D.getD 18 undef), (D.getD 19 undef), (D.getD 20 undef), (D.getD 21 undef), (D.getD 22 undef), (D.getD 23 undef), (D.getD 24 undef), (D.getD 25 undef), (D.getD 26 undef), (D.getD 27 undef), (D.getD 28 undef), (D.getD 29 undef), (D.getD 30 undef), (D.getD 31 undef), (D.getD 32 undef), (D.getD 33 undef), (D.getD 34 undef), (D.getD 35 undef), (D.getD 36 undef), (D.getD 37 undef), (D.getD 38 undef), (D.getD 39 undef), (D.getD 40 undef), (D.getD 41 undef), (D.getD 42 undef), (D.getD 43 undef), (D.getD 44 undef), (D.getD 45 undef), (D.getD 46 undef), (D.getD 47 undef), (D.getD 48 undef), (D.getD 49 undef), (D.getD 50 undef), (D.getD 51 undef), (D.getD 52 undef), (D.getD 53 undef), (D.getD 54 undef), (D.getD 55 undef), (D.getD 56 undef), (D.getD 57 undef), (D.getD 58 undef), (D.getD 59 undef), (D.getD 60 undef), (D.getD 61 undef), (D.getD 62 undef), (D.getD 63 undef), (D.getD 64 undef), (D.getD 65 undef), (D.getD 66 undef), (D.getD 67 undef), (D.getD 68 undef), (D.getD 69 undef), (D.getD 70 undef), (D.getD 71 undef), (D.getD 72 undef), (D.getD 73 undef), (D.getD 74 undef), (D.getD 75 undef), (D.getD 76 undef), (D.getD 77 undef), (D.getD 78 undef), (D.getD 79 undef), (D.getD 80 undef), (D.getD 81 undef), (D.getD 82 undef), (D.getD 83 undef), (D.getD 84 undef), (D.getD 85 undef), (D.getD 86 undef), (D.getD 87 undef), (D.getD 88 undef), (D.getD 89 undef), (D.getD 90 undef), (D.getD 91 undef), (D.getD 92 undef), (D.getD 93 undef), (D.getD 94 undef), (D.getD 95 undef), (D.getD 96 undef), (D.getD 97 undef), (D.getD 98 undef), (D.getD 99 undef), (D.getD 100 undef), (D.getD 101 undef), (D.getD 102 undef), (D.getD 103 undef), (D.getD 104 undef), (D.getD 105 undef), (D.getD 106 undef), (D.getD 107 undef), (D.getD 108 undef), (D.getD 109 undef), (D.getD 110 undef), (D.getD 111 undef), (D.getD 112 undef), (D.getD 113 undef), (D.getD 114 undef), (D.getD 115 undef), (D.getD 116 undef), (D.getD 117 undef), (D.getD 118 undef), (D.getD 119 undef), (D.getD 120 undef), (D.getD 121 undef), (D.getD 122 undef), (D.getD 123 undef), (D.getD 124 undef), (D.getD 125 undef), (D.getD 126 undef), (D.getD 127 undef), (D.getD 128 undef), (D.getD 129 undef), (D.getD 130 undef), (D.getD 131 undef), (D.getD 132 undef), (D.getD 133 undef), (D.getD 134 undef), (D.getD 135 undef), (D.getD 136 undef), (D.getD 137 undef), (D.getD 138 undef), (D.getD 139 undef), (D.getD 140 undef), (D.getD 141 undef), (D.getD 142 undef), (D.getD 143 undef), (D.getD 144 undef), (D.getD 145 undef), (D.getD 146 undef), (D.getD 147 undef), (D.getD 148 undef), (D.getD 149 undef), (D.getD 150 undef), (D.getD 151 undef), (D.getD 152 undef), (D.getD 153 undef), (D.getD 154 undef), (D.getD 155 undef), (D.getD 156 undef), (D.getD 157 undef), (D.getD 158 undef), (D.getD 159 undef), (D.getD 160 undef), (D.getD 161 undef), (D.getD 162 undef), (D.getD 163 undef), (D.getD 164 undef), (D.getD 165 undef), (D.getD 166 undef), (D.getD 167 undef), (D.getD 168 undef), (D.getD 169 undef), (D.getD 170 undef), (D.getD 171 undef), (D.getD 172 undef), (D.getD 173 undef), (D.getD 174 undef), (D.getD 175 undef), (D.getD 176 undef), (D.getD 177 undef), (D.getD 178 undef), (D.getD 179 undef), (D.getD 180 undef), (D.getD 181 undef), (D.getD 182 undef), (D.getD 183 undef), (D.getD 184 undef), (D.getD 185 undef), (D.getD 186 undef), (D.getD 187 undef), (D.getD 188 undef), undef, undef, undef, undef, undef, undef, undef, undef, undef, undef, undef] H
noncomputable def f42.K4 (k : Nat) (n1 : Nat) (p2 : Nat) (p3 : Nat) (x8 : Int) (p9 : Nat) (D : List Value) (H : AHeap) : Option (Value × AHeap) :=
  gateC (Sub (bodyOf Try.f42) [1, 1, 1, 0, 1, 0, 0, 1, 0, 0, 1, 1, 0]) (Sub (bodyOf Try.f42) [1, 1, 1, 0, 1, 0, 0, 1, 0, 0, 1, 1, 1]) k (run Try.prog (C k) k (Sub (bodyOf Try.f42) [1, 1, 1, 0, 1, 0, 0, 1, 0, 0, 1, 1, 1]) (f42.Q11 k n1)) [(D.getD 0 undef), (D.getD 1 undef), .pointer (some ⟨p2, 0, none⟩), .pointer (some ⟨p3, 0, none⟩), (D.getD 2 undef), (D.getD 3 undef), (D.getD 4 undef), (D.getD 5 undef), .int .i64 x8, .pointer (some ⟨p9, 0, none⟩), (D.getD 6 undef), (D.getD 7 undef), (D.getD 8 undef), (D.getD 9 undef), (D.getD 10 undef), (D.getD 11 undef), (D.getD 12 undef), (D.getD 13 undef), (D.getD 14 undef), (D.getD 15 undef), (D.getD 16 undef), (D.getD 17 undef), (D.getD 18 undef), (D.getD 19 undef), (D.getD 20 undef), (D.getD 21 undef), (D.getD 22 undef), (D.getD 23 undef), (D.getD 24 undef), (D.getD 25 undef), (D.getD 26 undef), (D.getD 27 undef), (D.getD 28 undef), (D.getD 29 undef), (D.getD 30 undef), (D.getD 31 undef), (D.getD 32 undef), (D.getD 33 undef), (D.getD 34 undef), (D.getD 35 undef), (D.getD 36 undef), (D.getD 37 undef), (D.getD 38 undef), (D.getD 39 undef), (D.getD 40 undef), (D.getD 41 undef), (D.getD 42 undef), (D.getD 43 undef), (D.getD 44 undef), (D.getD 45 undef), (D.getD 46 undef), (D.getD 47 undef), (D.getD 48 undef), (D.getD 49 undef), (D.getD 50 undef), (D.getD 51 undef), (D.getD 52 undef), (D.getD 53 undef), (D.getD 54 undef), (D.getD 55 undef), (D.getD 56 undef), (D.getD 57 undef), (D.getD 58 undef), (D.getD 59 undef), (D.getD 60 undef), (D.getD 61 undef), (D.getD 62 undef), (D.getD 63 undef), (D.getD 64 undef), (D.getD 65 undef), (D.getD 66 undef), (D.getD 67 undef), (D.getD 68 undef), (D.getD 69 undef), (D.getD 70 undef), (D.getD 71 undef), (D.getD 72 undef), (D.getD 73 undef), (D.getD 74 undef), (D.getD 75 undef), (D.getD 76 undef), (D.getD 77 undef), (D.getD 78 undef), (D.getD 79 undef), (D.getD 80 undef), (D.getD 81 undef), (D.getD 82 undef), (D.getD 83 undef), (D.getD 84 undef), (D.getD 85 undef), (D.getD 86 undef), (D.getD 87 undef), (D.getD 88 undef), (D.getD 89 undef), (D.getD 90 undef), (D.getD 91 undef), (D.getD 92 undef), (D.getD 93 undef), (D.getD 94 undef), (D.getD 95 undef), (D.getD 96 undef), (D.getD 97 undef), (D.getD 98 undef), (D.getD 99 undef), (D.getD 100 undef), (D.getD 101 undef), (D.getD 102 undef), (D.getD 103 undef), (D.getD 104 undef), (D.getD 105 undef), (D.getD 106 undef), (D.getD 107 undef), (D.getD 108 undef), (D.getD 109 undef), (D.getD 110 undef), (D.getD 111 undef), (D.getD 112 undef), (D.getD 113 undef), (D.getD 114 undef), (D.getD 115 undef), (D.getD 116 undef), (D.getD 117 undef), (D.getD 118 undef), (D.getD 119 undef), (D.getD 120 undef), (D.getD 121 undef), (D.getD 122 undef), (D.getD 123 undef), (D.getD 124 undef), (D.getD 125 undef), (D.getD 126 undef), (D.getD 127 undef), (D.getD 128 undef), (D.getD 129 undef), (D.getD 130 undef), (D.getD 131 undef), (D.getD 132 undef), (D.getD 133 undef), (D.getD 134 undef), (D.getD 135 undef), (D.getD 136 undef), (D.getD 137 undef), (D.getD 138 undef), (D.getD 139 undef), (D.getD 140 undef), (D.getD 141 undef), (D.getD 142 undef), (D.getD 143 undef), (D.getD 144 undef), (D.getD 145 undef), (D.getD 146 undef), (D.getD 147 undef), (D.getD 148 undef), (D.getD 149 undef), (D.getD 150 undef), (D.getD 151 undef), (D.getD 152 undef), (D.getD 153 undef), (D.getD 154 undef), (D.getD 155 undef), (D.getD 156 undef), (D.getD 157 undef), (D.getD 158 undef), (D.getD 159 undef), (D.getD 160 undef), (D.getD 161 undef), (D.getD 162 undef), (D.getD 163 undef), (D.getD 164 undef), (D.getD 165 undef), (D.getD 166 undef), (D.getD 167 undef), (D.getD 168 undef), (D.getD 169 undef), (D.getD 170 undef), (D.getD 171 undef), (D.getD 172 undef), (D.getD 173 undef), (D.getD 174 undef), (D.getD 175 undef), (D.getD 176 undef), (D.getD 177 undef), (D.getD 178 undef), (D.getD 179 undef), (D.getD 180 undef), (D.getD 181 undef), (D.getD 182 undef), (D.getD 183 undef), (D.getD 184 undef), (D.getD 185 undef), (D.getD 186 undef), (D.getD 187 undef), (D.getD 188 undef), (D.getD 189 undef), undef, undef, undef, undef, undef, undef, undef, undef, undef, undef, undef] H
theorem f42.K1_eq (k : Nat)  (p2 : Nat) (p3 : Nat) (D : List Value) (H : AHeap) : f42.K1 k  p2 p3 D H =
  (f42.L1 k k p2 p3 0 [(D.getD 0 undef), (D.getD 1 undef), (D.getD 2 undef), undef, undef, (D.getD 3 undef), (D.getD 4 undef), (D.getD 5 undef), (D.getD 6 undef), (D.getD 7 undef), (D.getD 8 undef), (D.getD 9 undef), (D.getD 10 undef), (D.getD 11 undef), (D.getD 12 undef), undef, undef, undef, undef, undef, undef, undef, undef, undef, undef, undef, undef, undef, undef, undef, undef, undef, undef, undef, undef, undef, undef, undef, undef, undef, undef, undef, undef, undef, undef, undef, undef, undef, undef, undef, undef, undef, undef, undef, undef, undef, undef, undef, undef, undef, undef, undef, undef, undef, undef, undef, undef, undef, undef, undef, undef, undef, undef, undef, undef, undef, undef, undef, undef, undef, undef, undef, undef, undef, undef, undef, undef, undef, undef, undef, undef, undef, undef, undef, undef, undef, undef, undef, undef, undef, undef, undef, undef, undef, undef, undef] H) := by
  unfold f42.K1
  rw [gateC_eq]
  kernel_rfl
theorem f42.L1_z (k : Nat)  (p2 : Nat) (p3 : Nat) (x5 : Int) (D : List Value) (H : AHeap) : f42.L1 k 0 p2 p3 x5 D H = none := by kernel_rfl
theorem f42.L1_s (k : Nat) (n1 : Nat) (p2 : Nat) (p3 : Nat) (x5 : Int) (D : List Value) (H : AHeap) : f42.L1 k (n1 + 1) p2 p3 x5 D H =
  (bSl (ldSl H p3 (0)) fun a l c =>
   bif (decide (x5 < (l : Int))) then
   bSl (ldSl H p3 (0)) fun a_1 l_1 c_1 =>
   a_1.bind fun q =>
   if 0 ≤ x5 ∧ x5 < (l_1 : Int) then
   (AHeap.row H q.block (q.off + x5.toNat * 2) 2).bind fun g =>
   alK none H ⟨[.int .i64 0, .slice none 0 0], 0, .rw, 0⟩ fun i H_1 =>
   if notTup (.agg (g : List Value).toArray) = true ∧ (g).length = 2 then
   (AHeap.wr H_1 i (0) g).bind fun H_2 =>
   (ldI .i64 H_2 i (0)).bind fun x =>
   bif (decide (x < ((-1) : Int))) then
   some (.bool false, H_2)
   else
   (ldI .i64 H_2 i (0)).bind fun x_1 =>
   bSl (ldSl H_2 p2 (4)) fun a_2 l_2 c_2 =>
   bif (decide (x_1 ≥ (l_2 : Int))) then
   some (.bool false, H_2)
   else
   (ldI .i64 H_2 i (0)).bind fun x_2 =>
   bif (decide (x_2 ≥ (0 : Int))) then
   bSl (ldSl H_2 i (1)) fun a_3 l_3 c_3 =>
   bif (decide ((l_3 : Int) > (0 : Int))) then
   some (.bool false, H_2)
   else
   bSl (ldSl H_2 p2 (1)) fun a_4 l_4 c_4 =>
   a_4.bind fun q_1 =>
   if 0 ≤ x5 ∧ x5 < (l_4 : Int) then
   (ldB H_2 q_1.block (q_1.off + x5.toNat * 2 + 1)).bind fun b =>
   bif (!b) then
   bSl (ldSl H_2 i (1)) fun a_5 l_5 c_5 =>
   bif (decide ((l_5 : Int) > (0 : Int))) then
   some (.bool false, H_2)
   else
   f42.K2 k n1 p2 p3 x5 i [(D.getD 0 undef), (D.getD 1 undef), (D.getD 2 undef), (D.getD 4 undef), (D.getD 5 undef), (D.getD 6 undef), (D.getD 7 undef), (D.getD 8 undef), (D.getD 9 undef), (D.getD 10 undef), (D.getD 11 undef), (D.getD 12 undef), (D.getD 13 undef), (D.getD 14 undef), .int .i64 x5, .pointer (some ⟨p3, 0, none⟩), .slice a l c, .int .i64 (l : Int), .bool (decide (x5 < (l : Int))), (D.getD 20 undef), (D.getD 21 undef), .pointer (some ⟨p3, 0, none⟩), .slice a_1 l_1 c_1, .int .i64 x5, .pointer (some ⟨q.block, q.off + x5.toNat * 2, none⟩), .agg (g : List Value).toArray, .pointer (some ⟨i, 0, none⟩), .int .i64 x, .bool (decide (x < ((-1) : Int))), .bool false, .pointer (some ⟨i, 0, none⟩), .int .i64 x_1, .pointer (some ⟨p2, 4, none⟩), .slice a_2 l_2 c_2, .int .i64 (l_2 : Int), .bool (decide (x_1 ≥ (l_2 : Int))), .bool (decide (x_1 ≥ (l_2 : Int))), .bool false, .pointer (some ⟨i, 0, none⟩), .int .i64 x_2, .bool (decide (x_2 ≥ (0 : Int))), .bool true, .pointer (some ⟨i, 1, none⟩), .slice a_3 l_3 c_3, .int .i64 (l_3 : Int), .bool (decide ((l_3 : Int) > (0 : Int))), .bool (decide ((l_3 : Int) > (0 : Int))), .bool (decide ((l_3 : Int) > (0 : Int))), .bool false, .pointer (some ⟨p2, 1, none⟩), .slice a_4 l_4 c_4, .int .i64 x5, .pointer (some ⟨q_1.block, q_1.off + x5.toNat * 2, none⟩), .pointer (some ⟨q_1.block, q_1.off + x5.toNat * 2 + 1, none⟩), .bool b, .bool (!b), .bool true, .pointer (some ⟨i, 1, none⟩), .slice a_5 l_5 c_5, .int .i64 (l_5 : Int), .bool (decide ((l_5 : Int) > (0 : Int))), .bool (decide ((l_5 : Int) > (0 : Int))), .bool (decide ((l_5 : Int) > (0 : Int))), (D.getD 64 undef), (D.getD 65 undef), (D.getD 66 undef), (D.getD 67 undef), (D.getD 68 undef), (D.getD 69 undef), (D.getD 70 undef), (D.getD 71 undef), (D.getD 72 undef), (D.getD 73 undef), (D.getD 74 undef), (D.getD 75 undef), (D.getD 76 undef), (D.getD 77 undef), (D.getD 78 undef), (D.getD 79 undef), (D.getD 80 undef), (D.getD 81 undef), (D.getD 82 undef), (D.getD 83 undef), (D.getD 84 undef), (D.getD 85 undef), (D.getD 86 undef), (D.getD 87 undef), (D.getD 88 undef), (D.getD 89 undef), (D.getD 90 undef), (D.getD 91 undef), (D.getD 92 undef), (D.getD 93 undef), (D.getD 94 undef), (D.getD 95 undef), (D.getD 96 undef), (D.getD 97 undef), (D.getD 98 undef), (D.getD 99 undef), (D.getD 100 undef), (D.getD 101 undef), (D.getD 102 undef), (D.getD 103 undef), (D.getD 104 undef), (D.getD 105 undef)] H_2
   else
   f42.K2 k n1 p2 p3 x5 i [(D.getD 0 undef), (D.getD 1 undef), (D.getD 2 undef), (D.getD 4 undef), (D.getD 5 undef), (D.getD 6 undef), (D.getD 7 undef), (D.getD 8 undef), (D.getD 9 undef), (D.getD 10 undef), (D.getD 11 undef), (D.getD 12 undef), (D.getD 13 undef), (D.getD 14 undef), .int .i64 x5, .pointer (some ⟨p3, 0, none⟩), .slice a l c, .int .i64 (l : Int), .bool (decide (x5 < (l : Int))), (D.getD 20 undef), (D.getD 21 undef), .pointer (some ⟨p3, 0, none⟩), .slice a_1 l_1 c_1, .int .i64 x5, .pointer (some ⟨q.block, q.off + x5.toNat * 2, none⟩), .agg (g : List Value).toArray, .pointer (some ⟨i, 0, none⟩), .int .i64 x, .bool (decide (x < ((-1) : Int))), .bool false, .pointer (some ⟨i, 0, none⟩), .int .i64 x_1, .pointer (some ⟨p2, 4, none⟩), .slice a_2 l_2 c_2, .int .i64 (l_2 : Int), .bool (decide (x_1 ≥ (l_2 : Int))), .bool (decide (x_1 ≥ (l_2 : Int))), .bool false, .pointer (some ⟨i, 0, none⟩), .int .i64 x_2, .bool (decide (x_2 ≥ (0 : Int))), .bool true, .pointer (some ⟨i, 1, none⟩), .slice a_3 l_3 c_3, .int .i64 (l_3 : Int), .bool (decide ((l_3 : Int) > (0 : Int))), .bool (decide ((l_3 : Int) > (0 : Int))), .bool (decide ((l_3 : Int) > (0 : Int))), .bool false, .pointer (some ⟨p2, 1, none⟩), .slice a_4 l_4 c_4, .int .i64 x5, .pointer (some ⟨q_1.block, q_1.off + x5.toNat * 2, none⟩), .pointer (some ⟨q_1.block, q_1.off + x5.toNat * 2 + 1, none⟩), .bool b, .bool (!b), .bool false, undef, undef, undef, undef, .bool false, .bool false, (D.getD 64 undef), (D.getD 65 undef), (D.getD 66 undef), (D.getD 67 undef), (D.getD 68 undef), (D.getD 69 undef), (D.getD 70 undef), (D.getD 71 undef), (D.getD 72 undef), (D.getD 73 undef), (D.getD 74 undef), (D.getD 75 undef), (D.getD 76 undef), (D.getD 77 undef), (D.getD 78 undef), (D.getD 79 undef), (D.getD 80 undef), (D.getD 81 undef), (D.getD 82 undef), (D.getD 83 undef), (D.getD 84 undef), (D.getD 85 undef), (D.getD 86 undef), (D.getD 87 undef), (D.getD 88 undef), (D.getD 89 undef), (D.getD 90 undef), (D.getD 91 undef), (D.getD 92 undef), (D.getD 93 undef), (D.getD 94 undef), (D.getD 95 undef), (D.getD 96 undef), (D.getD 97 undef), (D.getD 98 undef), (D.getD 99 undef), (D.getD 100 undef), (D.getD 101 undef), (D.getD 102 undef), (D.getD 103 undef), (D.getD 104 undef), (D.getD 105 undef)] H_2
   else none
   else
   bSl (ldSl H_2 p2 (1)) fun a_6 l_6 c_6 =>
   a_6.bind fun q_2 =>
   if 0 ≤ x5 ∧ x5 < (l_6 : Int) then
   (ldB H_2 q_2.block (q_2.off + x5.toNat * 2 + 1)).bind fun b_1 =>
   bif (!b_1) then
   bSl (ldSl H_2 i (1)) fun a_7 l_7 c_7 =>
   bif (decide ((l_7 : Int) > (0 : Int))) then
   some (.bool false, H_2)
   else
   f42.K2 k n1 p2 p3 x5 i [(D.getD 0 undef), (D.getD 1 undef), (D.getD 2 undef), (D.getD 4 undef), (D.getD 5 undef), (D.getD 6 undef), (D.getD 7 undef), (D.getD 8 undef), (D.getD 9 undef), (D.getD 10 undef), (D.getD 11 undef), (D.getD 12 undef), (D.getD 13 undef), (D.getD 14 undef), .int .i64 x5, .pointer (some ⟨p3, 0, none⟩), .slice a l c, .int .i64 (l : Int), .bool (decide (x5 < (l : Int))), (D.getD 20 undef), (D.getD 21 undef), .pointer (some ⟨p3, 0, none⟩), .slice a_1 l_1 c_1, .int .i64 x5, .pointer (some ⟨q.block, q.off + x5.toNat * 2, none⟩), .agg (g : List Value).toArray, .pointer (some ⟨i, 0, none⟩), .int .i64 x, .bool (decide (x < ((-1) : Int))), .bool false, .pointer (some ⟨i, 0, none⟩), .int .i64 x_1, .pointer (some ⟨p2, 4, none⟩), .slice a_2 l_2 c_2, .int .i64 (l_2 : Int), .bool (decide (x_1 ≥ (l_2 : Int))), .bool (decide (x_1 ≥ (l_2 : Int))), .bool false, .pointer (some ⟨i, 0, none⟩), .int .i64 x_2, .bool (decide (x_2 ≥ (0 : Int))), .bool false, undef, undef, undef, undef, .bool false, .bool false, .bool false, .pointer (some ⟨p2, 1, none⟩), .slice a_6 l_6 c_6, .int .i64 x5, .pointer (some ⟨q_2.block, q_2.off + x5.toNat * 2, none⟩), .pointer (some ⟨q_2.block, q_2.off + x5.toNat * 2 + 1, none⟩), .bool b_1, .bool (!b_1), .bool true, .pointer (some ⟨i, 1, none⟩), .slice a_7 l_7 c_7, .int .i64 (l_7 : Int), .bool (decide ((l_7 : Int) > (0 : Int))), .bool (decide ((l_7 : Int) > (0 : Int))), .bool (decide ((l_7 : Int) > (0 : Int))), (D.getD 64 undef), (D.getD 65 undef), (D.getD 66 undef), (D.getD 67 undef), (D.getD 68 undef), (D.getD 69 undef), (D.getD 70 undef), (D.getD 71 undef), (D.getD 72 undef), (D.getD 73 undef), (D.getD 74 undef), (D.getD 75 undef), (D.getD 76 undef), (D.getD 77 undef), (D.getD 78 undef), (D.getD 79 undef), (D.getD 80 undef), (D.getD 81 undef), (D.getD 82 undef), (D.getD 83 undef), (D.getD 84 undef), (D.getD 85 undef), (D.getD 86 undef), (D.getD 87 undef), (D.getD 88 undef), (D.getD 89 undef), (D.getD 90 undef), (D.getD 91 undef), (D.getD 92 undef), (D.getD 93 undef), (D.getD 94 undef), (D.getD 95 undef), (D.getD 96 undef), (D.getD 97 undef), (D.getD 98 undef), (D.getD 99 undef), (D.getD 100 undef), (D.getD 101 undef), (D.getD 102 undef), (D.getD 103 undef), (D.getD 104 undef), (D.getD 105 undef)] H_2
   else
   f42.K2 k n1 p2 p3 x5 i [(D.getD 0 undef), (D.getD 1 undef), (D.getD 2 undef), (D.getD 4 undef), (D.getD 5 undef), (D.getD 6 undef), (D.getD 7 undef), (D.getD 8 undef), (D.getD 9 undef), (D.getD 10 undef), (D.getD 11 undef), (D.getD 12 undef), (D.getD 13 undef), (D.getD 14 undef), .int .i64 x5, .pointer (some ⟨p3, 0, none⟩), .slice a l c, .int .i64 (l : Int), .bool (decide (x5 < (l : Int))), (D.getD 20 undef), (D.getD 21 undef), .pointer (some ⟨p3, 0, none⟩), .slice a_1 l_1 c_1, .int .i64 x5, .pointer (some ⟨q.block, q.off + x5.toNat * 2, none⟩), .agg (g : List Value).toArray, .pointer (some ⟨i, 0, none⟩), .int .i64 x, .bool (decide (x < ((-1) : Int))), .bool false, .pointer (some ⟨i, 0, none⟩), .int .i64 x_1, .pointer (some ⟨p2, 4, none⟩), .slice a_2 l_2 c_2, .int .i64 (l_2 : Int), .bool (decide (x_1 ≥ (l_2 : Int))), .bool (decide (x_1 ≥ (l_2 : Int))), .bool false, .pointer (some ⟨i, 0, none⟩), .int .i64 x_2, .bool (decide (x_2 ≥ (0 : Int))), .bool false, undef, undef, undef, undef, .bool false, .bool false, .bool false, .pointer (some ⟨p2, 1, none⟩), .slice a_6 l_6 c_6, .int .i64 x5, .pointer (some ⟨q_2.block, q_2.off + x5.toNat * 2, none⟩), .pointer (some ⟨q_2.block, q_2.off + x5.toNat * 2 + 1, none⟩), .bool b_1, .bool (!b_1), .bool false, undef, undef, undef, undef, .bool false, .bool false, (D.getD 64 undef), (D.getD 65 undef), (D.getD 66 undef), (D.getD 67 undef), (D.getD 68 undef), (D.getD 69 undef), (D.getD 70 undef), (D.getD 71 undef), (D.getD 72 undef), (D.getD 73 undef), (D.getD 74 undef), (D.getD 75 undef), (D.getD 76 undef), (D.getD 77 undef), (D.getD 78 undef), (D.getD 79 undef), (D.getD 80 undef), (D.getD 81 undef), (D.getD 82 undef), (D.getD 83 undef), (D.getD 84 undef), (D.getD 85 undef), (D.getD 86 undef), (D.getD 87 undef), (D.getD 88 undef), (D.getD 89 undef), (D.getD 90 undef), (D.getD 91 undef), (D.getD 92 undef), (D.getD 93 undef), (D.getD 94 undef), (D.getD 95 undef), (D.getD 96 undef), (D.getD 97 undef), (D.getD 98 undef), (D.getD 99 undef), (D.getD 100 undef), (D.getD 101 undef), (D.getD 102 undef), (D.getD 103 undef), (D.getD 104 undef), (D.getD 105 undef)] H_2
   else none
   else none
   else none
   else
   f42.L2 k k p2 p3 0 [(D.getD 0 undef), (D.getD 1 undef), (D.getD 2 undef), .int .i64 x5, (D.getD 3 undef), (D.getD 4 undef), undef, undef, undef, undef, (D.getD 5 undef), (D.getD 6 undef), (D.getD 7 undef), (D.getD 8 undef), (D.getD 9 undef), (D.getD 10 undef), (D.getD 11 undef), (D.getD 12 undef), (D.getD 13 undef), (D.getD 14 undef), .int .i64 x5, .pointer (some ⟨p3, 0, none⟩), .slice a l c, .int .i64 (l : Int), .bool (decide (x5 < (l : Int))), (D.getD 20 undef), (D.getD 21 undef), (D.getD 22 undef), (D.getD 23 undef), (D.getD 24 undef), (D.getD 25 undef), (D.getD 26 undef), (D.getD 27 undef), (D.getD 28 undef), (D.getD 29 undef), (D.getD 30 undef), (D.getD 31 undef), (D.getD 32 undef), (D.getD 33 undef), (D.getD 34 undef), (D.getD 35 undef), (D.getD 36 undef), (D.getD 37 undef), (D.getD 38 undef), (D.getD 39 undef), (D.getD 40 undef), (D.getD 41 undef), (D.getD 42 undef), (D.getD 43 undef), (D.getD 44 undef), (D.getD 45 undef), (D.getD 46 undef), (D.getD 47 undef), (D.getD 48 undef), (D.getD 49 undef), (D.getD 50 undef), (D.getD 51 undef), (D.getD 52 undef), (D.getD 53 undef), (D.getD 54 undef), (D.getD 55 undef), (D.getD 56 undef), (D.getD 57 undef), (D.getD 58 undef), (D.getD 59 undef), (D.getD 60 undef), (D.getD 61 undef), (D.getD 62 undef), (D.getD 63 undef), (D.getD 64 undef), (D.getD 65 undef), (D.getD 66 undef), (D.getD 67 undef), (D.getD 68 undef), (D.getD 69 undef), (D.getD 70 undef), (D.getD 71 undef), (D.getD 72 undef), (D.getD 73 undef), (D.getD 74 undef), (D.getD 75 undef), (D.getD 76 undef), (D.getD 77 undef), (D.getD 78 undef), (D.getD 79 undef), (D.getD 80 undef), (D.getD 81 undef), (D.getD 82 undef), (D.getD 83 undef), (D.getD 84 undef), (D.getD 85 undef), (D.getD 86 undef), (D.getD 87 undef), (D.getD 88 undef), (D.getD 89 undef), (D.getD 90 undef), (D.getD 91 undef), (D.getD 92 undef), (D.getD 93 undef), (D.getD 94 undef), (D.getD 95 undef), (D.getD 96 undef), (D.getD 97 undef), (D.getD 98 undef), (D.getD 99 undef), (D.getD 100 undef), (D.getD 101 undef), (D.getD 102 undef), (D.getD 103 undef), (D.getD 104 undef), (D.getD 105 undef), undef, undef, undef, undef, undef, undef, undef, undef, undef, undef, undef, undef, undef, undef, undef, undef, undef, undef, undef, undef, undef, undef, undef, undef, undef, undef, undef, undef, undef, undef, undef, undef, undef, undef, undef, undef, undef, undef, undef, undef, undef, undef, undef, undef, undef, undef, undef, undef, undef, undef, undef, undef, undef, undef, undef, undef, undef, undef, undef, undef, undef, undef, undef, undef, undef, undef, undef, undef, undef, undef, undef, undef, undef, undef, undef, undef, undef, undef, undef, undef] H) := by kernel_rfl
theorem f42.K2_eq (k : Nat) (n1 : Nat) (p2 : Nat) (p3 : Nat) (x5 : Int) (p6 : Nat) (D : List Value) (H : AHeap) : f42.K2 k n1 p2 p3 x5 p6 D H =
  (f42.L3 k n1 k p2 p3 x5 p6 0 [(D.getD 0 undef), (D.getD 1 undef), (D.getD 2 undef), (D.getD 4 undef), (D.getD 5 undef), (D.getD 6 undef), (D.getD 7 undef), (D.getD 8 undef), (D.getD 9 undef), (D.getD 10 undef), (D.getD 11 undef), (D.getD 12 undef), (D.getD 13 undef), (D.getD 14 undef), (D.getD 15 undef), (D.getD 16 undef), (D.getD 17 undef), (D.getD 18 undef), (D.getD 19 undef), (D.getD 20 undef), (D.getD 21 undef), (D.getD 22 undef), (D.getD 23 undef), (D.getD 24 undef), (D.getD 25 undef), (D.getD 26 undef), (D.getD 27 undef), (D.getD 28 undef), (D.getD 29 undef), (D.getD 30 undef), (D.getD 31 undef), (D.getD 32 undef), (D.getD 33 undef), (D.getD 34 undef), (D.getD 35 undef), (D.getD 36 undef), (D.getD 37 undef), (D.getD 38 undef), (D.getD 39 undef), (D.getD 40 undef), (D.getD 41 undef), (D.getD 42 undef), (D.getD 43 undef), (D.getD 44 undef), (D.getD 45 undef), (D.getD 46 undef), (D.getD 47 undef), (D.getD 48 undef), (D.getD 49 undef), (D.getD 50 undef), (D.getD 51 undef), (D.getD 52 undef), (D.getD 53 undef), (D.getD 54 undef), (D.getD 55 undef), (D.getD 56 undef), (D.getD 57 undef), (D.getD 58 undef), (D.getD 59 undef), (D.getD 60 undef), (D.getD 61 undef), (D.getD 62 undef), (D.getD 63 undef), (D.getD 64 undef), (D.getD 65 undef), (D.getD 66 undef), (D.getD 67 undef), (D.getD 68 undef), (D.getD 69 undef), (D.getD 70 undef), (D.getD 71 undef), (D.getD 72 undef), (D.getD 73 undef), (D.getD 74 undef), (D.getD 75 undef), (D.getD 76 undef), (D.getD 77 undef), (D.getD 78 undef), (D.getD 79 undef), (D.getD 80 undef), (D.getD 81 undef), (D.getD 82 undef), (D.getD 83 undef), (D.getD 84 undef), (D.getD 85 undef), (D.getD 86 undef), (D.getD 87 undef), (D.getD 88 undef), (D.getD 89 undef), (D.getD 90 undef), (D.getD 91 undef), (D.getD 92 undef), (D.getD 93 undef), (D.getD 94 undef), (D.getD 95 undef), (D.getD 96 undef), (D.getD 97 undef), (D.getD 98 undef), (D.getD 99 undef), (D.getD 100 undef), (D.getD 101 undef), (D.getD 102 undef), (D.getD 103 undef), (D.getD 104 undef)] H) := by
  unfold f42.K2
  rw [gateC_eq]
  kernel_rfl
theorem f42.L2_z (k : Nat)  (p2 : Nat) (p3 : Nat) (x8 : Int) (D : List Value) (H : AHeap) : f42.L2 k 0 p2 p3 x8 D H = none := by kernel_rfl
theorem f42.L2_s (k : Nat) (n1 : Nat) (p2 : Nat) (p3 : Nat) (x8 : Int) (D : List Value) (H : AHeap) : f42.L2 k (n1 + 1) p2 p3 x8 D H =
  (bSl (ldSl H p3 (3)) fun a l c =>
   bif (decide (x8 < (l : Int))) then
   bSl (ldSl H p3 (3)) fun a_1 l_1 c_1 =>
   a_1.bind fun q =>
   if 0 ≤ x8 ∧ x8 < (l_1 : Int) then
   (AHeap.row H q.block (q.off + x8.toNat * 3) 3).bind fun g =>
   alK none H ⟨[.int .i64 0, .int .i64 0, .bool false], 0, .rw, 0⟩ fun i H_1 =>
   if notTup (.agg (g : List Value).toArray) = true ∧ (g).length = 3 then
   (AHeap.wr H_1 i (0) g).bind fun H_2 =>
   (ldI .i64 H_2 i (0)).bind fun x =>
   bif (x == (3 : Int)) then
   f42.K3 k n1 p2 p3 x8 i true [(D.getD 0 undef), (D.getD 1 undef), (D.getD 2 undef), (D.getD 3 undef), (D.getD 4 undef), (D.getD 5 undef), (D.getD 8 undef), (D.getD 9 undef), (D.getD 10 undef), (D.getD 11 undef), (D.getD 12 undef), (D.getD 13 undef), (D.getD 14 undef), (D.getD 15 undef), (D.getD 16 undef), (D.getD 17 undef), (D.getD 18 undef), (D.getD 19 undef), (D.getD 20 undef), (D.getD 21 undef), (D.getD 22 undef), (D.getD 23 undef), (D.getD 24 undef), (D.getD 25 undef), (D.getD 26 undef), (D.getD 27 undef), (D.getD 28 undef), (D.getD 29 undef), (D.getD 30 undef), (D.getD 31 undef), (D.getD 32 undef), (D.getD 33 undef), (D.getD 34 undef), (D.getD 35 undef), (D.getD 36 undef), (D.getD 37 undef), (D.getD 38 undef), (D.getD 39 undef), (D.getD 40 undef), (D.getD 41 undef), (D.getD 42 undef), (D.getD 43 undef), (D.getD 44 undef), (D.getD 45 undef), (D.getD 46 undef), (D.getD 47 undef), (D.getD 48 undef), (D.getD 49 undef), (D.getD 50 undef), (D.getD 51 undef), (D.getD 52 undef), (D.getD 53 undef), (D.getD 54 undef), (D.getD 55 undef), (D.getD 56 undef), (D.getD 57 undef), (D.getD 58 undef), (D.getD 59 undef), (D.getD 60 undef), (D.getD 61 undef), (D.getD 62 undef), (D.getD 63 undef), (D.getD 64 undef), (D.getD 65 undef), (D.getD 66 undef), (D.getD 67 undef), (D.getD 68 undef), (D.getD 69 undef), (D.getD 70 undef), (D.getD 71 undef), (D.getD 72 undef), (D.getD 73 undef), (D.getD 74 undef), (D.getD 75 undef), (D.getD 76 undef), (D.getD 77 undef), (D.getD 78 undef), (D.getD 79 undef), (D.getD 80 undef), (D.getD 81 undef), (D.getD 82 undef), (D.getD 83 undef), (D.getD 84 undef), (D.getD 85 undef), (D.getD 86 undef), (D.getD 87 undef), (D.getD 88 undef), (D.getD 89 undef), (D.getD 90 undef), (D.getD 91 undef), (D.getD 92 undef), (D.getD 93 undef), (D.getD 94 undef), (D.getD 95 undef), (D.getD 96 undef), (D.getD 97 undef), (D.getD 98 undef), (D.getD 99 undef), (D.getD 100 undef), (D.getD 101 undef), (D.getD 102 undef), (D.getD 103 undef), (D.getD 104 undef), (D.getD 105 undef), (D.getD 106 undef), (D.getD 107 undef), (D.getD 108 undef), (D.getD 109 undef), (D.getD 110 undef), .int .i64 x8, .pointer (some ⟨p3, 3, none⟩), .slice a l c, .int .i64 (l : Int), .bool (decide (x8 < (l : Int))), (D.getD 116 undef), (D.getD 117 undef), .pointer (some ⟨p3, 3, none⟩), .slice a_1 l_1 c_1, .int .i64 x8, .pointer (some ⟨q.block, q.off + x8.toNat * 3, none⟩), .agg (g : List Value).toArray, .pointer (some ⟨i, 0, none⟩), .int .i64 x, .bool (x == (3 : Int)), .bool true, undef, undef, undef, .bool true, (D.getD 131 undef), (D.getD 132 undef), (D.getD 133 undef), (D.getD 134 undef), (D.getD 135 undef), (D.getD 136 undef), (D.getD 137 undef), (D.getD 138 undef), (D.getD 139 undef), (D.getD 140 undef), (D.getD 141 undef), (D.getD 142 undef), (D.getD 143 undef), (D.getD 144 undef), (D.getD 145 undef), (D.getD 146 undef), (D.getD 147 undef), (D.getD 148 undef), (D.getD 149 undef), (D.getD 150 undef), (D.getD 151 undef), (D.getD 152 undef), (D.getD 153 undef), (D.getD 154 undef), (D.getD 155 undef), (D.getD 156 undef), (D.getD 157 undef), (D.getD 158 undef), (D.getD 159 undef), (D.getD 160 undef), (D.getD 161 undef), (D.getD 162 undef), (D.getD 163 undef), (D.getD 164 undef), (D.getD 165 undef), (D.getD 166 undef), (D.getD 167 undef), (D.getD 168 undef), (D.getD 169 undef), (D.getD 170 undef), (D.getD 171 undef), (D.getD 172 undef), (D.getD 173 undef), (D.getD 174 undef), (D.getD 175 undef), (D.getD 176 undef), (D.getD 177 undef), (D.getD 178 undef), (D.getD 179 undef), (D.getD 180 undef), (D.getD 181 undef), (D.getD 182 undef), (D.getD 183 undef), (D.getD 184 undef), (D.getD 185 undef), (D.getD 186 undef), (D.getD 187 undef), (D.getD 188 undef), (D.getD 189 undef), (D.getD 190 undef)] H_2
   else
   (ldI .i64 H_2 i (0)).bind fun x_1 =>
   f42.K3 k n1 p2 p3 x8 i (x_1 == (4 : Int)) [(D.getD 0 undef), (D.getD 1 undef), (D.getD 2 undef), (D.getD 3 undef), (D.getD 4 undef), (D.getD 5 undef), (D.getD 8 undef), (D.getD 9 undef), (D.getD 10 undef), (D.getD 11 undef), (D.getD 12 undef), (D.getD 13 undef), (D.getD 14 undef), (D.getD 15 undef), (D.getD 16 undef), (D.getD 17 undef), (D.getD 18 undef), (D.getD 19 undef), (D.getD 20 undef), (D.getD 21 undef), (D.getD 22 undef), (D.getD 23 undef), (D.getD 24 undef), (D.getD 25 undef), (D.getD 26 undef), (D.getD 27 undef), (D.getD 28 undef), (D.getD 29 undef), (D.getD 30 undef), (D.getD 31 undef), (D.getD 32 undef), (D.getD 33 undef), (D.getD 34 undef), (D.getD 35 undef), (D.getD 36 undef), (D.getD 37 undef), (D.getD 38 undef), (D.getD 39 undef), (D.getD 40 undef), (D.getD 41 undef), (D.getD 42 undef), (D.getD 43 undef), (D.getD 44 undef), (D.getD 45 undef), (D.getD 46 undef), (D.getD 47 undef), (D.getD 48 undef), (D.getD 49 undef), (D.getD 50 undef), (D.getD 51 undef), (D.getD 52 undef), (D.getD 53 undef), (D.getD 54 undef), (D.getD 55 undef), (D.getD 56 undef), (D.getD 57 undef), (D.getD 58 undef), (D.getD 59 undef), (D.getD 60 undef), (D.getD 61 undef), (D.getD 62 undef), (D.getD 63 undef), (D.getD 64 undef), (D.getD 65 undef), (D.getD 66 undef), (D.getD 67 undef), (D.getD 68 undef), (D.getD 69 undef), (D.getD 70 undef), (D.getD 71 undef), (D.getD 72 undef), (D.getD 73 undef), (D.getD 74 undef), (D.getD 75 undef), (D.getD 76 undef), (D.getD 77 undef), (D.getD 78 undef), (D.getD 79 undef), (D.getD 80 undef), (D.getD 81 undef), (D.getD 82 undef), (D.getD 83 undef), (D.getD 84 undef), (D.getD 85 undef), (D.getD 86 undef), (D.getD 87 undef), (D.getD 88 undef), (D.getD 89 undef), (D.getD 90 undef), (D.getD 91 undef), (D.getD 92 undef), (D.getD 93 undef), (D.getD 94 undef), (D.getD 95 undef), (D.getD 96 undef), (D.getD 97 undef), (D.getD 98 undef), (D.getD 99 undef), (D.getD 100 undef), (D.getD 101 undef), (D.getD 102 undef), (D.getD 103 undef), (D.getD 104 undef), (D.getD 105 undef), (D.getD 106 undef), (D.getD 107 undef), (D.getD 108 undef), (D.getD 109 undef), (D.getD 110 undef), .int .i64 x8, .pointer (some ⟨p3, 3, none⟩), .slice a l c, .int .i64 (l : Int), .bool (decide (x8 < (l : Int))), (D.getD 116 undef), (D.getD 117 undef), .pointer (some ⟨p3, 3, none⟩), .slice a_1 l_1 c_1, .int .i64 x8, .pointer (some ⟨q.block, q.off + x8.toNat * 3, none⟩), .agg (g : List Value).toArray, .pointer (some ⟨i, 0, none⟩), .int .i64 x, .bool (x == (3 : Int)), .bool false, .pointer (some ⟨i, 0, none⟩), .int .i64 x_1, .bool (x_1 == (4 : Int)), .bool (x_1 == (4 : Int)), (D.getD 131 undef), (D.getD 132 undef), (D.getD 133 undef), (D.getD 134 undef), (D.getD 135 undef), (D.getD 136 undef), (D.getD 137 undef), (D.getD 138 undef), (D.getD 139 undef), (D.getD 140 undef), (D.getD 141 undef), (D.getD 142 undef), (D.getD 143 undef), (D.getD 144 undef), (D.getD 145 undef), (D.getD 146 undef), (D.getD 147 undef), (D.getD 148 undef), (D.getD 149 undef), (D.getD 150 undef), (D.getD 151 undef), (D.getD 152 undef), (D.getD 153 undef), (D.getD 154 undef), (D.getD 155 undef), (D.getD 156 undef), (D.getD 157 undef), (D.getD 158 undef), (D.getD 159 undef), (D.getD 160 undef), (D.getD 161 undef), (D.getD 162 undef), (D.getD 163 undef), (D.getD 164 undef), (D.getD 165 undef), (D.getD 166 undef), (D.getD 167 undef), (D.getD 168 undef), (D.getD 169 undef), (D.getD 170 undef), (D.getD 171 undef), (D.getD 172 undef), (D.getD 173 undef), (D.getD 174 undef), (D.getD 175 undef), (D.getD 176 undef), (D.getD 177 undef), (D.getD 178 undef), (D.getD 179 undef), (D.getD 180 undef), (D.getD 181 undef), (D.getD 182 undef), (D.getD 183 undef), (D.getD 184 undef), (D.getD 185 undef), (D.getD 186 undef), (D.getD 187 undef), (D.getD 188 undef), (D.getD 189 undef), (D.getD 190 undef)] H_2
   else none
   else none
   else
   (ldI .i64 H p3 (1)).bind fun x_2 =>
   bif (decide (x_2 ≥ ((-1) : Int))) then
   (ldI .i64 H p3 (1)).bind fun x_3 =>
   bSl (ldSl H p2 (4)) fun a_2 l_2 c_2 =>
   some (.bool (decide (x_3 < (l_2 : Int))), H)
   else
   some (.bool false, H)) := by kernel_rfl
theorem f42.L3_z (k : Nat) (n1 : Nat) (p2 : Nat) (p3 : Nat) (x5 : Int) (p6 : Nat) (x7 : Int) (D : List Value) (H : AHeap) : f42.L3 k n1 0 p2 p3 x5 p6 x7 D H = none := by kernel_rfl
theorem f42.L3_s (k : Nat) (n1 : Nat) (n2 : Nat) (p2 : Nat) (p3 : Nat) (x5 : Int) (p6 : Nat) (x7 : Int) (D : List Value) (H : AHeap) : f42.L3 k n1 (n2 + 1) p2 p3 x5 p6 x7 D H =
  (bSl (ldSl H p6 (1)) fun a l c =>
   bif (decide (x7 < (l : Int))) then
   bif sameB H (H.bump 35) p6 then
   bSl (ldSl (H.bump 35) p6 (1)) fun a_1 l_1 c_1 =>
   a_1.bind fun q =>
   if 0 ≤ x7 ∧ x7 < (l_1 : Int) then
   bif sameB H (H.bump 35) q.block then
   (ldI .i64 (H.bump 35) q.block (q.off + x7.toNat * 1)).bind fun x =>
   bif (decide (x < (0 : Int))) then
   some (.bool false, (H.bump 35))
   else
   bif sameB H (H.bump 35) p6 then
   bSl (ldSl (H.bump 35) p6 (1)) fun a_2 l_2 c_2 =>
   a_2.bind fun q_1 =>
   if 0 ≤ x7 ∧ x7 < (l_2 : Int) then
   bif sameB H (H.bump 35) q_1.block then
   (ldI .i64 (H.bump 35) q_1.block (q_1.off + x7.toNat * 1)).bind fun x_1 =>
   bif sameB H (H.bump 35) p2 then
   bSl (ldSl (H.bump 35) p2 (4)) fun a_3 l_3 c_3 =>
   bif (decide (x_1 ≥ (l_3 : Int))) then
   some (.bool false, (H.bump 35))
   else
   bif (decide (x7 > (0 : Int))) then
   bif sameB H (H.bump 35) p6 then
   bSl (ldSl (H.bump 35) p6 (1)) fun a_4 l_4 c_4 =>
   a_4.bind fun q_2 =>
   if 0 ≤ x7 ∧ x7 < (l_4 : Int) then
   bif sameB H (H.bump 35) q_2.block then
   (ldI .i64 (H.bump 35) q_2.block (q_2.off + x7.toNat * 1)).bind fun x_2 =>
   bif sameB H (H.bump 35) p6 then
   bSl (ldSl (H.bump 35) p6 (1)) fun a_5 l_5 c_5 =>
   a_5.bind fun q_3 =>
   if 0 ≤ (IntKind.i64.wrap (x7 - (1 : Int))) ∧ (IntKind.i64.wrap (x7 - (1 : Int))) < (l_5 : Int) then
   bif sameB H (H.bump 35) q_3.block then
   (ldI .i64 (H.bump 35) q_3.block (q_3.off + (IntKind.i64.wrap (x7 - (1 : Int))).toNat * 1)).bind fun x_3 =>
   bif (decide (x_2 ≤ x_3)) then
   some (.bool false, (H.bump 35))
   else
   f42.L3 k n1 n2 p2 p3 x5 p6 (IntKind.i64.wrap (x7 + (1 : Int))) [(D.getD 0 undef), (D.getD 1 undef), (D.getD 2 undef), (D.getD 3 undef), (D.getD 4 undef), (D.getD 5 undef), (D.getD 6 undef), (D.getD 7 undef), (D.getD 8 undef), (D.getD 9 undef), (D.getD 10 undef), (D.getD 11 undef), (D.getD 12 undef), (D.getD 13 undef), (D.getD 14 undef), (D.getD 15 undef), (D.getD 16 undef), (D.getD 17 undef), (D.getD 18 undef), (D.getD 19 undef), (D.getD 20 undef), (D.getD 21 undef), (D.getD 22 undef), (D.getD 23 undef), (D.getD 24 undef), (D.getD 25 undef), (D.getD 26 undef), (D.getD 27 undef), (D.getD 28 undef), (D.getD 29 undef), (D.getD 30 undef), (D.getD 31 undef), (D.getD 32 undef), (D.getD 33 undef), (D.getD 34 undef), (D.getD 35 undef), (D.getD 36 undef), (D.getD 37 undef), (D.getD 38 undef), (D.getD 39 undef), (D.getD 40 undef), (D.getD 41 undef), (D.getD 42 undef), (D.getD 43 undef), (D.getD 44 undef), (D.getD 45 undef), (D.getD 46 undef), (D.getD 47 undef), (D.getD 48 undef), (D.getD 49 undef), (D.getD 50 undef), (D.getD 51 undef), (D.getD 52 undef), (D.getD 53 undef), (D.getD 54 undef), (D.getD 55 undef), (D.getD 56 undef), (D.getD 57 undef), (D.getD 58 undef), (D.getD 59 undef), (D.getD 60 undef), (D.getD 61 undef), .int .i64 x7, .pointer (some ⟨p6, 1, none⟩), .slice a l c, .int .i64 (l : Int), .bool (decide (x7 < (l : Int))), .int .i64 x7, .int .i64 (IntKind.i64.wrap (x7 + (1 : Int))), .pointer (some ⟨p6, 1, none⟩), .slice a_1 l_1 c_1, .int .i64 x7, .pointer (some ⟨q.block, q.off + x7.toNat * 1, none⟩), .int .i64 x, .bool (decide (x < (0 : Int))), .bool false, .pointer (some ⟨p6, 1, none⟩), .slice a_2 l_2 c_2, .int .i64 x7, .pointer (some ⟨q_1.block, q_1.off + x7.toNat * 1, none⟩), .int .i64 x_1, .pointer (some ⟨p2, 4, none⟩), .slice a_3 l_3 c_3, .int .i64 (l_3 : Int), .bool (decide (x_1 ≥ (l_3 : Int))), .bool (decide (x_1 ≥ (l_3 : Int))), .bool false, .int .i64 x7, .bool (decide (x7 > (0 : Int))), .bool true, .pointer (some ⟨p6, 1, none⟩), .slice a_4 l_4 c_4, .int .i64 x7, .pointer (some ⟨q_2.block, q_2.off + x7.toNat * 1, none⟩), .int .i64 x_2, .pointer (some ⟨p6, 1, none⟩), .slice a_5 l_5 c_5, .int .i64 x7, .int .i64 (IntKind.i64.wrap (x7 - (1 : Int))), .pointer (some ⟨q_3.block, q_3.off + (IntKind.i64.wrap (x7 - (1 : Int))).toNat * 1, none⟩), .int .i64 x_3, .bool (decide (x_2 ≤ x_3)), .bool (decide (x_2 ≤ x_3)), .bool (decide (x_2 ≤ x_3))] (H.bump 35)
   else none
   else none
   else none
   else none
   else none
   else none
   else
   f42.L3 k n1 n2 p2 p3 x5 p6 (IntKind.i64.wrap (x7 + (1 : Int))) [(D.getD 0 undef), (D.getD 1 undef), (D.getD 2 undef), (D.getD 3 undef), (D.getD 4 undef), (D.getD 5 undef), (D.getD 6 undef), (D.getD 7 undef), (D.getD 8 undef), (D.getD 9 undef), (D.getD 10 undef), (D.getD 11 undef), (D.getD 12 undef), (D.getD 13 undef), (D.getD 14 undef), (D.getD 15 undef), (D.getD 16 undef), (D.getD 17 undef), (D.getD 18 undef), (D.getD 19 undef), (D.getD 20 undef), (D.getD 21 undef), (D.getD 22 undef), (D.getD 23 undef), (D.getD 24 undef), (D.getD 25 undef), (D.getD 26 undef), (D.getD 27 undef), (D.getD 28 undef), (D.getD 29 undef), (D.getD 30 undef), (D.getD 31 undef), (D.getD 32 undef), (D.getD 33 undef), (D.getD 34 undef), (D.getD 35 undef), (D.getD 36 undef), (D.getD 37 undef), (D.getD 38 undef), (D.getD 39 undef), (D.getD 40 undef), (D.getD 41 undef), (D.getD 42 undef), (D.getD 43 undef), (D.getD 44 undef), (D.getD 45 undef), (D.getD 46 undef), (D.getD 47 undef), (D.getD 48 undef), (D.getD 49 undef), (D.getD 50 undef), (D.getD 51 undef), (D.getD 52 undef), (D.getD 53 undef), (D.getD 54 undef), (D.getD 55 undef), (D.getD 56 undef), (D.getD 57 undef), (D.getD 58 undef), (D.getD 59 undef), (D.getD 60 undef), (D.getD 61 undef), .int .i64 x7, .pointer (some ⟨p6, 1, none⟩), .slice a l c, .int .i64 (l : Int), .bool (decide (x7 < (l : Int))), .int .i64 x7, .int .i64 (IntKind.i64.wrap (x7 + (1 : Int))), .pointer (some ⟨p6, 1, none⟩), .slice a_1 l_1 c_1, .int .i64 x7, .pointer (some ⟨q.block, q.off + x7.toNat * 1, none⟩), .int .i64 x, .bool (decide (x < (0 : Int))), .bool false, .pointer (some ⟨p6, 1, none⟩), .slice a_2 l_2 c_2, .int .i64 x7, .pointer (some ⟨q_1.block, q_1.off + x7.toNat * 1, none⟩), .int .i64 x_1, .pointer (some ⟨p2, 4, none⟩), .slice a_3 l_3 c_3, .int .i64 (l_3 : Int), .bool (decide (x_1 ≥ (l_3 : Int))), .bool (decide (x_1 ≥ (l_3 : Int))), .bool false, .int .i64 x7, .bool (decide (x7 > (0 : Int))), .bool false, undef, undef, undef, undef, undef, undef, undef, undef, undef, undef, undef, undef, .bool false, .bool false] (H.bump 35)
   else none
   else none
   else none
   else none
   else none
   else none
   else none
   else
   f42.L1 k n1 p2 p3 (IntKind.i64.wrap (x5 + (1 : Int))) [(D.getD 0 undef), (D.getD 1 undef), (D.getD 2 undef), .pointer (some ⟨p6, 0, none⟩), .int .i64 x7, (D.getD 3 undef), (D.getD 4 undef), (D.getD 5 undef), (D.getD 6 undef), (D.getD 7 undef), (D.getD 8 undef), (D.getD 9 undef), (D.getD 10 undef), (D.getD 11 undef), (D.getD 12 undef), (D.getD 13 undef), (D.getD 14 undef), (D.getD 15 undef), (D.getD 16 undef), (D.getD 17 undef), .int .i64 x5, .int .i64 (IntKind.i64.wrap (x5 + (1 : Int))), (D.getD 20 undef), (D.getD 21 undef), (D.getD 22 undef), (D.getD 23 undef), (D.getD 24 undef), (D.getD 25 undef), (D.getD 26 undef), (D.getD 27 undef), (D.getD 28 undef), (D.getD 29 undef), (D.getD 30 undef), (D.getD 31 undef), (D.getD 32 undef), (D.getD 33 undef), (D.getD 34 undef), (D.getD 35 undef), (D.getD 36 undef), (D.getD 37 undef), (D.getD 38 undef), (D.getD 39 undef), (D.getD 40 undef), (D.getD 41 undef), (D.getD 42 undef), (D.getD 43 undef), (D.getD 44 undef), (D.getD 45 undef), (D.getD 46 undef), (D.getD 47 undef), (D.getD 48 undef), (D.getD 49 undef), (D.getD 50 undef), (D.getD 51 undef), (D.getD 52 undef), (D.getD 53 undef), (D.getD 54 undef), (D.getD 55 undef), (D.getD 56 undef), (D.getD 57 undef), (D.getD 58 undef), (D.getD 59 undef), (D.getD 60 undef), (D.getD 61 undef), .int .i64 x7, .pointer (some ⟨p6, 1, none⟩), .slice a l c, .int .i64 (l : Int), .bool (decide (x7 < (l : Int))), (D.getD 67 undef), (D.getD 68 undef), (D.getD 69 undef), (D.getD 70 undef), (D.getD 71 undef), (D.getD 72 undef), (D.getD 73 undef), (D.getD 74 undef), (D.getD 75 undef), (D.getD 76 undef), (D.getD 77 undef), (D.getD 78 undef), (D.getD 79 undef), (D.getD 80 undef), (D.getD 81 undef), (D.getD 82 undef), (D.getD 83 undef), (D.getD 84 undef), (D.getD 85 undef), (D.getD 86 undef), (D.getD 87 undef), (D.getD 88 undef), (D.getD 89 undef), (D.getD 90 undef), (D.getD 91 undef), (D.getD 92 undef), (D.getD 93 undef), (D.getD 94 undef), (D.getD 95 undef), (D.getD 96 undef), (D.getD 97 undef), (D.getD 98 undef), (D.getD 99 undef), (D.getD 100 undef), (D.getD 101 undef), (D.getD 102 undef), (D.getD 103 undef)] H) := by kernel_rfl
theorem f42.K3_eq (k : Nat) (n1 : Nat) (p2 : Nat) (p3 : Nat) (x8 : Int) (p9 : Nat) (b10 : Bool) (D : List Value) (H : AHeap) : f42.K3 k n1 p2 p3 x8 p9 b10 D H =
  ((ldI .i64 H p9 (0)).bind fun x =>
   bif (decide (x < (0 : Int))) then
   some (.bool false, H)
   else
   (ldI .i64 H p9 (0)).bind fun x_1 =>
   bif (decide (x_1 > (5 : Int))) then
   some (.bool false, H)
   else
   (ldI .i64 H p9 (1)).bind fun x_2 =>
   bif (x_2 != (0 : Int)) then
   some (.bool false, H)
   else
   bif b10 then
   bSl (ldSl H p3 (0)) fun a l c =>
   a.bind fun q =>
   if 0 ≤ (0 : Int) ∧ (0 : Int) < (l : Int) then
   (ldI .i64 H q.block (q.off + (0 : Int).toNat * 2 + 0)).bind fun x_3 =>
   bif (x_3 == x8) then
   some (.bool false, H)
   else
   f42.K4 k n1 p2 p3 x8 p9 [(D.getD 0 undef), (D.getD 1 undef), (D.getD 2 undef), (D.getD 3 undef), (D.getD 4 undef), (D.getD 5 undef), .bool b10, (D.getD 6 undef), (D.getD 7 undef), (D.getD 8 undef), (D.getD 9 undef), (D.getD 10 undef), (D.getD 11 undef), (D.getD 12 undef), (D.getD 13 undef), (D.getD 14 undef), (D.getD 15 undef), (D.getD 16 undef), (D.getD 17 undef), (D.getD 18 undef), (D.getD 19 undef), (D.getD 20 undef), (D.getD 21 undef), (D.getD 22 undef), (D.getD 23 undef), (D.getD 24 undef), (D.getD 25 undef), (D.getD 26 undef), (D.getD 27 undef), (D.getD 28 undef), (D.getD 29 undef), (D.getD 30 undef), (D.getD 31 undef), (D.getD 32 undef), (D.getD 33 undef), (D.getD 34 undef), (D.getD 35 undef), (D.getD 36 undef), (D.getD 37 undef), (D.getD 38 undef), (D.getD 39 undef), (D.getD 40 undef), (D.getD 41 undef), (D.getD 42 undef), (D.getD 43 undef), (D.getD 44 undef), (D.getD 45 undef), (D.getD 46 undef), (D.getD 47 undef), (D.getD 48 undef), (D.getD 49 undef), (D.getD 50 undef), (D.getD 51 undef), (D.getD 52 undef), (D.getD 53 undef), (D.getD 54 undef), (D.getD 55 undef), (D.getD 56 undef), (D.getD 57 undef), (D.getD 58 undef), (D.getD 59 undef), (D.getD 60 undef), (D.getD 61 undef), (D.getD 62 undef), (D.getD 63 undef), (D.getD 64 undef), (D.getD 65 undef), (D.getD 66 undef), (D.getD 67 undef), (D.getD 68 undef), (D.getD 69 undef), (D.getD 70 undef), (D.getD 71 undef), (D.getD 72 undef), (D.getD 73 undef), (D.getD 74 undef), (D.getD 75 undef), (D.getD 76 undef), (D.getD 77 undef), (D.getD 78 undef), (D.getD 79 undef), (D.getD 80 undef), (D.getD 81 undef), (D.getD 82 undef), (D.getD 83 undef), (D.getD 84 undef), (D.getD 85 undef), (D.getD 86 undef), (D.getD 87 undef), (D.getD 88 undef), (D.getD 89 undef), (D.getD 90 undef), (D.getD 91 undef), (D.getD 92 undef), (D.getD 93 undef), (D.getD 94 undef), (D.getD 95 undef), (D.getD 96 undef), (D.getD 97 undef), (D.getD 98 undef), (D.getD 99 undef), (D.getD 100 undef), (D.getD 101 undef), (D.getD 102 undef), (D.getD 103 undef), (D.getD 104 undef), (D.getD 105 undef), (D.getD 106 undef), (D.getD 107 undef), (D.getD 108 undef), (D.getD 109 undef), (D.getD 110 undef), (D.getD 111 undef), (D.getD 112 undef), (D.getD 113 undef), (D.getD 114 undef), (D.getD 115 undef), (D.getD 116 undef), (D.getD 117 undef), (D.getD 118 undef), (D.getD 119 undef), (D.getD 120 undef), (D.getD 121 undef), (D.getD 122 undef), (D.getD 123 undef), (D.getD 124 undef), (D.getD 125 undef), (D.getD 126 undef), (D.getD 127 undef), (D.getD 128 undef), .pointer (some ⟨p9, 0, none⟩), .int .i64 x, .bool (decide (x < (0 : Int))), .bool false, .pointer (some ⟨p9, 0, none⟩), .int .i64 x_1, .bool (decide (x_1 > (5 : Int))), .bool (decide (x_1 > (5 : Int))), .bool false, .pointer (some ⟨p9, 1, none⟩), .int .i64 x_2, .bool (x_2 != (0 : Int)), .bool (x_2 != (0 : Int)), .bool false, .bool b10, .bool true, .pointer (some ⟨p3, 0, none⟩), .slice a l c, .pointer (some ⟨q.block, q.off + (0 : Int).toNat * 2, none⟩), .pointer (some ⟨q.block, q.off + (0 : Int).toNat * 2 + 0, none⟩), .int .i64 x_3, .int .i64 x8, .bool (x_3 == x8), .bool (x_3 == x8), .bool (x_3 == x8), (D.getD 154 undef), (D.getD 155 undef), (D.getD 156 undef), (D.getD 157 undef), (D.getD 158 undef), (D.getD 159 undef), (D.getD 160 undef), (D.getD 161 undef), (D.getD 162 undef), (D.getD 163 undef), (D.getD 164 undef), (D.getD 165 undef), (D.getD 166 undef), (D.getD 167 undef), (D.getD 168 undef), (D.getD 169 undef), (D.getD 170 undef), (D.getD 171 undef), (D.getD 172 undef), (D.getD 173 undef), (D.getD 174 undef), (D.getD 175 undef), (D.getD 176 undef), (D.getD 177 undef), (D.getD 178 undef), (D.getD 179 undef), (D.getD 180 undef), (D.getD 181 undef), (D.getD 182 undef), (D.getD 183 undef), (D.getD 184 undef), (D.getD 185 undef), (D.getD 186 undef), (D.getD 187 undef), (D.getD 188 undef)] H
   else none
   else
   f42.K4 k n1 p2 p3 x8 p9 [(D.getD 0 undef), (D.getD 1 undef), (D.getD 2 undef), (D.getD 3 undef), (D.getD 4 undef), (D.getD 5 undef), .bool b10, (D.getD 6 undef), (D.getD 7 undef), (D.getD 8 undef), (D.getD 9 undef), (D.getD 10 undef), (D.getD 11 undef), (D.getD 12 undef), (D.getD 13 undef), (D.getD 14 undef), (D.getD 15 undef), (D.getD 16 undef), (D.getD 17 undef), (D.getD 18 undef), (D.getD 19 undef), (D.getD 20 undef), (D.getD 21 undef), (D.getD 22 undef), (D.getD 23 undef), (D.getD 24 undef), (D.getD 25 undef), (D.getD 26 undef), (D.getD 27 undef), (D.getD 28 undef), (D.getD 29 undef), (D.getD 30 undef), (D.getD 31 undef), (D.getD 32 undef), (D.getD 33 undef), (D.getD 34 undef), (D.getD 35 undef), (D.getD 36 undef), (D.getD 37 undef), (D.getD 38 undef), (D.getD 39 undef), (D.getD 40 undef), (D.getD 41 undef), (D.getD 42 undef), (D.getD 43 undef), (D.getD 44 undef), (D.getD 45 undef), (D.getD 46 undef), (D.getD 47 undef), (D.getD 48 undef), (D.getD 49 undef), (D.getD 50 undef), (D.getD 51 undef), (D.getD 52 undef), (D.getD 53 undef), (D.getD 54 undef), (D.getD 55 undef), (D.getD 56 undef), (D.getD 57 undef), (D.getD 58 undef), (D.getD 59 undef), (D.getD 60 undef), (D.getD 61 undef), (D.getD 62 undef), (D.getD 63 undef), (D.getD 64 undef), (D.getD 65 undef), (D.getD 66 undef), (D.getD 67 undef), (D.getD 68 undef), (D.getD 69 undef), (D.getD 70 undef), (D.getD 71 undef), (D.getD 72 undef), (D.getD 73 undef), (D.getD 74 undef), (D.getD 75 undef), (D.getD 76 undef), (D.getD 77 undef), (D.getD 78 undef), (D.getD 79 undef), (D.getD 80 undef), (D.getD 81 undef), (D.getD 82 undef), (D.getD 83 undef), (D.getD 84 undef), (D.getD 85 undef), (D.getD 86 undef), (D.getD 87 undef), (D.getD 88 undef), (D.getD 89 undef), (D.getD 90 undef), (D.getD 91 undef), (D.getD 92 undef), (D.getD 93 undef), (D.getD 94 undef), (D.getD 95 undef), (D.getD 96 undef), (D.getD 97 undef), (D.getD 98 undef), (D.getD 99 undef), (D.getD 100 undef), (D.getD 101 undef), (D.getD 102 undef), (D.getD 103 undef), (D.getD 104 undef), (D.getD 105 undef), (D.getD 106 undef), (D.getD 107 undef), (D.getD 108 undef), (D.getD 109 undef), (D.getD 110 undef), (D.getD 111 undef), (D.getD 112 undef), (D.getD 113 undef), (D.getD 114 undef), (D.getD 115 undef), (D.getD 116 undef), (D.getD 117 undef), (D.getD 118 undef), (D.getD 119 undef), (D.getD 120 undef), (D.getD 121 undef), (D.getD 122 undef), (D.getD 123 undef), (D.getD 124 undef), (D.getD 125 undef), (D.getD 126 undef), (D.getD 127 undef), (D.getD 128 undef), .pointer (some ⟨p9, 0, none⟩), .int .i64 x, .bool (decide (x < (0 : Int))), .bool false, .pointer (some ⟨p9, 0, none⟩), .int .i64 x_1, .bool (decide (x_1 > (5 : Int))), .bool (decide (x_1 > (5 : Int))), .bool false, .pointer (some ⟨p9, 1, none⟩), .int .i64 x_2, .bool (x_2 != (0 : Int)), .bool (x_2 != (0 : Int)), .bool false, .bool b10, .bool false, undef, undef, undef, undef, undef, undef, undef, .bool false, .bool false, (D.getD 154 undef), (D.getD 155 undef), (D.getD 156 undef), (D.getD 157 undef), (D.getD 158 undef), (D.getD 159 undef), (D.getD 160 undef), (D.getD 161 undef), (D.getD 162 undef), (D.getD 163 undef), (D.getD 164 undef), (D.getD 165 undef), (D.getD 166 undef), (D.getD 167 undef), (D.getD 168 undef), (D.getD 169 undef), (D.getD 170 undef), (D.getD 171 undef), (D.getD 172 undef), (D.getD 173 undef), (D.getD 174 undef), (D.getD 175 undef), (D.getD 176 undef), (D.getD 177 undef), (D.getD 178 undef), (D.getD 179 undef), (D.getD 180 undef), (D.getD 181 undef), (D.getD 182 undef), (D.getD 183 undef), (D.getD 184 undef), (D.getD 185 undef), (D.getD 186 undef), (D.getD 187 undef), (D.getD 188 undef)] H) := by
  unfold f42.K3
  rw [gateC_eq]
  kernel_rfl
theorem f42.K4_eq (k : Nat) (n1 : Nat) (p2 : Nat) (p3 : Nat) (x8 : Int) (p9 : Nat) (D : List Value) (H : AHeap) : f42.K4 k n1 p2 p3 x8 p9 D H =
  ((AHeap.row H p2 (0) 6).bind fun g =>
   (AHeap.row H p3 (0) 4).bind fun g_1 =>
   cT (C k 44 [.agg (g : List Value).toArray, .agg (g_1 : List Value).toArray, .int .i64 x8] H) fun u H_1 =>
   exSl (u.toList[0]?) fun a l c =>
   exSl (u.toList[1]?) fun a_1 l_1 c_1 =>
   (ldI .i64 H_1 p9 (0)).bind fun x =>
   bif (x == (0 : Int)) then
   bif (decide ((l : Int) > (0 : Int))) then
   some (.bool false, H_1)
   else
   bif (decide ((l_1 : Int) > (0 : Int))) then
   some (.bool false, H_1)
   else
   (ldI .i64 H_1 p3 (1)).bind fun x_1 =>
   bif (x_1 == x8) then
   some (.bool false, H_1)
   else
   (ldB H_1 p9 (2)).bind fun b =>
   bif b then
   some (.bool false, H_1)
   else
   f42.L2 k n1 p2 p3 (IntKind.i64.wrap (x8 + (1 : Int))) [(D.getD 0 undef), (D.getD 1 undef), (D.getD 2 undef), (D.getD 3 undef), (D.getD 4 undef), (D.getD 5 undef), .pointer (some ⟨p9, 0, none⟩), (D.getD 6 undef), .slice a l c, .slice a_1 l_1 c_1, (D.getD 9 undef), (D.getD 10 undef), (D.getD 11 undef), (D.getD 12 undef), (D.getD 13 undef), (D.getD 14 undef), (D.getD 15 undef), (D.getD 16 undef), (D.getD 17 undef), (D.getD 18 undef), (D.getD 19 undef), (D.getD 20 undef), (D.getD 21 undef), (D.getD 22 undef), (D.getD 23 undef), (D.getD 24 undef), (D.getD 25 undef), (D.getD 26 undef), (D.getD 27 undef), (D.getD 28 undef), (D.getD 29 undef), (D.getD 30 undef), (D.getD 31 undef), (D.getD 32 undef), (D.getD 33 undef), (D.getD 34 undef), (D.getD 35 undef), (D.getD 36 undef), (D.getD 37 undef), (D.getD 38 undef), (D.getD 39 undef), (D.getD 40 undef), (D.getD 41 undef), (D.getD 42 undef), (D.getD 43 undef), (D.getD 44 undef), (D.getD 45 undef), (D.getD 46 undef), (D.getD 47 undef), (D.getD 48 undef), (D.getD 49 undef), (D.getD 50 undef), (D.getD 51 undef), (D.getD 52 undef), (D.getD 53 undef), (D.getD 54 undef), (D.getD 55 undef), (D.getD 56 undef), (D.getD 57 undef), (D.getD 58 undef), (D.getD 59 undef), (D.getD 60 undef), (D.getD 61 undef), (D.getD 62 undef), (D.getD 63 undef), (D.getD 64 undef), (D.getD 65 undef), (D.getD 66 undef), (D.getD 67 undef), (D.getD 68 undef), (D.getD 69 undef), (D.getD 70 undef), (D.getD 71 undef), (D.getD 72 undef), (D.getD 73 undef), (D.getD 74 undef), (D.getD 75 undef), (D.getD 76 undef), (D.getD 77 undef), (D.getD 78 undef), (D.getD 79 undef), (D.getD 80 undef), (D.getD 81 undef), (D.getD 82 undef), (D.getD 83 undef), (D.getD 84 undef), (D.getD 85 undef), (D.getD 86 undef), (D.getD 87 undef), (D.getD 88 undef), (D.getD 89 undef), (D.getD 90 undef), (D.getD 91 undef), (D.getD 92 undef), (D.getD 93 undef), (D.getD 94 undef), (D.getD 95 undef), (D.getD 96 undef), (D.getD 97 undef), (D.getD 98 undef), (D.getD 99 undef), (D.getD 100 undef), (D.getD 101 undef), (D.getD 102 undef), (D.getD 103 undef), (D.getD 104 undef), (D.getD 105 undef), (D.getD 106 undef), (D.getD 107 undef), (D.getD 108 undef), (D.getD 109 undef), (D.getD 110 undef), (D.getD 111 undef), (D.getD 112 undef), (D.getD 113 undef), (D.getD 114 undef), .int .i64 x8, .int .i64 (IntKind.i64.wrap (x8 + (1 : Int))), (D.getD 117 undef), (D.getD 118 undef), (D.getD 119 undef), (D.getD 120 undef), (D.getD 121 undef), (D.getD 122 undef), (D.getD 123 undef), (D.getD 124 undef), (D.getD 125 undef), (D.getD 126 undef), (D.getD 127 undef), (D.getD 128 undef), (D.getD 129 undef), (D.getD 130 undef), (D.getD 131 undef), (D.getD 132 undef), (D.getD 133 undef), (D.getD 134 undef), (D.getD 135 undef), (D.getD 136 undef), (D.getD 137 undef), (D.getD 138 undef), (D.getD 139 undef), (D.getD 140 undef), (D.getD 141 undef), (D.getD 142 undef), (D.getD 143 undef), (D.getD 144 undef), (D.getD 145 undef), (D.getD 146 undef), (D.getD 147 undef), (D.getD 148 undef), (D.getD 149 undef), (D.getD 150 undef), (D.getD 151 undef), (D.getD 152 undef), (D.getD 153 undef), (D.getD 154 undef), .tuple u, .agg (g : List Value).toArray, .agg (g_1 : List Value).toArray, .int .i64 x8, .tuple u, .slice a l c, .slice a_1 l_1 c_1, .pointer (some ⟨p9, 0, none⟩), .int .i64 x, .bool (x == (0 : Int)), .bool true, undef, undef, undef, .bool true, .bool true, .slice a l c, .int .i64 (l : Int), .bool (decide ((l : Int) > (0 : Int))), .bool false, .slice a_1 l_1 c_1, .int .i64 (l_1 : Int), .bool (decide ((l_1 : Int) > (0 : Int))), .bool (decide ((l_1 : Int) > (0 : Int))), .bool false, .pointer (some ⟨p3, 1, none⟩), .int .i64 x_1, .int .i64 x8, .bool (x_1 == x8), .bool (x_1 == x8), .bool false, .pointer (some ⟨p9, 2, none⟩), .bool b, .bool b, .bool b] H_1
   else
   (ldI .i64 H_1 p9 (0)).bind fun x_2 =>
   bif (x_2 == (1 : Int)) then
   bif (decide ((l : Int) > (0 : Int))) then
   some (.bool false, H_1)
   else
   bif (decide ((l_1 : Int) > (0 : Int))) then
   some (.bool false, H_1)
   else
   (ldI .i64 H_1 p3 (1)).bind fun x_3 =>
   bif (x_3 == x8) then
   some (.bool false, H_1)
   else
   (ldB H_1 p9 (2)).bind fun b_1 =>
   bif b_1 then
   some (.bool false, H_1)
   else
   f42.L2 k n1 p2 p3 (IntKind.i64.wrap (x8 + (1 : Int))) [(D.getD 0 undef), (D.getD 1 undef), (D.getD 2 undef), (D.getD 3 undef), (D.getD 4 undef), (D.getD 5 undef), .pointer (some ⟨p9, 0, none⟩), (D.getD 6 undef), .slice a l c, .slice a_1 l_1 c_1, (D.getD 9 undef), (D.getD 10 undef), (D.getD 11 undef), (D.getD 12 undef), (D.getD 13 undef), (D.getD 14 undef), (D.getD 15 undef), (D.getD 16 undef), (D.getD 17 undef), (D.getD 18 undef), (D.getD 19 undef), (D.getD 20 undef), (D.getD 21 undef), (D.getD 22 undef), (D.getD 23 undef), (D.getD 24 undef), (D.getD 25 undef), (D.getD 26 undef), (D.getD 27 undef), (D.getD 28 undef), (D.getD 29 undef), (D.getD 30 undef), (D.getD 31 undef), (D.getD 32 undef), (D.getD 33 undef), (D.getD 34 undef), (D.getD 35 undef), (D.getD 36 undef), (D.getD 37 undef), (D.getD 38 undef), (D.getD 39 undef), (D.getD 40 undef), (D.getD 41 undef), (D.getD 42 undef), (D.getD 43 undef), (D.getD 44 undef), (D.getD 45 undef), (D.getD 46 undef), (D.getD 47 undef), (D.getD 48 undef), (D.getD 49 undef), (D.getD 50 undef), (D.getD 51 undef), (D.getD 52 undef), (D.getD 53 undef), (D.getD 54 undef), (D.getD 55 undef), (D.getD 56 undef), (D.getD 57 undef), (D.getD 58 undef), (D.getD 59 undef), (D.getD 60 undef), (D.getD 61 undef), (D.getD 62 undef), (D.getD 63 undef), (D.getD 64 undef), (D.getD 65 undef), (D.getD 66 undef), (D.getD 67 undef), (D.getD 68 undef), (D.getD 69 undef), (D.getD 70 undef), (D.getD 71 undef), (D.getD 72 undef), (D.getD 73 undef), (D.getD 74 undef), (D.getD 75 undef), (D.getD 76 undef), (D.getD 77 undef), (D.getD 78 undef), (D.getD 79 undef), (D.getD 80 undef), (D.getD 81 undef), (D.getD 82 undef), (D.getD 83 undef), (D.getD 84 undef), (D.getD 85 undef), (D.getD 86 undef), (D.getD 87 undef), (D.getD 88 undef), (D.getD 89 undef), (D.getD 90 undef), (D.getD 91 undef), (D.getD 92 undef), (D.getD 93 undef), (D.getD 94 undef), (D.getD 95 undef), (D.getD 96 undef), (D.getD 97 undef), (D.getD 98 undef), (D.getD 99 undef), (D.getD 100 undef), (D.getD 101 undef), (D.getD 102 undef), (D.getD 103 undef), (D.getD 104 undef), (D.getD 105 undef), (D.getD 106 undef), (D.getD 107 undef), (D.getD 108 undef), (D.getD 109 undef), (D.getD 110 undef), (D.getD 111 undef), (D.getD 112 undef), (D.getD 113 undef), (D.getD 114 undef), .int .i64 x8, .int .i64 (IntKind.i64.wrap (x8 + (1 : Int))), (D.getD 117 undef), (D.getD 118 undef), (D.getD 119 undef), (D.getD 120 undef), (D.getD 121 undef), (D.getD 122 undef), (D.getD 123 undef), (D.getD 124 undef), (D.getD 125 undef), (D.getD 126 undef), (D.getD 127 undef), (D.getD 128 undef), (D.getD 129 undef), (D.getD 130 undef), (D.getD 131 undef), (D.getD 132 undef), (D.getD 133 undef), (D.getD 134 undef), (D.getD 135 undef), (D.getD 136 undef), (D.getD 137 undef), (D.getD 138 undef), (D.getD 139 undef), (D.getD 140 undef), (D.getD 141 undef), (D.getD 142 undef), (D.getD 143 undef), (D.getD 144 undef), (D.getD 145 undef), (D.getD 146 undef), (D.getD 147 undef), (D.getD 148 undef), (D.getD 149 undef), (D.getD 150 undef), (D.getD 151 undef), (D.getD 152 undef), (D.getD 153 undef), (D.getD 154 undef), .tuple u, .agg (g : List Value).toArray, .agg (g_1 : List Value).toArray, .int .i64 x8, .tuple u, .slice a l c, .slice a_1 l_1 c_1, .pointer (some ⟨p9, 0, none⟩), .int .i64 x, .bool (x == (0 : Int)), .bool false, .pointer (some ⟨p9, 0, none⟩), .int .i64 x_2, .bool (x_2 == (1 : Int)), .bool (x_2 == (1 : Int)), .bool true, .slice a l c, .int .i64 (l : Int), .bool (decide ((l : Int) > (0 : Int))), .bool false, .slice a_1 l_1 c_1, .int .i64 (l_1 : Int), .bool (decide ((l_1 : Int) > (0 : Int))), .bool (decide ((l_1 : Int) > (0 : Int))), .bool false, .pointer (some ⟨p3, 1, none⟩), .int .i64 x_3, .int .i64 x8, .bool (x_3 == x8), .bool (x_3 == x8), .bool false, .pointer (some ⟨p9, 2, none⟩), .bool b_1, .bool b_1, .bool b_1] H_1
   else
   f42.L2 k n1 p2 p3 (IntKind.i64.wrap (x8 + (1 : Int))) [(D.getD 0 undef), (D.getD 1 undef), (D.getD 2 undef), (D.getD 3 undef), (D.getD 4 undef), (D.getD 5 undef), .pointer (some ⟨p9, 0, none⟩), (D.getD 6 undef), .slice a l c, .slice a_1 l_1 c_1, (D.getD 9 undef), (D.getD 10 undef), (D.getD 11 undef), (D.getD 12 undef), (D.getD 13 undef), (D.getD 14 undef), (D.getD 15 undef), (D.getD 16 undef), (D.getD 17 undef), (D.getD 18 undef), (D.getD 19 undef), (D.getD 20 undef), (D.getD 21 undef), (D.getD 22 undef), (D.getD 23 undef), (D.getD 24 undef), (D.getD 25 undef), (D.getD 26 undef), (D.getD 27 undef), (D.getD 28 undef), (D.getD 29 undef), (D.getD 30 undef), (D.getD 31 undef), (D.getD 32 undef), (D.getD 33 undef), (D.getD 34 undef), (D.getD 35 undef), (D.getD 36 undef), (D.getD 37 undef), (D.getD 38 undef), (D.getD 39 undef), (D.getD 40 undef), (D.getD 41 undef), (D.getD 42 undef), (D.getD 43 undef), (D.getD 44 undef), (D.getD 45 undef), (D.getD 46 undef), (D.getD 47 undef), (D.getD 48 undef), (D.getD 49 undef), (D.getD 50 undef), (D.getD 51 undef), (D.getD 52 undef), (D.getD 53 undef), (D.getD 54 undef), (D.getD 55 undef), (D.getD 56 undef), (D.getD 57 undef), (D.getD 58 undef), (D.getD 59 undef), (D.getD 60 undef), (D.getD 61 undef), (D.getD 62 undef), (D.getD 63 undef), (D.getD 64 undef), (D.getD 65 undef), (D.getD 66 undef), (D.getD 67 undef), (D.getD 68 undef), (D.getD 69 undef), (D.getD 70 undef), (D.getD 71 undef), (D.getD 72 undef), (D.getD 73 undef), (D.getD 74 undef), (D.getD 75 undef), (D.getD 76 undef), (D.getD 77 undef), (D.getD 78 undef), (D.getD 79 undef), (D.getD 80 undef), (D.getD 81 undef), (D.getD 82 undef), (D.getD 83 undef), (D.getD 84 undef), (D.getD 85 undef), (D.getD 86 undef), (D.getD 87 undef), (D.getD 88 undef), (D.getD 89 undef), (D.getD 90 undef), (D.getD 91 undef), (D.getD 92 undef), (D.getD 93 undef), (D.getD 94 undef), (D.getD 95 undef), (D.getD 96 undef), (D.getD 97 undef), (D.getD 98 undef), (D.getD 99 undef), (D.getD 100 undef), (D.getD 101 undef), (D.getD 102 undef), (D.getD 103 undef), (D.getD 104 undef), (D.getD 105 undef), (D.getD 106 undef), (D.getD 107 undef), (D.getD 108 undef), (D.getD 109 undef), (D.getD 110 undef), (D.getD 111 undef), (D.getD 112 undef), (D.getD 113 undef), (D.getD 114 undef), .int .i64 x8, .int .i64 (IntKind.i64.wrap (x8 + (1 : Int))), (D.getD 117 undef), (D.getD 118 undef), (D.getD 119 undef), (D.getD 120 undef), (D.getD 121 undef), (D.getD 122 undef), (D.getD 123 undef), (D.getD 124 undef), (D.getD 125 undef), (D.getD 126 undef), (D.getD 127 undef), (D.getD 128 undef), (D.getD 129 undef), (D.getD 130 undef), (D.getD 131 undef), (D.getD 132 undef), (D.getD 133 undef), (D.getD 134 undef), (D.getD 135 undef), (D.getD 136 undef), (D.getD 137 undef), (D.getD 138 undef), (D.getD 139 undef), (D.getD 140 undef), (D.getD 141 undef), (D.getD 142 undef), (D.getD 143 undef), (D.getD 144 undef), (D.getD 145 undef), (D.getD 146 undef), (D.getD 147 undef), (D.getD 148 undef), (D.getD 149 undef), (D.getD 150 undef), (D.getD 151 undef), (D.getD 152 undef), (D.getD 153 undef), (D.getD 154 undef), .tuple u, .agg (g : List Value).toArray, .agg (g_1 : List Value).toArray, .int .i64 x8, .tuple u, .slice a l c, .slice a_1 l_1 c_1, .pointer (some ⟨p9, 0, none⟩), .int .i64 x, .bool (x == (0 : Int)), .bool false, .pointer (some ⟨p9, 0, none⟩), .int .i64 x_2, .bool (x_2 == (1 : Int)), .bool (x_2 == (1 : Int)), .bool false, undef, undef, undef, undef, undef, undef, undef, undef, undef, undef, undef, undef, undef, undef, undef, undef, undef, undef, .bool false] H_1) := by
  unfold f42.K4
  rw [gateC_eq]
  kernel_rfl
theorem f42_eq (k : Nat) (a0_0 : Option Addr) (l0_0 : Nat) (c0_0 : Nat) (a0_1 : Option Addr) (l0_1 : Nat) (c0_1 : Nat) (a0_2 : Option Addr) (l0_2 : Nat) (c0_2 : Nat) (a0_3 : Option Addr) (l0_3 : Nat) (c0_3 : Nat) (a0_4 : Option Addr) (l0_4 : Nat) (c0_4 : Nat) (a0_5 : Option Addr) (l0_5 : Nat) (c0_5 : Nat) (a1_0 : Option Addr) (l1_0 : Nat) (c1_0 : Nat) (x1_1 : Int) (a1_2 : Option Addr) (l1_2 : Nat) (c1_2 : Nat) (a1_3 : Option Addr) (l1_3 : Nat) (c1_3 : Nat) (H : AHeap) : C (k + 1) 42 [.agg #[.slice a0_0 l0_0 c0_0, .slice a0_1 l0_1 c0_1, .slice a0_2 l0_2 c0_2, .slice a0_3 l0_3 c0_3, .slice a0_4 l0_4 c0_4, .slice a0_5 l0_5 c0_5], .agg #[.slice a1_0 l1_0 c1_0, .int .i64 x1_1, .slice a1_2 l1_2 c1_2, .slice a1_3 l1_3 c1_3]] H =
  (alK none H ⟨[.slice a0_0 l0_0 c0_0, .slice a0_1 l0_1 c0_1, .slice a0_2 l0_2 c0_2, .slice a0_3 l0_3 c0_3, .slice a0_4 l0_4 c0_4, .slice a0_5 l0_5 c0_5], 0, .rw, 0⟩ fun i H_1 =>
   alK none H_1 ⟨[.slice a1_0 l1_0 c1_0, .int .i64 x1_1, .slice a1_2 l1_2 c1_2, .slice a1_3 l1_3 c1_3], 0, .rw, 0⟩ fun i_1 H_2 =>
   (AHeap.row H_2 i (0) 6).bind fun g =>
   (AHeap.row H_2 i_1 (0) 4).bind fun g_1 =>
   cB (C k 79 [.agg (g : List Value).toArray, .agg (g_1 : List Value).toArray] H_2) fun b H_3 =>
   bif (!b) then
   some (.bool false, H_3)
   else
   (AHeap.row H_3 i (0) 6).bind fun g_2 =>
   (AHeap.row H_3 i_1 (0) 4).bind fun g_3 =>
   cB (C k 65 [.agg (g_2 : List Value).toArray, .agg (g_3 : List Value).toArray] H_3) fun b_1 H_4 =>
   bif (!b_1) then
   some (.bool false, H_4)
   else
   f42.K1 k i i_1 [.agg #[.slice a0_0 l0_0 c0_0, .slice a0_1 l0_1 c0_1, .slice a0_2 l0_2 c0_2, .slice a0_3 l0_3 c0_3, .slice a0_4 l0_4 c0_4, .slice a0_5 l0_5 c0_5], .agg #[.slice a1_0 l1_0 c1_0, .int .i64 x1_1, .slice a1_2 l1_2 c1_2, .slice a1_3 l1_3 c1_3], .bool false, .agg (g : List Value).toArray, .agg (g_1 : List Value).toArray, .bool b, .bool (!b), .bool false, .agg (g_2 : List Value).toArray, .agg (g_3 : List Value).toArray, .bool b_1, .bool (!b_1), .bool (!b_1)] H_4) := by kernel_rfl

/- f44 "interleave/object.Holds"  names: 0:w 1:s 2:thread 3:w 4:s 5:thread 8:owns 9:reads 10:i 11:l -/
noncomputable def f44.Q0 (k : Nat)  : Kont (Value × AHeap) := retQ Try.prog Try.f44
noncomputable def f44.Q1 (k : Nat)  : Kont (Value × AHeap) := seqQ (gateC (Sub (bodyOf Try.f44) [1, 1, 1, 0]) (Sub (bodyOf Try.f44) [1, 1, 1, 1]) k (run Try.prog (C k) k (Sub (bodyOf Try.f44) [1, 1, 1, 1]) (f44.Q0 k ))) (f44.Q0 k )
noncomputable def f44.Q2 (k : Nat)  : Kont (Value × AHeap) := blkQ 0 (f44.Q1 k )
noncomputable def f44.K1 (k : Nat)  (x2 : Int) (p4 : Nat) (D : List Value) (H : AHeap) : Option (Value × AHeap) :=
  gateC (Sub (bodyOf Try.f44) [1, 0]) (Sub (bodyOf Try.f44) [1, 1]) k (run Try.prog (C k) k (Sub (bodyOf Try.f44) [1, 1]) (f44.Q0 k )) [(D.getD 0 undef), (D.getD 1 undef), .int .i64 x2, (D.getD 2 undef), .pointer (some ⟨p4, 0, none⟩), undef, (D.getD 3 undef), (D.getD 4 undef), undef, undef, undef, undef, (D.getD 5 undef), (D.getD 6 undef), (D.getD 7 undef), (D.getD 8 undef), (D.getD 9 undef), (D.getD 10 undef), (D.getD 11 undef), (D.getD 12 undef), (D.getD 13 undef), (D.getD 14 undef), (D.getD 15 undef), (D.getD 16 undef), undef, undef, undef, undef, undef, undef, undef, undef, undef, undef, undef, undef, undef, undef, undef, undef, undef, undef, undef, undef, undef, undef, undef, undef, undef, undef, undef] H
noncomputable def f44.L1 (k : Nat) (n1 : Nat) (x2 : Int) (a8 : Option Addr) (l8 : Nat) (c8 : Nat) (a9 : Option Addr) (l9 : Nat) (c9 : Nat) (a25 : Option Addr) (l25 : Nat) (c25 : Nat) (x26 : Int) (x27 : Int) (D : List Value) (H : AHeap) : Option (Value × AHeap) :=
  iter (run Try.prog (C k) k (Sub (bodyOf Try.f44) [1, 1, 1, 0, 1, 0, 0])) (f44.Q2 k ) n1 [(D.getD 0 undef), (D.getD 1 undef), .int .i64 x2, (D.getD 2 undef), (D.getD 3 undef), undef, (D.getD 4 undef), (D.getD 5 undef), .slice a8 l8 c8, .slice a9 l9 c9, (D.getD 6 undef), (D.getD 7 undef), (D.getD 8 undef), (D.getD 9 undef), (D.getD 10 undef), (D.getD 11 undef), (D.getD 12 undef), (D.getD 13 undef), (D.getD 14 undef), (D.getD 15 undef), (D.getD 16 undef), (D.getD 17 undef), (D.getD 18 undef), (D.getD 19 undef), (D.getD 20 undef), .slice a25 l25 c25, .int .i64 x26, .int .i64 x27, (D.getD 21 undef), (D.getD 22 undef), (D.getD 23 undef), (D.getD 24 undef), (D.getD 25 undef), (D.getD 26 undef), (D.getD 27 undef), (D.getD 28 undef), (D.getD 29 undef), (D.getD 30 undef), (D.getD 31 undef), (D.getD 32 undef), (D.getD 33 undef), (D.getD 34 undef), (D.getD 35 undef), (D.getD 36 undef), (D.getD 37 undef), (D.getD 38 undef), (D.getD 39 undef), (D.getD 40 undef), (D.getD 41 undef), undef, undef] H
theorem f44.K1_eq (k : Nat)  (x2 : Int) (p4 : Nat) (D : List Value) (H : AHeap) : f44.K1 k  x2 p4 D H =
  (bSl (ldSl H p4 (0)) fun a l c =>
   f44.L1 k k x2 none 0 0 none 0 0 a l c (l : Int) 0 [(D.getD 0 undef), (D.getD 1 undef), (D.getD 2 undef), .pointer (some ⟨p4, 0, none⟩), (D.getD 3 undef), (D.getD 4 undef), undef, undef, (D.getD 5 undef), (D.getD 6 undef), (D.getD 7 undef), (D.getD 8 undef), (D.getD 9 undef), (D.getD 10 undef), (D.getD 11 undef), (D.getD 12 undef), (D.getD 13 undef), (D.getD 14 undef), (D.getD 15 undef), (D.getD 16 undef), .pointer (some ⟨p4, 0, none⟩), undef, undef, undef, undef, undef, undef, undef, undef, undef, undef, undef, undef, undef, undef, undef, undef, undef, undef, undef, undef, undef] H) := by
  unfold f44.K1
  rw [gateC_eq]
  kernel_rfl
theorem f44.L1_z (k : Nat)  (x2 : Int) (a8 : Option Addr) (l8 : Nat) (c8 : Nat) (a9 : Option Addr) (l9 : Nat) (c9 : Nat) (a25 : Option Addr) (l25 : Nat) (c25 : Nat) (x26 : Int) (x27 : Int) (D : List Value) (H : AHeap) : f44.L1 k 0 x2 a8 l8 c8 a9 l9 c9 a25 l25 c25 x26 x27 D H = none := by kernel_rfl
theorem f44.L1_s (k : Nat) (n1 : Nat) (x2 : Int) (a8 : Option Addr) (l8 : Nat) (c8 : Nat) (a9 : Option Addr) (l9 : Nat) (c9 : Nat) (a25 : Option Addr) (l25 : Nat) (c25 : Nat) (x26 : Int) (x27 : Int) (D : List Value) (H : AHeap) : f44.L1 k (n1 + 1) x2 a8 l8 c8 a9 l9 c9 a25 l25 c25 x26 x27 D H =
  (bif (decide (x27 < x26)) then
   a25.bind fun q =>
   if 0 ≤ x27 ∧ x27 < (l25 : Int) then
   (AHeap.row H q.block (q.off + x27.toNat * 2) 2).bind fun g =>
   alK none H ⟨[.int .i64 0, .slice none 0 0], 0, .rw, 0⟩ fun i H_1 =>
   if notTup (.agg (g : List Value).toArray) = true ∧ (g).length = 2 then
   (AHeap.wr H_1 i (0) g).bind fun H_2 =>
   (ldI .i64 H_2 i (0)).bind fun x =>
   bif (x == x2) then
   alK none H_2 ⟨[.int .i64 x27], 1, .rw, 0⟩ fun i_1 H_3 =>
   cSl (apndV Try.prog [26, 26] H_3 (.slice a8 l8 c8) (.slice (some ⟨i_1, 0, none⟩) 1 1)) fun a l c H_4 =>
   bSl (ldSl H_4 i (1)) fun a_1 l_1 c_1 =>
   cB (C k 63 [.slice a_1 l_1 c_1, .int .i64 x2] H_4) fun b H_5 =>
   bif b then
   alK none H_5 ⟨[.int .i64 x27], 1, .rw, 0⟩ fun i_2 H_6 =>
   cSl (apndV Try.prog [26, 26] H_6 (.slice a9 l9 c9) (.slice (some ⟨i_2, 0, none⟩) 1 1)) fun a_2 l_2 c_2 H_7 =>
   f44.L1 k n1 x2 a l c a_2 l_2 c_2 a25 l25 c25 x26 (IntKind.i64.wrap (x27 + (1 : Int))) [(D.getD 0 undef), (D.getD 1 undef), (D.getD 2 undef), (D.getD 3 undef), (D.getD 4 undef), (D.getD 5 undef), .int .i64 x27, .pointer (some ⟨i, 0, none⟩), (D.getD 8 undef), (D.getD 9 undef), (D.getD 10 undef), (D.getD 11 undef), (D.getD 12 undef), (D.getD 13 undef), (D.getD 14 undef), (D.getD 15 undef), (D.getD 16 undef), (D.getD 17 undef), (D.getD 18 undef), (D.getD 19 undef), (D.getD 20 undef), .bool (decide (x27 < x26)), .int .i64 x27, .pointer (some ⟨q.block, q.off + x27.toNat * 2, none⟩), .agg (g : List Value).toArray, .pointer (some ⟨i, 0, none⟩), .int .i64 x, .int .i64 x2, .bool (x == x2), .slice a8 l8 c8, .int .i64 x27, .slice (some ⟨i_1, 0, none⟩) 1 1, .slice a l c, .pointer (some ⟨i, 1, none⟩), .slice a_1 l_1 c_1, .int .i64 x2, .bool b, .slice a9 l9 c9, .int .i64 x27, .slice (some ⟨i_2, 0, none⟩) 1 1, .slice a_2 l_2 c_2, .int .i64 (IntKind.i64.wrap (x27 + (1 : Int)))] H_7
   else
   f44.L1 k n1 x2 a l c a9 l9 c9 a25 l25 c25 x26 (IntKind.i64.wrap (x27 + (1 : Int))) [(D.getD 0 undef), (D.getD 1 undef), (D.getD 2 undef), (D.getD 3 undef), (D.getD 4 undef), (D.getD 5 undef), .int .i64 x27, .pointer (some ⟨i, 0, none⟩), (D.getD 8 undef), (D.getD 9 undef), (D.getD 10 undef), (D.getD 11 undef), (D.getD 12 undef), (D.getD 13 undef), (D.getD 14 undef), (D.getD 15 undef), (D.getD 16 undef), (D.getD 17 undef), (D.getD 18 undef), (D.getD 19 undef), (D.getD 20 undef), .bool (decide (x27 < x26)), .int .i64 x27, .pointer (some ⟨q.block, q.off + x27.toNat * 2, none⟩), .agg (g : List Value).toArray, .pointer (some ⟨i, 0, none⟩), .int .i64 x, .int .i64 x2, .bool (x == x2), .slice a8 l8 c8, .int .i64 x27, .slice (some ⟨i_1, 0, none⟩) 1 1, .slice a l c, .pointer (some ⟨i, 1, none⟩), .slice a_1 l_1 c_1, .int .i64 x2, .bool b, (D.getD 37 undef), (D.getD 38 undef), (D.getD 39 undef), (D.getD 40 undef), .int .i64 (IntKind.i64.wrap (x27 + (1 : Int)))] H_5
   else
   bSl (ldSl H_2 i (1)) fun a_3 l_3 c_3 =>
   cB (C k 63 [.slice a_3 l_3 c_3, .int .i64 x2] H_2) fun b_1 H_8 =>
   bif b_1 then
   alK none H_8 ⟨[.int .i64 x27], 1, .rw, 0⟩ fun i_3 H_9 =>
   cSl (apndV Try.prog [26, 26] H_9 (.slice a9 l9 c9) (.slice (some ⟨i_3, 0, none⟩) 1 1)) fun a_4 l_4 c_4 H_10 =>
   f44.L1 k n1 x2 a8 l8 c8 a_4 l_4 c_4 a25 l25 c25 x26 (IntKind.i64.wrap (x27 + (1 : Int))) [(D.getD 0 undef), (D.getD 1 undef), (D.getD 2 undef), (D.getD 3 undef), (D.getD 4 undef), (D.getD 5 undef), .int .i64 x27, .pointer (some ⟨i, 0, none⟩), (D.getD 8 undef), (D.getD 9 undef), (D.getD 10 undef), (D.getD 11 undef), (D.getD 12 undef), (D.getD 13 undef), (D.getD 14 undef), (D.getD 15 undef), (D.getD 16 undef), (D.getD 17 undef), (D.getD 18 undef), (D.getD 19 undef), (D.getD 20 undef), .bool (decide (x27 < x26)), .int .i64 x27, .pointer (some ⟨q.block, q.off + x27.toNat * 2, none⟩), .agg (g : List Value).toArray, .pointer (some ⟨i, 0, none⟩), .int .i64 x, .int .i64 x2, .bool (x == x2), (D.getD 29 undef), (D.getD 30 undef), (D.getD 31 undef), (D.getD 32 undef), .pointer (some ⟨i, 1, none⟩), .slice a_3 l_3 c_3, .int .i64 x2, .bool b_1, .slice a9 l9 c9, .int .i64 x27, .slice (some ⟨i_3, 0, none⟩) 1 1, .slice a_4 l_4 c_4, .int .i64 (IntKind.i64.wrap (x27 + (1 : Int)))] H_10
   else
   f44.L1 k n1 x2 a8 l8 c8 a9 l9 c9 a25 l25 c25 x26 (IntKind.i64.wrap (x27 + (1 : Int))) [(D.getD 0 undef), (D.getD 1 undef), (D.getD 2 undef), (D.getD 3 undef), (D.getD 4 undef), (D.getD 5 undef), .int .i64 x27, .pointer (some ⟨i, 0, none⟩), (D.getD 8 undef), (D.getD 9 undef), (D.getD 10 undef), (D.getD 11 undef), (D.getD 12 undef), (D.getD 13 undef), (D.getD 14 undef), (D.getD 15 undef), (D.getD 16 undef), (D.getD 17 undef), (D.getD 18 undef), (D.getD 19 undef), (D.getD 20 undef), .bool (decide (x27 < x26)), .int .i64 x27, .pointer (some ⟨q.block, q.off + x27.toNat * 2, none⟩), .agg (g : List Value).toArray, .pointer (some ⟨i, 0, none⟩), .int .i64 x, .int .i64 x2, .bool (x == x2), (D.getD 29 undef), (D.getD 30 undef), (D.getD 31 undef), (D.getD 32 undef), .pointer (some ⟨i, 1, none⟩), .slice a_3 l_3 c_3, .int .i64 x2, .bool b_1, (D.getD 37 undef), (D.getD 38 undef), (D.getD 39 undef), (D.getD 40 undef), .int .i64 (IntKind.i64.wrap (x27 + (1 : Int)))] H_8
   else none
   else none
   else
   some (.tuple #[.slice a8 l8 c8, .slice a9 l9 c9], H)) := by kernel_rfl
theorem f44_eq (k : Nat) (a0_0 : Option Addr) (l0_0 : Nat) (c0_0 : Nat) (a0_1 : Option Addr) (l0_1 : Nat) (c0_1 : Nat) (a0_2 : Option Addr) (l0_2 : Nat) (c0_2 : Nat) (a0_3 : Option Addr) (l0_3 : Nat) (c0_3 : Nat) (a0_4 : Option Addr) (l0_4 : Nat) (c0_4 : Nat) (a0_5 : Option Addr) (l0_5 : Nat) (c0_5 : Nat) (a1_0 : Option Addr) (l1_0 : Nat) (c1_0 : Nat) (x1_1 : Int) (a1_2 : Option Addr) (l1_2 : Nat) (c1_2 : Nat) (a1_3 : Option Addr) (l1_3 : Nat) (c1_3 : Nat) (x2 : Int) (H : AHeap) : C (k + 1) 44 [.agg #[.slice a0_0 l0_0 c0_0, .slice a0_1 l0_1 c0_1, .slice a0_2 l0_2 c0_2, .slice a0_3 l0_3 c0_3, .slice a0_4 l0_4 c0_4, .slice a0_5 l0_5 c0_5], .agg #[.slice a1_0 l1_0 c1_0, .int .i64 x1_1, .slice a1_2 l1_2 c1_2, .slice a1_3 l1_3 c1_3], .int .i64 x2] H =
  (alK none H ⟨[.slice a0_0 l0_0 c0_0, .slice a0_1 l0_1 c0_1, .slice a0_2 l0_2 c0_2, .slice a0_3 l0_3 c0_3, .slice a0_4 l0_4 c0_4, .slice a0_5 l0_5 c0_5], 0, .rw, 0⟩ fun i H_1 =>
   alK none H_1 ⟨[.slice a1_0 l1_0 c1_0, .int .i64 x1_1, .slice a1_2 l1_2 c1_2, .slice a1_3 l1_3 c1_3], 0, .rw, 0⟩ fun i_1 H_2 =>
   (AHeap.row H_2 i (0) 6).bind fun g =>
   (AHeap.row H_2 i_1 (0) 4).bind fun g_1 =>
   cB (C k 65 [.agg (g : List Value).toArray, .agg (g_1 : List Value).toArray] H_2) fun b H_3 =>
   bif (!b) then
   some (.tuple #[.slice none 0 0, .slice none 0 0], H_3)
   else
   bSl (ldSl H_3 i (4)) fun a l c =>
   cB (C k 70 [.int .i64 x2, .int .i64 (l : Int)] H_3) fun b_1 H_4 =>
   bif (!b_1) then
   some (.tuple #[.slice none 0 0, .slice none 0 0], H_4)
   else
   f44.K1 k x2 i_1 [.agg #[.slice a0_0 l0_0 c0_0, .slice a0_1 l0_1 c0_1, .slice a0_2 l0_2 c0_2, .slice a0_3 l0_3 c0_3, .slice a0_4 l0_4 c0_4, .slice a0_5 l0_5 c0_5], .agg #[.slice a1_0 l1_0 c1_0, .int .i64 x1_1, .slice a1_2 l1_2 c1_2, .slice a1_3 l1_3 c1_3], .pointer (some ⟨i, 0, none⟩), .slice none 0 0, .slice none 0 0, .agg (g : List Value).toArray, .agg (g_1 : List Value).toArray, .bool b, .bool (!b), .bool false, .int .i64 x2, .pointer (some ⟨i, 4, none⟩), .slice a l c, .int .i64 (l : Int), .bool b_1, .bool (!b_1), .bool (!b_1)] H_4) := by kernel_rfl

/- f13 "interleave/interleavelaw08.ObjectPlays"  names:  -/
noncomputable def f13.Q0 (k : Nat)  : Kont (Value × AHeap) := retQ Try.prog Try.f13
noncomputable def f13.Q1 (k : Nat)  : Kont (Value × AHeap) := seqQ (gateC (Sub (bodyOf Try.f13) [1, 1, 1, 1, 0]) (Sub (bodyOf Try.f13) [1, 1, 1, 1, 1]) k (run Try.prog (C k) k (Sub (bodyOf Try.f13) [1, 1, 1, 1, 1]) (f13.Q0 k ))) (f13.Q0 k )
noncomputable def f13.Q2 (k : Nat)  : Kont (Value × AHeap) := blkQ 0 (f13.Q1 k )
noncomputable def f13.Q3 (k : Nat) (n1 : Nat) : Kont (Value × AHeap) := seqQ (iter (run Try.prog (C k) k (Sub (bodyOf Try.f13) [1, 1, 1, 1, 0, 1, 0, 0])) (f13.Q2 k ) n1) (f13.Q2 k )
noncomputable def f13.Q4 (k : Nat) (n1 : Nat) : Kont (Value × AHeap) := seqQ (gateC (Sub (bodyOf Try.f13) [1, 1, 1, 1, 0, 1, 0, 0, 1, 0]) (Sub (bodyOf Try.f13) [1, 1, 1, 1, 0, 1, 0, 0, 1, 1]) k (run Try.prog (C k) k (Sub (bodyOf Try.f13) [1, 1, 1, 1, 0, 1, 0, 0, 1, 1]) (f13.Q3 k n1))) (f13.Q3 k n1)
noncomputable def f13.Q5 (k : Nat) (n1 : Nat) : Kont (Value × AHeap) := blkQ 1 (f13.Q4 k n1)
noncomputable def f13.L1 (k : Nat) (n1 : Nat) (a0 : Option Addr) (l0 : Nat) (c0 : Nat) (p3 : Nat) (p4 : Nat) (p5 : Nat) (x6 : Int) (D : List Value) (H : AHeap) : Option (Value × AHeap) :=
  iter (run Try.prog (C k) k (Sub (bodyOf Try.f13) [1, 1, 1, 1, 0, 1, 0, 0])) (f13.Q2 k ) n1 [.slice a0 l0 c0, undef, (D.getD 0 undef), .pointer (some ⟨p3, 0, none⟩), .pointer (some ⟨p4, 0, none⟩), .pointer (some ⟨p5, 0, none⟩), .int .i64 x6, (D.getD 1 undef), (D.getD 2 undef), (D.getD 3 undef), (D.getD 4 undef), (D.getD 5 undef), (D.getD 6 undef), (D.getD 7 undef), (D.getD 8 undef), (D.getD 9 undef), (D.getD 10 undef), (D.getD 11 undef), (D.getD 12 undef), (D.getD 13 undef), (D.getD 14 undef), (D.getD 15 undef), (D.getD 16 undef), (D.getD 17 undef), (D.getD 18 undef), (D.getD 19 undef), (D.getD 20 undef), (D.getD 21 undef), (D.getD 22 undef), (D.getD 23 undef), (D.getD 24 undef), (D.getD 25 undef), (D.getD 26 undef), (D.getD 27 undef), (D.getD 28 undef), (D.getD 29 undef), (D.getD 30 undef), (D.getD 31 undef), (D.getD 32 undef), (D.getD 33 undef), (D.getD 34 undef), (D.getD 35 undef), (D.getD 36 undef), (D.getD 37 undef), (D.getD 38 undef), (D.getD 39 undef), (D.getD 40 undef), (D.getD 41 undef), (D.getD 42 undef), (D.getD 43 undef), (D.getD 44 undef), (D.getD 45 undef), (D.getD 46 undef), (D.getD 47 undef), (D.getD 48 undef), (D.getD 49 undef), (D.getD 50 undef), (D.getD 51 undef), (D.getD 52 undef), (D.getD 53 undef), (D.getD 54 undef), (D.getD 55 undef), (D.getD 56 undef), (D.getD 57 undef), (D.getD 58 undef), (D.getD 59 undef), (D.getD 60 undef), (D.getD 61 undef), (D.getD 62 undef), (D.getD 63 undef), (D.getD 64 undef), (D.getD 65 undef), (D.getD 66 undef), (D.getD 67 undef), (D.getD 68 undef), (D.getD 69 undef), (D.getD 70 undef), (D.getD 71 undef), (D.getD 72 undef), (D.getD 73 undef), (D.getD 74 undef), (D.getD 75 undef), (D.getD 76 undef), (D.getD 77 undef), undef, undef, undef, undef, undef, undef] H
noncomputable def f13.K1 (k : Nat) (n1 : Nat) (a0 : Option Addr) (l0 : Nat) (c0 : Nat) (p3 : Nat) (p4 : Nat) (p5 : Nat) (x6 : Int) (p11 : Nat) (b13 : Bool) (p14 : Nat) (D : List Value) (H : AHeap) : Option (Value × AHeap) :=
  gateC (Sub (bodyOf Try.f13) [1, 1, 1, 1, 0, 1, 0, 0, 1, 0, 0, 1, 1, 1, 0]) (Sub (bodyOf Try.f13) [1, 1, 1, 1, 0, 1, 0, 0, 1, 0, 0, 1, 1, 1, 1]) k (run Try.prog (C k) k (Sub (bodyOf Try.f13) [1, 1, 1, 1, 0, 1, 0, 0, 1, 0, 0, 1, 1, 1, 1]) (f13.Q5 k n1)) [.slice a0 l0 c0, undef, (D.getD 0 undef), .pointer (some ⟨p3, 0, none⟩), .pointer (some ⟨p4, 0, none⟩), .pointer (some ⟨p5, 0, none⟩), .int .i64 x6, (D.getD 1 undef), (D.getD 2 undef), (D.getD 3 undef), (D.getD 4 undef), .pointer (some ⟨p11, 0, none⟩), (D.getD 5 undef), .bool b13, .pointer (some ⟨p14, 0, none⟩), (D.getD 6 undef), (D.getD 7 undef), (D.getD 8 undef), (D.getD 9 undef), (D.getD 10 undef), (D.getD 11 undef), (D.getD 12 undef), (D.getD 13 undef), (D.getD 14 undef), (D.getD 15 undef), (D.getD 16 undef), (D.getD 17 undef), (D.getD 18 undef), (D.getD 19 undef), (D.getD 20 undef), (D.getD 21 undef), (D.getD 22 undef), (D.getD 23 undef), (D.getD 24 undef), (D.getD 25 undef), (D.getD 26 undef), (D.getD 27 undef), (D.getD 28 undef), (D.getD 29 undef), (D.getD 30 undef), (D.getD 31 undef), (D.getD 32 undef), (D.getD 33 undef), (D.getD 34 undef), (D.getD 35 undef), (D.getD 36 undef), (D.getD 37 undef), (D.getD 38 undef), (D.getD 39 undef), (D.getD 40 undef), (D.getD 41 undef), (D.getD 42 undef), (D.getD 43 undef), (D.getD 44 undef), (D.getD 45 undef), (D.getD 46 undef), (D.getD 47 undef), (D.getD 48 undef), (D.getD 49 undef), (D.getD 50 undef), (D.getD 51 undef), (D.getD 52 undef), (D.getD 53 undef), (D.getD 54 undef), (D.getD 55 undef), (D.getD 56 undef), (D.getD 57 undef), (D.getD 58 undef), (D.getD 59 undef), (D.getD 60 undef), (D.getD 61 undef), (D.getD 62 undef), (D.getD 63 undef), (D.getD 64 undef), (D.getD 65 undef), (D.getD 66 undef), (D.getD 67 undef), (D.getD 68 undef), (D.getD 69 undef), (D.getD 70 undef), (D.getD 71 undef), (D.getD 72 undef), (D.getD 73 undef), (D.getD 74 undef), undef, undef, undef, undef, undef, undef] H
theorem f13.L1_z (k : Nat)  (a0 : Option Addr) (l0 : Nat) (c0 : Nat) (p3 : Nat) (p4 : Nat) (p5 : Nat) (x6 : Int) (D : List Value) (H : AHeap) : f13.L1 k 0 a0 l0 c0 p3 p4 p5 x6 D H = none := by kernel_rfl
theorem f13.L1_s (k : Nat) (n1 : Nat) (a0 : Option Addr) (l0 : Nat) (c0 : Nat) (p3 : Nat) (p4 : Nat) (p5 : Nat) (x6 : Int) (D : List Value) (H : AHeap) : f13.L1 k (n1 + 1) a0 l0 c0 p3 p4 p5 x6 D H =
  (bif (decide (x6 < (l0 : Int))) then
   a0.bind fun q =>
   if 0 ≤ x6 ∧ x6 < (l0 : Int) then
   (AHeap.row H q.block (q.off + x6.toNat * 4) 4).bind fun g =>
   cT (C k 40 [.agg (g : List Value).toArray] H) fun u H_1 =>
   exI .i64 (u.toList[0]?) fun x =>
   exI .i64 (u.toList[1]?) fun x_1 =>
   exI .i64 (u.toList[2]?) fun x_2 =>
   exI .i64 (u.toList[3]?) fun x_3 =>
   (AHeap.row H_1 p3 (0) 6).bind fun g_1 =>
   (AHeap.row H_1 p4 (0) 4).bind fun g_2 =>
   cT (C k 38 [.agg (g_1 : List Value).toArray, .agg (g_2 : List Value).toArray, .int .i64 x, .int .i64 x_1, .int .i64 x_2, .int .i64 x_3] H_1) fun u_1 H_2 =>
   exG (u_1.toList[0]?) fun g_3 =>
   exI .i64 (u_1.toList[1]?) fun x_4 =>
   exB (u_1.toList[2]?) fun b =>
   alK none H_2 ⟨[.slice none 0 0, .int .i64 0, .slice none 0 0, .slice none 0 0], 0, .rw, 0⟩ fun i H_3 =>
   if notTup (.agg g_3) = true ∧ (g_3.toList).length = 4 then
   (AHeap.wr H_3 i (0) g_3.toList).bind fun H_4 =>
   (AHeap.row H_4 p3 (0) 6).bind fun g_4 =>
   (AHeap.row H_4 p5 (0) 4).bind fun g_5 =>
   cT (C k 41 [.agg (g_4 : List Value).toArray, .agg (g_5 : List Value).toArray, .int .i64 x, .int .i64 x_1, .int .i64 x_2, .int .i64 x_3] H_4) fun u_2 H_5 =>
   exG (u_2.toList[0]?) fun g_6 =>
   exI .i64 (u_2.toList[1]?) fun x_5 =>
   exB (u_2.toList[2]?) fun b_1 =>
   alK none H_5 ⟨[.slice none 0 0, .int .i64 0, .slice none 0 0, .slice none 0 0], 0, .rw, 0⟩ fun i_1 H_6 =>
   if notTup (.agg g_6) = true ∧ (g_6.toList).length = 4 then
   (AHeap.wr H_6 i_1 (0) g_6.toList).bind fun H_7 =>
   bif (!(b == b_1)) then
   some (.bool false, H_7)
   else
   bif (x_4 != x_5) then
   some (.bool false, H_7)
   else
   (AHeap.row H_7 i (0) 4).bind fun g_7 =>
   (AHeap.row H_7 i_1 (0) 4).bind fun g_8 =>
   cB (C k 32 [.agg (g_7 : List Value).toArray, .agg (g_8 : List Value).toArray] H_7) fun b_2 H_8 =>
   bif (!b_2) then
   some (.bool false, H_8)
   else
   f13.K1 k n1 a0 l0 c0 p3 p4 p5 x6 i b i_1 [(D.getD 0 undef), .int .i64 x, .int .i64 x_1, .int .i64 x_2, .int .i64 x_3, .int .i64 x_4, .int .i64 x_5, .bool b_1, (D.getD 11 undef), (D.getD 12 undef), (D.getD 13 undef), (D.getD 14 undef), (D.getD 15 undef), (D.getD 16 undef), (D.getD 17 undef), (D.getD 18 undef), .int .i64 x6, .slice a0 l0 c0, .int .i64 (l0 : Int), .bool (decide (x6 < (l0 : Int))), (D.getD 23 undef), (D.getD 24 undef), .tuple u, .slice a0 l0 c0, .int .i64 x6, .pointer (some ⟨q.block, q.off + x6.toNat * 4, none⟩), .agg (g : List Value).toArray, .tuple u, .int .i64 x, .int .i64 x_1, .int .i64 x_2, .int .i64 x_3, .tuple u_1, .agg (g_1 : List Value).toArray, .agg (g_2 : List Value).toArray, .int .i64 x, .int .i64 x_1, .int .i64 x_2, .int .i64 x_3, .tuple u_1, .agg g_3, .int .i64 x_4, .bool b, .tuple u_2, .agg (g_4 : List Value).toArray, .agg (g_5 : List Value).toArray, .int .i64 x, .int .i64 x_1, .int .i64 x_2, .int .i64 x_3, .tuple u_2, .agg g_6, .int .i64 x_5, .bool b_1, .bool b, .bool b_1, .bool (!(b == b_1)), .bool false, .int .i64 x_4, .int .i64 x_5, .bool (x_4 != x_5), .bool (x_4 != x_5), .bool false, .agg (g_7 : List Value).toArray, .agg (g_8 : List Value).toArray, .bool b_2, .bool (!b_2), .bool (!b_2), (D.getD 71 undef), (D.getD 72 undef), (D.getD 73 undef), (D.getD 74 undef), (D.getD 75 undef), (D.getD 76 undef), (D.getD 77 undef)] H_8
   else none
   else none
   else none
   else
   (AHeap.row H p3 (0) 6).bind fun g_9 =>
   (AHeap.row H p4 (0) 4).bind fun g_10 =>
   cB (C k 42 [.agg (g_9 : List Value).toArray, .agg (g_10 : List Value).toArray] H) fun b_3 H_9 =>
   bif b_3 then
   cB (C k 35 [] H_9) fun b_4 H_10 =>
   some (.bool b_4, H_10)
   else
   some (.bool false, H_9)) := by kernel_rfl
theorem f13.K1_eq (k : Nat) (n1 : Nat) (a0 : Option Addr) (l0 : Nat) (c0 : Nat) (p3 : Nat) (p4 : Nat) (p5 : Nat) (x6 : Int) (p11 : Nat) (b13 : Bool) (p14 : Nat) (D : List Value) (H : AHeap) : f13.K1 k n1 a0 l0 c0 p3 p4 p5 x6 p11 b13 p14 D H =
  (bif b13 then
   bif sameB H (H.bump 4) p11 then
   (AHeap.row (H.bump 4) p11 (0) 4).bind fun g =>
   if notTup (.agg (g : List Value).toArray) = true ∧ (g).length = 4 then
   (AHeap.wr (H.bump 4) p4 (0) g).bind fun H_1 =>
   bif sameB H H_1 p14 then
   (AHeap.row H_1 p14 (0) 4).bind fun g_1 =>
   if notTup (.agg (g_1 : List Value).toArray) = true ∧ (g_1).length = 4 then
   (AHeap.wr H_1 p5 (0) g_1).bind fun H_2 =>
   (AHeap.row H_2 p3 (0) 6).bind fun g_2 =>
   (AHeap.row H_2 p4 (0) 4).bind fun g_3 =>
   cB (C k 42 [.agg (g_2 : List Value).toArray, .agg (g_3 : List Value).toArray] H_2) fun b H_3 =>
   bif (!b) then
   some (.bool false, H_3)
   else
   f13.L1 k n1 a0 l0 c0 p3 p4 p5 (IntKind.i64.wrap (x6 + (1 : Int))) [(D.getD 0 undef), (D.getD 1 undef), (D.getD 2 undef), (D.getD 3 undef), (D.getD 4 undef), .pointer (some ⟨p11, 0, none⟩), (D.getD 5 undef), .bool b13, .pointer (some ⟨p14, 0, none⟩), (D.getD 6 undef), (D.getD 7 undef), (D.getD 8 undef), (D.getD 9 undef), (D.getD 10 undef), (D.getD 11 undef), (D.getD 12 undef), (D.getD 13 undef), (D.getD 14 undef), (D.getD 15 undef), (D.getD 16 undef), (D.getD 17 undef), (D.getD 18 undef), (D.getD 19 undef), .int .i64 x6, .int .i64 (IntKind.i64.wrap (x6 + (1 : Int))), (D.getD 22 undef), (D.getD 23 undef), (D.getD 24 undef), (D.getD 25 undef), (D.getD 26 undef), (D.getD 27 undef), (D.getD 28 undef), (D.getD 29 undef), (D.getD 30 undef), (D.getD 31 undef), (D.getD 32 undef), (D.getD 33 undef), (D.getD 34 undef), (D.getD 35 undef), (D.getD 36 undef), (D.getD 37 undef), (D.getD 38 undef), (D.getD 39 undef), (D.getD 40 undef), (D.getD 41 undef), (D.getD 42 undef), (D.getD 43 undef), (D.getD 44 undef), (D.getD 45 undef), (D.getD 46 undef), (D.getD 47 undef), (D.getD 48 undef), (D.getD 49 undef), (D.getD 50 undef), (D.getD 51 undef), (D.getD 52 undef), (D.getD 53 undef), (D.getD 54 undef), (D.getD 55 undef), (D.getD 56 undef), (D.getD 57 undef), (D.getD 58 undef), (D.getD 59 undef), (D.getD 60 undef), (D.getD 61 undef), (D.getD 62 undef), (D.getD 63 undef), (D.getD 64 undef), (D.getD 65 undef), (D.getD 66 undef), (D.getD 67 undef), .bool b13, .agg (g : List Value).toArray, .agg (g_1 : List Value).toArray, .agg (g_2 : List Value).toArray, .agg (g_3 : List Value).toArray, .bool b, .bool (!b)] H_3
   else none
   else none
   else none
   else none
   else
   (AHeap.row H p3 (0) 6).bind fun g_4 =>
   (AHeap.row H p4 (0) 4).bind fun g_5 =>
   cB (C k 42 [.agg (g_4 : List Value).toArray, .agg (g_5 : List Value).toArray] H) fun b_1 H_4 =>
   bif (!b_1) then
   some (.bool false, H_4)
   else
   f13.L1 k n1 a0 l0 c0 p3 p4 p5 (IntKind.i64.wrap (x6 + (1 : Int))) [(D.getD 0 undef), (D.getD 1 undef), (D.getD 2 undef), (D.getD 3 undef), (D.getD 4 undef), .pointer (some ⟨p11, 0, none⟩), (D.getD 5 undef), .bool b13, .pointer (some ⟨p14, 0, none⟩), (D.getD 6 undef), (D.getD 7 undef), (D.getD 8 undef), (D.getD 9 undef), (D.getD 10 undef), (D.getD 11 undef), (D.getD 12 undef), (D.getD 13 undef), (D.getD 14 undef), (D.getD 15 undef), (D.getD 16 undef), (D.getD 17 undef), (D.getD 18 undef), (D.getD 19 undef), .int .i64 x6, .int .i64 (IntKind.i64.wrap (x6 + (1 : Int))), (D.getD 22 undef), (D.getD 23 undef), (D.getD 24 undef), (D.getD 25 undef), (D.getD 26 undef), (D.getD 27 undef), (D.getD 28 undef), (D.getD 29 undef), (D.getD 30 undef), (D.getD 31 undef), (D.getD 32 undef), (D.getD 33 undef), (D.getD 34 undef), (D.getD 35 undef), (D.getD 36 undef), (D.getD 37 undef), (D.getD 38 undef), (D.getD 39 undef), (D.getD 40 undef), (D.getD 41 undef), (D.getD 42 undef), (D.getD 43 undef), (D.getD 44 undef), (D.getD 45 undef), (D.getD 46 undef), (D.getD 47 undef), (D.getD 48 undef), (D.getD 49 undef), (D.getD 50 undef), (D.getD 51 undef), (D.getD 52 undef), (D.getD 53 undef), (D.getD 54 undef), (D.getD 55 undef), (D.getD 56 undef), (D.getD 57 undef), (D.getD 58 undef), (D.getD 59 undef), (D.getD 60 undef), (D.getD 61 undef), (D.getD 62 undef), (D.getD 63 undef), (D.getD 64 undef), (D.getD 65 undef), (D.getD 66 undef), (D.getD 67 undef), .bool b13, (D.getD 69 undef), (D.getD 70 undef), .agg (g_4 : List Value).toArray, .agg (g_5 : List Value).toArray, .bool b_1, .bool (!b_1)] H_4) := by
  unfold f13.K1
  rw [gateC_eq]
  kernel_rfl
theorem f13_eq (k : Nat) (a0 : Option Addr) (l0 : Nat) (c0 : Nat) (H : AHeap) : C (k + 1) 13 [.slice a0 l0 c0] H =
  (bif (decide ((l0 : Int) > (200 : Int))) then
   some (.bool true, H)
   else
   cG (C k 36 [] H) fun g H_1 =>
   alK none H_1 ⟨[.slice none 0 0, .slice none 0 0, .slice none 0 0, .slice none 0 0, .slice none 0 0, .slice none 0 0], 0, .rw, 0⟩ fun i H_2 =>
   if notTup (.agg g) = true ∧ (g.toList).length = 6 then
   (AHeap.wr H_2 i (0) g.toList).bind fun H_3 =>
   bif sameB H_3 (H_3.bump 8) i then
   (AHeap.row (H_3.bump 8) i (0) 6).bind fun g_1 =>
   cG (C k 33 [.agg (g_1 : List Value).toArray] (H_3.bump 8)) fun g_2 H_4 =>
   bif sameB H_3 H_4 i then
   (AHeap.row H_4 i (0) 6).bind fun g_3 =>
   cG (C k 34 [.agg (g_3 : List Value).toArray] H_4) fun g_4 H_5 =>
   alK (some (H_3.next + 4)) H_5 ⟨[.slice none 0 0, .int .i64 0, .slice none 0 0, .slice none 0 0], 0, .rw, 0⟩ fun i_1 H_6 =>
   alK (some (H_3.next + 5)) H_6 ⟨[.slice none 0 0, .int .i64 0, .slice none 0 0, .slice none 0 0], 0, .rw, 0⟩ fun i_2 H_7 =>
   if notTup (.agg g_2) = true ∧ (g_2.toList).length = 4 then
   (AHeap.wr H_7 i_1 (0) g_2.toList).bind fun H_8 =>
   if notTup (.agg g_4) = true ∧ (g_4.toList).length = 4 then
   (AHeap.wr H_8 i_2 (0) g_4.toList).bind fun H_9 =>
   f13.L1 k k a0 l0 c0 i i_1 i_2 0 [.bool false, undef, undef, undef, undef, undef, undef, undef, undef, undef, undef, .slice a0 l0 c0, .int .i64 (l0 : Int), .bool (decide ((l0 : Int) > (200 : Int))), .agg g, .agg (g_1 : List Value).toArray, .agg g_2, .agg (g_3 : List Value).toArray, .agg g_4, undef, undef, undef, undef, undef, undef, undef, undef, undef, undef, undef, undef, undef, undef, undef, undef, undef, undef, undef, undef, undef, undef, undef, undef, undef, undef, undef, undef, undef, undef, undef, undef, undef, undef, undef, undef, undef, undef, undef, undef, undef, undef, undef, undef, undef, undef, undef, undef, undef, undef, undef, undef, undef, undef, undef, undef, undef, undef, undef] H_9
   else none
   else none
   else none
   else none
   else none) := by kernel_rfl

end Go.Proofs.MxF
end

section
set_option linter.unusedSimpArgs false
/- The arguments and the beginning of the laws of object. -/
set_option linter.unusedVariables false
namespace Go.Mx
open Go
theorem splice_all {zs cs : List Value} (h : zs.length = cs.length) : splice zs 0 cs = cs := by
  unfold splice
  rw [List.take_zero, List.drop_eq_nil_of_le (by omega)]; simp
/-- what is handed back is laid in a box -/
theorem ok_box {R : Type} {Q : R → Prop} {H : AHeap} {zs cs : List Value} {n e : Nat} {K : Nat → AHeap → Option R} (hl : zs.length = cs.length) (hn : cs.length = n ∧ notTup (.agg cs.toArray) = true)
    (k : ∀ i H', i = H.next → H'.next = H.next + 1 → Agree H H' → At H' i ⟨cs, e, .rw, 1⟩ → Ok (K i H') Q) :
    Ok (alK none H ⟨zs, e, .rw, 0⟩ fun i H2 => if notTup (.agg cs.toArray) = true ∧ (cs.toArray.toList).length = n then (AHeap.wr H2 i 0 cs.toArray.toList).bind (K i) else none) Q := by
  refine ok_al fun i H2 hi n2 A2 B2 => ok_if ⟨hn.2, hn.1⟩ (ok_wr B2 rfl (by simp [hl]) fun H3 W3 => ?_)
  have b := W3.at'
  simp only [splice_all hl] at b
  exact k i H3 hi (by rw [W3.next]; exact n2) (A2.wrote W3 (by omega)) b
theorem ok_boxs {R : Type} {Q : R → Prop} {H0 H : AHeap} {s : Nat} {zs cs : List Value} {n e : Nat} {K : Nat → AHeap → Option R} (A : Agree H0 H) (f : Free H s) (h : H0.next ≤ s) (hl : zs.length = cs.length) (hn : cs.length = n ∧ notTup (.agg cs.toArray) = true)
    (k : ∀ H', H'.next = H.next → Agree H0 H' → At H' s ⟨cs, e, .rw, 1⟩ → Sub' H H' → (∀ i, Free H i → i ≠ s → Free H' i) → Ok (K s H') Q) :
    Ok (alK (some s) H ⟨zs, e, .rw, 0⟩ fun i H2 => if notTup (.agg cs.toArray) = true ∧ (cs.toArray.toList).length = n then (AHeap.wr H2 i 0 cs.toArray.toList).bind (K i) else none) Q := by
  refine ok_als A f h fun H2 n2 A2 B2 S2 F2 => ok_if ⟨hn.2, hn.1⟩ (ok_wr B2 rfl (by simp [hl]) fun H3 W3 => ?_)
  have b := W3.at'
  simp only [splice_all hl] at b
  refine k H3 (by rw [W3.next]; exact n2) (A2.wrote W3 h) b (fun i b' x => (S2 i b' x).wrote W3 (Free.ne f x)) (fun i x hne => ?_)
  have x2 := F2 i x hne
  refine ⟨by rw [W3.next]; exact x2.1, ?_⟩
  rw [W3.old i hne]; exact x2.2
theorem ty_i8s4 {P : Program} {H : AHeap} {n : Nat} {t e : TypeId} {fs : Array Field} (hu : P.underlying t = some (.struct fs)) (hts : fs.toList.map (·.type) = [e, e, e, e]) (he : P.underlying e = some (.int .i8)) (cs : List Value) (h : TyV P H (n + 1 + 1) t cs) :
    cs.length = 4 ∧ ∃ x0 x1 x2 x3 : Int, cs = [.int .i8 x0, .int .i8 x1, .int .i8 x2, .int .i8 x3] := by
  obtain ⟨_, _, rfl, k0, _, _, rfl, k1, _, _, rfl, k2, _, _, rfl, k3, rfl⟩ := tyV_structT hu hts h
  obtain ⟨x0, rfl, _⟩ := tyV_int he k0
  obtain ⟨x1, rfl, _⟩ := tyV_int he k1
  obtain ⟨x2, rfl, _⟩ := tyV_int he k2
  obtain ⟨x3, rfl, _⟩ := tyV_int he k3
  exact ⟨rfl, x0, x1, x2, x3, rfl⟩
theorem rep_i8s4 {P : Program} {H : AHeap} {n m : Nat} {t e : TypeId} {fs : Array Field} (hu : P.underlying t = some (.struct fs)) (hts : fs.toList.map (·.type) = [e, e, e, e]) (he : P.underlying e = some (.int .i8)) {cs : List Value} (h : TyRep (TyV P H (n + 1 + 1) t) m cs) :
    ∀ j, j < m → ∃ x0 x1 x2 x3 : Int, (cs.drop (j * 4)).take 4 = [.int .i8 x0, .int .i8 x1, .int .i8 x2, .int .i8 x3] :=
  tyRep_row (q := fun cs => ∃ x0 x1 x2 x3 : Int, cs = [.int .i8 x0, .int .i8 x1, .int .i8 x2, .int .i8 x3]) (fun cs h => ty_i8s4 hu hts he cs h) h
end Go.Mx
namespace Go.Proofs.MxF
open Go Go.Mx Go.Proofs
def fsOfE (d : Option TypeDesc) : Array Field := match d with | some (.struct fs) => fs | _ => #[]
theorem ag67 : aggT Try.prog 67 = false := by kernel_rfl
theorem und67 : Try.prog.underlying 67 = some (.slice 82) := by kernel_rfl
theorem cells82 : Try.prog.cellsOf 82 = 4 := by kernel_rfl
theorem und82 : Try.prog.underlying 82 = some (.struct (fsOfE (Try.prog.underlying 82))) := by kernel_rfl
theorem fs82 : (fsOfE (Try.prog.underlying 82)).toList.map (·.type) = [76, 76, 76, 76] := by kernel_rfl
theorem und76 : Try.prog.underlying 76 = some (.int .i8) := by kernel_rfl
theorem ag76 : aggT Try.prog 76 = false := by kernel_rfl
theorem ag5' : aggT Try.prog 5 = false := by kernel_rfl
theorem und5' : Try.prog.underlying 5 = some (.int .u8) := by kernel_rfl
/-- a list of events -/
theorem arg_events {H : AHeap} {n : Nat} {v : Value} (hF : ∀ i, H.next ≤ i → H.get i = none) (h : ArgV Try.prog H (n + 1 + 1 + 1) 67 v) : ∃ a l c es, v = .slice a l c ∧ Cells H a (l * 4) es ∧ Evs es l := by
  obtain ⟨a, len, c, es, rfl, hC, hR⟩ := arg_slice (n := n + 1 + 1) ag67 und67 cells82 hF h
  exact ⟨a, len, c, es, rfl, hC, rep_i8s4 (n := n) und82 fs82 und76 hR⟩
theorem arg_u8 {H : AHeap} {n : Nat} {v : Value} (h : ArgV Try.prog H (n + 1) 5 v) : ∃ x : Int, v = .int .u8 x ∧ 0 ≤ x ∧ x ≤ 255 := by
  obtain ⟨m, rfl, w⟩ := arg_int ag5' und5' h
  simp only [Lit.wf, Bool.and_eq_true, decide_eq_true_eq] at w
  exact ⟨m, rfl, w⟩
theorem arg_i8 {H : AHeap} {n : Nat} {v : Value} (h : ArgV Try.prog H (n + 1) 76 v) : ∃ x : Int, v = .int .i8 x ∧ -128 ≤ x ∧ x ≤ 127 := by
  obtain ⟨m, rfl, w⟩ := arg_int ag76 und76 h
  simp only [Lit.wf, Bool.and_eq_true, decide_eq_true_eq] at w
  exact ⟨m, rfl, w⟩
theorem wrap_u8 {x : Int} (h : 0 ≤ x) (h' : x ≤ 255) : IntKind.i64.wrap x = x := by
  rw [IntWalk.i64_in _ (by omega)]
theorem applyR_t {w : Wld} {s : SyncS} {th kind obj wake : Int} (h : enabledS w s th kind obj = true) : applyR w s th kind obj wake = ((applyV w s th kind obj wake).1, (applyV w s th kind obj wake).2, true) := by unfold applyR; rw [h]; rfl
theorem applyR_f {w : Wld} {s : SyncS} {th kind obj wake : Int} (h : enabledS w s th kind obj = false) : applyR w s th kind obj wake = (zeroS, 0, false) := by unfold applyR; rw [h]; rfl
theorem CellsF.sub {F : Nat → Prop} {H H' : AHeap} {a : Option Addr} {n : Nat} {cs : List Value} (h : CellsF F H a n cs) (S : Sub' H H') : CellsF F H' a n cs := ⟨Cells.sub h.1 S, h.2⟩
theorem SyncR.sub {F : Nat → Prop} {H H' : AHeap} {cs : List Value} {s : SyncS} (h : SyncR F H cs s) (S : Sub' H H') : SyncR F H' cs s := by
  obtain ⟨aL, lL, cL, aD, lD, cD, aT, lT, cT, ls, e, h⟩ := h
  exact ⟨aL, lL, cL, aD, lD, cD, aT, lT, cT, ls, e, ⟨CellsF.sub h.L S, CellsF.sub h.D S, CellsF.sub h.T S, h.locks, fun x hx => CellsF.sub (h.rd x hx) S⟩⟩
theorem box_row {H : AHeap} {p n e v : Nat} {cs : List Value} (b : At H p ⟨cs, e, .rw, v⟩) (h : cs.length = n) : H.row p 0 n = some cs := by
  rw [row_at b (by simp) (by simp [h]), List.drop_zero, List.take_of_length_le (by simp [h])]
/-- Apply, its answer put into a box -/
theorem ok_apply {k : Nat} {R : Type} {Q : R → Prop} {F G : Nat → Prop} {H : AHeap} {wc cs : List Value} {s : SyncS} (hk : 1400 ≤ k) (hF : ∀ i, H.next ≤ i → H.get i = none) (hw : WorldR F H wc w0) (hs : SyncR G H cs s) (hr : ∀ x ∈ s.locks, x.rd.length ≤ 11) {th kd ob wk : Int} {K : Array Value → AHeap → Option R} {s' : SyncS} {v : Int} {b : Bool} (e : applyR w0 s th kd ob wk = (s', v, b))
    (c : ∀ cs' H', cs'.length = 4 ∧ notTup (.agg cs'.toArray) = true → SyncR (H.next ≤ ·) H' cs' s' → Agree H H' → Ok (K #[.agg cs'.toArray, .int .i64 v, .bool b] H') Q) :
    Ok (cT (C k 38 [.agg wc.toArray, .agg cs.toArray, .int .i64 th, .int .i64 kd, .int .i64 ob, .int .i64 wk] H) K) Q := by
  refine ok_cTs (f38_spec hk hF hw hs hr th kd ob wk) fun u H1 hp => ?_
  rw [e] at hp
  obtain ⟨cs1, hv, hs1, A1⟩ := hp
  exact ⟨[.agg cs1.toArray, .int .i64 v, .bool b], hv, c cs1 H1 hs1.len hs1 A1⟩
theorem inv_small {s : SyncS} (h : InvS s) : s.ths.length ≤ 1000 ∧ s.done.length ≤ 1000 ∧ s.locks.length ≤ 1000 ∧ ∀ x ∈ s.locks, x.rd.length ≤ 1000 :=
  ⟨by rw [h.nt]; omega, by rw [h.nd]; omega, by rw [h.nl]; omega, fun x hx => by have := inv_rd h x hx; omega⟩
/-- the beginning of the laws: the world, and a state that is reached -/
theorem ok_reach {k : Nat} {R : Type} {Q : R → Prop} (hk : 1600 ≤ k) {H : AHeap} (hF : ∀ i, H.next ≤ i → H.get i = none) {a1 : Option Addr} {l1 c1 : Nat} {es : List Value} (hes : Cells H a1 (l1 * 4) es) (hev : Evs es l1) (hl1 : l1 ≤ 1000)
    {K : Array Value → List Value → Array Value → Nat → Nat → AHeap → Option R}
    (c : ∀ wc cs p q H' s, WorldR (fun _ => True) H' wc w0 → SyncR (fun _ => True) H' cs s → InvS s → At H' p ⟨wc, 0, .rw, 1⟩ → At H' q ⟨cs, 0, .rw, 1⟩ → Agree H H' → H.next ≤ p → H.next ≤ q → Ok (K wc.toArray wc cs.toArray p q H') Q) :
    Ok (cG (C k 36 [] H) fun g H_1 => alK none H_1 ⟨[.slice none 0 0, .slice none 0 0, .slice none 0 0, .slice none 0 0, .slice none 0 0, .slice none 0 0], 0, .rw, 0⟩ fun i H_2 => if notTup (.agg g) = true ∧ (g.toList).length = 6 then
      (AHeap.wr H_2 i 0 g.toList).bind fun H_3 => (AHeap.row H_3 i 0 6).bind fun g_1 => cG (C k 37 [.agg (g_1 : List Value).toArray, .slice a1 l1 c1] H_3) fun g_2 H_4 =>
      alK none H_4 ⟨[.slice none 0 0, .int .i64 0, .slice none 0 0, .slice none 0 0], 0, .rw, 0⟩ fun i_1 H_5 => if notTup (.agg g_2) = true ∧ (g_2.toList).length = 4 then (AHeap.wr H_5 i_1 0 g_2.toList).bind fun H_6 => K g g_1 g_2 i i_1 H_6 else none else none) Q := by
  refine ok_cGs (P := fun cs r => WorldR (H.next ≤ ·) r.2 cs w0 ∧ Agree H r.2) (f36_spec (by omega) H) fun wc v H1 hp => ?_
  obtain ⟨hw, A1⟩ := hp
  replace A1 : Agree H H1 := A1
  replace hw : WorldR (H.next ≤ ·) H1 wc w0 := hw
  obtain ⟨hwl, hwn⟩ := hw.len
  refine ok_box hwl.symm ⟨hwl, hwn⟩ fun i H2 hi n2 A2 B2 => ?_
  have A02 := A1.trans A2
  have hw2 := (hw.agree A2).mono (G := fun _ => True) fun _ _ => trivial
  refine ok_bind (box_row B2 hwl) ?_
  refine ok_cGs (P := fun cs r => (∃ s, SyncR (H2.next ≤ ·) r.2 cs s ∧ InvS s) ∧ Agree H2 r.2) (f37_spec (k := k) (c1 := c1) hk (A02.fresh hF) hw2 (hes.agree A02) hev hl1) fun cs v H3 hp => ?_
  obtain ⟨⟨s, hs, hI⟩, A3⟩ := hp
  replace A3 : Agree H2 H3 := A3
  replace hs : SyncR (H2.next ≤ ·) H3 cs s := hs
  obtain ⟨hcl, hcn⟩ := hs.len
  refine ok_box hcl.symm ⟨hcl, hcn⟩ fun j H4 hj n4 A4 B4 => ?_
  have n1 := A1.next
  have n3 := A3.next
  exact c wc cs i j H4 s (hw2.agree (A3.trans A4)) ((hs.agree A4).mono fun _ _ => trivial) hI (B2.agree (A3.trans A4)) B4 (A02.trans (A3.trans A4)) (by omega) (by omega)
end Go.Proofs.MxF
end

section
set_option linter.unusedSimpArgs false
/- Holds. -/
set_option linter.unusedVariables false
namespace Go.Mx
open Go
theorem ok_exSl {R : Type} {Q : R → Prop} {X : Option Value} {K : Option Addr → Nat → Nat → Option R} {a : Option Addr} {l c : Nat} (h : X = some (.slice a l c)) (k : Ok (K a l c) Q) : Ok (exSl X K) Q := by
  subst h
  exact k
end Go.Mx
namespace Go.Proofs.MxF
open Go Go.Mx Go.Proofs
/-- two lists of ours, apart -/
structure TwoO (N : Nat) (H : AHeap) (a : Option Addr) (l c : Nat) (xs : List Int) (a' : Option Addr) (l' c' : Nat) (ys : List Int) : Prop where
  o : Own N 1 H a l c (ints xs)
  o' : Own N 1 H a' l' c' (ints ys)
  ne : ∀ q q', a = some q → a' = some q' → q.block ≠ q'.block
theorem TwoO.agree {N : Nat} {H H' : AHeap} {a : Option Addr} {l c : Nat} {xs : List Int} {a' : Option Addr} {l' c' : Nat} {ys : List Int} (t : TwoO N H a l c xs a' l' c' ys) (A : Agree H H') : TwoO N H' a l c xs a' l' c' ys := ⟨t.o.agree A, t.o'.agree A, t.ne⟩
theorem TwoO.swap {N : Nat} {H : AHeap} {a : Option Addr} {l c : Nat} {xs : List Int} {a' : Option Addr} {l' c' : Nat} {ys : List Int} (t : TwoO N H a l c xs a' l' c' ys) : TwoO N H a' l' c' ys a l c xs := ⟨t.o', t.o, fun q q' e e' h => t.ne q' q e' e h.symm⟩
theorem two_app {N j : Nat} {v : Int} {H0 H : AHeap} {a : Option Addr} {l c : Nat} {xs : List Int} {a' : Option Addr} {l' c' : Nat} {ys : List Int} (A : Agree H0 H) (hN : H0.next = N) (t : TwoO N H a l c xs a' l' c' ys) (b : At H j ⟨[.int .i64 v], 1, .rw, 0⟩) (hl : l ≤ 1000) :
    ∃ a2 l2 c2 H', apndV Try.prog [26, 26] H (.slice a l c) (.slice (some ⟨j, 0, none⟩) 1 1) = some (.slice a2 l2 c2, H') ∧ (l2 = l + 1 ∧ TwoO N H' a2 l2 c2 (xs ++ [v]) a' l' c' ys ∧ Agree H0 H' ∧ Keep a H H') := by
  have hb := t.o.block
  obtain ⟨a2, l2, c2, H', e, e2, o2, k2, or2⟩ := app_own (by decide) (app26' _ _ _ _ _ _ _) t.o (cs' := ints [v]) ⟨rfl, .inr ⟨j, 0, none, _, rfl, b, by simp, by simp, by simp [ints]⟩⟩ (by have := A.next; omega) (by omega) (by omega)
  rw [ints_app] at o2
  refine ⟨a2, l2, c2, H', e, e2, ⟨o2, t.o'.keep k2 (fun q q' e1 e3 => t.ne q' q e3 e1), fun q q' e1 e3 h => ?_⟩, k2.agree A (fun q e => by have := hb q e; omega), k2⟩
  rcases or2 q e1 with ⟨q0, f1, f2⟩ | h1
  · exact t.ne q0 q' f1 e3 (by rw [f2, h])
  · have := Cells.below (t.o'.cells) q' e3
    omega
/-- the numbers of the locks of a kind -/
def pickF (p : LockS → Bool) : List LockS → Nat → List Int
  | [], _ => []
  | x :: xs, i => (if p x = true then [(i : Int)] else []) ++ pickF p xs (i + 1)
def ownL (s : SyncS) (th : Int) : List Int := pickF (fun x => x.own == th) s.locks 0
def rdL (s : SyncS) (th : Int) : List Int := pickF (fun x => hasI x.rd th) s.locks 0
theorem pickF_cons {p : LockS → Bool} {x : LockS} {xs : List LockS} {i : Nat} : pickF p (x :: xs) i = (if p x = true then [(i : Int)] else []) ++ pickF p xs (i + 1) := rfl
theorem pickF_nil {p : LockS → Bool} : ∀ {xs : List LockS} {i : Nat}, (∀ x ∈ xs, p x = false) → pickF p xs i = [] := by
  intro xs
  induction xs with
  | nil => intro i _; rfl
  | cons x xs ih =>
    intro i h
    rw [pickF_cons, h x (by simp), ih fun y hy => h y (by simp [hy])]; rfl
theorem pickF_len {p : LockS → Bool} : ∀ {xs : List LockS} {i : Nat}, (pickF p xs i).length ≤ xs.length := by
  intro xs
  induction xs with
  | nil => intro i; simp [pickF]
  | cons x xs ih =>
    intro i
    have := ih (i := i + 1)
    rw [pickF_cons, List.length_append]
    split <;> simp <;> omega
section
variable {k N : Nat} {F : Nat → Prop} {H0 : AHeap} {aL : Option Addr} {lL cL : Nat} {aD : Option Addr} {lD : Nat} {aT : Option Addr} {lT : Nat} {ls : List LkV} {s : SyncS} {th : Int}
def Held (H0 : AHeap) (s : SyncS) (th : Int) (r : Value × AHeap) : Prop := ∃ a l c a' l' c', r.1 = .tuple #[.slice a l c, .slice a' l' c'] ∧ l = (ownL s th).length ∧ l' = (rdL s th).length ∧ Agree H0 r.2
theorem f44_loop (hk : 1010 ≤ k) (h : SyncP F H0 aL lL aD lD aT lT ls s) (hl : lL ≤ 1000) (hr : ∀ x ∈ s.locks, x.rd.length ≤ 1000) (hN : H0.next = N) : ∀ (m i n : Nat) (a : Option Addr) (l c : Nat) (xs : List Int) (a' : Option Addr) (l' c' : Nat) (ys : List Int) (H : AHeap) (D : List Value),
    i + m = lL → m < n → Agree H0 H → TwoO N H a l c xs a' l' c' ys → l ≤ i → l' ≤ i → xs ++ pickF (fun x => x.own == th) (s.locks.drop i) i = ownL s th → ys ++ pickF (fun x => hasI x.rd th) (s.locks.drop i) i = rdL s th →
    Ok (f44.L1 k n th a l c a' l' c' aL lL cL (lL : Int) (i : Int) D H) (Held H0 s th) := by
  intro m
  have hlen := h.lenL'
  induction m with
  | zero =>
    intro i n a l c xs a' l' c' ys H D hm hn A t hli hli' hx hy
    obtain ⟨n, rfl⟩ : ∃ j, n = j + 1 := ⟨n - 1, by omega⟩
    rw [f44.L1_s]
    rw [List.drop_eq_nil_of_le (by omega)] at hx hy
    have hx : xs ++ [] = ownL s th := hx
    have hy : ys ++ [] = rdL s th := hy
    rw [List.append_nil] at hx hy
    exact ok_biff (by simp only [decide_eq_false_iff_not]; omega) (Ok.ret ⟨a, l, c, a', l', c', rfl, by rw [← hx]; exact t.o.len, by rw [← hy]; exact t.o'.len, A⟩)
  | succ m ih =>
    intro i n a l c xs a' l' c' ys H D hm hn A t hli hli' hx hy
    obtain ⟨n, rfl⟩ : ∃ j, n = j + 1 := ⟨n - 1, by omega⟩
    rw [f44.L1_s]
    obtain ⟨x, e1, e2, ix⟩ := h.lock (i := i) (by omega)
    obtain ⟨q, eq, hq⟩ := tbl_row rowL_len (by omega) (h.L.1.agree A) e1
    rw [drop_cons e2, pickF_cons, ← List.append_assoc] at hx hy
    have hrd := hr x.pure (List.mem_of_getElem? e2)
    have ixl := Ints.len ix.1
    have hrd : x.rd.length ≤ 1000 := hrd
    have hm' : maxLen = 9223372036854775807 := rfl
    rw [wrapS (i := i) (l := lL) (by omega) (by omega)]
    refine ok_bift (by simp only [decide_eq_true_eq]; omega) (ok_bind eq (ok_if (by omega) (ok_bind hq (ok_al fun j H1 hj n1 A1 B1 => ok_if ⟨rfl, rfl⟩ (ok_wr B1 rfl (by simp [rowL]) fun H2 W2 => ok_bind (ldI_at W2.at' (by simp) rfl) ?_)))))
    have A2 : Agree H H2 := A1.wrote W2 (by omega)
    have A02 := A.trans A2
    have t2 := t.agree A2
    have bX := W2.at'
    -- behind the readers' question
    have back : ∀ (H3 : AHeap) (a : Option Addr) (l c : Nat) (xs' : List Int) (D : List Value), Agree H0 H3 → TwoO N H3 a l c xs' a' l' c' ys → l ≤ i + 1 → xs' ++ pickF (fun x => x.own == th) (s.locks.drop (i + 1)) (i + 1) = ownL s th → hasI x.rd th = false →
        Ok (f44.L1 k n th a l c a' l' c' aL lL cL (lL : Int) ((i + 1 : Nat) : Int) D H3) (Held H0 s th) := by
      intro H3 a l c xs' D A3 t3 hl3 hx3 hb
      have hyy : ys ++ (if hasI x.rd th = true then [(i : Int)] else []) ++ pickF (fun x => hasI x.rd th) (s.locks.drop (i + 1)) (i + 1) = rdL s th := hy
      rw [hb] at hyy
      exact ih (i + 1) n a l c xs' a' l' c' ys H3 D (by omega) (by omega) A3 t3 hl3 (by omega) hx3 (by simpa using hyy)
    have back' : ∀ (H3 H4 : AHeap) (a : Option Addr) (l c : Nat) (xs' : List Int) (a2 : Option Addr) (l2 c2 : Nat) (D : List Value), Agree H0 H4 → TwoO N H4 a2 l2 c2 (ys ++ [(i : Int)]) a l c xs' → l ≤ i + 1 → l2 = l' + 1 → xs' ++ pickF (fun x => x.own == th) (s.locks.drop (i + 1)) (i + 1) = ownL s th → hasI x.rd th = true →
        Ok (f44.L1 k n th a l c a2 l2 c2 aL lL cL (lL : Int) ((i + 1 : Nat) : Int) D H4) (Held H0 s th) := by
      intro H3 H4 a l c xs' a2 l2 c2 D A3 t3 hl3 hl2 hx3 hb
      have hyy : ys ++ (if hasI x.rd th = true then [(i : Int)] else []) ++ pickF (fun x => hasI x.rd th) (s.locks.drop (i + 1)) (i + 1) = rdL s th := hy
      rw [hb] at hyy
      exact ih (i + 1) n a l c xs' a2 l2 c2 _ H4 D (by omega) (by omega) A3 t3.swap hl3 (by omega) hx3 hyy
    have hxx : xs ++ (if (x.own == th) = true then [(i : Int)] else []) ++ pickF (fun x => x.own == th) (s.locks.drop (i + 1)) (i + 1) = ownL s th := hx
    refine ok_bif (fun ho => ?_) (fun ho => ?_)
    · rw [ho] at hxx
      refine ok_al fun j3 H3 hj3 n3 A3 B3 => ?_
      refine ok_cSl (two_app (A02.trans A3) hN (t2.agree A3) B3 (by omega)) fun a2 l2 c2 H4 hp => ?_
      obtain ⟨rfl, t4, A4, k4⟩ := hp
      have b4 := (bX.agree A3).keep k4 (fun q e => by have := Cells.below t.o.cells q e; omega)
      refine ok_bSl (ldSl_at b4 (by simp) rfl) (ok_cB0 (f63_spec (ix.1.agree A4) (by omega) (by omega) th) (ok_bif (fun hb => ?_) (fun hb => ?_)))
      · refine ok_al fun j5 H5 hj5 n5 A5 B5 => ?_
        refine ok_cSl (two_app (A4.trans A5) hN (t4.agree A5).swap B5 (by omega)) fun a5 l5 c5 H6 hp => ?_
        obtain ⟨rfl, t6, A6, k6⟩ := hp
        exact back' H5 H6 _ _ _ _ _ _ _ _ A6 t6 (by omega) rfl hxx hb
      · exact back H4 _ _ _ _ _ A4 t4 (by omega) hxx hb
    · rw [ho] at hxx
      refine ok_bSl (ldSl_at bX (by simp) rfl) (ok_cB0 (f63_spec (ix.1.agree A02) (by omega) (by omega) th) (ok_bif (fun hb => ?_) (fun hb => ?_)))
      · refine ok_al fun j5 H5 hj5 n5 A5 B5 => ?_
        refine ok_cSl (two_app (A02.trans A5) hN (t2.agree A5).swap B5 (by omega)) fun a5 l5 c5 H6 hp => ?_
        obtain ⟨rfl, t6, A6, k6⟩ := hp
        exact back' H5 H6 _ _ _ _ _ _ _ _ A6 t6 (by omega) rfl (by simpa using hxx) hb
      · exact back H2 _ _ _ _ _ A02 t2 (by omega) (by simpa using hxx) hb
/-- object.Holds -/
theorem f44_spec (hk : 1200 ≤ k) {G : Nat → Prop} {H : AHeap} {wc sc : List Value} (hw : WorldR F H wc w0) (hs : SyncR G H sc s) (hf : fitsS w0 s = true) (hr : ∀ x ∈ s.locks, x.rd.length ≤ 1000) (ht : inR th 3 = true) :
    Ok (C k 44 [.agg wc.toArray, .agg sc.toArray, .int .i64 th] H) (Held H s th) := by
  obtain ⟨k, rfl⟩ : ∃ j, k = j + 1 := ⟨k - 1, by omega⟩
  have hw0 := hw
  have hs0 := hs
  obtain ⟨a0, l0, c0, a1, l1, c1, a2, l2, c2, a3, l3, c3, a4, l4, c4, a5, l5, c5, ks, cs, rfl, hw⟩ := hw
  obtain ⟨aL, lL, cL, aD, lD, cD, aT, lT, cT, ls, rfl, hs⟩ := hs
  rw [f44_eq]
  refine ok_al fun i H1 hi n1 A1 B1 => ok_al fun i' H2 hi' n2 A2 B2 => ?_
  have A02 := A1.trans A2
  refine ok_bind (row_at (B1.agree A2) (by simp) (by simp)) (ok_bind (row_at B2 (by simp) (by simp)) ?_)
  refine ok_cB (f65_spec (by omega) (hw0.agree A02) (hs0.agree A02)) fun H3 A3 => ok_biff (by rw [hf]; rfl) ?_
  have h4 : l4 = 3 := hw.t
  subst h4
  refine ok_bSl (ldSl_at ((B1.agree A2).agree A3) (by simp) rfl) (ok_cB0 (f70_spec (by omega) _ _ _) (ok_biff (by rw [ht]; rfl) ?_))
  rw [f44.K1_eq]
  have hll : lL ≤ 1000 := by have := hs.lenL'; have := (fits_facts hf).2.1; have e : w0.rw.length = 3 := rfl; omega
  refine ok_bSl (ldSl_at (B2.agree A3) (by simp) rfl) ?_
  have key := fun D => f44_loop (k := k) (th := th) (cL := cL) (by omega) (hs.agree (A02.trans A3)) hll hr rfl lL 0 k none 0 0 [] none 0 0 [] H3 D (by omega) (by omega) (Agree.refl H3) ⟨Own.nil _ _ _, Own.nil _ _ _, fun q q' e => by cases e⟩ (Nat.le_refl _) (Nat.le_refl _) rfl rfl
  obtain ⟨r, e, a, l, c, a', l', c', e1, e2, e3, e4⟩ := key _
  exact ⟨r, e, a, l, c, a', l', c', e1, e2, e3, (A02.trans A3).trans e4⟩
end
end Go.Proofs.MxF
end

section
set_option linter.unusedSimpArgs false
/- safe: of the states that are reached. -/
set_option linter.unusedVariables false
namespace Go.Proofs.MxF
open Go Go.Mx Go.Proofs
theorem lkS_get {s : SyncS} {i : Nat} {x : LockS} (h : s.locks[i]? = some x) : lkS s (i : Int) = x := by
  unfold lkS
  rw [List.getD_eq_getElem?_getD, Int.toNat_natCast, h]; rfl
theorem ownL_nil {s : SyncS} (h : InvS s) {i : Int} (hn : ∀ j, inR j 3 = true → (lkS s j).own ≠ i) : (ownL s i).length = 0 := by
  unfold ownL
  rw [pickF_nil]; rfl
  intro x hx
  obtain ⟨j, hj⟩ := List.getElem?_of_mem hx
  have hlt := (List.getElem?_eq_some_iff.1 hj).1
  have := hn (j : Int) (by rw [inR_iff]; have := h.nl; omega)
  rw [lkS_get hj] at this
  simpa using this
theorem rdL_nil {s : SyncS} (h : InvS s) {i : Int} (hn : ∀ j, inR j 3 = true → i ∉ (lkS s j).rd) : (rdL s i).length = 0 := by
  unfold rdL
  rw [pickF_nil]; rfl
  intro x hx
  obtain ⟨j, hj⟩ := List.getElem?_of_mem hx
  have hlt := (List.getElem?_eq_some_iff.1 hj).1
  have := hn (j : Int) (by rw [inR_iff]; have := h.nl; omega)
  rw [lkS_get hj] at this
  cases hb : hasI x.rd i
  · rfl
  · exact absurd (hasI_iff.1 hb) this
section
variable {k p2 p3 : Nat} {F G : Nat → Prop} {H0 : AHeap} {a0 : Option Addr} {l0 c0 : Nat} {a1 : Option Addr} {l1 c1 : Nat} {a2 : Option Addr} {l2 c2 : Nat} {a3 : Option Addr} {l3 c3 : Nat} {a4 : Option Addr} {l4 c4 : Nat} {a5 : Option Addr} {l5 c5 : Nat} {ks : List (ByteArray × Bool)} {cs : List (ByteArray × Int)}
  {aL : Option Addr} {lL cL : Nat} {aD : Option Addr} {lD cD : Nat} {aT : Option Addr} {lT cT : Nat} {ls : List LkV} {s : SyncS}
/-- the boxes of safe -/
structure SafeB (p2 p3 : Nat) (F G : Nat → Prop) (H0 : AHeap) (a0 : Option Addr) (l0 c0 : Nat) (a1 : Option Addr) (l1 c1 : Nat) (a2 : Option Addr) (l2 c2 : Nat) (a3 : Option Addr) (l3 c3 : Nat) (a4 : Option Addr) (l4 c4 : Nat) (a5 : Option Addr) (l5 c5 : Nat) (ks : List (ByteArray × Bool)) (cs : List (ByteArray × Int))
    (aL : Option Addr) (lL cL : Nat) (aD : Option Addr) (lD cD : Nat) (aT : Option Addr) (lT cT : Nat) (ls : List LkV) (s : SyncS) : Prop where
  b2 : ∃ e v, At H0 p2 ⟨[.slice a0 l0 c0, .slice a1 l1 c1, .slice a2 l2 c2, .slice a3 l3 c3, .slice a4 l4 c4, .slice a5 l5 c5], e, .rw, v⟩
  b3 : ∃ e v, At H0 p3 ⟨[.slice aL lL cL, .int .i64 s.tx, .slice aD lD cD, .slice aT lT cT], e, .rw, v⟩
  wp : WorldP F H0 l0 a1 l1 a2 l2 l3 l4 ks cs w0
  sp : SyncP G H0 aL lL aD lD aT lT ls s
  iv : InvS s
def Fine (H0 : AHeap) (r : Value × AHeap) : Prop := r.1 = .bool true ∧ Agree H0 r.2
theorem f42_K4 (hk : 1300 ≤ k) (h : SafeB p2 p3 F G H0 a0 l0 c0 a1 l1 c1 a2 l2 c2 a3 l3 c3 a4 l4 c4 a5 l5 c5 ks cs aL lL cL aD lD cD aT lT cT ls s) {i n1 p9 e9 v9 : Nat} (hi : i < 3) {H : AHeap} (A : Agree H0 H) {D : List Value}
    (b9 : At H p9 ⟨[.int .i64 (thS s (i : Int)).st, .int .i64 (thS s (i : Int)).cd, .bool (thS s (i : Int)).at'], e9, .rw, v9⟩)
    (next : ∀ H' D, Agree H0 H' → Ok (f42.L2 k n1 p2 p3 ((i + 1 : Nat) : Int) D H') (Fine H0)) : Ok (f42.K4 k n1 p2 p3 (i : Int) p9 D H) (Fine H0) := by
  obtain ⟨e2, v2, b2⟩ := h.b2
  obtain ⟨e3, v3, b3⟩ := h.b3
  have hin : inR (i : Int) 3 = true := by rw [inR_iff]; omega
  have hT := h.iv.th _ hin
  rw [f42.K4_eq]
  refine ok_bind (row_at (b2.agree A) (by simp) (by simp)) (ok_bind (row_at (b3.agree A) (by simp) (by simp)) ?_)
  have hw : WorldR F H [.slice a0 l0 c0, .slice a1 l1 c1, .slice a2 l2 c2, .slice a3 l3 c3, .slice a4 l4 c4, .slice a5 l5 c5] w0 := ⟨a0, l0, c0, a1, l1, c1, a2, l2, c2, a3, l3, c3, a4, l4, c4, a5, l5, c5, ks, cs, rfl, h.wp.agree A⟩
  have hs : SyncR G H [.slice aL lL cL, .int .i64 s.tx, .slice aD lD cD, .slice aT lT cT] s := ⟨aL, lL, cL, aD, lD, cD, aT, lT, cT, ls, rfl, h.sp.agree A⟩
  refine ok_cTs (f44_spec (by omega) hw hs h.iv.fits (inv_small h.iv).2.2.2 hin) fun u H1 hp => ?_
  obtain ⟨a, l, c, a', l', c', hv, hl, hl', A1⟩ := hp
  replace A1 : Agree H H1 := A1
  have b9' := b9.agree A1
  have A01 := A.trans A1
  have b3' := b3.agree A01
  refine ⟨[.slice a l c, .slice a' l' c'], hv, ok_exSl rfl (ok_exSl rfl ?_)⟩
  rw [wrapS (i := i) (l := 3) (by omega) (by decide)]
  have nw : (thS s (i : Int)).st = 0 ∨ (thS s (i : Int)).st = 1 → l = 0 ∧ l' = 0 ∧ s.tx ≠ (i : Int) ∧ (thS s (i : Int)).at' = false := by
    intro hc
    obtain ⟨q1, q2, q3⟩ := hT.nw hc
    exact ⟨by rw [hl, ownL_nil h.iv fun j hj => (q1 j hj).1], by rw [hl', rdL_nil h.iv fun j hj => (q1 j hj).2], q2, q3⟩
  refine ok_bind (ldI_at b9' (by simp) rfl) (ok_bif (fun hc => ?_) (fun hc => ok_bind (ldI_at b9' (by simp) rfl) (ok_bif (fun hc => ?_) (fun hc => next _ _ A01))))
  · obtain ⟨r1, r2, r3, r4⟩ := nw (.inl (beq_iff_eq.1 hc))
    refine ok_biff (by rw [r1]; rfl) (ok_biff (by rw [r2]; rfl) (ok_bind (ldI_at b3' (by simp) rfl) (ok_biff (by simpa using r3) (ok_bind (ldB_at b9' (by simp) rfl) (ok_biff r4 (next _ _ A01))))))
  · obtain ⟨r1, r2, r3, r4⟩ := nw (.inr (beq_iff_eq.1 hc))
    refine ok_biff (by rw [r1]; rfl) (ok_biff (by rw [r2]; rfl) (ok_bind (ldI_at b3' (by simp) rfl) (ok_biff (by simpa using r3) (ok_bind (ldB_at b9' (by simp) rfl) (ok_biff r4 (next _ _ A01))))))
theorem f42_K3 (hk : 1300 ≤ k) (h : SafeB p2 p3 F G H0 a0 l0 c0 a1 l1 c1 a2 l2 c2 a3 l3 c3 a4 l4 c4 a5 l5 c5 ks cs aL lL cL aD lD cD aT lT cT ls s) {i n1 p9 e9 v9 : Nat} (hi : i < 3) {H : AHeap} (A : Agree H0 H) {b : Bool} (hb : b = true → (thS s (i : Int)).st = 3 ∨ (thS s (i : Int)).st = 4) {D : List Value}
    (b9 : At H p9 ⟨[.int .i64 (thS s (i : Int)).st, .int .i64 (thS s (i : Int)).cd, .bool (thS s (i : Int)).at'], e9, .rw, v9⟩)
    (next : ∀ H' D, Agree H0 H' → Ok (f42.L2 k n1 p2 p3 ((i + 1 : Nat) : Int) D H') (Fine H0)) : Ok (f42.K3 k n1 p2 p3 (i : Int) p9 b D H) (Fine H0) := by
  obtain ⟨e3, v3, b3⟩ := h.b3
  have hin : inR (i : Int) 3 = true := by rw [inR_iff]; omega
  have hT := h.iv.th _ hin
  rw [f42.K3_eq]
  refine ok_bind (ldI_at b9 (by simp) rfl) (ok_biff (by simpa using hT.lo) (ok_bind (ldI_at b9 (by simp) rfl) (ok_biff (by simpa using hT.hi) (ok_bind (ldI_at b9 (by simp) rfl) (ok_biff (by rw [hT.cd]; rfl) ?_)))))
  refine ok_bif (fun hc => ?_) (fun hc => f42_K4 hk h hi A b9 next)
  have hll := h.sp.lenL'
  have h3 := h.iv.nl
  obtain ⟨q, eq, hq⟩ := (h.sp.agree A).lkOwn (i := 0) (by rw [inR_iff]; omega)
  have hw := hT.wt (hb hc)
  refine ok_bSl (ldSl_at (b3.agree A) (by simp) rfl) (ok_bind eq (ok_if (by omega) (ok_bind hq (ok_biff (by simpa using hw) (f42_K4 hk h hi A b9 next)))))
theorem f42_L2 (hk : 1300 ≤ k) (h : SafeB p2 p3 F G H0 a0 l0 c0 a1 l1 c1 a2 l2 c2 a3 l3 c3 a4 l4 c4 a5 l5 c5 ks cs aL lL cL aD lD cD aT lT cT ls s) : ∀ (m i n : Nat) (H : AHeap) (D : List Value), i + m = 3 → m < n → Agree H0 H →
    Ok (f42.L2 k n p2 p3 (i : Int) D H) (Fine H0) := by
  intro m
  have hlT := h.sp.lenT
  have h3 := h.iv.nt
  have h4 : l4 = 3 := h.wp.t
  obtain ⟨e2, v2, b2⟩ := h.b2
  obtain ⟨e3, v3, b3⟩ := h.b3
  induction m with
  | zero =>
    intro i n H D hm hn A
    obtain ⟨n, rfl⟩ : ∃ j, n = j + 1 := ⟨n - 1, by omega⟩
    rw [f42.L2_s]
    have t1 := h.iv.tlo
    have t2 := h.iv.thi
    have b3' := b3.agree A
    refine ok_bSl (ldSl_at b3' (by simp) rfl) (ok_biff (by simp only [decide_eq_false_iff_not]; omega) (ok_bind (ldI_at b3' (by simp) rfl) (ok_bift (by simpa using t1) (ok_bind (ldI_at b3' (by simp) rfl) (ok_bSl (ldSl_at (b2.agree A) (by simp) rfl) (Ok.ret ⟨?_, A⟩))))))
    show Value.bool _ = _
    rw [h4]
    congr 1
    simpa using t2
  | succ m ih =>
    intro i n H D hm hn A
    obtain ⟨n, rfl⟩ : ∃ j, n = j + 1 := ⟨n - 1, by omega⟩
    rw [f42.L2_s]
    have hin : inR (i : Int) lT = true := by rw [inR_iff]; omega
    obtain ⟨q, eq, hq⟩ := (h.sp.agree A).thRow hin
    have b3' := b3.agree A
    refine ok_bSl (ldSl_at b3' (by simp) rfl) (ok_bift (by simp only [decide_eq_true_eq]; omega) (ok_bSl (ldSl_at b3' (by simp) rfl) (ok_bind eq (ok_if (by omega) (ok_bind hq (ok_al fun j H1 hj n1 A1 B1 => ok_if ⟨rfl, rfl⟩ (ok_wr B1 rfl (by simp) fun H2 W2 => ?_)))))))
    have A2 : Agree H H2 := A1.wrote W2 (by omega)
    have A02 := A.trans A2
    have next : ∀ H' D, Agree H0 H' → Ok (f42.L2 k n p2 p3 ((i + 1 : Nat) : Int) D H') (Fine H0) := fun H' D A' => ih (i + 1) n H' D (by omega) (by omega) A'
    refine ok_bind (ldI_at W2.at' (by simp) rfl) (ok_bif (fun hc => ?_) (fun hc => ok_bind (ldI_at W2.at' (by simp) rfl) ?_))
    · exact f42_K3 hk h (by omega) A02 (fun _ => .inl (beq_iff_eq.1 hc)) W2.at' next
    · exact f42_K3 hk h (by omega) A02 (fun hh => .inr (beq_iff_eq.1 hh)) W2.at' next
theorem f42_L3 (h : SafeB p2 p3 F G H0 a0 l0 c0 a1 l1 c1 a2 l2 c2 a3 l3 c3 a4 l4 c4 a5 l5 c5 ks cs aL lL cL aD lD cD aT lT cT ls s) {x : LkV} (hx : x ∈ ls) (hstr : Strict x.rd) (hmem : ∀ r ∈ x.rd, inR r 3 = true) (hlen : x.l ≤ 1000) {i n1 p6 e6 v6 : Nat} (hi : i < 3)
    (next : ∀ H' D, Agree H0 H' → Ok (f42.L1 k n1 p2 p3 ((i + 1 : Nat) : Int) D H') (Fine H0)) : ∀ (m j n : Nat) (H : AHeap) (D : List Value), j + m = x.l → m < n → Agree H0 H → At H p6 ⟨[.int .i64 x.own, .slice x.a x.l x.c], e6, .rw, v6⟩ →
    Ok (f42.L3 k n1 n p2 p3 (i : Int) p6 (j : Int) D H) (Fine H0) := by
  intro m
  have h4 : l4 = 3 := h.wp.t
  obtain ⟨e2, v2, b2⟩ := h.b2
  have ix := (h.sp.rd x hx).1
  induction m with
  | zero =>
    intro j n H D hm hn A b6
    obtain ⟨n, rfl⟩ : ∃ j, n = j + 1 := ⟨n - 1, by omega⟩
    rw [f42.L3_s, wrapS (i := i) (l := 3) (by omega) (by decide)]
    exact ok_bSl (ldSl_at b6 (by simp) rfl) (ok_biff (by simp only [decide_eq_false_iff_not]; omega) (next _ _ A))
  | succ m ih =>
    intro j n H D hm hn A b6
    obtain ⟨n, rfl⟩ : ∃ j, n = j + 1 := ⟨n - 1, by omega⟩
    rw [f42.L3_s, wrapS (i := j) (l := x.l) (by omega) (by unfold maxLen; omega)]
    have Ab := agree_bump H 35
    have b6' := b6.agree Ab
    obtain ⟨q, y, hy, eq, hq⟩ := Ints.at (Cells.agree ix (A.trans Ab)) (i := j) (by omega)
    have st := Cells.stay (Cells.agree ix A) eq _ Ab
    have hyr := inR_iff.1 (hmem y (List.mem_of_getElem? hy))
    have s6 := sameB_agree b6 Ab
    refine ok_bSl (ldSl_at b6 (by simp) rfl) (ok_bift (by simp only [decide_eq_true_eq]; omega) (ok_bift s6 (ok_bSl (ldSl_at b6' (by simp) rfl) (ok_bind eq (ok_if (by omega) (ok_bift st (ok_bind hq (ok_biff (by simp only [decide_eq_false_iff_not]; omega) ?_))))))))
    refine ok_bift s6 (ok_bSl (ldSl_at b6' (by simp) rfl) (ok_bind eq (ok_if (by omega) (ok_bift st (ok_bind hq (ok_bift (sameB_agree (b2.agree A) Ab) (ok_bSl (ldSl_at ((b2.agree A).agree Ab) (by simp) rfl) (ok_biff (by simp only [decide_eq_false_iff_not]; omega) ?_))))))))
    refine ok_bif (fun hc => ?_) (fun hc => ih (j + 1) n _ _ (by omega) (by omega) (A.trans Ab) b6')
    rw [decide_eq_true_eq] at hc
    obtain ⟨j', rfl⟩ : ∃ j', j = j' + 1 := ⟨j - 1, by omega⟩
    obtain ⟨q2, y2, hy2, eq2, hq2⟩ := Ints.at (Cells.agree ix (A.trans Ab)) (i := j') (by omega)
    rw [eq] at eq2
    cases eq2
    have ew : IntKind.i64.wrap (((j' + 1 : Nat) : Int) - 1) = (j' : Int) := by rw [IntWalk.i64_in _ (by omega)]; omega
    have hlt : y2 < y := by
      obtain ⟨g1, g2⟩ := List.getElem?_eq_some_iff.1 hy
      obtain ⟨g3, g4⟩ := List.getElem?_eq_some_iff.1 hy2
      have := List.pairwise_iff_getElem.1 hstr j' (j' + 1) g3 g1 (by omega)
      rw [g2, g4] at this
      exact this
    rw [ew]
    refine ok_bift s6 (ok_bSl (ldSl_at b6' (by simp) rfl) (ok_bind eq (ok_if (by omega) (ok_bift st (ok_bind hq (ok_bift s6 (ok_bSl (ldSl_at b6' (by simp) rfl) (ok_bind eq (ok_if (by omega) (ok_bift st (ok_bind hq2 (ok_biff (by simp only [decide_eq_false_iff_not]; omega) ?_))))))))))))
    exact ih (j' + 1 + 1) n _ _ (by omega) (by omega) (A.trans Ab) b6'
theorem f42_L1 (hk : 1300 ≤ k) (h : SafeB p2 p3 F G H0 a0 l0 c0 a1 l1 c1 a2 l2 c2 a3 l3 c3 a4 l4 c4 a5 l5 c5 ks cs aL lL cL aD lD cD aT lT cT ls s) : ∀ (m i n : Nat) (H : AHeap) (D : List Value), i + m = 3 → m < n → Agree H0 H →
    Ok (f42.L1 k n p2 p3 (i : Int) D H) (Fine H0) := by
  intro m
  have hlL := h.sp.lenL'
  have h3 := h.iv.nl
  have h4 : l4 = 3 := h.wp.t
  obtain ⟨e2, v2, b2⟩ := h.b2
  obtain ⟨e3, v3, b3⟩ := h.b3
  induction m with
  | zero =>
    intro i n H D hm hn A
    obtain ⟨n, rfl⟩ : ∃ j, n = j + 1 := ⟨n - 1, by omega⟩
    rw [f42.L1_s]
    exact ok_bSl (ldSl_at (b3.agree A) (by simp) rfl) (ok_biff (by simp only [decide_eq_false_iff_not]; omega) (f42_L2 hk h 3 0 k H _ (by omega) (by omega) A))
  | succ m ih =>
    intro i n H D hm hn A
    obtain ⟨n, rfl⟩ : ∃ j, n = j + 1 := ⟨n - 1, by omega⟩
    rw [f42.L1_s]
    have hin : inR (i : Int) lL = true := by rw [inR_iff]; omega
    have hin3 : inR (i : Int) 3 = true := by rw [inR_iff]; omega
    obtain ⟨q, x, eq, hq, hp, ix, hmx⟩ := (h.sp.agree A).lkRow hin
    have hl := h.iv.lk _ hin3
    rw [← hp] at hl
    have hlo : -1 ≤ x.own := hl.lo
    have hhi : x.own < 3 := hl.hi
    have hex : 0 ≤ x.own → x.rd = [] := hl.ex
    have hno : (i : Int) ≠ 2 → x.rd = [] := hl.norw
    have hxl : x.rd.length = x.l := (Ints.len ix.1).symm
    have b3' := b3.agree A
    have next : ∀ H' D, Agree H0 H' → Ok (f42.L1 k n p2 p3 ((i + 1 : Nat) : Int) D H') (Fine H0) := fun H' D A' => ih (i + 1) n H' D (by omega) (by omega) A'
    refine ok_bSl (ldSl_at b3' (by simp) rfl) (ok_bift (by simp only [decide_eq_true_eq]; omega) (ok_bSl (ldSl_at b3' (by simp) rfl) (ok_bind eq (ok_if (by omega) (ok_bind hq (ok_al fun j H1 hj n1 A1 B1 => ok_if ⟨rfl, rfl⟩ (ok_wr B1 rfl (by simp) fun H2 W2 => ?_)))))))
    have A2 : Agree H H2 := A1.wrote W2 (by omega)
    have A02 := A.trans A2
    have bx := W2.at'
    have b2' := b2.agree A02
    have hsm := inv_rd h.iv x.pure (by rw [← h.sp.locks]; exact List.mem_map_of_mem hmx)
    have hsm : x.rd.length ≤ 3 := hsm
    have go : ∀ D, Ok (f42.K2 k n p2 p3 (i : Int) j D H2) (Fine H0) := by
      intro D
      rw [f42.K2_eq]
      exact f42_L3 h hmx hl.str hl.mem (by omega) (by omega) next x.l 0 k H2 _ (by omega) (by omega) A02 bx
    have hin1 : inR (i : Int) l1 = true := by rw [inR_iff]; have := h.wp.lenK'; have e : w0.rw.length = 3 := rfl; omega
    obtain ⟨q1, eq1, hq1⟩ := rw_at (h.wp.agree A02) hin1
    have hin1' := inR_iff.1 hin1
    have hrw : w0.rw.getD (i : Int).toNat false = false → x.rd = [] := by
      intro e
      refine hno fun e2 => ?_
      rw [e2] at e
      cases e
    refine ok_bind (ldI_at bx (by simp) rfl) (ok_biff (by simp only [decide_eq_false_iff_not]; omega) (ok_bind (ldI_at bx (by simp) rfl) (ok_bSl (ldSl_at b2' (by simp) rfl) (ok_biff (by simp only [decide_eq_false_iff_not]; omega) (ok_bind (ldI_at bx (by simp) rfl) ?_)))))
    have rest : ∀ {c : Bool}, c = w0.rw.getD (i : Int).toNat false → (!c) = true → x.l = 0 := by
      intro c hc hb
      have := hrw (by rw [← hc]; simpa using hb)
      rw [this] at hxl
      exact hxl.symm
    refine ok_bif (fun hc => ?_) (fun hc => ?_)
    · rw [decide_eq_true_eq] at hc
      have hnil := hex hc
      have hz : x.l = 0 := by rw [hnil] at hxl; exact hxl.symm
      refine ok_bSl (ldSl_at bx (by simp) rfl) (ok_biff (by rw [hz]; rfl) (ok_bSl (ldSl_at b2' (by simp) rfl) (ok_bind eq1 (ok_if hin1' (ok_bind hq1 (ok_bif (fun hb => ok_bSl (ldSl_at bx (by simp) rfl) (ok_biff (by rw [hz]; rfl) (go _))) (fun _ => go _)))))))
    · refine ok_bSl (ldSl_at b2' (by simp) rfl) (ok_bind eq1 (ok_if hin1' (ok_bind hq1 (ok_bif (fun hb => ok_bSl (ldSl_at bx (by simp) rfl) (ok_biff (by rw [rest rfl hb]; rfl) (go _))) (fun _ => go _)))))
end
/-- safe, of a state that is reached -/
theorem f42_spec {k : Nat} (hk : 1400 ≤ k) {F G : Nat → Prop} {H : AHeap} {wc sc : List Value} {s : SyncS} (hw : WorldR F H wc w0) (hs : SyncR G H sc s) (hI : InvS s) :
    ∃ H', C k 42 [.agg wc.toArray, .agg sc.toArray] H = some (.bool true, H') ∧ Agree H H' := by
  obtain ⟨k, rfl⟩ : ∃ j, k = j + 1 := ⟨k - 1, by omega⟩
  have hw0 := hw
  have hs0 := hs
  obtain ⟨a0, l0, c0, a1, l1, c1, a2, l2, c2, a3, l3, c3, a4, l4, c4, a5, l5, c5, ks, cs, rfl, hw⟩ := hw
  obtain ⟨aL, lL, cL, aD, lD, cD, aT, lT, cT, ls, rfl, hs⟩ := hs
  rw [f42_eq]
  refine call_of_ok (ok_al fun i H1 hi n1 A1 B1 => ok_al fun i' H2 hi' n2 A2 B2 => ?_)
  have A02 := A1.trans A2
  refine ok_bind (row_at (B1.agree A2) (by simp) (by simp)) (ok_bind (row_at B2 (by simp) (by simp)) ?_)
  refine ok_cB (f79_spec (by omega) (hw0.agree A02) (hs0.agree A02)) fun H3 A3 => ok_biff (by rw [hI.fits]; rfl) ?_
  have A03 := A02.trans A3
  refine ok_bind (row_at ((B1.agree A2).agree A3) (by simp) (by simp)) (ok_bind (row_at (B2.agree A3) (by simp) (by simp)) ?_)
  refine ok_cB (f65_spec (by omega) (hw0.agree A03) (hs0.agree A03)) fun H4 A4 => ok_biff (by rw [hI.fits]; rfl) ?_
  have A04 := A03.trans A4
  rw [f42.K1_eq]
  have key := fun D => f42_L1 (k := k) (p2 := i) (p3 := i') (by omega) ⟨⟨_, _, ((B1.agree A2).agree A3).agree A4⟩, ⟨_, _, (B2.agree A3).agree A4⟩, hw.agree A04, hs.agree A04, hI⟩ 3 0 k H4 D (by omega) (by omega) (Agree.refl H4)
  obtain ⟨r, e, e1, e2⟩ := key _
  exact ⟨r, e, e1, A04.trans e2⟩
end Go.Proofs.MxF
end

section
set_option linter.unusedSimpArgs false
/- ObjectPlays. -/
set_option linter.unusedVariables false
namespace Go.Proofs.MxF
open Go Go.Mx Go.Proofs
theorem sameB_at {H H' : AHeap} {i : Nat} {b : Blk} (h : At H i b) (h' : At H' i b) : sameB H H' i = true := by
  unfold sameB
  rw [h.2, h'.2]; simp
theorem applyR_small {s : SyncS} (h : InvS s) (th kind obj wake : Int) : let s' := (applyR w0 s th kind obj wake).1; s'.ths.length ≤ 1000 ∧ s'.done.length ≤ 1000 ∧ s'.locks.length ≤ 1000 ∧ ∀ x ∈ s'.locks, x.rd.length ≤ 1000 := by
  cases he : enabledS w0 s th kind obj
  · rw [applyR_f he]
    exact ⟨by decide, by decide, by decide, fun x hx => by cases hx⟩
  · rw [applyR_t he]
    exact inv_small (inv_apply h he)
theorem box_put {zs cs : List Value} {H H' : AHeap} {p e v : Nat} (W : Wrote H H' p { (⟨zs, e, .rw, v⟩ : Blk) with cells := splice zs 0 cs, ver := v + 1 }) (h : zs.length = cs.length) : At H' p ⟨cs, e, .rw, v + 1⟩ := by
  have b := W.at'
  simp only [splice_all h] at b
  exact b
section
variable {k : Nat} {H0 : AHeap} {p3 p4 p5 M : Nat} {wc : List Value} {a1 : Option Addr} {l1 c1 : Nat} {es : List Value}
theorem f13_loop (hk : 2000 ≤ k) (hF : ∀ i, H0.next ≤ i → H0.get i = none) (hM : H0.next ≤ M) (hw : WorldR (fun _ => True) H0 wc w0) (hes : Cells H0 a1 (l1 * 4) es) (hev : Evs es l1) (hl1 : l1 ≤ 1000) (z1 : p3 < H0.next) (z2 : H0.next ≤ p4) (z3 : H0.next ≤ p5) (z5 : p4 < M) (z6 : p5 < M) (z8 : p4 ≠ p5) {e3 v3 : Nat} (b3 : At H0 p3 ⟨wc, e3, .rw, v3⟩) :
    ∀ (m i n : Nat) (H : AHeap) (D : List Value) (s : SyncS) (cs4 cs5 : List Value) (e4 v4 e5 v5 : Nat), i + m = l1 → m < n → Agree H0 H → M ≤ H.next → At H p4 ⟨cs4, e4, .rw, v4⟩ → At H p5 ⟨cs5, e5, .rw, v5⟩ →
    SyncR (fun j => H0.next ≤ j ∧ j ≠ p4 ∧ j ≠ p5) H cs4 s → SyncR (fun j => H0.next ≤ j ∧ j ≠ p4 ∧ j ≠ p5) H cs5 s → InvS s →
    Ok (f13.L1 k n a1 l1 c1 p3 p4 p5 (i : Int) D H) fun r => r.1 = .bool true ∧ True := by
  intro m
  obtain ⟨hwl, hwn⟩ := hw.len
  induction m with
  | zero =>
    intro i n H D s cs4 cs5 e4 v4 e5 v5 hm hn A hMn b4 b5 hs hr hI
    obtain ⟨n, rfl⟩ : ∃ j, n = j + 1 := ⟨n - 1, by omega⟩
    rw [f13.L1_s]
    obtain ⟨hl4, hn4⟩ := hs.len
    refine ok_biff (by simp only [decide_eq_false_iff_not]; omega) (ok_bind (box_row (b3.agree A) hwl) (ok_bind (box_row b4 hl4) ?_))
    exact ok_cB (f42_spec (by omega) (hw.agree A) hs hI) fun H1 A1 => ok_bift rfl (ok_cB0 (awake35 (by omega) H1) (Ok.ret ⟨rfl, trivial⟩))
  | succ m ih =>
    intro i n H D s cs4 cs5 e4 v4 e5 v5 hm hn A hMn b4 b5 hs hr hI
    obtain ⟨n, rfl⟩ : ∃ j, n = j + 1 := ⟨n - 1, by omega⟩
    rw [f13.L1_s]
    obtain ⟨hl4, hn4⟩ := hs.len
    obtain ⟨hl5, hn5⟩ := hr.len
    obtain ⟨x0, x1, x2, x3, hrow⟩ := hev i (by omega)
    obtain ⟨q, eq, hq⟩ := (hes.agree A).row (j := i * 4) (m := 4) (by omega) (by omega)
    rw [hrow] at hq
    refine ok_bift (by simp only [decide_eq_true_eq]; omega) (ok_bind eq (ok_if (by omega) (ok_bind hq ?_)))
    refine ok_cTs (f40_spec (by omega) H x0 x1 x2 x3) fun v H1 hp => ?_
    obtain ⟨t, kd, o, wk, hv, A1⟩ := hp
    replace hv : v = .tuple #[.int .i64 t, .int .i64 kd, .int .i64 o, .int .i64 wk] := hv
    replace A1 : Agree H H1 := A1
    refine ⟨_, hv, ok_exI rfl (ok_exI rfl (ok_exI rfl (ok_exI rfl ?_)))⟩
    have A01 := A.trans A1
    have n0 := A.next
    have n1 := A1.next
    -- the program
    refine ok_bind (box_row (b3.agree A01) hwl) (ok_bind (box_row (b4.agree A1) hl4) ?_)
    refine ok_apply (by omega) (A01.fresh hF) (hw.agree A01) (hs.agree A1) (rd11 hI) (s' := (applyR w0 s t kd o wk).1) (v := (applyR w0 s t kd o wk).2.1) (b := (applyR w0 s t kd o wk).2.2) rfl fun ca H2 hna hsa A2 => ok_exG rfl (ok_exI rfl (ok_exB rfl (ok_box hna.1.symm hna fun pa H4 hj n4 A4 Ba => ?_)))
    have n2 := A2.next
    have n4' := A4.next
    have A14 := A2.trans A4
    have A04 := A01.trans A14
    have A4' := A1.trans A14
    replace hsa := hsa.agree A4
    -- the reference
    refine ok_bind (box_row (b3.agree A04) hwl) (ok_bind (box_row (b5.agree A4') hl5) ?_)
    refine ok_cTs (f41_spec (k := k) (by omega) (A04.fresh hF) (hw.agree A04) (hr.agree A4') (rd11 hI) t kd o wk) fun v2 H5 hp => ?_
    obtain ⟨cb, hv2, hsb, A5⟩ := hp
    replace A5 : Agree H4 H5 := A5
    replace hsb : SyncR (H4.next ≤ ·) H5 cb (applyR w0 s t kd o wk).1 := hsb
    have hnb := hsb.len
    have n5 := A5.next
    refine ⟨[.agg cb.toArray, .int .i64 (applyR w0 s t kd o wk).2.1, .bool (applyR w0 s t kd o wk).2.2], hv2, ok_exG rfl (ok_exI rfl (ok_exB rfl (ok_box hnb.1.symm hnb fun pb H7 hj7 n7 A7 Bb => ?_)))⟩
    have n7' := A7.next
    have A57 := A5.trans A7
    have A07 := A04.trans A57
    have A7' := A4'.trans A57
    replace hsb := hsb.agree A7
    replace hsa := hsa.agree A57
    replace Ba := Ba.agree A57
    obtain ⟨q1, q2, q3, q4⟩ := applyR_small hI t kd o wk
    refine ok_biff (by simp) (ok_biff (by simp) (ok_bind (box_row Ba hna.1) (ok_bind (box_row Bb hnb.1) (ok_cB (f32_spec (by omega) hsa hsb q1 q2 q3 q4) fun H8 A8 => ok_biff rfl ?_))))
    have A08 := A07.trans A8
    have A8' := A7'.trans A8
    replace hsa := hsa.agree A8
    replace hsb := hsb.agree A8
    replace Ba := Ba.agree A8
    replace Bb := Bb.agree A8
    have n8 := A8.next
    rw [f13.K1_eq, wrapS (i := i) (l := l1) (by omega) (by unfold maxLen; omega)]
    refine ok_bif (fun hok => ?_) (fun hok => ?_)
    · have hI' := inv_applyR hI hok
      have Ab := agree_bump H8 4
      have b4' := (b4.agree A8').agree Ab
      have b5' := (b5.agree A8').agree Ab
      refine ok_bift (sameB_agree Ba Ab) (ok_bind (box_row (Ba.agree Ab) hna.1) (ok_if ⟨hna.2, hna.1⟩ (ok_wr b4' rfl (by simp [hna.1, hl4]) fun H9 W9 => ?_)))
      have b9 := box_put W9 (by rw [hl4, hna.1])
      have Bb9 := (Bb.agree Ab).wrote W9 (show pb ≠ p4 by omega)
      refine ok_bift (sameB_at Bb Bb9) (ok_bind (box_row Bb9 hnb.1) (ok_if ⟨hnb.2, hnb.1⟩ (ok_wr (b5'.wrote W9 (Ne.symm z8)) rfl (by simp [hnb.1, hl5]) fun H10 W10 => ?_)))
      have b10 := box_put W10 (by rw [hl5, hnb.1])
      have A10 : Agree H0 H10 := ((A08.trans Ab).wrote W9 z2).wrote W10 z3
      have sa : SyncR (fun j => H1.next ≤ j) H10 ca (applyR w0 s t kd o wk).1 := ((hsa.agree Ab).wrote W9 (by omega)).wrote W10 (by omega)
      have sb : SyncR (fun j => H4.next ≤ j) H10 cb (applyR w0 s t kd o wk).1 := ((hsb.agree Ab).wrote W9 (by omega)).wrote W10 (by omega)
      have b9' := b9.wrote W10 z8
      refine ok_bind (box_row (b3.agree A10) hwl) (ok_bind (box_row b9' hna.1) (ok_cB (f42_spec (by omega) (hw.agree A10) sa hI') fun H11 A11 => ok_biff rfl ?_))
      have e10 : H10.next = H8.next + 4 := by rw [W10.next, W9.next]; rfl
      have n11 := A11.next
      exact ih (i + 1) n H11 _ (applyR w0 s t kd o wk).1 ca cb _ _ _ _ (by omega) (by omega) (A10.trans A11) (by omega) (b9'.agree A11) (b10.agree A11)
        ((sa.agree A11).mono fun x hx => ⟨by omega, by omega, by omega⟩) ((sb.agree A11).mono fun x hx => ⟨by omega, by omega, by omega⟩) hI'
    · refine ok_bind (box_row (b3.agree A08) hwl) (ok_bind (box_row (b4.agree A8') hl4) (ok_cB (f42_spec (by omega) (hw.agree A08) (hs.agree A8') hI) fun H9 A9 => ok_biff rfl ?_))
      have n9 := A9.next
      have A9' := A8'.trans A9
      exact ih (i + 1) n H9 _ s cs4 cs5 _ _ _ _ (by omega) (by omega) (A.trans A9') (by omega) (b4.agree A9') (b5.agree A9') (hs.agree A9') (hr.agree A9') hI
end
theorem f13_any {H : AHeap} (hF : ∀ i, H.next ≤ i → H.get i = none) {a : Option Addr} {l c : Nat} {es : List Value} (hes : Cells H a (l * 4) es) (hev : Evs es l) :
    ∃ k H', C k 13 [.slice a l c] H = some (.bool true, H') := by
  have hk : ∀ k, 3000 ≤ k → ∃ H', C (k + 1) 13 [.slice a l c] H = some (.bool true, H') ∧ True := by
    intro k hk
    rw [f13_eq]
    refine call_of_ok (P := fun _ => True) (ok_bif (fun _ => Ok.ret ⟨rfl, trivial⟩) (fun hl => ?_))
    rw [decide_eq_false_iff_not] at hl
    refine ok_cGs (P := fun cs r => WorldR (H.next ≤ ·) r.2 cs w0 ∧ Agree H r.2) (f36_spec (by omega) H) fun wc v H1 hp => ?_
    obtain ⟨hw, A1⟩ := hp
    replace A1 : Agree H H1 := A1
    replace hw : WorldR (H.next ≤ ·) H1 wc w0 := hw
    obtain ⟨hwl, hwn⟩ := hw.len
    refine ok_box hwl.symm ⟨hwl, hwn⟩ fun i H3 hi n3 A3 B3 => ?_
    have A03 := A1.trans A3
    have F3 := A03.fresh hF
    have hw3 := (hw.agree A3).mono (G := fun _ => True) fun _ _ => trivial
    have Ab := agree_bump H3 8
    have f4 : Free (H3.bump 8) (H3.next + 4) := free_bump F3 (by omega)
    have f5 : Free (H3.bump 8) (H3.next + 5) := free_bump F3 (by omega)
    obtain ⟨a0, l0, c0, a1, l1, c1, a2, l2, c2, a3, l3, c3, a4, l4, c4, a5, l5, c5, ks, ncs, rfl, hwp⟩ := hw3
    have hm1 : l1 = 3 := hwp.lenK'
    have hl3 : l3 = 1 := hwp.f
    have hl4 : l4 = 3 := hwp.t
    refine ok_bift (sameB_agree B3 Ab) (ok_bind (box_row (B3.agree Ab) hwl) ?_)
    refine ok_cGs (f33_spec (k := k) (l1 := l1) (l3 := l3) (l4 := l4) (by omega) (Ab.fresh F3) (by omega) (by omega) (by omega)) fun cs v H4 hp => ?_
    obtain ⟨hs, A4⟩ := hp
    replace A4 : Agree (H3.bump 8) H4 := A4
    replace hs : SyncR ((H3.bump 8).next ≤ ·) H4 cs (startS l1 l3 l4) := hs
    have A34 := Ab.trans A4
    refine ok_bift (sameB_agree B3 A34) (ok_bind (box_row (B3.agree A34) hwl) ?_)
    refine ok_cGs (f34_spec (k := k) (l1 := l1) (l3 := l3) (l4 := l4) (by omega) (by omega) (by omega) (by omega)) fun cs' v H5 hp => ?_
    obtain ⟨hr, A5⟩ := hp
    replace A5 : Agree H4 H5 := A5
    replace hr : SyncR (H4.next ≤ ·) H5 cs' (startS l1 l3 l4) := hr
    rw [hm1, hl3, hl4] at hs hr
    have hn := hs.len
    have hn' := hr.len
    have A35 := A34.trans A5
    have nb : (H3.bump 8).next = H3.next + 8 := rfl
    have nn4 := A4.next
    have nn5 := A5.next
    have A45 := A4.trans A5
    refine ok_als A35 (f4.agree A45) (by omega) fun H6 n6 A6 B6 S6 G6 => ?_
    refine ok_als A6 (G6 _ (f5.agree A45) (by omega)) (by omega) fun H7 n7 A7 B7 S7 G7 => ?_
    have B67 := S7 _ _ B6
    refine ok_if ⟨hn.2, hn.1⟩ (ok_wr B67 rfl (by simp [hn.1]) fun H8 W8 => ok_if ⟨hn'.2, hn'.1⟩ (ok_wr (B7.wrote W8 (by omega)) rfl (by simp [hn'.1]) fun H9 W9 => ?_))
    have b4 := (box_put W8 (by rw [hn.1]; rfl)).wrote W9 (show H3.next + 4 ≠ H3.next + 5 by omega)
    have b5 := box_put W9 (by rw [hn'.1]; rfl)
    have A9 : Agree H3 H9 := (A7.wrote W8 (by omega)).wrote W9 (by omega)
    have s9 : SyncR (fun j => (H3.bump 8).next ≤ j) H9 cs (startS 3 1 3) := ((((hs.agree A5).sub S6).sub S7).wrote W8 (by omega)).wrote W9 (by omega)
    have r9 : SyncR (fun j => H4.next ≤ j) H9 cs' (startS 3 1 3) := (((hr.sub S6).sub S7).wrote W8 (by omega)).wrote W9 (by omega)
    have e9 : H9.next = H5.next := by rw [W9.next, W8.next, n7, n6]
    have key := fun D => f13_loop (k := k) (H0 := H3) (p3 := i) (p4 := H3.next + 4) (p5 := H3.next + 5) (M := H9.next) (c1 := c) (by omega) F3 (by omega) ⟨a0, l0, c0, a1, l1, c1, a2, l2, c2, a3, l3, c3, a4, l4, c4, a5, l5, c5, ks, ncs, rfl, hwp⟩ (hes.agree A03) hev (by omega) B3.1 (by omega) (by omega) (by omega) (by omega) (by omega) B3
      l 0 k H9 D (startS 3 1 3) cs cs' _ _ _ _ (by omega) (by omega) A9 (Nat.le_refl _) b4 b5 (s9.mono fun x hx => ⟨by omega, by omega, by omega⟩) (r9.mono fun x hx => ⟨by omega, by omega, by omega⟩) inv_start
    exact key _
  obtain ⟨H', e, _⟩ := hk 3000 (Nat.le_refl _)
  exact ⟨_, H', e⟩
theorem objectPlays_ok (n : Nat) : LawOk awk Try.prog 13 (n + 1 + 1 + 1) [67] := by
  intro H vs hF hA
  obtain ⟨v0, _, rfl, h0, hA⟩ := argsV_cons hA
  obtain rfl := argsV_nil hA
  obtain ⟨a, l, c, es, rfl, hes, hev⟩ := arg_events hF h0
  exact f13_any hF hes hev
end Go.Proofs.MxF
end
