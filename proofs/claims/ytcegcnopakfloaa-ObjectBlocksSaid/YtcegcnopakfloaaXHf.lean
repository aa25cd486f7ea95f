/- Texts of this claim, laid together: Oc Od. -/
import Derived.Test.YtcegcnopakfloaaXHc
section
set_option linter.unusedSimpArgs false
/- Functions of the program as the machine comes to them: printed by a program of this workplace (px.py); the kernel checks each line. -/
set_option linter.unusedVariables false
namespace Go.Proofs.MxF
open Go Go.Mx Go.Proofs

/- f80 "slices.Clone[[]int,int]"  names: 0:s 1:s -/
theorem f80_eq (k : Nat) (a0 : Option Addr) (l0 : Nat) (c0 : Nat) (H : AHeap) : C (k + 1) 80 [.slice a0 l0 c0] H =
  ((eqV Try.prog 40 26 (.slice a0 l0 c0) (.slice none 0 0)).bind fun b =>
   bif b then
   some (.slice none 0 0, H)
   else
   alK none H ⟨[], 1, .rw, 0⟩ fun i H_1 =>
   cSl (apndV Try.prog [26, 26] H_1 (.slice (some ⟨i, 0, none⟩) 0 0) (.slice a0 l0 c0)) fun a l c H_2 =>
   some (.slice a l c, H_2)) := by kernel_rfl

/- f88 "slices.Clone[[]interleave/api.LockState,interleave/api.LockState]"  names: 0:s 1:s -/
theorem f88_eq (k : Nat) (a0 : Option Addr) (l0 : Nat) (c0 : Nat) (H : AHeap) : C (k + 1) 88 [.slice a0 l0 c0] H =
  ((eqV Try.prog 40 61 (.slice a0 l0 c0) (.slice none 0 0)).bind fun b =>
   bif b then
   some (.slice none 0 0, H)
   else
   alK none H ⟨[], 2, .rw, 0⟩ fun i H_1 =>
   cSl (apndV Try.prog [61, 61] H_1 (.slice (some ⟨i, 0, none⟩) 0 0) (.slice a0 l0 c0)) fun a l c H_2 =>
   some (.slice a l c, H_2)) := by kernel_rfl

/- f89 "slices.Clone[[]bool,bool]"  names: 0:s 1:s -/
theorem f89_eq (k : Nat) (a0 : Option Addr) (l0 : Nat) (c0 : Nat) (H : AHeap) : C (k + 1) 89 [.slice a0 l0 c0] H =
  ((eqV Try.prog 40 37 (.slice a0 l0 c0) (.slice none 0 0)).bind fun b =>
   bif b then
   some (.slice none 0 0, H)
   else
   alK none H ⟨[], 1, .rw, 0⟩ fun i H_1 =>
   cSl (apndV Try.prog [37, 37] H_1 (.slice (some ⟨i, 0, none⟩) 0 0) (.slice a0 l0 c0)) fun a l c H_2 =>
   some (.slice a l c, H_2)) := by kernel_rfl

/- f90 "slices.Clone[[]interleave/api.ThreadSync,interleave/api.ThreadSync]"  names: 0:s 1:s -/
theorem f90_eq (k : Nat) (a0 : Option Addr) (l0 : Nat) (c0 : Nat) (H : AHeap) : C (k + 1) 90 [.slice a0 l0 c0] H =
  ((eqV Try.prog 40 62 (.slice a0 l0 c0) (.slice none 0 0)).bind fun b =>
   bif b then
   some (.slice none 0 0, H)
   else
   alK none H ⟨[], 3, .rw, 0⟩ fun i H_1 =>
   cSl (apndV Try.prog [62, 62] H_1 (.slice (some ⟨i, 0, none⟩) 0 0) (.slice a0 l0 c0)) fun a l c H_2 =>
   some (.slice a l c, H_2)) := by kernel_rfl

/- f66 "interleave/object.clone"  names: 0:s 1:s 3:i -/
noncomputable def f66.Q0 (k : Nat)  : Kont (Value × AHeap) := retQ Try.prog Try.f66
noncomputable def f66.Q1 (k : Nat)  : Kont (Value × AHeap) := seqQ (gateC (Sub (bodyOf Try.f66) [1, 1, 0]) (Sub (bodyOf Try.f66) [1, 1, 1]) k (run Try.prog (C k) k (Sub (bodyOf Try.f66) [1, 1, 1]) (f66.Q0 k ))) (f66.Q0 k )
noncomputable def f66.Q2 (k : Nat)  : Kont (Value × AHeap) := blkQ 0 (f66.Q1 k )
noncomputable def f66.L1 (k : Nat) (n1 : Nat) (p1 : Nat) (p2 : Nat) (x10 : Int) (x11 : Int) (D : List Value) (H : AHeap) : Option (Value × AHeap) :=
  iter (run Try.prog (C k) k (Sub (bodyOf Try.f66) [1, 1, 0, 1, 0, 0])) (f66.Q2 k ) n1 [(D.getD 0 undef), .pointer (some ⟨p1, 0, none⟩), .pointer (some ⟨p2, 0, none⟩), (D.getD 1 undef), (D.getD 2 undef), (D.getD 3 undef), (D.getD 4 undef), (D.getD 5 undef), (D.getD 6 undef), (D.getD 7 undef), .int .i64 x10, .int .i64 x11, (D.getD 8 undef), (D.getD 9 undef), (D.getD 10 undef), (D.getD 11 undef), (D.getD 12 undef), (D.getD 13 undef), (D.getD 14 undef), (D.getD 15 undef), (D.getD 16 undef), (D.getD 17 undef), (D.getD 18 undef), (D.getD 19 undef), (D.getD 20 undef), (D.getD 21 undef), (D.getD 22 undef), undef, undef, undef, undef, undef, undef, undef, undef, undef] H
theorem f66.L1_z (k : Nat)  (p1 : Nat) (p2 : Nat) (x10 : Int) (x11 : Int) (D : List Value) (H : AHeap) : f66.L1 k 0 p1 p2 x10 x11 D H = none := by kernel_rfl
theorem f66.L1_s (k : Nat) (n1 : Nat) (p1 : Nat) (p2 : Nat) (x10 : Int) (x11 : Int) (D : List Value) (H : AHeap) : f66.L1 k (n1 + 1) p1 p2 x10 x11 D H =
  (bif (decide (x11 < x10)) then
   bif sameB H (H.bump 13) p1 then
   bSl (ldSl (H.bump 13) p1 (0)) fun a l c =>
   a.bind fun q =>
   if 0 ≤ x11 ∧ x11 < (l : Int) then
   bif sameB H (H.bump 13) q.block then
   bSl (ldSl (H.bump 13) q.block (q.off + x11.toNat * 2 + 1)) fun a_1 l_1 c_1 =>
   cSl (C k 80 [.slice a_1 l_1 c_1] (H.bump 13)) fun a_2 l_2 c_2 H_1 =>
   bif sameB H H_1 p1 then
   bSl (ldSl H_1 p1 (0)) fun a_3 l_3 c_3 =>
   a_3.bind fun q_1 =>
   if 0 ≤ x11 ∧ x11 < (l_3 : Int) then
   (AHeap.wr H_1 q_1.block (q_1.off + x11.toNat * 2 + 1) [.slice a_2 l_2 c_2]).bind fun H_2 =>
   f66.L1 k n1 p1 p2 x10 (IntKind.i64.wrap (x11 + (1 : Int))) [(D.getD 0 undef), .int .i64 x11, (D.getD 2 undef), (D.getD 3 undef), (D.getD 4 undef), (D.getD 5 undef), (D.getD 6 undef), (D.getD 7 undef), .bool (decide (x11 < x10)), .int .i64 x11, .pointer (some ⟨p1, 0, none⟩), .slice a_3 l_3 c_3, .int .i64 x11, .pointer (some ⟨p1, 0, none⟩), .slice a l c, .int .i64 x11, .pointer (some ⟨q.block, q.off + x11.toNat * 2, none⟩), .pointer (some ⟨q.block, q.off + x11.toNat * 2 + 1, none⟩), .slice a_1 l_1 c_1, .slice a_2 l_2 c_2, .pointer (some ⟨q_1.block, q_1.off + x11.toNat * 2, none⟩), .pointer (some ⟨q_1.block, q_1.off + x11.toNat * 2 + 1, none⟩), .int .i64 (IntKind.i64.wrap (x11 + (1 : Int)))] H_2
   else none
   else none
   else none
   else none
   else none
   else
   bSl (ldSl H p1 (2)) fun a_4 l_4 c_4 =>
   cSl (C k 89 [.slice a_4 l_4 c_4] H) fun a_5 l_5 c_5 H_3 =>
   (AHeap.wr H_3 p1 (2) [.slice a_5 l_5 c_5]).bind fun H_4 =>
   bSl (ldSl H_4 p1 (3)) fun a_6 l_6 c_6 =>
   cSl (C k 90 [.slice a_6 l_6 c_6] H_4) fun a_7 l_7 c_7 H_5 =>
   (AHeap.wr H_5 p1 (3) [.slice a_7 l_7 c_7]).bind fun H_6 =>
   (AHeap.row H_6 p1 (0) 4).bind fun g =>
   if notTup (.agg (g : List Value).toArray) = true ∧ (g).length = 4 then
   (AHeap.wr H_6 p2 (0) g).bind fun H_7 =>
   (AHeap.row H_7 p2 (0) 4).bind fun g_1 =>
   some (.agg (g_1 : List Value).toArray, H_7)
   else none) := by kernel_rfl
theorem f66_eq (k : Nat) (a0_0 : Option Addr) (l0_0 : Nat) (c0_0 : Nat) (x0_1 : Int) (a0_2 : Option Addr) (l0_2 : Nat) (c0_2 : Nat) (a0_3 : Option Addr) (l0_3 : Nat) (c0_3 : Nat) (H : AHeap) : C (k + 1) 66 [.agg #[.slice a0_0 l0_0 c0_0, .int .i64 x0_1, .slice a0_2 l0_2 c0_2, .slice a0_3 l0_3 c0_3]] H =
  (alK none H ⟨[.slice a0_0 l0_0 c0_0, .int .i64 x0_1, .slice a0_2 l0_2 c0_2, .slice a0_3 l0_3 c0_3], 0, .rw, 0⟩ fun i H_1 =>
   alK none H_1 ⟨[.slice none 0 0, .int .i64 0, .slice none 0 0, .slice none 0 0], 0, .rw, 0⟩ fun i_1 H_2 =>
   bSl (ldSl H_2 i (0)) fun a l c =>
   cSl (C k 88 [.slice a l c] H_2) fun a_1 l_1 c_1 H_3 =>
   (AHeap.wr H_3 i (0) [.slice a_1 l_1 c_1]).bind fun H_4 =>
   bSl (ldSl H_4 i (0)) fun a_2 l_2 c_2 =>
   f66.L1 k k i i_1 (l_2 : Int) 0 [.agg #[.slice a0_0 l0_0 c0_0, .int .i64 x0_1, .slice a0_2 l0_2 c0_2, .slice a0_3 l0_3 c0_3], undef, .pointer (some ⟨i, 0, none⟩), .slice a l c, .slice a_1 l_1 c_1, .pointer (some ⟨i, 0, none⟩), .pointer (some ⟨i, 0, none⟩), .slice a_2 l_2 c_2, undef, undef, undef, undef, undef, undef, undef, undef, undef, undef, undef, undef, undef, undef, undef] H_4) := by kernel_rfl

/- f74 "interleave/interleaveref08.Copy"  names: 0:s 1:s 3:out 4:i -/
noncomputable def f74.Q0 (k : Nat)  : Kont (Value × AHeap) := retQ Try.prog Try.f74
noncomputable def f74.Q1 (k : Nat)  : Kont (Value × AHeap) := seqQ (gateC (Sub (bodyOf Try.f74) [1, 1, 0]) (Sub (bodyOf Try.f74) [1, 1, 1]) k (run Try.prog (C k) k (Sub (bodyOf Try.f74) [1, 1, 1]) (f74.Q0 k ))) (f74.Q0 k )
noncomputable def f74.Q2 (k : Nat)  : Kont (Value × AHeap) := blkQ 0 (f74.Q1 k )
noncomputable def f74.L1 (k : Nat) (n1 : Nat) (p1 : Nat) (p2 : Nat) (p3 : Nat) (x4 : Int) (D : List Value) (H : AHeap) : Option (Value × AHeap) :=
  iter (run Try.prog (C k) k (Sub (bodyOf Try.f74) [1, 1, 0, 1, 0, 0])) (f74.Q2 k ) n1 [(D.getD 0 undef), .pointer (some ⟨p1, 0, none⟩), .pointer (some ⟨p2, 0, none⟩), .pointer (some ⟨p3, 0, none⟩), .int .i64 x4, (D.getD 1 undef), (D.getD 2 undef), (D.getD 3 undef), (D.getD 4 undef), (D.getD 5 undef), (D.getD 6 undef), (D.getD 7 undef), (D.getD 8 undef), (D.getD 9 undef), (D.getD 10 undef), (D.getD 11 undef), (D.getD 12 undef), (D.getD 13 undef), (D.getD 14 undef), (D.getD 15 undef), (D.getD 16 undef), (D.getD 17 undef), (D.getD 18 undef), (D.getD 19 undef), (D.getD 20 undef), (D.getD 21 undef), (D.getD 22 undef), (D.getD 23 undef), (D.getD 24 undef), (D.getD 25 undef), (D.getD 26 undef), (D.getD 27 undef), (D.getD 28 undef), (D.getD 29 undef), (D.getD 30 undef), (D.getD 31 undef), (D.getD 32 undef), (D.getD 33 undef), (D.getD 34 undef), (D.getD 35 undef), (D.getD 36 undef), (D.getD 37 undef), (D.getD 38 undef), undef] H
theorem f74.L1_z (k : Nat)  (p1 : Nat) (p2 : Nat) (p3 : Nat) (x4 : Int) (D : List Value) (H : AHeap) : f74.L1 k 0 p1 p2 p3 x4 D H = none := by kernel_rfl
theorem f74.L1_s (k : Nat) (n1 : Nat) (p1 : Nat) (p2 : Nat) (p3 : Nat) (x4 : Int) (D : List Value) (H : AHeap) : f74.L1 k (n1 + 1) p1 p2 p3 x4 D H =
  (bSl (ldSl H p1 (0)) fun a l c =>
   bif (decide (x4 < (l : Int))) then
   alK (some (H.next + 8)) (H.bump 21) ⟨[], 1, .rw, 0⟩ fun i H_1 =>
   bif sameB H H_1 p1 then
   bSl (ldSl H_1 p1 (0)) fun a_1 l_1 c_1 =>
   a_1.bind fun q =>
   if 0 ≤ x4 ∧ x4 < (l_1 : Int) then
   bif sameB H H_1 q.block then
   bSl (ldSl H_1 q.block (q.off + x4.toNat * 2 + 1)) fun a_2 l_2 c_2 =>
   cSl (apndV Try.prog [26, 26] H_1 (.slice (some ⟨i, 0, none⟩) 0 0) (.slice a_2 l_2 c_2)) fun a_3 l_3 c_3 H_2 =>
   bif sameB H H_2 p3 then
   bSl (ldSl H_2 p3 (0)) fun a_4 l_4 c_4 =>
   bif sameB H H_2 p1 then
   bSl (ldSl H_2 p1 (0)) fun a_5 l_5 c_5 =>
   a_5.bind fun q_1 =>
   if 0 ≤ x4 ∧ x4 < (l_5 : Int) then
   bif sameB H H_2 q_1.block then
   (ldI .i64 H_2 q_1.block (q_1.off + x4.toNat * 2 + 0)).bind fun x =>
   alK (some (H.next + 17)) H_2 ⟨[.int .i64 x, .slice a_3 l_3 c_3], 2, .rw, 0⟩ fun i_1 H_3 =>
   cSl (apndV Try.prog [61, 61] H_3 (.slice a_4 l_4 c_4) (.slice (some ⟨i_1, 0, none⟩) 1 1)) fun a_6 l_6 c_6 H_4 =>
   (AHeap.wr H_4 p3 (0) [.slice a_6 l_6 c_6]).bind fun H_5 =>
   f74.L1 k n1 p1 p2 p3 (IntKind.i64.wrap (x4 + (1 : Int))) [(D.getD 0 undef), (D.getD 1 undef), (D.getD 2 undef), (D.getD 3 undef), (D.getD 4 undef), (D.getD 5 undef), (D.getD 6 undef), (D.getD 7 undef), (D.getD 8 undef), (D.getD 9 undef), (D.getD 10 undef), (D.getD 11 undef), .int .i64 x4, .pointer (some ⟨p1, 0, none⟩), .slice a l c, .int .i64 (l : Int), .bool (decide (x4 < (l : Int))), .int .i64 x4, .int .i64 (IntKind.i64.wrap (x4 + (1 : Int))), .pointer (some ⟨p3, 0, none⟩), .slice a_4 l_4 c_4, .pointer (some ⟨p1, 0, none⟩), .slice a_5 l_5 c_5, .int .i64 x4, .pointer (some ⟨q_1.block, q_1.off + x4.toNat * 2, none⟩), .pointer (some ⟨q_1.block, q_1.off + x4.toNat * 2 + 0, none⟩), .int .i64 x, .slice (some ⟨i, 0, none⟩) 0 0, .pointer (some ⟨p1, 0, none⟩), .slice a_1 l_1 c_1, .int .i64 x4, .pointer (some ⟨q.block, q.off + x4.toNat * 2, none⟩), .pointer (some ⟨q.block, q.off + x4.toNat * 2 + 1, none⟩), .slice a_2 l_2 c_2, .slice a_3 l_3 c_3, .agg #[.int .i64 x, .slice a_3 l_3 c_3], .slice (some ⟨i_1, 0, none⟩) 1 1, .slice a_6 l_6 c_6, .pointer (some ⟨p3, 0, none⟩)] H_5
   else none
   else none
   else none
   else none
   else none
   else none
   else none
   else
   (AHeap.row H p3 (0) 4).bind fun g =>
   if notTup (.agg (g : List Value).toArray) = true ∧ (g).length = 4 then
   (AHeap.wr H p2 (0) g).bind fun H_6 =>
   (AHeap.row H_6 p2 (0) 4).bind fun g_1 =>
   some (.agg (g_1 : List Value).toArray, H_6)
   else none) := by kernel_rfl
theorem f74_eq (k : Nat) (a0_0 : Option Addr) (l0_0 : Nat) (c0_0 : Nat) (x0_1 : Int) (a0_2 : Option Addr) (l0_2 : Nat) (c0_2 : Nat) (a0_3 : Option Addr) (l0_3 : Nat) (c0_3 : Nat) (H : AHeap) : C (k + 1) 74 [.agg #[.slice a0_0 l0_0 c0_0, .int .i64 x0_1, .slice a0_2 l0_2 c0_2, .slice a0_3 l0_3 c0_3]] H =
  (alK none H ⟨[.slice a0_0 l0_0 c0_0, .int .i64 x0_1, .slice a0_2 l0_2 c0_2, .slice a0_3 l0_3 c0_3], 0, .rw, 0⟩ fun i H_1 =>
   alK none H_1 ⟨[.slice none 0 0, .int .i64 0, .slice none 0 0, .slice none 0 0], 0, .rw, 0⟩ fun i_1 H_2 =>
   alK (some (H_2.next + 2)) (H_2.bump 13) ⟨[], 1, .rw, 0⟩ fun i_2 H_3 =>
   bif sameB H_2 H_3 i then
   bSl (ldSl H_3 i (2)) fun a l c =>
   cSl (apndV Try.prog [37, 37] H_3 (.slice (some ⟨i_2, 0, none⟩) 0 0) (.slice a l c)) fun a_1 l_1 c_1 H_4 =>
   alK (some (H_2.next + 6)) H_4 ⟨[], 3, .rw, 0⟩ fun i_3 H_5 =>
   bif sameB H_2 H_5 i then
   bSl (ldSl H_5 i (3)) fun a_2 l_2 c_2 =>
   cSl (apndV Try.prog [62, 62] H_5 (.slice (some ⟨i_3, 0, none⟩) 0 0) (.slice a_2 l_2 c_2)) fun a_3 l_3 c_3 H_6 =>
   bif sameB H_2 H_6 i then
   (ldI .i64 H_6 i (1)).bind fun x =>
   alK (some (H_2.next + 11)) H_6 ⟨[.slice none 0 0, .int .i64 0, .slice none 0 0, .slice none 0 0], 0, .rw, 0⟩ fun i_4 H_7 =>
   (AHeap.wr H_7 i_4 (0) [.slice none 0 0, .int .i64 x, .slice a_1 l_1 c_1, .slice a_3 l_3 c_3]).bind fun H_8 =>
   f74.L1 k k i i_1 i_4 0 [.agg #[.slice a0_0 l0_0 c0_0, .int .i64 x0_1, .slice a0_2 l0_2 c0_2, .slice a0_3 l0_3 c0_3], .pointer (some ⟨i, 1, none⟩), .int .i64 x, .slice (some ⟨i_2, 0, none⟩) 0 0, .pointer (some ⟨i, 2, none⟩), .slice a l c, .slice a_1 l_1 c_1, .slice (some ⟨i_3, 0, none⟩) 0 0, .pointer (some ⟨i, 3, none⟩), .slice a_2 l_2 c_2, .slice a_3 l_3 c_3, .agg #[.slice none 0 0, .int .i64 x, .slice a_1 l_1 c_1, .slice a_3 l_3 c_3], undef, undef, undef, undef, undef, undef, undef, undef, undef, undef, undef, undef, undef, undef, undef, undef, undef, undef, undef, undef, undef, undef, undef, undef, undef, undef, undef] H_8
   else none
   else none
   else none) := by kernel_rfl

/- f68 "interleave/object.waiting"  names: 0:s 1:c 2:s 3:c 5:l 6:t 7:x -/
noncomputable def f68.Q0 (k : Nat)  : Kont (Value × AHeap) := retQ Try.prog Try.f68
noncomputable def f68.Q1 (k : Nat)  : Kont (Value × AHeap) := seqQ (gateC (Sub (bodyOf Try.f68) [1, 1, 0]) (Sub (bodyOf Try.f68) [1, 1, 1]) k (run Try.prog (C k) k (Sub (bodyOf Try.f68) [1, 1, 1]) (f68.Q0 k ))) (f68.Q0 k )
noncomputable def f68.Q2 (k : Nat)  : Kont (Value × AHeap) := blkQ 0 (f68.Q1 k )
noncomputable def f68.L1 (k : Nat) (n1 : Nat) (x1 : Int) (a5 : Option Addr) (l5 : Nat) (c5 : Nat) (a9 : Option Addr) (l9 : Nat) (c9 : Nat) (x10 : Int) (x11 : Int) (D : List Value) (H : AHeap) : Option (Value × AHeap) :=
  iter (run Try.prog (C k) k (Sub (bodyOf Try.f68) [1, 1, 0, 1, 0, 0])) (f68.Q2 k ) n1 [(D.getD 0 undef), .int .i64 x1, (D.getD 1 undef), undef, (D.getD 2 undef), .slice a5 l5 c5, (D.getD 3 undef), (D.getD 4 undef), (D.getD 5 undef), .slice a9 l9 c9, .int .i64 x10, .int .i64 x11, (D.getD 6 undef), (D.getD 7 undef), (D.getD 8 undef), (D.getD 9 undef), (D.getD 10 undef), (D.getD 11 undef), (D.getD 12 undef), (D.getD 13 undef), (D.getD 14 undef), (D.getD 15 undef), (D.getD 16 undef), (D.getD 17 undef), (D.getD 18 undef), (D.getD 19 undef), (D.getD 20 undef), (D.getD 21 undef), (D.getD 22 undef), (D.getD 23 undef), undef] H
theorem f68.L1_z (k : Nat)  (x1 : Int) (a5 : Option Addr) (l5 : Nat) (c5 : Nat) (a9 : Option Addr) (l9 : Nat) (c9 : Nat) (x10 : Int) (x11 : Int) (D : List Value) (H : AHeap) : f68.L1 k 0 x1 a5 l5 c5 a9 l9 c9 x10 x11 D H = none := by kernel_rfl
theorem f68.L1_s (k : Nat) (n1 : Nat) (x1 : Int) (a5 : Option Addr) (l5 : Nat) (c5 : Nat) (a9 : Option Addr) (l9 : Nat) (c9 : Nat) (x10 : Int) (x11 : Int) (D : List Value) (H : AHeap) : f68.L1 k (n1 + 1) x1 a5 l5 c5 a9 l9 c9 x10 x11 D H =
  (bif (decide (x11 < x10)) then
   a9.bind fun q =>
   if 0 ≤ x11 ∧ x11 < (l9 : Int) then
   (AHeap.row H q.block (q.off + x11.toNat * 3) 3).bind fun g =>
   alK none H ⟨[.int .i64 0, .int .i64 0, .bool false], 0, .rw, 0⟩ fun i H_1 =>
   if notTup (.agg (g : List Value).toArray) = true ∧ (g).length = 3 then
   (AHeap.wr H_1 i (0) g).bind fun H_2 =>
   (ldI .i64 H_2 i (0)).bind fun x =>
   bif (x == (3 : Int)) then
   (ldI .i64 H_2 i (1)).bind fun x_1 =>
   bif (x_1 == x1) then
   alK none H_2 ⟨[.int .i64 x11], 1, .rw, 0⟩ fun i_1 H_3 =>
   cSl (apndV Try.prog [26, 26] H_3 (.slice a5 l5 c5) (.slice (some ⟨i_1, 0, none⟩) 1 1)) fun a l c H_4 =>
   f68.L1 k n1 x1 a l c a9 l9 c9 x10 (IntKind.i64.wrap (x11 + (1 : Int))) [(D.getD 0 undef), (D.getD 1 undef), (D.getD 2 undef), .int .i64 x11, .pointer (some ⟨i, 0, none⟩), (D.getD 5 undef), .bool (decide (x11 < x10)), .int .i64 x11, .pointer (some ⟨q.block, q.off + x11.toNat * 3, none⟩), .agg (g : List Value).toArray, .pointer (some ⟨i, 0, none⟩), .int .i64 x, .bool (x == (3 : Int)), .bool true, .pointer (some ⟨i, 1, none⟩), .int .i64 x_1, .int .i64 x1, .bool (x_1 == x1), .bool (x_1 == x1), .slice a5 l5 c5, .int .i64 x11, .slice (some ⟨i_1, 0, none⟩) 1 1, .slice a l c, .int .i64 (IntKind.i64.wrap (x11 + (1 : Int)))] H_4
   else
   f68.L1 k n1 x1 a5 l5 c5 a9 l9 c9 x10 (IntKind.i64.wrap (x11 + (1 : Int))) [(D.getD 0 undef), (D.getD 1 undef), (D.getD 2 undef), .int .i64 x11, .pointer (some ⟨i, 0, none⟩), (D.getD 5 undef), .bool (decide (x11 < x10)), .int .i64 x11, .pointer (some ⟨q.block, q.off + x11.toNat * 3, none⟩), .agg (g : List Value).toArray, .pointer (some ⟨i, 0, none⟩), .int .i64 x, .bool (x == (3 : Int)), .bool true, .pointer (some ⟨i, 1, none⟩), .int .i64 x_1, .int .i64 x1, .bool (x_1 == x1), .bool (x_1 == x1), (D.getD 19 undef), (D.getD 20 undef), (D.getD 21 undef), (D.getD 22 undef), .int .i64 (IntKind.i64.wrap (x11 + (1 : Int)))] H_2
   else
   f68.L1 k n1 x1 a5 l5 c5 a9 l9 c9 x10 (IntKind.i64.wrap (x11 + (1 : Int))) [(D.getD 0 undef), (D.getD 1 undef), (D.getD 2 undef), .int .i64 x11, .pointer (some ⟨i, 0, none⟩), (D.getD 5 undef), .bool (decide (x11 < x10)), .int .i64 x11, .pointer (some ⟨q.block, q.off + x11.toNat * 3, none⟩), .agg (g : List Value).toArray, .pointer (some ⟨i, 0, none⟩), .int .i64 x, .bool (x == (3 : Int)), .bool false, undef, undef, undef, undef, .bool false, (D.getD 19 undef), (D.getD 20 undef), (D.getD 21 undef), (D.getD 22 undef), .int .i64 (IntKind.i64.wrap (x11 + (1 : Int)))] H_2
   else none
   else none
   else
   some (.slice a5 l5 c5, H)) := by kernel_rfl
theorem f68_eq (k : Nat) (a0_0 : Option Addr) (l0_0 : Nat) (c0_0 : Nat) (x0_1 : Int) (a0_2 : Option Addr) (l0_2 : Nat) (c0_2 : Nat) (a0_3 : Option Addr) (l0_3 : Nat) (c0_3 : Nat) (x1 : Int) (H : AHeap) : C (k + 1) 68 [.agg #[.slice a0_0 l0_0 c0_0, .int .i64 x0_1, .slice a0_2 l0_2 c0_2, .slice a0_3 l0_3 c0_3], .int .i64 x1] H =
  (alK none H ⟨[.slice a0_0 l0_0 c0_0, .int .i64 x0_1, .slice a0_2 l0_2 c0_2, .slice a0_3 l0_3 c0_3], 0, .rw, 0⟩ fun i H_1 =>
   bSl (ldSl H_1 i (3)) fun a l c =>
   f68.L1 k k x1 none 0 0 a l c (l : Int) 0 [.agg #[.slice a0_0 l0_0 c0_0, .int .i64 x0_1, .slice a0_2 l0_2 c0_2, .slice a0_3 l0_3 c0_3], .pointer (some ⟨i, 0, none⟩), .slice none 0 0, undef, undef, .pointer (some ⟨i, 3, none⟩), undef, undef, undef, undef, undef, undef, undef, undef, undef, undef, undef, undef, undef, undef, undef, undef, undef, undef] H_1) := by kernel_rfl

/- f77 "interleave/interleaveref08.Waiting"  names: 0:s 1:cond 2:s 3:cond 5:l 6:i -/
noncomputable def f77.Q0 (k : Nat)  : Kont (Value × AHeap) := retQ Try.prog Try.f77
noncomputable def f77.Q1 (k : Nat)  : Kont (Value × AHeap) := seqQ (gateC (Sub (bodyOf Try.f77) [1, 1, 0]) (Sub (bodyOf Try.f77) [1, 1, 1]) k (run Try.prog (C k) k (Sub (bodyOf Try.f77) [1, 1, 1]) (f77.Q0 k ))) (f77.Q0 k )
noncomputable def f77.Q2 (k : Nat)  : Kont (Value × AHeap) := blkQ 0 (f77.Q1 k )
noncomputable def f77.L1 (k : Nat) (n1 : Nat) (x1 : Int) (p2 : Nat) (a5 : Option Addr) (l5 : Nat) (c5 : Nat) (x6 : Int) (D : List Value) (H : AHeap) : Option (Value × AHeap) :=
  iter (run Try.prog (C k) k (Sub (bodyOf Try.f77) [1, 1, 0, 1, 0, 0])) (f77.Q2 k ) n1 [(D.getD 0 undef), .int .i64 x1, .pointer (some ⟨p2, 0, none⟩), undef, (D.getD 1 undef), .slice a5 l5 c5, .int .i64 x6, (D.getD 2 undef), (D.getD 3 undef), (D.getD 4 undef), (D.getD 5 undef), (D.getD 6 undef), (D.getD 7 undef), (D.getD 8 undef), (D.getD 9 undef), (D.getD 10 undef), (D.getD 11 undef), (D.getD 12 undef), (D.getD 13 undef), (D.getD 14 undef), (D.getD 15 undef), (D.getD 16 undef), (D.getD 17 undef), (D.getD 18 undef), (D.getD 19 undef), (D.getD 20 undef), (D.getD 21 undef), (D.getD 22 undef), (D.getD 23 undef), (D.getD 24 undef), (D.getD 25 undef), (D.getD 26 undef), (D.getD 27 undef), (D.getD 28 undef), (D.getD 29 undef), undef] H
theorem f77.L1_z (k : Nat)  (x1 : Int) (p2 : Nat) (a5 : Option Addr) (l5 : Nat) (c5 : Nat) (x6 : Int) (D : List Value) (H : AHeap) : f77.L1 k 0 x1 p2 a5 l5 c5 x6 D H = none := by kernel_rfl
theorem f77.L1_s (k : Nat) (n1 : Nat) (x1 : Int) (p2 : Nat) (a5 : Option Addr) (l5 : Nat) (c5 : Nat) (x6 : Int) (D : List Value) (H : AHeap) : f77.L1 k (n1 + 1) x1 p2 a5 l5 c5 x6 D H =
  (bSl (ldSl H p2 (3)) fun a l c =>
   bif (decide (x6 < (l : Int))) then
   bSl (ldSl H p2 (3)) fun a_1 l_1 c_1 =>
   a_1.bind fun q =>
   if 0 ≤ x6 ∧ x6 < (l_1 : Int) then
   (ldI .i64 H q.block (q.off + x6.toNat * 3 + 0)).bind fun x =>
   bif (x == (3 : Int)) then
   bSl (ldSl H p2 (3)) fun a_2 l_2 c_2 =>
   a_2.bind fun q_1 =>
   if 0 ≤ x6 ∧ x6 < (l_2 : Int) then
   (ldI .i64 H q_1.block (q_1.off + x6.toNat * 3 + 1)).bind fun x_1 =>
   bif (x_1 == x1) then
   alK none H ⟨[.int .i64 x6], 1, .rw, 0⟩ fun i H_1 =>
   cSl (apndV Try.prog [26, 26] H_1 (.slice a5 l5 c5) (.slice (some ⟨i, 0, none⟩) 1 1)) fun a_3 l_3 c_3 H_2 =>
   f77.L1 k n1 x1 p2 a_3 l_3 c_3 (IntKind.i64.wrap (x6 + (1 : Int))) [(D.getD 0 undef), (D.getD 1 undef), .int .i64 x6, .pointer (some ⟨p2, 3, none⟩), .slice a l c, .int .i64 (l : Int), .bool (decide (x6 < (l : Int))), .int .i64 x6, .int .i64 (IntKind.i64.wrap (x6 + (1 : Int))), .pointer (some ⟨p2, 3, none⟩), .slice a_1 l_1 c_1, .int .i64 x6, .pointer (some ⟨q.block, q.off + x6.toNat * 3, none⟩), .pointer (some ⟨q.block, q.off + x6.toNat * 3 + 0, none⟩), .int .i64 x, .bool (x == (3 : Int)), .bool true, .pointer (some ⟨p2, 3, none⟩), .slice a_2 l_2 c_2, .int .i64 x6, .pointer (some ⟨q_1.block, q_1.off + x6.toNat * 3, none⟩), .pointer (some ⟨q_1.block, q_1.off + x6.toNat * 3 + 1, none⟩), .int .i64 x_1, .int .i64 x1, .bool (x_1 == x1), .bool (x_1 == x1), .slice a5 l5 c5, .int .i64 x6, .slice (some ⟨i, 0, none⟩) 1 1, .slice a_3 l_3 c_3] H_2
   else
   f77.L1 k n1 x1 p2 a5 l5 c5 (IntKind.i64.wrap (x6 + (1 : Int))) [(D.getD 0 undef), (D.getD 1 undef), .int .i64 x6, .pointer (some ⟨p2, 3, none⟩), .slice a l c, .int .i64 (l : Int), .bool (decide (x6 < (l : Int))), .int .i64 x6, .int .i64 (IntKind.i64.wrap (x6 + (1 : Int))), .pointer (some ⟨p2, 3, none⟩), .slice a_1 l_1 c_1, .int .i64 x6, .pointer (some ⟨q.block, q.off + x6.toNat * 3, none⟩), .pointer (some ⟨q.block, q.off + x6.toNat * 3 + 0, none⟩), .int .i64 x, .bool (x == (3 : Int)), .bool true, .pointer (some ⟨p2, 3, none⟩), .slice a_2 l_2 c_2, .int .i64 x6, .pointer (some ⟨q_1.block, q_1.off + x6.toNat * 3, none⟩), .pointer (some ⟨q_1.block, q_1.off + x6.toNat * 3 + 1, none⟩), .int .i64 x_1, .int .i64 x1, .bool (x_1 == x1), .bool (x_1 == x1), (D.getD 26 undef), (D.getD 27 undef), (D.getD 28 undef), (D.getD 29 undef)] H
   else none
   else
   f77.L1 k n1 x1 p2 a5 l5 c5 (IntKind.i64.wrap (x6 + (1 : Int))) [(D.getD 0 undef), (D.getD 1 undef), .int .i64 x6, .pointer (some ⟨p2, 3, none⟩), .slice a l c, .int .i64 (l : Int), .bool (decide (x6 < (l : Int))), .int .i64 x6, .int .i64 (IntKind.i64.wrap (x6 + (1 : Int))), .pointer (some ⟨p2, 3, none⟩), .slice a_1 l_1 c_1, .int .i64 x6, .pointer (some ⟨q.block, q.off + x6.toNat * 3, none⟩), .pointer (some ⟨q.block, q.off + x6.toNat * 3 + 0, none⟩), .int .i64 x, .bool (x == (3 : Int)), .bool false, undef, undef, undef, undef, undef, undef, undef, undef, .bool false, (D.getD 26 undef), (D.getD 27 undef), (D.getD 28 undef), (D.getD 29 undef)] H
   else none
   else
   some (.slice a5 l5 c5, H)) := by kernel_rfl
theorem f77_eq (k : Nat) (a0_0 : Option Addr) (l0_0 : Nat) (c0_0 : Nat) (x0_1 : Int) (a0_2 : Option Addr) (l0_2 : Nat) (c0_2 : Nat) (a0_3 : Option Addr) (l0_3 : Nat) (c0_3 : Nat) (x1 : Int) (H : AHeap) : C (k + 1) 77 [.agg #[.slice a0_0 l0_0 c0_0, .int .i64 x0_1, .slice a0_2 l0_2 c0_2, .slice a0_3 l0_3 c0_3], .int .i64 x1] H =
  (alK none H ⟨[.slice a0_0 l0_0 c0_0, .int .i64 x0_1, .slice a0_2 l0_2 c0_2, .slice a0_3 l0_3 c0_3], 0, .rw, 0⟩ fun i H_1 =>
   f77.L1 k k x1 i none 0 0 0 [.agg #[.slice a0_0 l0_0 c0_0, .int .i64 x0_1, .slice a0_2 l0_2 c0_2, .slice a0_3 l0_3 c0_3], .slice none 0 0, undef, undef, undef, undef, undef, undef, undef, undef, undef, undef, undef, undef, undef, undef, undef, undef, undef, undef, undef, undef, undef, undef, undef, undef, undef, undef, undef, undef] H_1) := by kernel_rfl

/- f67 "interleave/object.notify"  names: 0:s 1:c 2:wake 3:s 4:c 5:wake 7:l 8:t -/
theorem f67_eq (k : Nat) (a0_0 : Option Addr) (l0_0 : Nat) (c0_0 : Nat) (x0_1 : Int) (a0_2 : Option Addr) (l0_2 : Nat) (c0_2 : Nat) (a0_3 : Option Addr) (l0_3 : Nat) (c0_3 : Nat) (x1 : Int) (x2 : Int) (H : AHeap) : C (k + 1) 67 [.agg #[.slice a0_0 l0_0 c0_0, .int .i64 x0_1, .slice a0_2 l0_2 c0_2, .slice a0_3 l0_3 c0_3], .int .i64 x1, .int .i64 x2] H =
  (alK none H ⟨[.slice a0_0 l0_0 c0_0, .int .i64 x0_1, .slice a0_2 l0_2 c0_2, .slice a0_3 l0_3 c0_3], 0, .rw, 0⟩ fun i H_1 =>
   (AHeap.row H_1 i (0) 4).bind fun g =>
   cSl (C k 68 [.agg (g : List Value).toArray, .int .i64 x1] H_1) fun a l c H_2 =>
   bif ((l : Int) == (0 : Int)) then
   some (.int .i64 (-1), H_2)
   else
   a.bind fun q =>
   if 0 ≤ (0 : Int) ∧ (0 : Int) < (l : Int) then
   (ldI .i64 H_2 q.block (q.off + (0 : Int).toNat * 1)).bind fun x =>
   cB (C k 63 [.slice a l c, .int .i64 x2] H_2) fun b H_3 =>
   bif b then
   bSl (ldSl H_3 i (3)) fun a_1 l_1 c_1 =>
   a_1.bind fun q_1 =>
   if 0 ≤ x2 ∧ x2 < (l_1 : Int) then
   (AHeap.wr H_3 q_1.block (q_1.off + x2.toNat * 3 + 0) [.int .i64 4]).bind fun H_4 =>
   some (.int .i64 x2, H_4)
   else none
   else
   bSl (ldSl H_3 i (3)) fun a_2 l_2 c_2 =>
   a_2.bind fun q_2 =>
   if 0 ≤ x ∧ x < (l_2 : Int) then
   (AHeap.wr H_3 q_2.block (q_2.off + x.toNat * 3 + 0) [.int .i64 4]).bind fun H_5 =>
   some (.int .i64 x, H_5)
   else none
   else none) := by kernel_rfl

/- f95 "interleave/interleaveref07.Put"  names: 0:l 1:n 2:l 3:n 5:k 6:out -/
noncomputable def f95.Q0 (k : Nat)  : Kont (Value × AHeap) := retQ Try.prog Try.f95
noncomputable def f95.Q1 (k : Nat)  : Kont (Value × AHeap) := seqQ (gateC (Sub (bodyOf Try.f95) [1, 1, 0]) (Sub (bodyOf Try.f95) [1, 1, 1]) k (run Try.prog (C k) k (Sub (bodyOf Try.f95) [1, 1, 1]) (f95.Q0 k ))) (f95.Q0 k )
noncomputable def f95.Q2 (k : Nat)  : Kont (Value × AHeap) := blkQ 0 (f95.Q1 k )
noncomputable def f95.L1 (k : Nat) (n1 : Nat) (a0 : Option Addr) (l0 : Nat) (c0 : Nat) (x1 : Int) (x5 : Int) (D : List Value) (H : AHeap) : Option (Value × AHeap) :=
  iter (run Try.prog (C k) k (Sub (bodyOf Try.f95) [1, 1, 0, 0, 0])) (f95.Q2 k ) n1 [.slice a0 l0 c0, .int .i64 x1, undef, undef, (D.getD 0 undef), .int .i64 x5, undef, (D.getD 1 undef), (D.getD 2 undef), (D.getD 3 undef), (D.getD 4 undef), (D.getD 5 undef), (D.getD 6 undef), (D.getD 7 undef), (D.getD 8 undef), (D.getD 9 undef), (D.getD 10 undef), (D.getD 11 undef), (D.getD 12 undef), (D.getD 13 undef), (D.getD 14 undef), undef, undef, undef, undef, undef, undef, undef, undef, undef, undef, undef, undef, undef, undef, undef, undef, undef, undef, undef, undef, undef, undef, undef, undef, undef, undef, undef] H
noncomputable def f95.K1 (k : Nat)  (a0 : Option Addr) (l0 : Nat) (c0 : Nat) (x1 : Int) (x5 : Int) (D : List Value) (H : AHeap) : Option (Value × AHeap) :=
  gateC (Sub (bodyOf Try.f95) [1, 1, 1, 0]) (Sub (bodyOf Try.f95) [1, 1, 1, 1]) k (run Try.prog (C k) k (Sub (bodyOf Try.f95) [1, 1, 1, 1]) (f95.Q0 k )) [.slice a0 l0 c0, .int .i64 x1, undef, undef, (D.getD 0 undef), .int .i64 x5, undef, (D.getD 1 undef), (D.getD 2 undef), (D.getD 3 undef), (D.getD 4 undef), (D.getD 5 undef), (D.getD 6 undef), (D.getD 7 undef), (D.getD 8 undef), (D.getD 9 undef), (D.getD 10 undef), (D.getD 11 undef), (D.getD 12 undef), (D.getD 13 undef), (D.getD 14 undef), (D.getD 15 undef), (D.getD 16 undef), (D.getD 17 undef), (D.getD 18 undef), (D.getD 19 undef), (D.getD 20 undef), (D.getD 21 undef), (D.getD 22 undef), (D.getD 23 undef), (D.getD 24 undef), (D.getD 25 undef), (D.getD 26 undef), undef, undef, undef, undef, undef, undef, undef, undef, undef, undef, undef, undef, undef, undef, undef] H
theorem f95.L1_z (k : Nat)  (a0 : Option Addr) (l0 : Nat) (c0 : Nat) (x1 : Int) (x5 : Int) (D : List Value) (H : AHeap) : f95.L1 k 0 a0 l0 c0 x1 x5 D H = none := by kernel_rfl
theorem f95.L1_s (k : Nat) (n1 : Nat) (a0 : Option Addr) (l0 : Nat) (c0 : Nat) (x1 : Int) (x5 : Int) (D : List Value) (H : AHeap) : f95.L1 k (n1 + 1) a0 l0 c0 x1 x5 D H =
  (bif (decide (x5 < (l0 : Int))) then
   a0.bind fun q =>
   if 0 ≤ x5 ∧ x5 < (l0 : Int) then
   (ldI .i64 H q.block (q.off + x5.toNat * 1)).bind fun x =>
   bif (decide (x < x1)) then
   f95.L1 k n1 a0 l0 c0 x1 (IntKind.i64.wrap (x5 + (1 : Int))) [(D.getD 0 undef), .int .i64 x5, .slice a0 l0 c0, .int .i64 (l0 : Int), .bool (decide (x5 < (l0 : Int))), .bool true, .slice a0 l0 c0, .int .i64 x5, .pointer (some ⟨q.block, q.off + x5.toNat * 1, none⟩), .int .i64 x, .int .i64 x1, .bool (decide (x < x1)), .bool (decide (x < x1)), .int .i64 x5, .int .i64 (IntKind.i64.wrap (x5 + (1 : Int)))] H
   else
   bif (decide (x5 < (l0 : Int))) then
   a0.bind fun q_1 =>
   if 0 ≤ x5 ∧ x5 < (l0 : Int) then
   (ldI .i64 H q_1.block (q_1.off + x5.toNat * 1)).bind fun x_1 =>
   bif (x_1 == x1) then
   some (.slice a0 l0 c0, H)
   else
   f95.K1 k a0 l0 c0 x1 x5 [(D.getD 0 undef), .int .i64 x5, .slice a0 l0 c0, .int .i64 (l0 : Int), .bool (decide (x5 < (l0 : Int))), .bool true, .slice a0 l0 c0, .int .i64 x5, .pointer (some ⟨q.block, q.off + x5.toNat * 1, none⟩), .int .i64 x, .int .i64 x1, .bool (decide (x < x1)), .bool (decide (x < x1)), (D.getD 13 undef), (D.getD 14 undef), .int .i64 x5, .slice a0 l0 c0, .int .i64 (l0 : Int), .bool (decide (x5 < (l0 : Int))), .bool true, .slice a0 l0 c0, .int .i64 x5, .pointer (some ⟨q_1.block, q_1.off + x5.toNat * 1, none⟩), .int .i64 x_1, .int .i64 x1, .bool (x_1 == x1), .bool (x_1 == x1)] H
   else none
   else
   f95.K1 k a0 l0 c0 x1 x5 [(D.getD 0 undef), .int .i64 x5, .slice a0 l0 c0, .int .i64 (l0 : Int), .bool (decide (x5 < (l0 : Int))), .bool true, .slice a0 l0 c0, .int .i64 x5, .pointer (some ⟨q.block, q.off + x5.toNat * 1, none⟩), .int .i64 x, .int .i64 x1, .bool (decide (x < x1)), .bool (decide (x < x1)), (D.getD 13 undef), (D.getD 14 undef), .int .i64 x5, .slice a0 l0 c0, .int .i64 (l0 : Int), .bool (decide (x5 < (l0 : Int))), .bool false, undef, undef, undef, undef, undef, undef, .bool false] H
   else none
   else
   bif (decide (x5 < (l0 : Int))) then
   a0.bind fun q_2 =>
   if 0 ≤ x5 ∧ x5 < (l0 : Int) then
   (ldI .i64 H q_2.block (q_2.off + x5.toNat * 1)).bind fun x_2 =>
   bif (x_2 == x1) then
   some (.slice a0 l0 c0, H)
   else
   f95.K1 k a0 l0 c0 x1 x5 [(D.getD 0 undef), .int .i64 x5, .slice a0 l0 c0, .int .i64 (l0 : Int), .bool (decide (x5 < (l0 : Int))), .bool false, undef, undef, undef, undef, undef, undef, .bool false, (D.getD 13 undef), (D.getD 14 undef), .int .i64 x5, .slice a0 l0 c0, .int .i64 (l0 : Int), .bool (decide (x5 < (l0 : Int))), .bool true, .slice a0 l0 c0, .int .i64 x5, .pointer (some ⟨q_2.block, q_2.off + x5.toNat * 1, none⟩), .int .i64 x_2, .int .i64 x1, .bool (x_2 == x1), .bool (x_2 == x1)] H
   else none
   else
   f95.K1 k a0 l0 c0 x1 x5 [(D.getD 0 undef), .int .i64 x5, .slice a0 l0 c0, .int .i64 (l0 : Int), .bool (decide (x5 < (l0 : Int))), .bool false, undef, undef, undef, undef, undef, undef, .bool false, (D.getD 13 undef), (D.getD 14 undef), .int .i64 x5, .slice a0 l0 c0, .int .i64 (l0 : Int), .bool (decide (x5 < (l0 : Int))), .bool false, undef, undef, undef, undef, undef, undef, .bool false] H) := by kernel_rfl
theorem f95.K1_eq (k : Nat)  (a0 : Option Addr) (l0 : Nat) (c0 : Nat) (x1 : Int) (x5 : Int) (D : List Value) (H : AHeap) : f95.K1 k  a0 l0 c0 x1 x5 D H =
  (alK none H ⟨[], 1, .rw, 0⟩ fun i H_1 =>
   bSl (cutSl 1 a0 l0 c0 none (some x5) none) fun a l c =>
   cSl (apndV Try.prog [26, 26] H_1 (.slice (some ⟨i, 0, none⟩) 0 0) (.slice a l c)) fun a_1 l_1 c_1 H_2 =>
   alK none H_2 ⟨[.int .i64 x1], 1, .rw, 0⟩ fun i_1 H_3 =>
   cSl (apndV Try.prog [26, 26] H_3 (.slice a_1 l_1 c_1) (.slice (some ⟨i_1, 0, none⟩) 1 1)) fun a_2 l_2 c_2 H_4 =>
   bSl (cutSl 1 a0 l0 c0 (some x5) none none) fun a_3 l_3 c_3 =>
   cSl (apndV Try.prog [26, 26] H_4 (.slice a_2 l_2 c_2) (.slice a_3 l_3 c_3)) fun a_4 l_4 c_4 H_5 =>
   some (.slice a_4 l_4 c_4, H_5)) := by
  unfold f95.K1
  rw [gateC_eq]
  kernel_rfl
theorem f95_eq (k : Nat) (a0 : Option Addr) (l0 : Nat) (c0 : Nat) (x1 : Int) (H : AHeap) : C (k + 1) 95 [.slice a0 l0 c0, .int .i64 x1] H =
  (f95.L1 k k a0 l0 c0 x1 0 [.slice none 0 0, undef, undef, undef, undef, undef, undef, undef, undef, undef, undef, undef, undef, undef, undef] H) := by kernel_rfl

/- f75 "interleave/interleaveref07.Union"  names: 0:a 1:b 2:a 3:b 5:out 6:i 7:i -/
noncomputable def f75.Q0 (k : Nat)  : Kont (Value × AHeap) := retQ Try.prog Try.f75
noncomputable def f75.Q1 (k : Nat)  : Kont (Value × AHeap) := seqQ (gateC (Sub (bodyOf Try.f75) [1, 1, 0]) (Sub (bodyOf Try.f75) [1, 1, 1]) k (run Try.prog (C k) k (Sub (bodyOf Try.f75) [1, 1, 1]) (f75.Q0 k ))) (f75.Q0 k )
noncomputable def f75.Q2 (k : Nat)  : Kont (Value × AHeap) := blkQ 0 (f75.Q1 k )
noncomputable def f75.Q3 (k : Nat)  : Kont (Value × AHeap) := seqQ (gateC (Sub (bodyOf Try.f75) [1, 1, 1, 0]) (Sub (bodyOf Try.f75) [1, 1, 1, 1]) k (run Try.prog (C k) k (Sub (bodyOf Try.f75) [1, 1, 1, 1]) (f75.Q0 k ))) (f75.Q0 k )
noncomputable def f75.Q4 (k : Nat)  : Kont (Value × AHeap) := blkQ 2 (f75.Q3 k )
noncomputable def f75.L1 (k : Nat) (n1 : Nat) (a0 : Option Addr) (l0 : Nat) (c0 : Nat) (a1 : Option Addr) (l1 : Nat) (c1 : Nat) (a5 : Option Addr) (l5 : Nat) (c5 : Nat) (x6 : Int) (D : List Value) (H : AHeap) : Option (Value × AHeap) :=
  iter (run Try.prog (C k) k (Sub (bodyOf Try.f75) [1, 1, 0, 1, 0, 0])) (f75.Q2 k ) n1 [.slice a0 l0 c0, .slice a1 l1 c1, undef, undef, (D.getD 0 undef), .slice a5 l5 c5, .int .i64 x6, undef, (D.getD 1 undef), (D.getD 2 undef), (D.getD 3 undef), (D.getD 4 undef), (D.getD 5 undef), (D.getD 6 undef), (D.getD 7 undef), (D.getD 8 undef), (D.getD 9 undef), (D.getD 10 undef), (D.getD 11 undef), (D.getD 12 undef), undef, undef, undef, undef, undef, undef, undef, undef, undef, undef, undef, undef, undef] H
noncomputable def f75.L2 (k : Nat) (n1 : Nat) (a1 : Option Addr) (l1 : Nat) (c1 : Nat) (a5 : Option Addr) (l5 : Nat) (c5 : Nat) (x7 : Int) (D : List Value) (H : AHeap) : Option (Value × AHeap) :=
  iter (run Try.prog (C k) k (Sub (bodyOf Try.f75) [1, 1, 1, 0, 1, 0, 0])) (f75.Q4 k ) n1 [(D.getD 0 undef), .slice a1 l1 c1, undef, undef, (D.getD 1 undef), .slice a5 l5 c5, (D.getD 2 undef), .int .i64 x7, (D.getD 3 undef), (D.getD 4 undef), (D.getD 5 undef), (D.getD 6 undef), (D.getD 7 undef), (D.getD 8 undef), (D.getD 9 undef), (D.getD 10 undef), (D.getD 11 undef), (D.getD 12 undef), (D.getD 13 undef), (D.getD 14 undef), (D.getD 15 undef), (D.getD 16 undef), (D.getD 17 undef), (D.getD 18 undef), (D.getD 19 undef), (D.getD 20 undef), (D.getD 21 undef), (D.getD 22 undef), (D.getD 23 undef), (D.getD 24 undef), (D.getD 25 undef), (D.getD 26 undef), undef] H
theorem f75.L1_z (k : Nat)  (a0 : Option Addr) (l0 : Nat) (c0 : Nat) (a1 : Option Addr) (l1 : Nat) (c1 : Nat) (a5 : Option Addr) (l5 : Nat) (c5 : Nat) (x6 : Int) (D : List Value) (H : AHeap) : f75.L1 k 0 a0 l0 c0 a1 l1 c1 a5 l5 c5 x6 D H = none := by kernel_rfl
theorem f75.L1_s (k : Nat) (n1 : Nat) (a0 : Option Addr) (l0 : Nat) (c0 : Nat) (a1 : Option Addr) (l1 : Nat) (c1 : Nat) (a5 : Option Addr) (l5 : Nat) (c5 : Nat) (x6 : Int) (D : List Value) (H : AHeap) : f75.L1 k (n1 + 1) a0 l0 c0 a1 l1 c1 a5 l5 c5 x6 D H =
  (bif (decide (x6 < (l0 : Int))) then
   a0.bind fun q =>
   if 0 ≤ x6 ∧ x6 < (l0 : Int) then
   (ldI .i64 H q.block (q.off + x6.toNat * 1)).bind fun x =>
   cSl (C k 95 [.slice a5 l5 c5, .int .i64 x] H) fun a l c H_1 =>
   f75.L1 k n1 a0 l0 c0 a1 l1 c1 a l c (IntKind.i64.wrap (x6 + (1 : Int))) [(D.getD 0 undef), .int .i64 x6, .slice a0 l0 c0, .int .i64 (l0 : Int), .bool (decide (x6 < (l0 : Int))), .int .i64 x6, .int .i64 (IntKind.i64.wrap (x6 + (1 : Int))), .slice a5 l5 c5, .slice a0 l0 c0, .int .i64 x6, .pointer (some ⟨q.block, q.off + x6.toNat * 1, none⟩), .int .i64 x, .slice a l c] H_1
   else none
   else
   f75.L2 k k a1 l1 c1 a5 l5 c5 0 [.slice a0 l0 c0, (D.getD 0 undef), .int .i64 x6, .int .i64 x6, .slice a0 l0 c0, .int .i64 (l0 : Int), .bool (decide (x6 < (l0 : Int))), (D.getD 5 undef), (D.getD 6 undef), (D.getD 7 undef), (D.getD 8 undef), (D.getD 9 undef), (D.getD 10 undef), (D.getD 11 undef), (D.getD 12 undef), undef, undef, undef, undef, undef, undef, undef, undef, undef, undef, undef, undef] H) := by kernel_rfl
theorem f75.L2_z (k : Nat)  (a1 : Option Addr) (l1 : Nat) (c1 : Nat) (a5 : Option Addr) (l5 : Nat) (c5 : Nat) (x7 : Int) (D : List Value) (H : AHeap) : f75.L2 k 0 a1 l1 c1 a5 l5 c5 x7 D H = none := by kernel_rfl
theorem f75.L2_s (k : Nat) (n1 : Nat) (a1 : Option Addr) (l1 : Nat) (c1 : Nat) (a5 : Option Addr) (l5 : Nat) (c5 : Nat) (x7 : Int) (D : List Value) (H : AHeap) : f75.L2 k (n1 + 1) a1 l1 c1 a5 l5 c5 x7 D H =
  (bif (decide (x7 < (l1 : Int))) then
   a1.bind fun q =>
   if 0 ≤ x7 ∧ x7 < (l1 : Int) then
   (ldI .i64 H q.block (q.off + x7.toNat * 1)).bind fun x =>
   cSl (C k 95 [.slice a5 l5 c5, .int .i64 x] H) fun a l c H_1 =>
   f75.L2 k n1 a1 l1 c1 a l c (IntKind.i64.wrap (x7 + (1 : Int))) [(D.getD 0 undef), (D.getD 1 undef), (D.getD 2 undef), (D.getD 3 undef), (D.getD 4 undef), (D.getD 5 undef), (D.getD 6 undef), (D.getD 7 undef), (D.getD 8 undef), (D.getD 9 undef), (D.getD 10 undef), (D.getD 11 undef), (D.getD 12 undef), (D.getD 13 undef), (D.getD 14 undef), .int .i64 x7, .slice a1 l1 c1, .int .i64 (l1 : Int), .bool (decide (x7 < (l1 : Int))), .int .i64 x7, .int .i64 (IntKind.i64.wrap (x7 + (1 : Int))), .slice a5 l5 c5, .slice a1 l1 c1, .int .i64 x7, .pointer (some ⟨q.block, q.off + x7.toNat * 1, none⟩), .int .i64 x, .slice a l c] H_1
   else none
   else
   some (.slice a5 l5 c5, H)) := by kernel_rfl
theorem f75_eq (k : Nat) (a0 : Option Addr) (l0 : Nat) (c0 : Nat) (a1 : Option Addr) (l1 : Nat) (c1 : Nat) (H : AHeap) : C (k + 1) 75 [.slice a0 l0 c0, .slice a1 l1 c1] H =
  (f75.L1 k k a0 l0 c0 a1 l1 c1 none 0 0 0 [.slice none 0 0, undef, undef, undef, undef, undef, undef, undef, undef, undef, undef, undef, undef] H) := by kernel_rfl

/- f76 "interleave/interleaveref08.without"  names: 0:l 1:n 2:l 3:n 5:out 6:i -/
noncomputable def f76.Q0 (k : Nat)  : Kont (Value × AHeap) := retQ Try.prog Try.f76
noncomputable def f76.Q1 (k : Nat)  : Kont (Value × AHeap) := seqQ (gateC (Sub (bodyOf Try.f76) [1, 1, 0]) (Sub (bodyOf Try.f76) [1, 1, 1]) k (run Try.prog (C k) k (Sub (bodyOf Try.f76) [1, 1, 1]) (f76.Q0 k ))) (f76.Q0 k )
noncomputable def f76.Q2 (k : Nat)  : Kont (Value × AHeap) := blkQ 0 (f76.Q1 k )
noncomputable def f76.L1 (k : Nat) (n1 : Nat) (a0 : Option Addr) (l0 : Nat) (c0 : Nat) (x1 : Int) (a5 : Option Addr) (l5 : Nat) (c5 : Nat) (x6 : Int) (D : List Value) (H : AHeap) : Option (Value × AHeap) :=
  iter (run Try.prog (C k) k (Sub (bodyOf Try.f76) [1, 1, 0, 1, 0, 0])) (f76.Q2 k ) n1 [.slice a0 l0 c0, .int .i64 x1, undef, undef, (D.getD 0 undef), .slice a5 l5 c5, .int .i64 x6, (D.getD 1 undef), (D.getD 2 undef), (D.getD 3 undef), (D.getD 4 undef), (D.getD 5 undef), (D.getD 6 undef), (D.getD 7 undef), (D.getD 8 undef), (D.getD 9 undef), (D.getD 10 undef), (D.getD 11 undef), (D.getD 12 undef), (D.getD 13 undef), (D.getD 14 undef), (D.getD 15 undef), (D.getD 16 undef), (D.getD 17 undef), (D.getD 18 undef), (D.getD 19 undef), undef] H
theorem f76.L1_z (k : Nat)  (a0 : Option Addr) (l0 : Nat) (c0 : Nat) (x1 : Int) (a5 : Option Addr) (l5 : Nat) (c5 : Nat) (x6 : Int) (D : List Value) (H : AHeap) : f76.L1 k 0 a0 l0 c0 x1 a5 l5 c5 x6 D H = none := by kernel_rfl
theorem f76.L1_s (k : Nat) (n1 : Nat) (a0 : Option Addr) (l0 : Nat) (c0 : Nat) (x1 : Int) (a5 : Option Addr) (l5 : Nat) (c5 : Nat) (x6 : Int) (D : List Value) (H : AHeap) : f76.L1 k (n1 + 1) a0 l0 c0 x1 a5 l5 c5 x6 D H =
  (bif (decide (x6 < (l0 : Int))) then
   a0.bind fun q =>
   if 0 ≤ x6 ∧ x6 < (l0 : Int) then
   (ldI .i64 H q.block (q.off + x6.toNat * 1)).bind fun x =>
   bif (x != x1) then
   a0.bind fun q_1 =>
   if 0 ≤ x6 ∧ x6 < (l0 : Int) then
   (ldI .i64 H q_1.block (q_1.off + x6.toNat * 1)).bind fun x_1 =>
   alK none H ⟨[.int .i64 x_1], 1, .rw, 0⟩ fun i H_1 =>
   cSl (apndV Try.prog [26, 26] H_1 (.slice a5 l5 c5) (.slice (some ⟨i, 0, none⟩) 1 1)) fun a l c H_2 =>
   f76.L1 k n1 a0 l0 c0 x1 a l c (IntKind.i64.wrap (x6 + (1 : Int))) [(D.getD 0 undef), .int .i64 x6, .slice a0 l0 c0, .int .i64 (l0 : Int), .bool (decide (x6 < (l0 : Int))), .int .i64 x6, .int .i64 (IntKind.i64.wrap (x6 + (1 : Int))), .slice a0 l0 c0, .int .i64 x6, .pointer (some ⟨q.block, q.off + x6.toNat * 1, none⟩), .int .i64 x, .int .i64 x1, .bool (x != x1), .slice a5 l5 c5, .slice a0 l0 c0, .int .i64 x6, .pointer (some ⟨q_1.block, q_1.off + x6.toNat * 1, none⟩), .int .i64 x_1, .slice (some ⟨i, 0, none⟩) 1 1, .slice a l c] H_2
   else none
   else
   f76.L1 k n1 a0 l0 c0 x1 a5 l5 c5 (IntKind.i64.wrap (x6 + (1 : Int))) [(D.getD 0 undef), .int .i64 x6, .slice a0 l0 c0, .int .i64 (l0 : Int), .bool (decide (x6 < (l0 : Int))), .int .i64 x6, .int .i64 (IntKind.i64.wrap (x6 + (1 : Int))), .slice a0 l0 c0, .int .i64 x6, .pointer (some ⟨q.block, q.off + x6.toNat * 1, none⟩), .int .i64 x, .int .i64 x1, .bool (x != x1), (D.getD 13 undef), (D.getD 14 undef), (D.getD 15 undef), (D.getD 16 undef), (D.getD 17 undef), (D.getD 18 undef), (D.getD 19 undef)] H
   else none
   else
   some (.slice a5 l5 c5, H)) := by kernel_rfl
theorem f76_eq (k : Nat) (a0 : Option Addr) (l0 : Nat) (c0 : Nat) (x1 : Int) (H : AHeap) : C (k + 1) 76 [.slice a0 l0 c0, .int .i64 x1] H =
  (f76.L1 k k a0 l0 c0 x1 none 0 0 0 [.slice none 0 0, undef, undef, undef, undef, undef, undef, undef, undef, undef, undef, undef, undef, undef, undef, undef, undef, undef, undef, undef] H) := by kernel_rfl

/- f91 "interleave/object.own$1"  names: 0:r 2:r -/
theorem f91_eq (k : Nat) (x0 : Int) (pc0 : Nat) (H : AHeap) : C (k + 1) 91 [.int .i64 x0, .pointer (some ⟨pc0, 0, none⟩)] H =
  ((ldI .i64 H pc0 (0)).bind fun x =>
   some (.bool (x0 == x), H)) := by kernel_rfl

/- f81x91 "slices.DeleteFunc[[]int,int]"  names: 0:s 1:del 2:s 3:del 5:i 6:j 7:v -/
noncomputable def f81x91.Q0 (k : Nat)  : Kont (Value × AHeap) := retQ Try.prog Try.f81
noncomputable def f81x91.Q1 (k : Nat)  : Kont (Value × AHeap) := seqQ (gateC (Sub (bodyOf Try.f81) [1, 1, 1, 0]) (Sub (bodyOf Try.f81) [1, 1, 1, 1]) k (run Try.prog (C k) k (Sub (bodyOf Try.f81) [1, 1, 1, 1]) (f81x91.Q0 k ))) (f81x91.Q0 k )
noncomputable def f81x91.Q2 (k : Nat)  : Kont (Value × AHeap) := blkQ 0 (f81x91.Q1 k )
noncomputable def f81x91.L1 (k : Nat) (n1 : Nat) (a0 : Option Addr) (l0 : Nat) (c0 : Nat) (p1_0 : Nat) (x5 : Int) (x6 : Int) (D : List Value) (H : AHeap) : Option (Value × AHeap) :=
  iter (run Try.prog (C k) k (Sub (bodyOf Try.f81) [1, 1, 1, 0, 1, 0, 0])) (f81x91.Q2 k ) n1 [.slice a0 l0 c0, .func (.func 91) #[] #[.pointer (some ⟨p1_0, 0, none⟩)], undef, undef, (D.getD 0 undef), .int .i64 x5, .int .i64 x6, (D.getD 1 undef), (D.getD 2 undef), (D.getD 3 undef), (D.getD 4 undef), (D.getD 5 undef), (D.getD 6 undef), undef, (D.getD 7 undef), (D.getD 8 undef), (D.getD 9 undef), (D.getD 10 undef), (D.getD 11 undef), (D.getD 12 undef), (D.getD 13 undef), (D.getD 14 undef), (D.getD 15 undef), (D.getD 16 undef), (D.getD 17 undef), (D.getD 18 undef), (D.getD 19 undef), (D.getD 20 undef), (D.getD 21 undef), (D.getD 22 undef), (D.getD 23 undef), (D.getD 24 undef), (D.getD 25 undef), (D.getD 26 undef), (D.getD 27 undef), (D.getD 28 undef), undef, undef, undef, undef, undef, undef] H
theorem f81x91.L1_z (k : Nat)  (a0 : Option Addr) (l0 : Nat) (c0 : Nat) (p1_0 : Nat) (x5 : Int) (x6 : Int) (D : List Value) (H : AHeap) : f81x91.L1 k 0 a0 l0 c0 p1_0 x5 x6 D H = none := by kernel_rfl
theorem f81x91.L1_s (k : Nat) (n1 : Nat) (a0 : Option Addr) (l0 : Nat) (c0 : Nat) (p1_0 : Nat) (x5 : Int) (x6 : Int) (D : List Value) (H : AHeap) : f81x91.L1 k (n1 + 1) a0 l0 c0 p1_0 x5 x6 D H =
  (bif (decide (x6 < (l0 : Int))) then
   a0.bind fun q =>
   if 0 ≤ x6 ∧ x6 < (l0 : Int) then
   (ldI .i64 H q.block (q.off + x6.toNat * 1)).bind fun x =>
   cB (C k 91 [.int .i64 x, .pointer (some ⟨p1_0, 0, none⟩)] H) fun b H_1 =>
   bif (!b) then
   a0.bind fun q_1 =>
   if 0 ≤ x5 ∧ x5 < (l0 : Int) then
   (AHeap.wr H_1 q_1.block (q_1.off + x5.toNat * 1) [.int .i64 x]).bind fun H_2 =>
   f81x91.L1 k n1 a0 l0 c0 p1_0 (IntKind.i64.wrap (x5 + (1 : Int))) (IntKind.i64.wrap (x6 + (1 : Int))) [(D.getD 0 undef), .int .i64 x, (D.getD 2 undef), (D.getD 3 undef), (D.getD 4 undef), (D.getD 5 undef), (D.getD 6 undef), (D.getD 7 undef), (D.getD 8 undef), .int .i64 x6, .slice a0 l0 c0, .int .i64 (l0 : Int), .bool (decide (x6 < (l0 : Int))), .int .i64 x6, .int .i64 (IntKind.i64.wrap (x6 + (1 : Int))), .slice a0 l0 c0, .int .i64 x6, .pointer (some ⟨q.block, q.off + x6.toNat * 1, none⟩), .int .i64 x, .func (.func 91) #[] #[.pointer (some ⟨p1_0, 0, none⟩)], .int .i64 x, .bool b, .bool (!b), .slice a0 l0 c0, .int .i64 x5, .int .i64 x, .pointer (some ⟨q_1.block, q_1.off + x5.toNat * 1, none⟩), .int .i64 x5, .int .i64 (IntKind.i64.wrap (x5 + (1 : Int)))] H_2
   else none
   else
   f81x91.L1 k n1 a0 l0 c0 p1_0 x5 (IntKind.i64.wrap (x6 + (1 : Int))) [(D.getD 0 undef), .int .i64 x, (D.getD 2 undef), (D.getD 3 undef), (D.getD 4 undef), (D.getD 5 undef), (D.getD 6 undef), (D.getD 7 undef), (D.getD 8 undef), .int .i64 x6, .slice a0 l0 c0, .int .i64 (l0 : Int), .bool (decide (x6 < (l0 : Int))), .int .i64 x6, .int .i64 (IntKind.i64.wrap (x6 + (1 : Int))), .slice a0 l0 c0, .int .i64 x6, .pointer (some ⟨q.block, q.off + x6.toNat * 1, none⟩), .int .i64 x, .func (.func 91) #[] #[.pointer (some ⟨p1_0, 0, none⟩)], .int .i64 x, .bool b, .bool (!b), (D.getD 23 undef), (D.getD 24 undef), (D.getD 25 undef), (D.getD 26 undef), (D.getD 27 undef), (D.getD 28 undef)] H_1
   else none
   else
   bSl (cutSl 1 a0 l0 c0 (some x5) none none) fun a l c =>
   (clearV Try.prog [26] H (.slice a l c)).bind fun H_3 =>
   bSl (cutSl 1 a0 l0 c0 none (some x5) none) fun a_1 l_1 c_1 =>
   some (.slice a_1 l_1 c_1, H_3)) := by kernel_rfl
theorem f81x91_eq (k : Nat) (a0 : Option Addr) (l0 : Nat) (c0 : Nat) (pc0 : Nat) (H : AHeap) : C (k + 1) 81 [.slice a0 l0 c0, .func (.func 91) #[] #[.pointer (some ⟨pc0, 0, none⟩)]] H =
  (cI .i64 (C k 86 [.slice a0 l0 c0, .func (.func 91) #[] #[.pointer (some ⟨pc0, 0, none⟩)]] H) fun x H_1 =>
   bif (x == ((-1) : Int)) then
   some (.slice a0 l0 c0, H_1)
   else
   f81x91.L1 k k a0 l0 c0 pc0 x (IntKind.i64.wrap (x + (1 : Int))) [.slice none 0 0, undef, .slice a0 l0 c0, .func (.func 91) #[] #[.pointer (some ⟨pc0, 0, none⟩)], .int .i64 x, .int .i64 x, .bool (x == ((-1) : Int)), .int .i64 x, .int .i64 (IntKind.i64.wrap (x + (1 : Int))), undef, undef, undef, undef, undef, undef, undef, undef, undef, undef, undef, undef, undef, undef, undef, undef, undef, undef, undef, undef] H_1) := by kernel_rfl

/- f86x91 "slices.IndexFunc[[]int,int]"  names: 0:s 1:f 2:s 3:f 5:i -/
noncomputable def f86x91.Q0 (k : Nat)  : Kont (Value × AHeap) := retQ Try.prog Try.f86
noncomputable def f86x91.Q1 (k : Nat)  : Kont (Value × AHeap) := seqQ (gateC (Sub (bodyOf Try.f86) [1, 0]) (Sub (bodyOf Try.f86) [1, 1]) k (run Try.prog (C k) k (Sub (bodyOf Try.f86) [1, 1]) (f86x91.Q0 k ))) (f86x91.Q0 k )
noncomputable def f86x91.Q2 (k : Nat)  : Kont (Value × AHeap) := blkQ 0 (f86x91.Q1 k )
noncomputable def f86x91.L1 (k : Nat) (n1 : Nat) (a0 : Option Addr) (l0 : Nat) (c0 : Nat) (p1_0 : Nat) (x7 : Int) (x8 : Int) (D : List Value) (H : AHeap) : Option (Value × AHeap) :=
  iter (run Try.prog (C k) k (Sub (bodyOf Try.f86) [1, 0, 1, 0, 0])) (f86x91.Q2 k ) n1 [.slice a0 l0 c0, .func (.func 91) #[] #[.pointer (some ⟨p1_0, 0, none⟩)], undef, undef, (D.getD 0 undef), (D.getD 1 undef), (D.getD 2 undef), .int .i64 x7, .int .i64 x8, (D.getD 3 undef), (D.getD 4 undef), (D.getD 5 undef), (D.getD 6 undef), (D.getD 7 undef), (D.getD 8 undef), (D.getD 9 undef), (D.getD 10 undef), undef, (D.getD 11 undef)] H
theorem f86x91.L1_z (k : Nat)  (a0 : Option Addr) (l0 : Nat) (c0 : Nat) (p1_0 : Nat) (x7 : Int) (x8 : Int) (D : List Value) (H : AHeap) : f86x91.L1 k 0 a0 l0 c0 p1_0 x7 x8 D H = none := by kernel_rfl
theorem f86x91.L1_s (k : Nat) (n1 : Nat) (a0 : Option Addr) (l0 : Nat) (c0 : Nat) (p1_0 : Nat) (x7 : Int) (x8 : Int) (D : List Value) (H : AHeap) : f86x91.L1 k (n1 + 1) a0 l0 c0 p1_0 x7 x8 D H =
  (bif (decide (x8 < x7)) then
   a0.bind fun q =>
   if 0 ≤ x8 ∧ x8 < (l0 : Int) then
   (ldI .i64 H q.block (q.off + x8.toNat * 1)).bind fun x =>
   cB (C k 91 [.int .i64 x, .pointer (some ⟨p1_0, 0, none⟩)] H) fun b H_1 =>
   bif b then
   some (.int .i64 x8, H_1)
   else
   f86x91.L1 k n1 a0 l0 c0 p1_0 x7 (IntKind.i64.wrap (x8 + (1 : Int))) [(D.getD 0 undef), .int .i64 x8, (D.getD 2 undef), .bool (decide (x8 < x7)), .int .i64 x8, .func (.func 91) #[] #[.pointer (some ⟨p1_0, 0, none⟩)], .slice a0 l0 c0, .int .i64 x8, .pointer (some ⟨q.block, q.off + x8.toNat * 1, none⟩), .int .i64 x, .bool b, .int .i64 (IntKind.i64.wrap (x8 + (1 : Int)))] H_1
   else none
   else
   some (.int .i64 (-1), H)) := by kernel_rfl
theorem f86x91_eq (k : Nat) (a0 : Option Addr) (l0 : Nat) (c0 : Nat) (pc0 : Nat) (H : AHeap) : C (k + 1) 86 [.slice a0 l0 c0, .func (.func 91) #[] #[.pointer (some ⟨pc0, 0, none⟩)]] H =
  (f86x91.L1 k k a0 l0 c0 pc0 (l0 : Int) 0 [.int .i64 0, undef, .slice a0 l0 c0, undef, undef, undef, undef, undef, undef, undef, undef, undef] H) := by kernel_rfl

/- f69 "interleave/object.own"  names:  -/
noncomputable def f69.Q0 (k : Nat)  : Kont (Value × AHeap) := retQ Try.prog Try.f69
noncomputable def f69.Q1 (k : Nat)  : Kont (Value × AHeap) := blkQ 0 (f69.Q0 k )
noncomputable def f69.K1 (k : Nat)  (x4 : Int) (p5 : Nat) (p6 : Nat) (p7 : Nat) (p10 : Nat) (o10 : Nat) (x16 : Int) (b37 : Bool) (D : List Value) (H : AHeap) : Option (Value × AHeap) :=
  gateC (Sub (bodyOf Try.f69) [1, 1, 1, 0, 1, 1, 1, 1, 1, 1, 1, 1, 0]) (Sub (bodyOf Try.f69) [1, 1, 1, 0, 1, 1, 1, 1, 1, 1, 1, 1, 1]) k (run Try.prog (C k) k (Sub (bodyOf Try.f69) [1, 1, 1, 0, 1, 1, 1, 1, 1, 1, 1, 1, 1]) (f69.Q1 k )) [(D.getD 0 undef), (D.getD 1 undef), (D.getD 2 undef), (D.getD 3 undef), .int .i64 x4, .pointer (some ⟨p5, 0, none⟩), .pointer (some ⟨p6, 0, none⟩), .pointer (some ⟨p7, 0, none⟩), undef, undef, .pointer (some ⟨p10, o10, none⟩), undef, (D.getD 4 undef), (D.getD 5 undef), (D.getD 6 undef), (D.getD 7 undef), .int .i64 x16, (D.getD 8 undef), (D.getD 9 undef), undef, undef, undef, (D.getD 10 undef), (D.getD 11 undef), undef, undef, undef, (D.getD 12 undef), (D.getD 13 undef), undef, undef, undef, (D.getD 14 undef), (D.getD 15 undef), undef, undef, undef, .bool b37, (D.getD 16 undef), (D.getD 17 undef), undef, undef, undef, undef, undef, undef, undef, undef, undef, undef, undef, undef, undef, undef, undef, undef, undef, undef, undef, undef, undef, undef, undef, undef, undef, undef, undef, undef, undef, undef, undef, undef, undef, undef, undef, undef, undef, undef, undef, undef, undef, undef, undef, undef, undef, undef, undef, undef, undef, undef, undef, undef, undef, undef, undef, undef, undef, undef, undef, undef, undef, undef, undef, undef, undef, undef, undef, undef, undef, undef, undef, undef, undef, undef, undef, undef, undef, undef, undef, undef, undef, undef, undef, undef, undef, undef, undef] H
noncomputable def f69.K2 (k : Nat)  (x4 : Int) (p5 : Nat) (p6 : Nat) (p7 : Nat) (p10 : Nat) (o10 : Nat) (x16 : Int) (b46 : Bool) (D : List Value) (H : AHeap) : Option (Value × AHeap) :=
  gateC (Sub (bodyOf Try.f69) [1, 1, 1, 0, 1, 1, 1, 1, 1, 1, 1, 1, 1, 1, 0]) (Sub (bodyOf Try.f69) [1, 1, 1, 0, 1, 1, 1, 1, 1, 1, 1, 1, 1, 1, 1]) k (run Try.prog (C k) k (Sub (bodyOf Try.f69) [1, 1, 1, 0, 1, 1, 1, 1, 1, 1, 1, 1, 1, 1, 1]) (f69.Q1 k )) [(D.getD 0 undef), (D.getD 1 undef), (D.getD 2 undef), (D.getD 3 undef), .int .i64 x4, .pointer (some ⟨p5, 0, none⟩), .pointer (some ⟨p6, 0, none⟩), .pointer (some ⟨p7, 0, none⟩), undef, undef, .pointer (some ⟨p10, o10, none⟩), undef, (D.getD 4 undef), (D.getD 5 undef), (D.getD 6 undef), (D.getD 7 undef), .int .i64 x16, (D.getD 8 undef), (D.getD 9 undef), undef, undef, undef, (D.getD 10 undef), (D.getD 11 undef), undef, undef, undef, (D.getD 12 undef), (D.getD 13 undef), undef, undef, undef, (D.getD 14 undef), (D.getD 15 undef), undef, undef, undef, (D.getD 16 undef), (D.getD 17 undef), (D.getD 18 undef), undef, undef, undef, undef, undef, undef, .bool b46, (D.getD 19 undef), (D.getD 20 undef), undef, undef, undef, undef, undef, undef, undef, undef, undef, undef, undef, undef, undef, undef, undef, undef, undef, undef, undef, undef, undef, undef, undef, undef, undef, undef, undef, undef, undef, undef, undef, undef, undef, undef, undef, undef, undef, undef, undef, undef, undef, undef, undef, undef, undef, undef, undef, undef, undef, undef, undef, undef, undef, undef, undef, undef, undef, undef, undef, undef, undef, undef, undef, undef, undef, undef, undef, undef, undef, undef, undef, undef, undef, undef, undef, undef, undef, undef] H
theorem f69.K1_eq (k : Nat)  (x4 : Int) (p5 : Nat) (p6 : Nat) (p7 : Nat) (p10 : Nat) (o10 : Nat) (x16 : Int) (b37 : Bool) (D : List Value) (H : AHeap) : f69.K1 k  x4 p5 p6 p7 p10 o10 x16 b37 D H =
  (bif b37 then
   bSl (ldSl H p6 (0)) fun a l c =>
   (ldI .i64 H p7 (0)).bind fun x =>
   a.bind fun q =>
   if 0 ≤ x4 ∧ x4 < (l : Int) then
   (AHeap.wr H q.block (q.off + x4.toNat * 2 + 0) [.int .i64 x]).bind fun H_1 =>
   some (.tuple #[], H_1)
   else none
   else
   bif (x16 == (7 : Int)) then
   f69.K2 k x4 p5 p6 p7 p10 o10 x16 (x16 == (7 : Int)) [(D.getD 0 undef), (D.getD 1 undef), (D.getD 2 undef), (D.getD 3 undef), (D.getD 4 undef), (D.getD 5 undef), (D.getD 6 undef), (D.getD 7 undef), (D.getD 8 undef), (D.getD 9 undef), (D.getD 10 undef), (D.getD 11 undef), (D.getD 12 undef), (D.getD 13 undef), (D.getD 14 undef), (D.getD 15 undef), .bool b37, (D.getD 16 undef), (D.getD 17 undef), .bool (x16 == (7 : Int)), undef] H
   else
   f69.K2 k x4 p5 p6 p7 p10 o10 x16 (x16 == (11 : Int)) [(D.getD 0 undef), (D.getD 1 undef), (D.getD 2 undef), (D.getD 3 undef), (D.getD 4 undef), (D.getD 5 undef), (D.getD 6 undef), (D.getD 7 undef), (D.getD 8 undef), (D.getD 9 undef), (D.getD 10 undef), (D.getD 11 undef), (D.getD 12 undef), (D.getD 13 undef), (D.getD 14 undef), (D.getD 15 undef), .bool b37, (D.getD 16 undef), (D.getD 17 undef), .bool (x16 == (7 : Int)), .bool (x16 == (11 : Int))] H) := by
  unfold f69.K1
  rw [gateC_eq]
  kernel_rfl
theorem f69.K2_eq (k : Nat)  (x4 : Int) (p5 : Nat) (p6 : Nat) (p7 : Nat) (p10 : Nat) (o10 : Nat) (x16 : Int) (b46 : Bool) (D : List Value) (H : AHeap) : f69.K2 k  x4 p5 p6 p7 p10 o10 x16 b46 D H =
  (bif b46 then
   bSl (ldSl H p6 (0)) fun a l c =>
   a.bind fun q =>
   if 0 ≤ x4 ∧ x4 < (l : Int) then
   (AHeap.wr H q.block (q.off + x4.toNat * 2 + 0) [.int .i64 (-1)]).bind fun H_1 =>
   some (.tuple #[], H_1)
   else none
   else
   bif (x16 == (8 : Int)) then
   bif sameB H (H.bump 10) p6 then
   bSl (ldSl (H.bump 10) p6 (0)) fun a_1 l_1 c_1 =>
   a_1.bind fun q_1 =>
   if 0 ≤ x4 ∧ x4 < (l_1 : Int) then
   bif sameB H (H.bump 10) q_1.block then
   bSl (ldSl (H.bump 10) q_1.block (q_1.off + x4.toNat * 2 + 1)) fun a_2 l_2 c_2 =>
   bif sameB H (H.bump 10) p7 then
   (ldI .i64 (H.bump 10) p7 (0)).bind fun x =>
   alK (some (H.next + 7)) (H.bump 10) ⟨[.int .i64 x], 1, .rw, 0⟩ fun i H_2 =>
   cSl (apndV Try.prog [26, 26] H_2 (.slice a_2 l_2 c_2) (.slice (some ⟨i, 0, none⟩) 1 1)) fun a_3 l_3 c_3 H_3 =>
   cT (C k 83 [.slice a_3 l_3 c_3] H_3) fun u H_4 =>
   cSl (C k 84 [.slice a_3 l_3 c_3] (H_4.bump 8)) fun a_4 l_4 c_4 H_5 =>
   bif sameB H_4 H_5 p6 then
   bSl (ldSl H_5 p6 (0)) fun a_5 l_5 c_5 =>
   a_5.bind fun q_2 =>
   if 0 ≤ x4 ∧ x4 < (l_5 : Int) then
   (AHeap.wr H_5 q_2.block (q_2.off + x4.toNat * 2 + 1) [.slice a_4 l_4 c_4]).bind fun H_6 =>
   some (.tuple #[], H_6)
   else none
   else none
   else none
   else none
   else none
   else none
   else
   bif (x16 == (9 : Int)) then
   bif sameB H (H.bump 14) p6 then
   bSl (ldSl (H.bump 14) p6 (0)) fun a_6 l_6 c_6 =>
   a_6.bind fun q_3 =>
   if 0 ≤ x4 ∧ x4 < (l_6 : Int) then
   bif sameB H (H.bump 14) q_3.block then
   bSl (ldSl (H.bump 14) q_3.block (q_3.off + x4.toNat * 2 + 1)) fun a_7 l_7 c_7 =>
   cSl (C k 81 [.slice a_7 l_7 c_7, .func (.func 91) #[] #[.pointer (some ⟨p7, 0, none⟩)]] (H.bump 14)) fun a_8 l_8 c_8 H_7 =>
   bif sameB H H_7 p6 then
   bSl (ldSl H_7 p6 (0)) fun a_9 l_9 c_9 =>
   a_9.bind fun q_4 =>
   if 0 ≤ x4 ∧ x4 < (l_9 : Int) then
   (AHeap.wr H_7 q_4.block (q_4.off + x4.toNat * 2 + 1) [.slice a_8 l_8 c_8]).bind fun H_8 =>
   some (.tuple #[], H_8)
   else none
   else none
   else none
   else none
   else none
   else
   bif (x16 == (16 : Int)) then
   bif sameB H (H.bump 11) p6 then
   bSl (ldSl (H.bump 11) p6 (0)) fun a_10 l_10 c_10 =>
   bif sameB H (H.bump 11) p5 then
   bSl (ldSl (H.bump 11) p5 (2)) fun a_11 l_11 c_11 =>
   a_11.bind fun q_5 =>
   if 0 ≤ x4 ∧ x4 < (l_11 : Int) then
   bif sameB H (H.bump 11) q_5.block then
   (ldI .i64 (H.bump 11) q_5.block (q_5.off + x4.toNat * 2 + 1)).bind fun x_1 =>
   a_10.bind fun q_6 =>
   if 0 ≤ x_1 ∧ x_1 < (l_10 : Int) then
   (AHeap.wr (H.bump 11) q_6.block (q_6.off + x_1.toNat * 2 + 0) [.int .i64 (-1)]).bind fun H_9 =>
   (AHeap.wr H_9 p10 (o10 + 0) [.int .i64 3]).bind fun H_10 =>
   (AHeap.wr H_10 p10 (o10 + 1) [.int .i64 x4]).bind fun H_11 =>
   some (.tuple #[], H_11)
   else none
   else none
   else none
   else none
   else none
   else
   bif (x16 == (17 : Int)) then
   bif sameB H (H.bump 12) p6 then
   bSl (ldSl (H.bump 12) p6 (0)) fun a_12 l_12 c_12 =>
   bif sameB H (H.bump 12) p5 then
   bSl (ldSl (H.bump 12) p5 (2)) fun a_13 l_13 c_13 =>
   a_13.bind fun q_7 =>
   if 0 ≤ x4 ∧ x4 < (l_13 : Int) then
   bif sameB H (H.bump 12) q_7.block then
   (ldI .i64 (H.bump 12) q_7.block (q_7.off + x4.toNat * 2 + 1)).bind fun x_2 =>
   bif sameB H (H.bump 12) p7 then
   (ldI .i64 (H.bump 12) p7 (0)).bind fun x_3 =>
   a_12.bind fun q_8 =>
   if 0 ≤ x_2 ∧ x_2 < (l_12 : Int) then
   (AHeap.wr (H.bump 12) q_8.block (q_8.off + x_2.toNat * 2 + 0) [.int .i64 x_3]).bind fun H_12 =>
   (AHeap.wr H_12 p10 (o10 + 0) [.int .i64 2]).bind fun H_13 =>
   (AHeap.wr H_13 p10 (o10 + 1) [.int .i64 0]).bind fun H_14 =>
   some (.tuple #[], H_14)
   else none
   else none
   else none
   else none
   else none
   else none
   else
   some (.tuple #[], H)) := by
  unfold f69.K2
  rw [gateC_eq]
  kernel_rfl
theorem f69_eq (k : Nat) (a0_0 : Option Addr) (l0_0 : Nat) (c0_0 : Nat) (a0_1 : Option Addr) (l0_1 : Nat) (c0_1 : Nat) (a0_2 : Option Addr) (l0_2 : Nat) (c0_2 : Nat) (a0_3 : Option Addr) (l0_3 : Nat) (c0_3 : Nat) (a0_4 : Option Addr) (l0_4 : Nat) (c0_4 : Nat) (a0_5 : Option Addr) (l0_5 : Nat) (c0_5 : Nat) (a1_0 : Option Addr) (l1_0 : Nat) (c1_0 : Nat) (x1_1 : Int) (a1_2 : Option Addr) (l1_2 : Nat) (c1_2 : Nat) (a1_3 : Option Addr) (l1_3 : Nat) (c1_3 : Nat) (x2 : Int) (x3 : Int) (x4 : Int) (H : AHeap) : C (k + 1) 69 [.agg #[.slice a0_0 l0_0 c0_0, .slice a0_1 l0_1 c0_1, .slice a0_2 l0_2 c0_2, .slice a0_3 l0_3 c0_3, .slice a0_4 l0_4 c0_4, .slice a0_5 l0_5 c0_5], .agg #[.slice a1_0 l1_0 c1_0, .int .i64 x1_1, .slice a1_2 l1_2 c1_2, .slice a1_3 l1_3 c1_3], .int .i64 x2, .int .i64 x3, .int .i64 x4] H =
  (alK none H ⟨[.slice a0_0 l0_0 c0_0, .slice a0_1 l0_1 c0_1, .slice a0_2 l0_2 c0_2, .slice a0_3 l0_3 c0_3, .slice a0_4 l0_4 c0_4, .slice a0_5 l0_5 c0_5], 0, .rw, 0⟩ fun i H_1 =>
   alK none H_1 ⟨[.slice a1_0 l1_0 c1_0, .int .i64 x1_1, .slice a1_2 l1_2 c1_2, .slice a1_3 l1_3 c1_3], 0, .rw, 0⟩ fun i_1 H_2 =>
   alK none H_2 ⟨[.int .i64 x2], 0, .rw, 0⟩ fun i_2 H_3 =>
   bSl (ldSl H_3 i_1 (3)) fun a l c =>
   (ldI .i64 H_3 i_2 (0)).bind fun x =>
   a.bind fun q =>
   if 0 ≤ x ∧ x < (l : Int) then
   bif (x3 == (1 : Int)) then
   (AHeap.wr H_3 q.block (q.off + x.toNat * 3 + 0) [.int .i64 2]).bind fun H_4 =>
   some (.tuple #[], H_4)
   else
   bif (x3 == (2 : Int)) then
   (AHeap.wr H_3 q.block (q.off + x.toNat * 3 + 0) [.int .i64 5]).bind fun H_5 =>
   some (.tuple #[], H_5)
   else
   bif (x3 == (14 : Int)) then
   (AHeap.wr H_3 q.block (q.off + x.toNat * 3 + 2) [.bool true]).bind fun H_6 =>
   some (.tuple #[], H_6)
   else
   bif (x3 == (15 : Int)) then
   (AHeap.wr H_3 q.block (q.off + x.toNat * 3 + 2) [.bool false]).bind fun H_7 =>
   some (.tuple #[], H_7)
   else
   bif (x3 == (6 : Int)) then
   f69.K1 k x4 i i_1 i_2 q.block (q.off + x.toNat * 3) x3 (x3 == (6 : Int)) [.agg #[.slice a0_0 l0_0 c0_0, .slice a0_1 l0_1 c0_1, .slice a0_2 l0_2 c0_2, .slice a0_3 l0_3 c0_3, .slice a0_4 l0_4 c0_4, .slice a0_5 l0_5 c0_5], .agg #[.slice a1_0 l1_0 c1_0, .int .i64 x1_1, .slice a1_2 l1_2 c1_2, .slice a1_3 l1_3 c1_3], .int .i64 x2, .int .i64 x3, .pointer (some ⟨i_1, 3, none⟩), .slice a l c, .int .i64 x, .pointer (some ⟨q.block, q.off + x.toNat * 3, none⟩), .bool (x3 == (1 : Int)), .bool (x3 == (1 : Int)), .bool (x3 == (2 : Int)), .bool (x3 == (2 : Int)), .bool (x3 == (14 : Int)), .bool (x3 == (14 : Int)), .bool (x3 == (15 : Int)), .bool (x3 == (15 : Int)), .bool (x3 == (6 : Int)), undef] H_3
   else
   f69.K1 k x4 i i_1 i_2 q.block (q.off + x.toNat * 3) x3 (x3 == (10 : Int)) [.agg #[.slice a0_0 l0_0 c0_0, .slice a0_1 l0_1 c0_1, .slice a0_2 l0_2 c0_2, .slice a0_3 l0_3 c0_3, .slice a0_4 l0_4 c0_4, .slice a0_5 l0_5 c0_5], .agg #[.slice a1_0 l1_0 c1_0, .int .i64 x1_1, .slice a1_2 l1_2 c1_2, .slice a1_3 l1_3 c1_3], .int .i64 x2, .int .i64 x3, .pointer (some ⟨i_1, 3, none⟩), .slice a l c, .int .i64 x, .pointer (some ⟨q.block, q.off + x.toNat * 3, none⟩), .bool (x3 == (1 : Int)), .bool (x3 == (1 : Int)), .bool (x3 == (2 : Int)), .bool (x3 == (2 : Int)), .bool (x3 == (14 : Int)), .bool (x3 == (14 : Int)), .bool (x3 == (15 : Int)), .bool (x3 == (15 : Int)), .bool (x3 == (6 : Int)), .bool (x3 == (10 : Int))] H_3
   else none) := by kernel_rfl

/- f38 "interleave/object.Apply"  names:  -/
noncomputable def f38.Q0 (k : Nat)  : Kont (Value × AHeap) := retQ Try.prog Try.f38
noncomputable def f38.Q1 (k : Nat)  : Kont (Value × AHeap) := seqQ (gateC (Sub (bodyOf Try.f38) [1, 1, 1, 1, 0]) (Sub (bodyOf Try.f38) [1, 1, 1, 1, 1]) k (run Try.prog (C k) k (Sub (bodyOf Try.f38) [1, 1, 1, 1, 1]) (f38.Q0 k ))) (f38.Q0 k )
noncomputable def f38.Q2 (k : Nat)  : Kont (Value × AHeap) := blkQ 0 (f38.Q1 k )
noncomputable def f38.Q3 (k : Nat)  : Kont (Value × AHeap) := blkQ 1 (f38.Q2 k )
noncomputable def f38.K1 (k : Nat)  (p7 : Nat) (p12 : Nat) (x15 : Int) (D : List Value) (H : AHeap) : Option (Value × AHeap) :=
  gateC (Sub (bodyOf Try.f38) [1, 1, 1, 1, 0]) (Sub (bodyOf Try.f38) [1, 1, 1, 1, 1]) k (run Try.prog (C k) k (Sub (bodyOf Try.f38) [1, 1, 1, 1, 1]) (f38.Q0 k )) [(D.getD 0 undef), (D.getD 1 undef), (D.getD 2 undef), (D.getD 3 undef), (D.getD 4 undef), (D.getD 5 undef), (D.getD 6 undef), .pointer (some ⟨p7, 0, none⟩), undef, undef, undef, undef, .pointer (some ⟨p12, 0, none⟩), (D.getD 7 undef), (D.getD 8 undef), .int .i64 x15, undef, (D.getD 9 undef), (D.getD 10 undef), (D.getD 11 undef), (D.getD 12 undef), (D.getD 13 undef), (D.getD 14 undef), (D.getD 15 undef), (D.getD 16 undef), undef, (D.getD 17 undef), (D.getD 18 undef), (D.getD 19 undef), (D.getD 20 undef), (D.getD 21 undef), (D.getD 22 undef), (D.getD 23 undef), (D.getD 24 undef), (D.getD 25 undef), (D.getD 26 undef), (D.getD 27 undef), (D.getD 28 undef), (D.getD 29 undef), (D.getD 30 undef), (D.getD 31 undef), (D.getD 32 undef), (D.getD 33 undef), (D.getD 34 undef), (D.getD 35 undef), (D.getD 36 undef), (D.getD 37 undef), (D.getD 38 undef), (D.getD 39 undef), (D.getD 40 undef), (D.getD 41 undef), (D.getD 42 undef), (D.getD 43 undef), (D.getD 44 undef), (D.getD 45 undef), (D.getD 46 undef), (D.getD 47 undef), (D.getD 48 undef), (D.getD 49 undef), (D.getD 50 undef), (D.getD 51 undef), (D.getD 52 undef), (D.getD 53 undef), (D.getD 54 undef), (D.getD 55 undef), (D.getD 56 undef), (D.getD 57 undef), (D.getD 58 undef), (D.getD 59 undef), (D.getD 60 undef), (D.getD 61 undef), (D.getD 62 undef), (D.getD 63 undef), (D.getD 64 undef), (D.getD 65 undef), (D.getD 66 undef), (D.getD 67 undef), (D.getD 68 undef), (D.getD 69 undef), undef, undef] H
noncomputable def f38.L1 (k : Nat) (n1 : Nat) (p7 : Nat) (p12 : Nat) (x15 : Int) (a45 : Option Addr) (l45 : Nat) (c45 : Nat) (x46 : Int) (x47 : Int) (D : List Value) (H : AHeap) : Option (Value × AHeap) :=
  iter (run Try.prog (C k) k (Sub (bodyOf Try.f38) [1, 1, 1, 1, 0, 1, 0, 1, 1, 1, 0, 1, 0, 0])) (f38.Q3 k ) n1 [(D.getD 0 undef), (D.getD 1 undef), (D.getD 2 undef), (D.getD 3 undef), (D.getD 4 undef), (D.getD 5 undef), (D.getD 6 undef), .pointer (some ⟨p7, 0, none⟩), undef, undef, undef, undef, .pointer (some ⟨p12, 0, none⟩), (D.getD 7 undef), (D.getD 8 undef), .int .i64 x15, undef, (D.getD 9 undef), (D.getD 10 undef), (D.getD 11 undef), (D.getD 12 undef), (D.getD 13 undef), (D.getD 14 undef), (D.getD 15 undef), (D.getD 16 undef), undef, (D.getD 17 undef), (D.getD 18 undef), (D.getD 19 undef), undef, undef, undef, undef, undef, undef, (D.getD 20 undef), (D.getD 21 undef), undef, undef, undef, undef, (D.getD 22 undef), (D.getD 23 undef), (D.getD 24 undef), (D.getD 25 undef), .slice a45 l45 c45, .int .i64 x46, .int .i64 x47, (D.getD 26 undef), (D.getD 27 undef), (D.getD 28 undef), (D.getD 29 undef), (D.getD 30 undef), (D.getD 31 undef), (D.getD 32 undef), (D.getD 33 undef), (D.getD 34 undef), (D.getD 35 undef), (D.getD 36 undef), undef, undef, undef, undef, undef, undef, undef, undef, undef, undef, undef, undef, undef, undef, undef, undef, undef, undef, undef, undef, undef, undef] H
theorem f38.K1_eq (k : Nat)  (p7 : Nat) (p12 : Nat) (x15 : Int) (D : List Value) (H : AHeap) : f38.K1 k  p7 p12 x15 D H =
  ((AHeap.row H p7 (0) 4).bind fun g =>
   if notTup (.agg (g : List Value).toArray) = true ∧ (g).length = 4 then
   (AHeap.wr H p12 (0) g).bind fun H_1 =>
   (AHeap.row H_1 p12 (0) 4).bind fun g_1 =>
   some (.tuple #[.agg (g_1 : List Value).toArray, .int .i64 x15, .bool true], H_1)
   else none) := by
  unfold f38.K1
  rw [gateC_eq]
  kernel_rfl
theorem f38.L1_z (k : Nat)  (p7 : Nat) (p12 : Nat) (x15 : Int) (a45 : Option Addr) (l45 : Nat) (c45 : Nat) (x46 : Int) (x47 : Int) (D : List Value) (H : AHeap) : f38.L1 k 0 p7 p12 x15 a45 l45 c45 x46 x47 D H = none := by kernel_rfl
theorem f38.L1_s (k : Nat) (n1 : Nat) (p7 : Nat) (p12 : Nat) (x15 : Int) (a45 : Option Addr) (l45 : Nat) (c45 : Nat) (x46 : Int) (x47 : Int) (D : List Value) (H : AHeap) : f38.L1 k (n1 + 1) p7 p12 x15 a45 l45 c45 x46 x47 D H =
  (bif (decide (x47 < x46)) then
   a45.bind fun q =>
   if 0 ≤ x47 ∧ x47 < (l45 : Int) then
   (ldI .i64 H q.block (q.off + x47.toNat * 1)).bind fun x =>
   bSl (ldSl H p7 (3)) fun a l c =>
   a.bind fun q_1 =>
   if 0 ≤ x ∧ x < (l : Int) then
   (AHeap.wr H q_1.block (q_1.off + x.toNat * 3 + 0) [.int .i64 4]).bind fun H_1 =>
   f38.L1 k n1 p7 p12 (IntKind.i64.wrap (x15 + (1 : Int))) a45 l45 c45 x46 (IntKind.i64.wrap (x47 + (1 : Int))) [(D.getD 0 undef), (D.getD 1 undef), (D.getD 2 undef), (D.getD 3 undef), (D.getD 4 undef), (D.getD 5 undef), (D.getD 6 undef), (D.getD 7 undef), (D.getD 8 undef), .int .i64 x, (D.getD 10 undef), (D.getD 11 undef), (D.getD 12 undef), (D.getD 13 undef), (D.getD 14 undef), (D.getD 15 undef), (D.getD 16 undef), (D.getD 17 undef), (D.getD 18 undef), (D.getD 19 undef), (D.getD 20 undef), (D.getD 21 undef), (D.getD 22 undef), (D.getD 23 undef), (D.getD 24 undef), (D.getD 25 undef), .bool (decide (x47 < x46)), .pointer (some ⟨q.block, q.off + x47.toNat * 1, none⟩), .int .i64 x, .pointer (some ⟨p7, 3, none⟩), .slice a l c, .int .i64 x, .pointer (some ⟨q_1.block, q_1.off + x.toNat * 3, none⟩), .pointer (some ⟨q_1.block, q_1.off + x.toNat * 3 + 0, none⟩), .int .i64 x15, .int .i64 (IntKind.i64.wrap (x15 + (1 : Int))), .int .i64 (IntKind.i64.wrap (x47 + (1 : Int)))] H_1
   else none
   else none
   else
   f38.K1 k p7 p12 x15 [(D.getD 0 undef), (D.getD 1 undef), (D.getD 2 undef), (D.getD 3 undef), (D.getD 4 undef), (D.getD 5 undef), (D.getD 6 undef), (D.getD 7 undef), (D.getD 8 undef), (D.getD 9 undef), (D.getD 10 undef), (D.getD 11 undef), (D.getD 12 undef), (D.getD 13 undef), (D.getD 14 undef), (D.getD 15 undef), (D.getD 16 undef), (D.getD 17 undef), (D.getD 18 undef), (D.getD 19 undef), undef, undef, undef, undef, undef, undef, (D.getD 20 undef), (D.getD 21 undef), undef, undef, undef, undef, (D.getD 22 undef), (D.getD 23 undef), (D.getD 24 undef), (D.getD 25 undef), .slice a45 l45 c45, .int .i64 x46, .int .i64 x47, .bool (decide (x47 < x46)), (D.getD 27 undef), (D.getD 28 undef), (D.getD 29 undef), (D.getD 30 undef), (D.getD 31 undef), (D.getD 32 undef), (D.getD 33 undef), (D.getD 34 undef), (D.getD 35 undef), (D.getD 36 undef), undef, undef, undef, undef, undef, undef, undef, undef, undef, undef, undef, undef, undef, undef, undef, undef, undef, undef, undef, undef] H) := by kernel_rfl
theorem f38_eq (k : Nat) (a0_0 : Option Addr) (l0_0 : Nat) (c0_0 : Nat) (a0_1 : Option Addr) (l0_1 : Nat) (c0_1 : Nat) (a0_2 : Option Addr) (l0_2 : Nat) (c0_2 : Nat) (a0_3 : Option Addr) (l0_3 : Nat) (c0_3 : Nat) (a0_4 : Option Addr) (l0_4 : Nat) (c0_4 : Nat) (a0_5 : Option Addr) (l0_5 : Nat) (c0_5 : Nat) (a1_0 : Option Addr) (l1_0 : Nat) (c1_0 : Nat) (x1_1 : Int) (a1_2 : Option Addr) (l1_2 : Nat) (c1_2 : Nat) (a1_3 : Option Addr) (l1_3 : Nat) (c1_3 : Nat) (x2 : Int) (x3 : Int) (x4 : Int) (x5 : Int) (H : AHeap) : C (k + 1) 38 [.agg #[.slice a0_0 l0_0 c0_0, .slice a0_1 l0_1 c0_1, .slice a0_2 l0_2 c0_2, .slice a0_3 l0_3 c0_3, .slice a0_4 l0_4 c0_4, .slice a0_5 l0_5 c0_5], .agg #[.slice a1_0 l1_0 c1_0, .int .i64 x1_1, .slice a1_2 l1_2 c1_2, .slice a1_3 l1_3 c1_3], .int .i64 x2, .int .i64 x3, .int .i64 x4, .int .i64 x5] H =
  (alK none H ⟨[.slice a0_0 l0_0 c0_0, .slice a0_1 l0_1 c0_1, .slice a0_2 l0_2 c0_2, .slice a0_3 l0_3 c0_3, .slice a0_4 l0_4 c0_4, .slice a0_5 l0_5 c0_5], 0, .rw, 0⟩ fun i H_1 =>
   alK none H_1 ⟨[.slice a1_0 l1_0 c1_0, .int .i64 x1_1, .slice a1_2 l1_2 c1_2, .slice a1_3 l1_3 c1_3], 0, .rw, 0⟩ fun i_1 H_2 =>
   alK none H_2 ⟨[.slice none 0 0, .int .i64 0, .slice none 0 0, .slice none 0 0], 0, .rw, 0⟩ fun i_2 H_3 =>
   (AHeap.row H_3 i (0) 6).bind fun g =>
   (AHeap.row H_3 i_1 (0) 4).bind fun g_1 =>
   cB (C k 39 [.agg (g : List Value).toArray, .agg (g_1 : List Value).toArray, .int .i64 x2, .int .i64 x3, .int .i64 x4] H_3) fun b H_4 =>
   bif (!b) then
   (AHeap.wr H_4 i_2 (0) [.slice none 0 0, .int .i64 0, .slice none 0 0, .slice none 0 0]).bind fun H_5 =>
   (AHeap.row H_5 i_2 (0) 4).bind fun g_2 =>
   some (.tuple #[.agg (g_2 : List Value).toArray, .int .i64 0, .bool false], H_5)
   else
   (AHeap.row H_4 i_1 (0) 4).bind fun g_3 =>
   cG (C k 66 [.agg (g_3 : List Value).toArray] H_4) fun g_4 H_6 =>
   if notTup (.agg g_4) = true ∧ (g_4.toList).length = 4 then
   (AHeap.wr H_6 i_1 (0) g_4.toList).bind fun H_7 =>
   bif (x3 == (18 : Int)) then
   (AHeap.row H_7 i_1 (0) 4).bind fun g_5 =>
   cI .i64 (C k 67 [.agg (g_5 : List Value).toArray, .int .i64 x4, .int .i64 x5] H_7) fun x H_8 =>
   f38.K1 k i_1 i_2 x [.agg #[.slice a0_0 l0_0 c0_0, .slice a0_1 l0_1 c0_1, .slice a0_2 l0_2 c0_2, .slice a0_3 l0_3 c0_3, .slice a0_4 l0_4 c0_4, .slice a0_5 l0_5 c0_5], .agg #[.slice a1_0 l1_0 c1_0, .int .i64 x1_1, .slice a1_2 l1_2 c1_2, .slice a1_3 l1_3 c1_3], .int .i64 x2, .int .i64 x3, .int .i64 x4, .int .i64 x5, .pointer (some ⟨i, 0, none⟩), .int .i64 0, .bool false, undef, .agg (g : List Value).toArray, .agg (g_1 : List Value).toArray, .int .i64 x2, .int .i64 x3, .int .i64 x4, .bool b, .bool (!b), .agg (g_3 : List Value).toArray, .agg g_4, .int .i64 x3, undef, undef, undef, undef, undef, undef, .bool (x3 == (18 : Int)), .bool (x3 == (18 : Int)), .agg (g_5 : List Value).toArray, .int .i64 x4, .int .i64 x5, .int .i64 x, undef, undef, undef, undef, undef, undef, undef, undef, undef, undef, undef, undef, undef, undef, undef, undef, undef, undef, undef, undef, undef, undef, undef, undef, undef, undef, undef, undef, undef, undef, undef, undef, undef, undef, undef, undef, undef, undef] H_8
   else
   bif (x3 == (19 : Int)) then
   (AHeap.row H_7 i_1 (0) 4).bind fun g_6 =>
   cSl (C k 68 [.agg (g_6 : List Value).toArray, .int .i64 x4] H_7) fun a l c H_9 =>
   f38.L1 k k i_1 i_2 0 a l c (l : Int) 0 [.agg #[.slice a0_0 l0_0 c0_0, .slice a0_1 l0_1 c0_1, .slice a0_2 l0_2 c0_2, .slice a0_3 l0_3 c0_3, .slice a0_4 l0_4 c0_4, .slice a0_5 l0_5 c0_5], .agg #[.slice a1_0 l1_0 c1_0, .int .i64 x1_1, .slice a1_2 l1_2 c1_2, .slice a1_3 l1_3 c1_3], .int .i64 x2, .int .i64 x3, .int .i64 x4, .int .i64 x5, .pointer (some ⟨i, 0, none⟩), .int .i64 0, .bool false, undef, .agg (g : List Value).toArray, .agg (g_1 : List Value).toArray, .int .i64 x2, .int .i64 x3, .int .i64 x4, .bool b, .bool (!b), .agg (g_3 : List Value).toArray, .agg g_4, .int .i64 x3, .bool (x3 == (18 : Int)), .bool (x3 == (18 : Int)), .bool (x3 == (19 : Int)), .bool (x3 == (19 : Int)), .agg (g_6 : List Value).toArray, .int .i64 x4, undef, undef, undef, undef, undef, undef, undef, undef, undef, undef, undef] H_9
   else
   bif (x3 == (12 : Int)) then
   (AHeap.wr H_7 i_1 (1) [.int .i64 x2]).bind fun H_10 =>
   f38.K1 k i_1 i_2 0 [.agg #[.slice a0_0 l0_0 c0_0, .slice a0_1 l0_1 c0_1, .slice a0_2 l0_2 c0_2, .slice a0_3 l0_3 c0_3, .slice a0_4 l0_4 c0_4, .slice a0_5 l0_5 c0_5], .agg #[.slice a1_0 l1_0 c1_0, .int .i64 x1_1, .slice a1_2 l1_2 c1_2, .slice a1_3 l1_3 c1_3], .int .i64 x2, .int .i64 x3, .int .i64 x4, .int .i64 x5, .pointer (some ⟨i, 0, none⟩), .int .i64 0, .bool false, undef, .agg (g : List Value).toArray, .agg (g_1 : List Value).toArray, .int .i64 x2, .int .i64 x3, .int .i64 x4, .bool b, .bool (!b), .agg (g_3 : List Value).toArray, .agg g_4, .int .i64 x3, undef, undef, undef, undef, undef, undef, .bool (x3 == (18 : Int)), .bool (x3 == (18 : Int)), undef, undef, undef, undef, .bool (x3 == (19 : Int)), .bool (x3 == (19 : Int)), undef, undef, undef, undef, undef, undef, undef, undef, undef, undef, undef, undef, undef, undef, undef, undef, .bool (x3 == (12 : Int)), .bool (x3 == (12 : Int)), .int .i64 x2, .pointer (some ⟨i_1, 1, none⟩), undef, undef, undef, undef, undef, undef, undef, undef, undef, undef, undef, undef, undef, undef, undef, undef] H_10
   else
   bif (x3 == (13 : Int)) then
   (AHeap.wr H_7 i_1 (1) [.int .i64 (-1)]).bind fun H_11 =>
   f38.K1 k i_1 i_2 0 [.agg #[.slice a0_0 l0_0 c0_0, .slice a0_1 l0_1 c0_1, .slice a0_2 l0_2 c0_2, .slice a0_3 l0_3 c0_3, .slice a0_4 l0_4 c0_4, .slice a0_5 l0_5 c0_5], .agg #[.slice a1_0 l1_0 c1_0, .int .i64 x1_1, .slice a1_2 l1_2 c1_2, .slice a1_3 l1_3 c1_3], .int .i64 x2, .int .i64 x3, .int .i64 x4, .int .i64 x5, .pointer (some ⟨i, 0, none⟩), .int .i64 0, .bool false, undef, .agg (g : List Value).toArray, .agg (g_1 : List Value).toArray, .int .i64 x2, .int .i64 x3, .int .i64 x4, .bool b, .bool (!b), .agg (g_3 : List Value).toArray, .agg g_4, .int .i64 x3, undef, undef, undef, undef, undef, undef, .bool (x3 == (18 : Int)), .bool (x3 == (18 : Int)), undef, undef, undef, undef, .bool (x3 == (19 : Int)), .bool (x3 == (19 : Int)), undef, undef, undef, undef, undef, undef, undef, undef, undef, undef, undef, undef, undef, undef, undef, undef, .bool (x3 == (12 : Int)), .bool (x3 == (12 : Int)), undef, undef, .bool (x3 == (13 : Int)), .bool (x3 == (13 : Int)), .pointer (some ⟨i_1, 1, none⟩), undef, undef, undef, undef, undef, undef, undef, undef, undef, undef, undef, undef, undef] H_11
   else
   bif (x3 == (20 : Int)) then
   bSl (ldSl H_7 i_1 (3)) fun a_1 l_1 c_1 =>
   a_1.bind fun q =>
   if 0 ≤ x4 ∧ x4 < (l_1 : Int) then
   (AHeap.wr H_7 q.block (q.off + x4.toNat * 3 + 0) [.int .i64 1]).bind fun H_12 =>
   f38.K1 k i_1 i_2 0 [.agg #[.slice a0_0 l0_0 c0_0, .slice a0_1 l0_1 c0_1, .slice a0_2 l0_2 c0_2, .slice a0_3 l0_3 c0_3, .slice a0_4 l0_4 c0_4, .slice a0_5 l0_5 c0_5], .agg #[.slice a1_0 l1_0 c1_0, .int .i64 x1_1, .slice a1_2 l1_2 c1_2, .slice a1_3 l1_3 c1_3], .int .i64 x2, .int .i64 x3, .int .i64 x4, .int .i64 x5, .pointer (some ⟨i, 0, none⟩), .int .i64 0, .bool false, undef, .agg (g : List Value).toArray, .agg (g_1 : List Value).toArray, .int .i64 x2, .int .i64 x3, .int .i64 x4, .bool b, .bool (!b), .agg (g_3 : List Value).toArray, .agg g_4, .int .i64 x3, undef, undef, undef, undef, undef, undef, .bool (x3 == (18 : Int)), .bool (x3 == (18 : Int)), undef, undef, undef, undef, .bool (x3 == (19 : Int)), .bool (x3 == (19 : Int)), undef, undef, undef, undef, undef, undef, undef, undef, undef, undef, undef, undef, undef, undef, undef, undef, .bool (x3 == (12 : Int)), .bool (x3 == (12 : Int)), undef, undef, .bool (x3 == (13 : Int)), .bool (x3 == (13 : Int)), undef, .bool (x3 == (20 : Int)), .bool (x3 == (20 : Int)), .pointer (some ⟨i_1, 3, none⟩), .slice a_1 l_1 c_1, .int .i64 x4, .pointer (some ⟨q.block, q.off + x4.toNat * 3, none⟩), .pointer (some ⟨q.block, q.off + x4.toNat * 3 + 0, none⟩), undef, undef, undef, undef, undef, undef] H_12
   else none
   else
   bif (x3 == (22 : Int)) then
   bSl (ldSl H_7 i_1 (2)) fun a_2 l_2 c_2 =>
   a_2.bind fun q_1 =>
   if 0 ≤ x4 ∧ x4 < (l_2 : Int) then
   (AHeap.wr H_7 q_1.block (q_1.off + x4.toNat * 1) [.bool true]).bind fun H_13 =>
   f38.K1 k i_1 i_2 0 [.agg #[.slice a0_0 l0_0 c0_0, .slice a0_1 l0_1 c0_1, .slice a0_2 l0_2 c0_2, .slice a0_3 l0_3 c0_3, .slice a0_4 l0_4 c0_4, .slice a0_5 l0_5 c0_5], .agg #[.slice a1_0 l1_0 c1_0, .int .i64 x1_1, .slice a1_2 l1_2 c1_2, .slice a1_3 l1_3 c1_3], .int .i64 x2, .int .i64 x3, .int .i64 x4, .int .i64 x5, .pointer (some ⟨i, 0, none⟩), .int .i64 0, .bool false, undef, .agg (g : List Value).toArray, .agg (g_1 : List Value).toArray, .int .i64 x2, .int .i64 x3, .int .i64 x4, .bool b, .bool (!b), .agg (g_3 : List Value).toArray, .agg g_4, .int .i64 x3, undef, undef, undef, undef, undef, undef, .bool (x3 == (18 : Int)), .bool (x3 == (18 : Int)), undef, undef, undef, undef, .bool (x3 == (19 : Int)), .bool (x3 == (19 : Int)), undef, undef, undef, undef, undef, undef, undef, undef, undef, undef, undef, undef, undef, undef, undef, undef, .bool (x3 == (12 : Int)), .bool (x3 == (12 : Int)), undef, undef, .bool (x3 == (13 : Int)), .bool (x3 == (13 : Int)), undef, .bool (x3 == (20 : Int)), .bool (x3 == (20 : Int)), undef, undef, undef, undef, undef, .bool (x3 == (22 : Int)), .bool (x3 == (22 : Int)), .pointer (some ⟨i_1, 2, none⟩), .slice a_2 l_2 c_2, .int .i64 x4, .pointer (some ⟨q_1.block, q_1.off + x4.toNat * 1, none⟩)] H_13
   else none
   else
   (AHeap.row H_7 i (0) 6).bind fun g_7 =>
   (AHeap.row H_7 i_1 (0) 4).bind fun g_8 =>
   cT (C k 69 [.agg (g_7 : List Value).toArray, .agg (g_8 : List Value).toArray, .int .i64 x2, .int .i64 x3, .int .i64 x4] H_7) fun u H_14 =>
   f38.K1 k i_1 i_2 0 [.agg #[.slice a0_0 l0_0 c0_0, .slice a0_1 l0_1 c0_1, .slice a0_2 l0_2 c0_2, .slice a0_3 l0_3 c0_3, .slice a0_4 l0_4 c0_4, .slice a0_5 l0_5 c0_5], .agg #[.slice a1_0 l1_0 c1_0, .int .i64 x1_1, .slice a1_2 l1_2 c1_2, .slice a1_3 l1_3 c1_3], .int .i64 x2, .int .i64 x3, .int .i64 x4, .int .i64 x5, .pointer (some ⟨i, 0, none⟩), .int .i64 0, .bool false, undef, .agg (g : List Value).toArray, .agg (g_1 : List Value).toArray, .int .i64 x2, .int .i64 x3, .int .i64 x4, .bool b, .bool (!b), .agg (g_3 : List Value).toArray, .agg g_4, .int .i64 x3, .agg (g_7 : List Value).toArray, .agg (g_8 : List Value).toArray, .int .i64 x2, .int .i64 x3, .int .i64 x4, .tuple u, .bool (x3 == (18 : Int)), .bool (x3 == (18 : Int)), undef, undef, undef, undef, .bool (x3 == (19 : Int)), .bool (x3 == (19 : Int)), undef, undef, undef, undef, undef, undef, undef, undef, undef, undef, undef, undef, undef, undef, undef, undef, .bool (x3 == (12 : Int)), .bool (x3 == (12 : Int)), undef, undef, .bool (x3 == (13 : Int)), .bool (x3 == (13 : Int)), undef, .bool (x3 == (20 : Int)), .bool (x3 == (20 : Int)), undef, undef, undef, undef, undef, .bool (x3 == (22 : Int)), .bool (x3 == (22 : Int)), undef, undef, undef, undef] H_14
   else none) := by kernel_rfl

/- f41 "interleave/interleaveref08.Apply"  names:  -/
noncomputable def f41.Q0 (k : Nat)  : Kont (Value × AHeap) := retQ Try.prog Try.f41
noncomputable def f41.Q1 (k : Nat)  : Kont (Value × AHeap) := seqQ (gateC (Sub (bodyOf Try.f41) [1, 1, 1, 1, 0]) (Sub (bodyOf Try.f41) [1, 1, 1, 1, 1]) k (run Try.prog (C k) k (Sub (bodyOf Try.f41) [1, 1, 1, 1, 1]) (f41.Q0 k ))) (f41.Q0 k )
noncomputable def f41.Q2 (k : Nat)  : Kont (Value × AHeap) := blkQ 0 (f41.Q1 k )
noncomputable def f41.Q3 (k : Nat)  : Kont (Value × AHeap) := seqQ (gateC (Sub (bodyOf Try.f41) [1, 1, 1, 1, 0, 1, 0, 1, 1, 1, 1, 1, 1, 1, 1, 1, 1, 1, 1, 1, 1, 1, 1, 1, 1, 1, 1, 1, 1, 1, 1, 1, 1, 1, 0, 1, 0]) (Sub (bodyOf Try.f41) [1, 1, 1, 1, 0, 1, 0, 1, 1, 1, 1, 1, 1, 1, 1, 1, 1, 1, 1, 1, 1, 1, 1, 1, 1, 1, 1, 1, 1, 1, 1, 1, 1, 1, 0, 1, 1]) k (run Try.prog (C k) k (Sub (bodyOf Try.f41) [1, 1, 1, 1, 0, 1, 0, 1, 1, 1, 1, 1, 1, 1, 1, 1, 1, 1, 1, 1, 1, 1, 1, 1, 1, 1, 1, 1, 1, 1, 1, 1, 1, 1, 0, 1, 1]) (f41.Q2 k ))) (f41.Q2 k )
noncomputable def f41.Q4 (k : Nat)  : Kont (Value × AHeap) := blkQ 1 (f41.Q3 k )
noncomputable def f41.K1 (k : Nat)  (p7 : Nat) (p12 : Nat) (x15 : Int) (D : List Value) (H : AHeap) : Option (Value × AHeap) :=
  gateC (Sub (bodyOf Try.f41) [1, 1, 1, 1, 0]) (Sub (bodyOf Try.f41) [1, 1, 1, 1, 1]) k (run Try.prog (C k) k (Sub (bodyOf Try.f41) [1, 1, 1, 1, 1]) (f41.Q0 k )) [(D.getD 0 undef), (D.getD 1 undef), (D.getD 2 undef), (D.getD 3 undef), (D.getD 4 undef), (D.getD 5 undef), (D.getD 6 undef), .pointer (some ⟨p7, 0, none⟩), undef, undef, undef, undef, .pointer (some ⟨p12, 0, none⟩), (D.getD 7 undef), (D.getD 8 undef), .int .i64 x15, (D.getD 9 undef), (D.getD 10 undef), (D.getD 11 undef), (D.getD 12 undef), (D.getD 13 undef), (D.getD 14 undef), (D.getD 15 undef), (D.getD 16 undef), (D.getD 17 undef), (D.getD 18 undef), (D.getD 19 undef), undef, (D.getD 20 undef), (D.getD 21 undef), (D.getD 22 undef), (D.getD 23 undef), (D.getD 24 undef), (D.getD 25 undef), (D.getD 26 undef), (D.getD 27 undef), (D.getD 28 undef), (D.getD 29 undef), (D.getD 30 undef), (D.getD 31 undef), (D.getD 32 undef), (D.getD 33 undef), (D.getD 34 undef), (D.getD 35 undef), (D.getD 36 undef), (D.getD 37 undef), (D.getD 38 undef), (D.getD 39 undef), (D.getD 40 undef), (D.getD 41 undef), (D.getD 42 undef), (D.getD 43 undef), (D.getD 44 undef), (D.getD 45 undef), (D.getD 46 undef), (D.getD 47 undef), (D.getD 48 undef), (D.getD 49 undef), (D.getD 50 undef), (D.getD 51 undef), (D.getD 52 undef), (D.getD 53 undef), (D.getD 54 undef), (D.getD 55 undef), (D.getD 56 undef), (D.getD 57 undef), (D.getD 58 undef), (D.getD 59 undef), (D.getD 60 undef), (D.getD 61 undef), (D.getD 62 undef), (D.getD 63 undef), (D.getD 64 undef), (D.getD 65 undef), (D.getD 66 undef), (D.getD 67 undef), (D.getD 68 undef), (D.getD 69 undef), (D.getD 70 undef), (D.getD 71 undef), (D.getD 72 undef), (D.getD 73 undef), (D.getD 74 undef), (D.getD 75 undef), (D.getD 76 undef), (D.getD 77 undef), (D.getD 78 undef), (D.getD 79 undef), (D.getD 80 undef), (D.getD 81 undef), (D.getD 82 undef), (D.getD 83 undef), (D.getD 84 undef), (D.getD 85 undef), (D.getD 86 undef), (D.getD 87 undef), (D.getD 88 undef), (D.getD 89 undef), (D.getD 90 undef), (D.getD 91 undef), (D.getD 92 undef), (D.getD 93 undef), (D.getD 94 undef), (D.getD 95 undef), (D.getD 96 undef), (D.getD 97 undef), (D.getD 98 undef), (D.getD 99 undef), (D.getD 100 undef), (D.getD 101 undef), (D.getD 102 undef), (D.getD 103 undef), (D.getD 104 undef), (D.getD 105 undef), (D.getD 106 undef), (D.getD 107 undef), (D.getD 108 undef), (D.getD 109 undef), (D.getD 110 undef), (D.getD 111 undef), (D.getD 112 undef), (D.getD 113 undef), (D.getD 114 undef), (D.getD 115 undef), (D.getD 116 undef), (D.getD 117 undef), (D.getD 118 undef), (D.getD 119 undef), (D.getD 120 undef), (D.getD 121 undef), (D.getD 122 undef), (D.getD 123 undef), (D.getD 124 undef), (D.getD 125 undef), (D.getD 126 undef), (D.getD 127 undef), (D.getD 128 undef), (D.getD 129 undef), (D.getD 130 undef), (D.getD 131 undef), (D.getD 132 undef), (D.getD 133 undef), (D.getD 134 undef), (D.getD 135 undef), (D.getD 136 undef), (D.getD 137 undef), (D.getD 138 undef), (D.getD 139 undef), (D.getD 140 undef), (D.getD 141 undef), (D.getD 142 undef), (D.getD 143 undef), (D.getD 144 undef), (D.getD 145 undef), (D.getD 146 undef), (D.getD 147 undef), (D.getD 148 undef), (D.getD 149 undef), (D.getD 150 undef), (D.getD 151 undef), (D.getD 152 undef), (D.getD 153 undef), (D.getD 154 undef), (D.getD 155 undef), (D.getD 156 undef), (D.getD 157 undef), (D.getD 158 undef), (D.getD 159 undef), (D.getD 160 undef), (D.getD 161 undef), (D.getD 162 undef), (D.getD 163 undef), (D.getD 164 undef), (D.getD 165 undef), (D.getD 166 undef), (D.getD 167 undef), (D.getD 168 undef), (D.getD 169 undef), (D.getD 170 undef), (D.getD 171 undef), (D.getD 172 undef), (D.getD 173 undef), (D.getD 174 undef), (D.getD 175 undef), (D.getD 176 undef), (D.getD 177 undef), (D.getD 178 undef), (D.getD 179 undef), (D.getD 180 undef), (D.getD 181 undef), (D.getD 182 undef), (D.getD 183 undef), (D.getD 184 undef), (D.getD 185 undef), (D.getD 186 undef), (D.getD 187 undef), (D.getD 188 undef), (D.getD 189 undef), (D.getD 190 undef), (D.getD 191 undef), (D.getD 192 undef), (D.getD 193 undef), (D.getD 194 undef), (D.getD 195 undef), (D.getD 196 undef), (D.getD 197 undef), (D.getD 198 undef), (D.getD 199 undef), (D.getD 200 undef), (D.getD 201 undef), (D.getD 202 undef), (D.getD 203 undef), (D.getD 204 undef), (D.getD 205 undef), (D.getD 206 undef), undef, undef] H
noncomputable def f41.K2 (k : Nat)  (x2 : Int) (x4 : Int) (x5 : Int) (p6 : Nat) (p7 : Nat) (p12 : Nat) (x15 : Int) (x30 : Int) (b45 : Bool) (D : List Value) (H : AHeap) : Option (Value × AHeap) :=
  gateC (Sub (bodyOf Try.f41) [1, 1, 1, 1, 0, 1, 0, 1, 1, 1, 1, 0]) (Sub (bodyOf Try.f41) [1, 1, 1, 1, 0, 1, 0, 1, 1, 1, 1, 1]) k (run Try.prog (C k) k (Sub (bodyOf Try.f41) [1, 1, 1, 1, 0, 1, 0, 1, 1, 1, 1, 1]) (f41.Q2 k )) [(D.getD 0 undef), (D.getD 1 undef), .int .i64 x2, (D.getD 2 undef), .int .i64 x4, .int .i64 x5, .pointer (some ⟨p6, 0, none⟩), .pointer (some ⟨p7, 0, none⟩), undef, undef, undef, undef, .pointer (some ⟨p12, 0, none⟩), (D.getD 3 undef), (D.getD 4 undef), .int .i64 x15, undef, undef, undef, undef, (D.getD 5 undef), (D.getD 6 undef), (D.getD 7 undef), (D.getD 8 undef), (D.getD 9 undef), (D.getD 10 undef), (D.getD 11 undef), undef, (D.getD 12 undef), (D.getD 13 undef), .int .i64 x30, (D.getD 14 undef), (D.getD 15 undef), undef, undef, undef, undef, undef, (D.getD 16 undef), (D.getD 17 undef), undef, undef, undef, undef, undef, .bool b45, (D.getD 18 undef), (D.getD 19 undef), undef, undef, undef, undef, undef, undef, undef, undef, undef, undef, undef, undef, undef, undef, undef, undef, undef, undef, undef, undef, undef, undef, undef, undef, undef, undef, undef, undef, undef, undef, undef, undef, undef, undef, undef, undef, undef, undef, undef, undef, undef, undef, undef, undef, undef, undef, undef, undef, undef, undef, undef, undef, undef, undef, undef, undef, undef, undef, undef, undef, undef, undef, undef, undef, undef, undef, undef, undef, undef, undef, undef, undef, undef, undef, undef, undef, undef, undef, undef, undef, undef, undef, undef, undef, undef, undef, undef, undef, undef, undef, undef, undef, undef, undef, undef, undef, undef, undef, undef, undef, undef, undef, undef, undef, undef, undef, undef, undef, undef, undef, undef, undef, undef, undef, undef, undef, undef, undef, undef, undef, undef, undef, undef, undef, undef, undef, undef, undef, undef, undef, undef, undef, undef, undef, undef, undef, undef, undef, undef, undef, undef, undef, undef, undef, undef, undef, undef, undef, undef, undef, undef, undef, undef, undef, undef, undef, undef, undef, undef, undef, undef, undef, undef, undef, undef, undef, undef, undef, undef] H
noncomputable def f41.K3 (k : Nat)  (x2 : Int) (x4 : Int) (x5 : Int) (p6 : Nat) (p7 : Nat) (p12 : Nat) (x15 : Int) (x30 : Int) (b54 : Bool) (D : List Value) (H : AHeap) : Option (Value × AHeap) :=
  gateC (Sub (bodyOf Try.f41) [1, 1, 1, 1, 0, 1, 0, 1, 1, 1, 1, 1, 1, 0]) (Sub (bodyOf Try.f41) [1, 1, 1, 1, 0, 1, 0, 1, 1, 1, 1, 1, 1, 1]) k (run Try.prog (C k) k (Sub (bodyOf Try.f41) [1, 1, 1, 1, 0, 1, 0, 1, 1, 1, 1, 1, 1, 1]) (f41.Q2 k )) [(D.getD 0 undef), (D.getD 1 undef), .int .i64 x2, (D.getD 2 undef), .int .i64 x4, .int .i64 x5, .pointer (some ⟨p6, 0, none⟩), .pointer (some ⟨p7, 0, none⟩), undef, undef, undef, undef, .pointer (some ⟨p12, 0, none⟩), (D.getD 3 undef), (D.getD 4 undef), .int .i64 x15, undef, undef, undef, undef, (D.getD 5 undef), (D.getD 6 undef), (D.getD 7 undef), (D.getD 8 undef), (D.getD 9 undef), (D.getD 10 undef), (D.getD 11 undef), undef, (D.getD 12 undef), (D.getD 13 undef), .int .i64 x30, (D.getD 14 undef), (D.getD 15 undef), undef, undef, undef, undef, undef, (D.getD 16 undef), (D.getD 17 undef), undef, undef, undef, undef, undef, (D.getD 18 undef), (D.getD 19 undef), (D.getD 20 undef), undef, undef, undef, undef, undef, undef, .bool b54, (D.getD 21 undef), (D.getD 22 undef), undef, undef, undef, undef, undef, undef, undef, undef, undef, undef, undef, undef, undef, undef, undef, undef, undef, undef, undef, undef, undef, undef, undef, undef, undef, undef, undef, undef, undef, undef, undef, undef, undef, undef, undef, undef, undef, undef, undef, undef, undef, undef, undef, undef, undef, undef, undef, undef, undef, undef, undef, undef, undef, undef, undef, undef, undef, undef, undef, undef, undef, undef, undef, undef, undef, undef, undef, undef, undef, undef, undef, undef, undef, undef, undef, undef, undef, undef, undef, undef, undef, undef, undef, undef, undef, undef, undef, undef, undef, undef, undef, undef, undef, undef, undef, undef, undef, undef, undef, undef, undef, undef, undef, undef, undef, undef, undef, undef, undef, undef, undef, undef, undef, undef, undef, undef, undef, undef, undef, undef, undef, undef, undef, undef, undef, undef, undef, undef, undef, undef, undef, undef, undef, undef, undef, undef, undef, undef, undef, undef, undef, undef, undef, undef, undef, undef, undef, undef, undef, undef, undef, undef, undef, undef, undef, undef, undef, undef, undef, undef] H
noncomputable def f41.L1 (k : Nat) (n1 : Nat) (p7 : Nat) (p12 : Nat) (a18 : Option Addr) (l18 : Nat) (c18 : Nat) (x19 : Int) (D : List Value) (H : AHeap) : Option (Value × AHeap) :=
  iter (run Try.prog (C k) k (Sub (bodyOf Try.f41) [1, 1, 1, 1, 0, 1, 0, 1, 1, 1, 1, 1, 1, 1, 1, 1, 1, 1, 1, 1, 1, 1, 1, 1, 1, 1, 1, 1, 1, 1, 1, 1, 1, 1, 0, 1, 0, 1, 0, 0])) (f41.Q4 k ) n1 [(D.getD 0 undef), (D.getD 1 undef), (D.getD 2 undef), (D.getD 3 undef), (D.getD 4 undef), (D.getD 5 undef), (D.getD 6 undef), .pointer (some ⟨p7, 0, none⟩), undef, undef, undef, undef, .pointer (some ⟨p12, 0, none⟩), (D.getD 7 undef), (D.getD 8 undef), (D.getD 9 undef), undef, undef, .slice a18 l18 c18, .int .i64 x19, (D.getD 10 undef), (D.getD 11 undef), (D.getD 12 undef), (D.getD 13 undef), (D.getD 14 undef), (D.getD 15 undef), (D.getD 16 undef), undef, (D.getD 17 undef), (D.getD 18 undef), (D.getD 19 undef), (D.getD 20 undef), (D.getD 21 undef), undef, undef, undef, undef, undef, (D.getD 22 undef), (D.getD 23 undef), undef, undef, undef, undef, undef, (D.getD 24 undef), (D.getD 25 undef), (D.getD 26 undef), undef, undef, undef, undef, undef, undef, (D.getD 27 undef), (D.getD 28 undef), (D.getD 29 undef), undef, undef, undef, undef, undef, (D.getD 30 undef), (D.getD 31 undef), undef, undef, undef, undef, undef, undef, undef, undef, undef, undef, undef, undef, undef, undef, (D.getD 32 undef), (D.getD 33 undef), undef, undef, undef, undef, undef, undef, undef, undef, undef, undef, undef, undef, undef, (D.getD 34 undef), (D.getD 35 undef), undef, undef, (D.getD 36 undef), (D.getD 37 undef), undef, (D.getD 38 undef), (D.getD 39 undef), undef, undef, undef, undef, undef, (D.getD 40 undef), (D.getD 41 undef), undef, undef, undef, undef, undef, (D.getD 42 undef), (D.getD 43 undef), undef, undef, undef, undef, undef, undef, undef, undef, undef, undef, undef, undef, undef, undef, undef, undef, undef, undef, undef, undef, undef, (D.getD 44 undef), (D.getD 45 undef), undef, undef, undef, undef, undef, undef, undef, undef, undef, undef, undef, undef, undef, undef, undef, undef, undef, undef, undef, undef, undef, (D.getD 46 undef), (D.getD 47 undef), undef, undef, undef, undef, undef, undef, undef, undef, undef, undef, undef, undef, undef, undef, undef, undef, undef, undef, undef, (D.getD 48 undef), (D.getD 49 undef), (D.getD 50 undef), (D.getD 51 undef), (D.getD 52 undef), (D.getD 53 undef), (D.getD 54 undef), (D.getD 55 undef), (D.getD 56 undef), (D.getD 57 undef), (D.getD 58 undef), (D.getD 59 undef), (D.getD 60 undef), (D.getD 61 undef), (D.getD 62 undef), (D.getD 63 undef), (D.getD 64 undef), (D.getD 65 undef), (D.getD 66 undef), undef, undef, undef, undef, undef, undef, undef, undef, undef, undef, undef, undef, undef, undef, undef, undef, undef] H
theorem f41.K1_eq (k : Nat)  (p7 : Nat) (p12 : Nat) (x15 : Int) (D : List Value) (H : AHeap) : f41.K1 k  p7 p12 x15 D H =
  ((AHeap.row H p7 (0) 4).bind fun g =>
   if notTup (.agg (g : List Value).toArray) = true ∧ (g).length = 4 then
   (AHeap.wr H p12 (0) g).bind fun H_1 =>
   (AHeap.row H_1 p12 (0) 4).bind fun g_1 =>
   some (.tuple #[.agg (g_1 : List Value).toArray, .int .i64 x15, .bool true], H_1)
   else none) := by
  unfold f41.K1
  rw [gateC_eq]
  kernel_rfl
theorem f41.K2_eq (k : Nat)  (x2 : Int) (x4 : Int) (x5 : Int) (p6 : Nat) (p7 : Nat) (p12 : Nat) (x15 : Int) (x30 : Int) (b45 : Bool) (D : List Value) (H : AHeap) : f41.K2 k  x2 x4 x5 p6 p7 p12 x15 x30 b45 D H =
  (bif b45 then
   bSl (ldSl H p7 (0)) fun a l c =>
   a.bind fun q =>
   if 0 ≤ x4 ∧ x4 < (l : Int) then
   (AHeap.wr H q.block (q.off + x4.toNat * 2 + 0) [.int .i64 x2]).bind fun H_1 =>
   f41.K1 k p7 p12 x15 [(D.getD 0 undef), (D.getD 1 undef), .int .i64 x2, (D.getD 2 undef), .int .i64 x4, .int .i64 x5, .pointer (some ⟨p6, 0, none⟩), (D.getD 3 undef), (D.getD 4 undef), undef, undef, undef, undef, (D.getD 5 undef), (D.getD 6 undef), (D.getD 7 undef), (D.getD 8 undef), (D.getD 9 undef), (D.getD 10 undef), (D.getD 11 undef), (D.getD 12 undef), (D.getD 13 undef), .int .i64 x30, (D.getD 14 undef), (D.getD 15 undef), undef, undef, undef, undef, undef, (D.getD 16 undef), (D.getD 17 undef), undef, undef, undef, undef, undef, .bool b45, (D.getD 18 undef), (D.getD 19 undef), .pointer (some ⟨p7, 0, none⟩), .slice a l c, .int .i64 x4, .int .i64 x2, .pointer (some ⟨q.block, q.off + x4.toNat * 2, none⟩), .pointer (some ⟨q.block, q.off + x4.toNat * 2 + 0, none⟩), undef, undef, undef, undef, undef, undef, undef, undef, undef, undef, undef, undef, undef, undef, undef, undef, undef, undef, undef, undef, undef, undef, undef, undef, undef, undef, undef, undef, undef, undef, undef, undef, undef, undef, undef, undef, undef, undef, undef, undef, undef, undef, undef, undef, undef, undef, undef, undef, undef, undef, undef, undef, undef, undef, undef, undef, undef, undef, undef, undef, undef, undef, undef, undef, undef, undef, undef, undef, undef, undef, undef, undef, undef, undef, undef, undef, undef, undef, undef, undef, undef, undef, undef, undef, undef, undef, undef, undef, undef, undef, undef, undef, undef, undef, undef, undef, undef, undef, undef, undef, undef, undef, undef, undef, undef, undef, undef, undef, undef, undef, undef, undef, undef, undef, undef, undef, undef, undef, undef, undef, undef, undef, undef, undef, undef, undef, undef, undef, undef, undef, undef, undef, undef, undef, undef, undef, undef, undef, undef, undef, undef, undef, undef, undef, undef, undef, undef, undef, undef, undef, undef, undef, undef, undef, undef, undef, undef, undef, undef, undef, undef] H_1
   else none
   else
   bif (x30 == (7 : Int)) then
   f41.K3 k x2 x4 x5 p6 p7 p12 x15 x30 (x30 == (7 : Int)) [(D.getD 0 undef), (D.getD 1 undef), (D.getD 2 undef), (D.getD 3 undef), (D.getD 4 undef), (D.getD 5 undef), (D.getD 6 undef), (D.getD 7 undef), (D.getD 8 undef), (D.getD 9 undef), (D.getD 10 undef), (D.getD 11 undef), (D.getD 12 undef), (D.getD 13 undef), (D.getD 14 undef), (D.getD 15 undef), (D.getD 16 undef), (D.getD 17 undef), .bool b45, (D.getD 18 undef), (D.getD 19 undef), .bool (x30 == (7 : Int)), undef] H
   else
   f41.K3 k x2 x4 x5 p6 p7 p12 x15 x30 (x30 == (11 : Int)) [(D.getD 0 undef), (D.getD 1 undef), (D.getD 2 undef), (D.getD 3 undef), (D.getD 4 undef), (D.getD 5 undef), (D.getD 6 undef), (D.getD 7 undef), (D.getD 8 undef), (D.getD 9 undef), (D.getD 10 undef), (D.getD 11 undef), (D.getD 12 undef), (D.getD 13 undef), (D.getD 14 undef), (D.getD 15 undef), (D.getD 16 undef), (D.getD 17 undef), .bool b45, (D.getD 18 undef), (D.getD 19 undef), .bool (x30 == (7 : Int)), .bool (x30 == (11 : Int))] H) := by
  unfold f41.K2
  rw [gateC_eq]
  kernel_rfl
theorem f41.K3_eq (k : Nat)  (x2 : Int) (x4 : Int) (x5 : Int) (p6 : Nat) (p7 : Nat) (p12 : Nat) (x15 : Int) (x30 : Int) (b54 : Bool) (D : List Value) (H : AHeap) : f41.K3 k  x2 x4 x5 p6 p7 p12 x15 x30 b54 D H =
  (bif b54 then
   bSl (ldSl H p7 (0)) fun a l c =>
   a.bind fun q =>
   if 0 ≤ x4 ∧ x4 < (l : Int) then
   (AHeap.wr H q.block (q.off + x4.toNat * 2 + 0) [.int .i64 (-1)]).bind fun H_1 =>
   f41.K1 k p7 p12 x15 [(D.getD 0 undef), (D.getD 1 undef), .int .i64 x2, (D.getD 2 undef), .int .i64 x4, .int .i64 x5, .pointer (some ⟨p6, 0, none⟩), (D.getD 3 undef), (D.getD 4 undef), undef, undef, undef, undef, (D.getD 5 undef), (D.getD 6 undef), (D.getD 7 undef), (D.getD 8 undef), (D.getD 9 undef), (D.getD 10 undef), (D.getD 11 undef), (D.getD 12 undef), (D.getD 13 undef), .int .i64 x30, (D.getD 14 undef), (D.getD 15 undef), undef, undef, undef, undef, undef, (D.getD 16 undef), (D.getD 17 undef), undef, undef, undef, undef, undef, (D.getD 18 undef), (D.getD 19 undef), (D.getD 20 undef), undef, undef, undef, undef, undef, undef, .bool b54, (D.getD 21 undef), (D.getD 22 undef), .pointer (some ⟨p7, 0, none⟩), .slice a l c, .int .i64 x4, .pointer (some ⟨q.block, q.off + x4.toNat * 2, none⟩), .pointer (some ⟨q.block, q.off + x4.toNat * 2 + 0, none⟩), undef, undef, undef, undef, undef, undef, undef, undef, undef, undef, undef, undef, undef, undef, undef, undef, undef, undef, undef, undef, undef, undef, undef, undef, undef, undef, undef, undef, undef, undef, undef, undef, undef, undef, undef, undef, undef, undef, undef, undef, undef, undef, undef, undef, undef, undef, undef, undef, undef, undef, undef, undef, undef, undef, undef, undef, undef, undef, undef, undef, undef, undef, undef, undef, undef, undef, undef, undef, undef, undef, undef, undef, undef, undef, undef, undef, undef, undef, undef, undef, undef, undef, undef, undef, undef, undef, undef, undef, undef, undef, undef, undef, undef, undef, undef, undef, undef, undef, undef, undef, undef, undef, undef, undef, undef, undef, undef, undef, undef, undef, undef, undef, undef, undef, undef, undef, undef, undef, undef, undef, undef, undef, undef, undef, undef, undef, undef, undef, undef, undef, undef, undef, undef, undef, undef, undef, undef, undef, undef, undef, undef, undef, undef, undef, undef, undef, undef, undef, undef, undef, undef, undef, undef] H_1
   else none
   else
   bif (x30 == (8 : Int)) then
   bif sameB H (H.bump 15) p7 then
   bSl (ldSl (H.bump 15) p7 (0)) fun a_1 l_1 c_1 =>
   a_1.bind fun q_1 =>
   if 0 ≤ x4 ∧ x4 < (l_1 : Int) then
   bif sameB H (H.bump 15) q_1.block then
   bSl (ldSl (H.bump 15) q_1.block (q_1.off + x4.toNat * 2 + 1)) fun a_2 l_2 c_2 =>
   alK (some (H.next + 10)) (H.bump 15) ⟨[.int .i64 x2], 1, .rw, 0⟩ fun i H_2 =>
   cSl (C k 75 [.slice a_2 l_2 c_2, .slice (some ⟨i, 0, none⟩) 1 1] H_2) fun a_3 l_3 c_3 H_3 =>
   bif sameB H H_3 p7 then
   bSl (ldSl H_3 p7 (0)) fun a_4 l_4 c_4 =>
   a_4.bind fun q_2 =>
   if 0 ≤ x4 ∧ x4 < (l_4 : Int) then
   (AHeap.wr H_3 q_2.block (q_2.off + x4.toNat * 2 + 1) [.slice a_3 l_3 c_3]).bind fun H_4 =>
   f41.K1 k p7 p12 x15 [(D.getD 0 undef), (D.getD 1 undef), .int .i64 x2, (D.getD 2 undef), .int .i64 x4, .int .i64 x5, .pointer (some ⟨p6, 0, none⟩), (D.getD 3 undef), (D.getD 4 undef), undef, undef, undef, undef, (D.getD 5 undef), (D.getD 6 undef), (D.getD 7 undef), (D.getD 8 undef), (D.getD 9 undef), (D.getD 10 undef), (D.getD 11 undef), (D.getD 12 undef), (D.getD 13 undef), .int .i64 x30, (D.getD 14 undef), (D.getD 15 undef), undef, undef, undef, undef, undef, (D.getD 16 undef), (D.getD 17 undef), undef, undef, undef, undef, undef, (D.getD 18 undef), (D.getD 19 undef), (D.getD 20 undef), undef, undef, undef, undef, undef, undef, .bool b54, (D.getD 21 undef), (D.getD 22 undef), undef, undef, undef, undef, undef, .bool (x30 == (8 : Int)), .bool (x30 == (8 : Int)), .pointer (some ⟨p7, 0, none⟩), .slice a_4 l_4 c_4, .int .i64 x4, .pointer (some ⟨p7, 0, none⟩), .slice a_1 l_1 c_1, .int .i64 x4, .pointer (some ⟨q_1.block, q_1.off + x4.toNat * 2, none⟩), .pointer (some ⟨q_1.block, q_1.off + x4.toNat * 2 + 1, none⟩), .slice a_2 l_2 c_2, .int .i64 x2, .slice (some ⟨i, 0, none⟩) 1 1, .slice a_3 l_3 c_3, .pointer (some ⟨q_2.block, q_2.off + x4.toNat * 2, none⟩), .pointer (some ⟨q_2.block, q_2.off + x4.toNat * 2 + 1, none⟩), undef, undef, undef, undef, undef, undef, undef, undef, undef, undef, undef, undef, undef, undef, undef, undef, undef, undef, undef, undef, undef, undef, undef, undef, undef, undef, undef, undef, undef, undef, undef, undef, undef, undef, undef, undef, undef, undef, undef, undef, undef, undef, undef, undef, undef, undef, undef, undef, undef, undef, undef, undef, undef, undef, undef, undef, undef, undef, undef, undef, undef, undef, undef, undef, undef, undef, undef, undef, undef, undef, undef, undef, undef, undef, undef, undef, undef, undef, undef, undef, undef, undef, undef, undef, undef, undef, undef, undef, undef, undef, undef, undef, undef, undef, undef, undef, undef, undef, undef, undef, undef, undef, undef, undef, undef, undef, undef, undef, undef, undef, undef, undef, undef, undef, undef, undef, undef, undef, undef, undef, undef, undef, undef, undef, undef, undef, undef, undef, undef, undef, undef, undef, undef, undef, undef, undef, undef] H_4
   else none
   else none
   else none
   else none
   else none
   else
   bif (x30 == (9 : Int)) then
   bif sameB H (H.bump 14) p7 then
   bSl (ldSl (H.bump 14) p7 (0)) fun a_5 l_5 c_5 =>
   a_5.bind fun q_3 =>
   if 0 ≤ x4 ∧ x4 < (l_5 : Int) then
   bif sameB H (H.bump 14) q_3.block then
   bSl (ldSl (H.bump 14) q_3.block (q_3.off + x4.toNat * 2 + 1)) fun a_6 l_6 c_6 =>
   cSl (C k 76 [.slice a_6 l_6 c_6, .int .i64 x2] (H.bump 14)) fun a_7 l_7 c_7 H_5 =>
   bif sameB H H_5 p7 then
   bSl (ldSl H_5 p7 (0)) fun a_8 l_8 c_8 =>
   a_8.bind fun q_4 =>
   if 0 ≤ x4 ∧ x4 < (l_8 : Int) then
   (AHeap.wr H_5 q_4.block (q_4.off + x4.toNat * 2 + 1) [.slice a_7 l_7 c_7]).bind fun H_6 =>
   f41.K1 k p7 p12 x15 [(D.getD 0 undef), (D.getD 1 undef), .int .i64 x2, (D.getD 2 undef), .int .i64 x4, .int .i64 x5, .pointer (some ⟨p6, 0, none⟩), (D.getD 3 undef), (D.getD 4 undef), undef, undef, undef, undef, (D.getD 5 undef), (D.getD 6 undef), (D.getD 7 undef), (D.getD 8 undef), (D.getD 9 undef), (D.getD 10 undef), (D.getD 11 undef), (D.getD 12 undef), (D.getD 13 undef), .int .i64 x30, (D.getD 14 undef), (D.getD 15 undef), undef, undef, undef, undef, undef, (D.getD 16 undef), (D.getD 17 undef), undef, undef, undef, undef, undef, (D.getD 18 undef), (D.getD 19 undef), (D.getD 20 undef), undef, undef, undef, undef, undef, undef, .bool b54, (D.getD 21 undef), (D.getD 22 undef), undef, undef, undef, undef, undef, .bool (x30 == (8 : Int)), .bool (x30 == (8 : Int)), undef, undef, undef, undef, undef, undef, undef, undef, undef, undef, undef, undef, undef, undef, .bool (x30 == (9 : Int)), .bool (x30 == (9 : Int)), .pointer (some ⟨p7, 0, none⟩), .slice a_8 l_8 c_8, .int .i64 x4, .pointer (some ⟨p7, 0, none⟩), .slice a_5 l_5 c_5, .int .i64 x4, .pointer (some ⟨q_3.block, q_3.off + x4.toNat * 2, none⟩), .pointer (some ⟨q_3.block, q_3.off + x4.toNat * 2 + 1, none⟩), .slice a_6 l_6 c_6, .int .i64 x2, .slice a_7 l_7 c_7, .pointer (some ⟨q_4.block, q_4.off + x4.toNat * 2, none⟩), .pointer (some ⟨q_4.block, q_4.off + x4.toNat * 2 + 1, none⟩), undef, undef, undef, undef, undef, undef, undef, undef, undef, undef, undef, undef, undef, undef, undef, undef, undef, undef, undef, undef, undef, undef, undef, undef, undef, undef, undef, undef, undef, undef, undef, undef, undef, undef, undef, undef, undef, undef, undef, undef, undef, undef, undef, undef, undef, undef, undef, undef, undef, undef, undef, undef, undef, undef, undef, undef, undef, undef, undef, undef, undef, undef, undef, undef, undef, undef, undef, undef, undef, undef, undef, undef, undef, undef, undef, undef, undef, undef, undef, undef, undef, undef, undef, undef, undef, undef, undef, undef, undef, undef, undef, undef, undef, undef, undef, undef, undef, undef, undef, undef, undef, undef, undef, undef, undef, undef, undef, undef, undef, undef, undef, undef, undef, undef, undef, undef, undef, undef, undef, undef, undef, undef] H_6
   else none
   else none
   else none
   else none
   else none
   else
   bif (x30 == (12 : Int)) then
   (AHeap.wr H p7 (1) [.int .i64 x2]).bind fun H_7 =>
   f41.K1 k p7 p12 x15 [(D.getD 0 undef), (D.getD 1 undef), .int .i64 x2, (D.getD 2 undef), .int .i64 x4, .int .i64 x5, .pointer (some ⟨p6, 0, none⟩), (D.getD 3 undef), (D.getD 4 undef), undef, undef, undef, undef, (D.getD 5 undef), (D.getD 6 undef), (D.getD 7 undef), (D.getD 8 undef), (D.getD 9 undef), (D.getD 10 undef), (D.getD 11 undef), (D.getD 12 undef), (D.getD 13 undef), .int .i64 x30, (D.getD 14 undef), (D.getD 15 undef), undef, undef, undef, undef, undef, (D.getD 16 undef), (D.getD 17 undef), undef, undef, undef, undef, undef, (D.getD 18 undef), (D.getD 19 undef), (D.getD 20 undef), undef, undef, undef, undef, undef, undef, .bool b54, (D.getD 21 undef), (D.getD 22 undef), undef, undef, undef, undef, undef, .bool (x30 == (8 : Int)), .bool (x30 == (8 : Int)), undef, undef, undef, undef, undef, undef, undef, undef, undef, undef, undef, undef, undef, undef, .bool (x30 == (9 : Int)), .bool (x30 == (9 : Int)), undef, undef, undef, undef, undef, undef, undef, undef, undef, undef, undef, undef, undef, .bool (x30 == (12 : Int)), .bool (x30 == (12 : Int)), .int .i64 x2, .pointer (some ⟨p7, 1, none⟩), undef, undef, undef, undef, undef, undef, undef, undef, undef, undef, undef, undef, undef, undef, undef, undef, undef, undef, undef, undef, undef, undef, undef, undef, undef, undef, undef, undef, undef, undef, undef, undef, undef, undef, undef, undef, undef, undef, undef, undef, undef, undef, undef, undef, undef, undef, undef, undef, undef, undef, undef, undef, undef, undef, undef, undef, undef, undef, undef, undef, undef, undef, undef, undef, undef, undef, undef, undef, undef, undef, undef, undef, undef, undef, undef, undef, undef, undef, undef, undef, undef, undef, undef, undef, undef, undef, undef, undef, undef, undef, undef, undef, undef, undef, undef, undef, undef, undef, undef, undef, undef, undef, undef, undef, undef, undef, undef, undef, undef, undef, undef, undef, undef, undef, undef, undef, undef, undef] H_7
   else
   bif (x30 == (13 : Int)) then
   (AHeap.wr H p7 (1) [.int .i64 (-1)]).bind fun H_8 =>
   f41.K1 k p7 p12 x15 [(D.getD 0 undef), (D.getD 1 undef), .int .i64 x2, (D.getD 2 undef), .int .i64 x4, .int .i64 x5, .pointer (some ⟨p6, 0, none⟩), (D.getD 3 undef), (D.getD 4 undef), undef, undef, undef, undef, (D.getD 5 undef), (D.getD 6 undef), (D.getD 7 undef), (D.getD 8 undef), (D.getD 9 undef), (D.getD 10 undef), (D.getD 11 undef), (D.getD 12 undef), (D.getD 13 undef), .int .i64 x30, (D.getD 14 undef), (D.getD 15 undef), undef, undef, undef, undef, undef, (D.getD 16 undef), (D.getD 17 undef), undef, undef, undef, undef, undef, (D.getD 18 undef), (D.getD 19 undef), (D.getD 20 undef), undef, undef, undef, undef, undef, undef, .bool b54, (D.getD 21 undef), (D.getD 22 undef), undef, undef, undef, undef, undef, .bool (x30 == (8 : Int)), .bool (x30 == (8 : Int)), undef, undef, undef, undef, undef, undef, undef, undef, undef, undef, undef, undef, undef, undef, .bool (x30 == (9 : Int)), .bool (x30 == (9 : Int)), undef, undef, undef, undef, undef, undef, undef, undef, undef, undef, undef, undef, undef, .bool (x30 == (12 : Int)), .bool (x30 == (12 : Int)), undef, undef, .bool (x30 == (13 : Int)), .bool (x30 == (13 : Int)), .pointer (some ⟨p7, 1, none⟩), undef, undef, undef, undef, undef, undef, undef, undef, undef, undef, undef, undef, undef, undef, undef, undef, undef, undef, undef, undef, undef, undef, undef, undef, undef, undef, undef, undef, undef, undef, undef, undef, undef, undef, undef, undef, undef, undef, undef, undef, undef, undef, undef, undef, undef, undef, undef, undef, undef, undef, undef, undef, undef, undef, undef, undef, undef, undef, undef, undef, undef, undef, undef, undef, undef, undef, undef, undef, undef, undef, undef, undef, undef, undef, undef, undef, undef, undef, undef, undef, undef, undef, undef, undef, undef, undef, undef, undef, undef, undef, undef, undef, undef, undef, undef, undef, undef, undef, undef, undef, undef, undef, undef, undef, undef, undef, undef, undef, undef, undef, undef, undef, undef, undef, undef] H_8
   else
   bif (x30 == (14 : Int)) then
   bSl (ldSl H p7 (3)) fun a_9 l_9 c_9 =>
   a_9.bind fun q_5 =>
   if 0 ≤ x2 ∧ x2 < (l_9 : Int) then
   (AHeap.wr H q_5.block (q_5.off + x2.toNat * 3 + 2) [.bool true]).bind fun H_9 =>
   f41.K1 k p7 p12 x15 [(D.getD 0 undef), (D.getD 1 undef), .int .i64 x2, (D.getD 2 undef), .int .i64 x4, .int .i64 x5, .pointer (some ⟨p6, 0, none⟩), (D.getD 3 undef), (D.getD 4 undef), undef, undef, undef, undef, (D.getD 5 undef), (D.getD 6 undef), (D.getD 7 undef), (D.getD 8 undef), (D.getD 9 undef), (D.getD 10 undef), (D.getD 11 undef), (D.getD 12 undef), (D.getD 13 undef), .int .i64 x30, (D.getD 14 undef), (D.getD 15 undef), undef, undef, undef, undef, undef, (D.getD 16 undef), (D.getD 17 undef), undef, undef, undef, undef, undef, (D.getD 18 undef), (D.getD 19 undef), (D.getD 20 undef), undef, undef, undef, undef, undef, undef, .bool b54, (D.getD 21 undef), (D.getD 22 undef), undef, undef, undef, undef, undef, .bool (x30 == (8 : Int)), .bool (x30 == (8 : Int)), undef, undef, undef, undef, undef, undef, undef, undef, undef, undef, undef, undef, undef, undef, .bool (x30 == (9 : Int)), .bool (x30 == (9 : Int)), undef, undef, undef, undef, undef, undef, undef, undef, undef, undef, undef, undef, undef, .bool (x30 == (12 : Int)), .bool (x30 == (12 : Int)), undef, undef, .bool (x30 == (13 : Int)), .bool (x30 == (13 : Int)), undef, .bool (x30 == (14 : Int)), .bool (x30 == (14 : Int)), .pointer (some ⟨p7, 3, none⟩), .slice a_9 l_9 c_9, .int .i64 x2, .pointer (some ⟨q_5.block, q_5.off + x2.toNat * 3, none⟩), .pointer (some ⟨q_5.block, q_5.off + x2.toNat * 3 + 2, none⟩), undef, undef, undef, undef, undef, undef, undef, undef, undef, undef, undef, undef, undef, undef, undef, undef, undef, undef, undef, undef, undef, undef, undef, undef, undef, undef, undef, undef, undef, undef, undef, undef, undef, undef, undef, undef, undef, undef, undef, undef, undef, undef, undef, undef, undef, undef, undef, undef, undef, undef, undef, undef, undef, undef, undef, undef, undef, undef, undef, undef, undef, undef, undef, undef, undef, undef, undef, undef, undef, undef, undef, undef, undef, undef, undef, undef, undef, undef, undef, undef, undef, undef, undef, undef, undef, undef, undef, undef, undef, undef, undef, undef, undef, undef, undef, undef, undef, undef, undef, undef, undef, undef, undef, undef, undef, undef, undef, undef] H_9
   else none
   else
   bif (x30 == (15 : Int)) then
   bSl (ldSl H p7 (3)) fun a_10 l_10 c_10 =>
   a_10.bind fun q_6 =>
   if 0 ≤ x2 ∧ x2 < (l_10 : Int) then
   (AHeap.wr H q_6.block (q_6.off + x2.toNat * 3 + 2) [.bool false]).bind fun H_10 =>
   f41.K1 k p7 p12 x15 [(D.getD 0 undef), (D.getD 1 undef), .int .i64 x2, (D.getD 2 undef), .int .i64 x4, .int .i64 x5, .pointer (some ⟨p6, 0, none⟩), (D.getD 3 undef), (D.getD 4 undef), undef, undef, undef, undef, (D.getD 5 undef), (D.getD 6 undef), (D.getD 7 undef), (D.getD 8 undef), (D.getD 9 undef), (D.getD 10 undef), (D.getD 11 undef), (D.getD 12 undef), (D.getD 13 undef), .int .i64 x30, (D.getD 14 undef), (D.getD 15 undef), undef, undef, undef, undef, undef, (D.getD 16 undef), (D.getD 17 undef), undef, undef, undef, undef, undef, (D.getD 18 undef), (D.getD 19 undef), (D.getD 20 undef), undef, undef, undef, undef, undef, undef, .bool b54, (D.getD 21 undef), (D.getD 22 undef), undef, undef, undef, undef, undef, .bool (x30 == (8 : Int)), .bool (x30 == (8 : Int)), undef, undef, undef, undef, undef, undef, undef, undef, undef, undef, undef, undef, undef, undef, .bool (x30 == (9 : Int)), .bool (x30 == (9 : Int)), undef, undef, undef, undef, undef, undef, undef, undef, undef, undef, undef, undef, undef, .bool (x30 == (12 : Int)), .bool (x30 == (12 : Int)), undef, undef, .bool (x30 == (13 : Int)), .bool (x30 == (13 : Int)), undef, .bool (x30 == (14 : Int)), .bool (x30 == (14 : Int)), undef, undef, undef, undef, undef, .bool (x30 == (15 : Int)), .bool (x30 == (15 : Int)), .pointer (some ⟨p7, 3, none⟩), .slice a_10 l_10 c_10, .int .i64 x2, .pointer (some ⟨q_6.block, q_6.off + x2.toNat * 3, none⟩), .pointer (some ⟨q_6.block, q_6.off + x2.toNat * 3 + 2, none⟩), undef, undef, undef, undef, undef, undef, undef, undef, undef, undef, undef, undef, undef, undef, undef, undef, undef, undef, undef, undef, undef, undef, undef, undef, undef, undef, undef, undef, undef, undef, undef, undef, undef, undef, undef, undef, undef, undef, undef, undef, undef, undef, undef, undef, undef, undef, undef, undef, undef, undef, undef, undef, undef, undef, undef, undef, undef, undef, undef, undef, undef, undef, undef, undef, undef, undef, undef, undef, undef, undef, undef, undef, undef, undef, undef, undef, undef, undef, undef, undef, undef, undef, undef, undef, undef, undef, undef, undef, undef, undef, undef, undef, undef, undef, undef, undef, undef, undef, undef, undef, undef] H_10
   else none
   else
   bif (x30 == (16 : Int)) then
   bif sameB H (H.bump 11) p7 then
   bSl (ldSl (H.bump 11) p7 (0)) fun a_11 l_11 c_11 =>
   bif sameB H (H.bump 11) p6 then
   bSl (ldSl (H.bump 11) p6 (2)) fun a_12 l_12 c_12 =>
   a_12.bind fun q_7 =>
   if 0 ≤ x4 ∧ x4 < (l_12 : Int) then
   bif sameB H (H.bump 11) q_7.block then
   (ldI .i64 (H.bump 11) q_7.block (q_7.off + x4.toNat * 2 + 1)).bind fun x =>
   a_11.bind fun q_8 =>
   if 0 ≤ x ∧ x < (l_11 : Int) then
   (AHeap.wr (H.bump 11) q_8.block (q_8.off + x.toNat * 2 + 0) [.int .i64 (-1)]).bind fun H_11 =>
   bif sameB H_11 (H_11.bump 13) p7 then
   bSl (ldSl (H_11.bump 13) p7 (3)) fun a_13 l_13 c_13 =>
   a_13.bind fun q_9 =>
   if 0 ≤ x2 ∧ x2 < (l_13 : Int) then
   (AHeap.wr (H_11.bump 13) q_9.block (q_9.off + x2.toNat * 3 + 0) [.int .i64 3]).bind fun H_12 =>
   bif sameB H_11 H_12 p7 then
   bSl (ldSl H_12 p7 (3)) fun a_14 l_14 c_14 =>
   a_14.bind fun q_10 =>
   if 0 ≤ x2 ∧ x2 < (l_14 : Int) then
   (AHeap.wr H_12 q_10.block (q_10.off + x2.toNat * 3 + 1) [.int .i64 x4]).bind fun H_13 =>
   f41.K1 k p7 p12 x15 [(D.getD 0 undef), (D.getD 1 undef), .int .i64 x2, (D.getD 2 undef), .int .i64 x4, .int .i64 x5, .pointer (some ⟨p6, 0, none⟩), (D.getD 3 undef), (D.getD 4 undef), undef, undef, undef, undef, (D.getD 5 undef), (D.getD 6 undef), (D.getD 7 undef), (D.getD 8 undef), (D.getD 9 undef), (D.getD 10 undef), (D.getD 11 undef), (D.getD 12 undef), (D.getD 13 undef), .int .i64 x30, (D.getD 14 undef), (D.getD 15 undef), undef, undef, undef, undef, undef, (D.getD 16 undef), (D.getD 17 undef), undef, undef, undef, undef, undef, (D.getD 18 undef), (D.getD 19 undef), (D.getD 20 undef), undef, undef, undef, undef, undef, undef, .bool b54, (D.getD 21 undef), (D.getD 22 undef), undef, undef, undef, undef, undef, .bool (x30 == (8 : Int)), .bool (x30 == (8 : Int)), undef, undef, undef, undef, undef, undef, undef, undef, undef, undef, undef, undef, undef, undef, .bool (x30 == (9 : Int)), .bool (x30 == (9 : Int)), undef, undef, undef, undef, undef, undef, undef, undef, undef, undef, undef, undef, undef, .bool (x30 == (12 : Int)), .bool (x30 == (12 : Int)), undef, undef, .bool (x30 == (13 : Int)), .bool (x30 == (13 : Int)), undef, .bool (x30 == (14 : Int)), .bool (x30 == (14 : Int)), undef, undef, undef, undef, undef, .bool (x30 == (15 : Int)), .bool (x30 == (15 : Int)), undef, undef, undef, undef, undef, .bool (x30 == (16 : Int)), .bool (x30 == (16 : Int)), .pointer (some ⟨p7, 0, none⟩), .slice a_11 l_11 c_11, .pointer (some ⟨p6, 2, none⟩), .slice a_12 l_12 c_12, .int .i64 x4, .pointer (some ⟨q_7.block, q_7.off + x4.toNat * 2, none⟩), .pointer (some ⟨q_7.block, q_7.off + x4.toNat * 2 + 1, none⟩), .int .i64 x, .pointer (some ⟨q_8.block, q_8.off + x.toNat * 2, none⟩), .pointer (some ⟨q_8.block, q_8.off + x.toNat * 2 + 0, none⟩), .pointer (some ⟨p7, 3, none⟩), .slice a_13 l_13 c_13, .int .i64 x2, .pointer (some ⟨p7, 3, none⟩), .slice a_14 l_14 c_14, .int .i64 x2, .int .i64 x4, .pointer (some ⟨q_9.block, q_9.off + x2.toNat * 3, none⟩), .pointer (some ⟨q_9.block, q_9.off + x2.toNat * 3 + 0, none⟩), .pointer (some ⟨q_10.block, q_10.off + x2.toNat * 3, none⟩), .pointer (some ⟨q_10.block, q_10.off + x2.toNat * 3 + 1, none⟩), undef, undef, undef, undef, undef, undef, undef, undef, undef, undef, undef, undef, undef, undef, undef, undef, undef, undef, undef, undef, undef, undef, undef, undef, undef, undef, undef, undef, undef, undef, undef, undef, undef, undef, undef, undef, undef, undef, undef, undef, undef, undef, undef, undef, undef, undef, undef, undef, undef, undef, undef, undef, undef, undef, undef, undef, undef, undef, undef, undef, undef, undef, undef, undef, undef, undef, undef, undef, undef, undef, undef, undef, undef, undef, undef, undef, undef, undef] H_13
   else none
   else none
   else none
   else none
   else none
   else none
   else none
   else none
   else none
   else
   bif (x30 == (17 : Int)) then
   bif sameB H (H.bump 12) p7 then
   bSl (ldSl (H.bump 12) p7 (0)) fun a_15 l_15 c_15 =>
   bif sameB H (H.bump 12) p6 then
   bSl (ldSl (H.bump 12) p6 (2)) fun a_16 l_16 c_16 =>
   a_16.bind fun q_11 =>
   if 0 ≤ x4 ∧ x4 < (l_16 : Int) then
   bif sameB H (H.bump 12) q_11.block then
   (ldI .i64 (H.bump 12) q_11.block (q_11.off + x4.toNat * 2 + 1)).bind fun x_1 =>
   a_15.bind fun q_12 =>
   if 0 ≤ x_1 ∧ x_1 < (l_15 : Int) then
   (AHeap.wr (H.bump 12) q_12.block (q_12.off + x_1.toNat * 2 + 0) [.int .i64 x2]).bind fun H_14 =>
   bif sameB H_14 (H_14.bump 12) p7 then
   bSl (ldSl (H_14.bump 12) p7 (3)) fun a_17 l_17 c_17 =>
   a_17.bind fun q_13 =>
   if 0 ≤ x2 ∧ x2 < (l_17 : Int) then
   (AHeap.wr (H_14.bump 12) q_13.block (q_13.off + x2.toNat * 3 + 0) [.int .i64 2]).bind fun H_15 =>
   bif sameB H_14 H_15 p7 then
   bSl (ldSl H_15 p7 (3)) fun a_18 l_18 c_18 =>
   a_18.bind fun q_14 =>
   if 0 ≤ x2 ∧ x2 < (l_18 : Int) then
   (AHeap.wr H_15 q_14.block (q_14.off + x2.toNat * 3 + 1) [.int .i64 0]).bind fun H_16 =>
   f41.K1 k p7 p12 x15 [(D.getD 0 undef), (D.getD 1 undef), .int .i64 x2, (D.getD 2 undef), .int .i64 x4, .int .i64 x5, .pointer (some ⟨p6, 0, none⟩), (D.getD 3 undef), (D.getD 4 undef), undef, undef, undef, undef, (D.getD 5 undef), (D.getD 6 undef), (D.getD 7 undef), (D.getD 8 undef), (D.getD 9 undef), (D.getD 10 undef), (D.getD 11 undef), (D.getD 12 undef), (D.getD 13 undef), .int .i64 x30, (D.getD 14 undef), (D.getD 15 undef), undef, undef, undef, undef, undef, (D.getD 16 undef), (D.getD 17 undef), undef, undef, undef, undef, undef, (D.getD 18 undef), (D.getD 19 undef), (D.getD 20 undef), undef, undef, undef, undef, undef, undef, .bool b54, (D.getD 21 undef), (D.getD 22 undef), undef, undef, undef, undef, undef, .bool (x30 == (8 : Int)), .bool (x30 == (8 : Int)), undef, undef, undef, undef, undef, undef, undef, undef, undef, undef, undef, undef, undef, undef, .bool (x30 == (9 : Int)), .bool (x30 == (9 : Int)), undef, undef, undef, undef, undef, undef, undef, undef, undef, undef, undef, undef, undef, .bool (x30 == (12 : Int)), .bool (x30 == (12 : Int)), undef, undef, .bool (x30 == (13 : Int)), .bool (x30 == (13 : Int)), undef, .bool (x30 == (14 : Int)), .bool (x30 == (14 : Int)), undef, undef, undef, undef, undef, .bool (x30 == (15 : Int)), .bool (x30 == (15 : Int)), undef, undef, undef, undef, undef, .bool (x30 == (16 : Int)), .bool (x30 == (16 : Int)), undef, undef, undef, undef, undef, undef, undef, undef, undef, undef, undef, undef, undef, undef, undef, undef, undef, undef, undef, undef, undef, .bool (x30 == (17 : Int)), .bool (x30 == (17 : Int)), .pointer (some ⟨p7, 0, none⟩), .slice a_15 l_15 c_15, .pointer (some ⟨p6, 2, none⟩), .slice a_16 l_16 c_16, .int .i64 x4, .pointer (some ⟨q_11.block, q_11.off + x4.toNat * 2, none⟩), .pointer (some ⟨q_11.block, q_11.off + x4.toNat * 2 + 1, none⟩), .int .i64 x_1, .int .i64 x2, .pointer (some ⟨q_12.block, q_12.off + x_1.toNat * 2, none⟩), .pointer (some ⟨q_12.block, q_12.off + x_1.toNat * 2 + 0, none⟩), .pointer (some ⟨p7, 3, none⟩), .slice a_17 l_17 c_17, .int .i64 x2, .pointer (some ⟨p7, 3, none⟩), .slice a_18 l_18 c_18, .int .i64 x2, .pointer (some ⟨q_13.block, q_13.off + x2.toNat * 3, none⟩), .pointer (some ⟨q_13.block, q_13.off + x2.toNat * 3 + 0, none⟩), .pointer (some ⟨q_14.block, q_14.off + x2.toNat * 3, none⟩), .pointer (some ⟨q_14.block, q_14.off + x2.toNat * 3 + 1, none⟩), undef, undef, undef, undef, undef, undef, undef, undef, undef, undef, undef, undef, undef, undef, undef, undef, undef, undef, undef, undef, undef, undef, undef, undef, undef, undef, undef, undef, undef, undef, undef, undef, undef, undef, undef, undef, undef, undef, undef, undef, undef, undef, undef, undef, undef, undef, undef, undef, undef, undef, undef, undef, undef, undef, undef] H_16
   else none
   else none
   else none
   else none
   else none
   else none
   else none
   else none
   else none
   else
   bif (x30 == (18 : Int)) then
   (AHeap.row H p7 (0) 4).bind fun g =>
   cSl (C k 77 [.agg (g : List Value).toArray, .int .i64 x4] H) fun a_19 l_19 c_19 H_17 =>
   bif (decide ((l_19 : Int) > (0 : Int))) then
   a_19.bind fun q_15 =>
   if 0 ≤ (0 : Int) ∧ (0 : Int) < (l_19 : Int) then
   (ldI .i64 H_17 q_15.block (q_15.off + (0 : Int).toNat * 1)).bind fun x_2 =>
   cB (C k 78 [.slice a_19 l_19 c_19, .int .i64 x5] H_17) fun b H_18 =>
   bif b then
   bSl (ldSl H_18 p7 (3)) fun a_20 l_20 c_20 =>
   a_20.bind fun q_16 =>
   if 0 ≤ x5 ∧ x5 < (l_20 : Int) then
   (AHeap.wr H_18 q_16.block (q_16.off + x5.toNat * 3 + 0) [.int .i64 4]).bind fun H_19 =>
   f41.K1 k p7 p12 x5 [(D.getD 0 undef), (D.getD 1 undef), .int .i64 x2, (D.getD 2 undef), .int .i64 x4, .int .i64 x5, .pointer (some ⟨p6, 0, none⟩), (D.getD 3 undef), (D.getD 4 undef), .slice a_19 l_19 c_19, .int .i64 x5, undef, undef, (D.getD 5 undef), (D.getD 6 undef), (D.getD 7 undef), (D.getD 8 undef), (D.getD 9 undef), (D.getD 10 undef), (D.getD 11 undef), (D.getD 12 undef), (D.getD 13 undef), .int .i64 x30, (D.getD 14 undef), (D.getD 15 undef), undef, undef, undef, undef, undef, (D.getD 16 undef), (D.getD 17 undef), undef, undef, undef, undef, undef, (D.getD 18 undef), (D.getD 19 undef), (D.getD 20 undef), undef, undef, undef, undef, undef, undef, .bool b54, (D.getD 21 undef), (D.getD 22 undef), undef, undef, undef, undef, undef, .bool (x30 == (8 : Int)), .bool (x30 == (8 : Int)), undef, undef, undef, undef, undef, undef, undef, undef, undef, undef, undef, undef, undef, undef, .bool (x30 == (9 : Int)), .bool (x30 == (9 : Int)), undef, undef, undef, undef, undef, undef, undef, undef, undef, undef, undef, undef, undef, .bool (x30 == (12 : Int)), .bool (x30 == (12 : Int)), undef, undef, .bool (x30 == (13 : Int)), .bool (x30 == (13 : Int)), undef, .bool (x30 == (14 : Int)), .bool (x30 == (14 : Int)), undef, undef, undef, undef, undef, .bool (x30 == (15 : Int)), .bool (x30 == (15 : Int)), undef, undef, undef, undef, undef, .bool (x30 == (16 : Int)), .bool (x30 == (16 : Int)), undef, undef, undef, undef, undef, undef, undef, undef, undef, undef, undef, undef, undef, undef, undef, undef, undef, undef, undef, undef, undef, .bool (x30 == (17 : Int)), .bool (x30 == (17 : Int)), undef, undef, undef, undef, undef, undef, undef, undef, undef, undef, undef, undef, undef, undef, undef, undef, undef, undef, undef, undef, undef, .bool (x30 == (18 : Int)), .bool (x30 == (18 : Int)), .agg (g : List Value).toArray, .int .i64 x4, .slice a_19 l_19 c_19, .slice a_19 l_19 c_19, .int .i64 (l_19 : Int), .bool (decide ((l_19 : Int) > (0 : Int))), .slice a_19 l_19 c_19, .pointer (some ⟨q_15.block, q_15.off + (0 : Int).toNat * 1, none⟩), .int .i64 x_2, .slice a_19 l_19 c_19, .int .i64 x5, .bool b, .int .i64 x5, .pointer (some ⟨p7, 3, none⟩), .slice a_20 l_20 c_20, .int .i64 x5, .pointer (some ⟨q_16.block, q_16.off + x5.toNat * 3, none⟩), .pointer (some ⟨q_16.block, q_16.off + x5.toNat * 3 + 0, none⟩), .int .i64 x5, undef, undef, undef, undef, undef, undef, undef, undef, undef, undef, undef, undef, undef, undef, undef, undef, undef, undef, undef, undef, undef, undef, undef, undef, undef, undef, undef, undef, undef, undef, undef, undef, undef, undef] H_19
   else none
   else
   bSl (ldSl H_18 p7 (3)) fun a_21 l_21 c_21 =>
   a_21.bind fun q_17 =>
   if 0 ≤ x_2 ∧ x_2 < (l_21 : Int) then
   (AHeap.wr H_18 q_17.block (q_17.off + x_2.toNat * 3 + 0) [.int .i64 4]).bind fun H_20 =>
   f41.K1 k p7 p12 x_2 [(D.getD 0 undef), (D.getD 1 undef), .int .i64 x2, (D.getD 2 undef), .int .i64 x4, .int .i64 x5, .pointer (some ⟨p6, 0, none⟩), (D.getD 3 undef), (D.getD 4 undef), .slice a_19 l_19 c_19, .int .i64 x_2, undef, undef, (D.getD 5 undef), (D.getD 6 undef), (D.getD 7 undef), (D.getD 8 undef), (D.getD 9 undef), (D.getD 10 undef), (D.getD 11 undef), (D.getD 12 undef), (D.getD 13 undef), .int .i64 x30, (D.getD 14 undef), (D.getD 15 undef), undef, undef, undef, undef, undef, (D.getD 16 undef), (D.getD 17 undef), undef, undef, undef, undef, undef, (D.getD 18 undef), (D.getD 19 undef), (D.getD 20 undef), undef, undef, undef, undef, undef, undef, .bool b54, (D.getD 21 undef), (D.getD 22 undef), undef, undef, undef, undef, undef, .bool (x30 == (8 : Int)), .bool (x30 == (8 : Int)), undef, undef, undef, undef, undef, undef, undef, undef, undef, undef, undef, undef, undef, undef, .bool (x30 == (9 : Int)), .bool (x30 == (9 : Int)), undef, undef, undef, undef, undef, undef, undef, undef, undef, undef, undef, undef, undef, .bool (x30 == (12 : Int)), .bool (x30 == (12 : Int)), undef, undef, .bool (x30 == (13 : Int)), .bool (x30 == (13 : Int)), undef, .bool (x30 == (14 : Int)), .bool (x30 == (14 : Int)), undef, undef, undef, undef, undef, .bool (x30 == (15 : Int)), .bool (x30 == (15 : Int)), undef, undef, undef, undef, undef, .bool (x30 == (16 : Int)), .bool (x30 == (16 : Int)), undef, undef, undef, undef, undef, undef, undef, undef, undef, undef, undef, undef, undef, undef, undef, undef, undef, undef, undef, undef, undef, .bool (x30 == (17 : Int)), .bool (x30 == (17 : Int)), undef, undef, undef, undef, undef, undef, undef, undef, undef, undef, undef, undef, undef, undef, undef, undef, undef, undef, undef, undef, undef, .bool (x30 == (18 : Int)), .bool (x30 == (18 : Int)), .agg (g : List Value).toArray, .int .i64 x4, .slice a_19 l_19 c_19, .slice a_19 l_19 c_19, .int .i64 (l_19 : Int), .bool (decide ((l_19 : Int) > (0 : Int))), .slice a_19 l_19 c_19, .pointer (some ⟨q_15.block, q_15.off + (0 : Int).toNat * 1, none⟩), .int .i64 x_2, .slice a_19 l_19 c_19, .int .i64 x5, .bool b, undef, .pointer (some ⟨p7, 3, none⟩), .slice a_21 l_21 c_21, .int .i64 x_2, .pointer (some ⟨q_17.block, q_17.off + x_2.toNat * 3, none⟩), .pointer (some ⟨q_17.block, q_17.off + x_2.toNat * 3 + 0, none⟩), .int .i64 x_2, undef, undef, undef, undef, undef, undef, undef, undef, undef, undef, undef, undef, undef, undef, undef, undef, undef, undef, undef, undef, undef, undef, undef, undef, undef, undef, undef, undef, undef, undef, undef, undef, undef, undef] H_20
   else none
   else none
   else
   f41.K1 k p7 p12 (-1) [(D.getD 0 undef), (D.getD 1 undef), .int .i64 x2, (D.getD 2 undef), .int .i64 x4, .int .i64 x5, .pointer (some ⟨p6, 0, none⟩), (D.getD 3 undef), (D.getD 4 undef), .slice a_19 l_19 c_19, undef, undef, undef, (D.getD 5 undef), (D.getD 6 undef), (D.getD 7 undef), (D.getD 8 undef), (D.getD 9 undef), (D.getD 10 undef), (D.getD 11 undef), (D.getD 12 undef), (D.getD 13 undef), .int .i64 x30, (D.getD 14 undef), (D.getD 15 undef), undef, undef, undef, undef, undef, (D.getD 16 undef), (D.getD 17 undef), undef, undef, undef, undef, undef, (D.getD 18 undef), (D.getD 19 undef), (D.getD 20 undef), undef, undef, undef, undef, undef, undef, .bool b54, (D.getD 21 undef), (D.getD 22 undef), undef, undef, undef, undef, undef, .bool (x30 == (8 : Int)), .bool (x30 == (8 : Int)), undef, undef, undef, undef, undef, undef, undef, undef, undef, undef, undef, undef, undef, undef, .bool (x30 == (9 : Int)), .bool (x30 == (9 : Int)), undef, undef, undef, undef, undef, undef, undef, undef, undef, undef, undef, undef, undef, .bool (x30 == (12 : Int)), .bool (x30 == (12 : Int)), undef, undef, .bool (x30 == (13 : Int)), .bool (x30 == (13 : Int)), undef, .bool (x30 == (14 : Int)), .bool (x30 == (14 : Int)), undef, undef, undef, undef, undef, .bool (x30 == (15 : Int)), .bool (x30 == (15 : Int)), undef, undef, undef, undef, undef, .bool (x30 == (16 : Int)), .bool (x30 == (16 : Int)), undef, undef, undef, undef, undef, undef, undef, undef, undef, undef, undef, undef, undef, undef, undef, undef, undef, undef, undef, undef, undef, .bool (x30 == (17 : Int)), .bool (x30 == (17 : Int)), undef, undef, undef, undef, undef, undef, undef, undef, undef, undef, undef, undef, undef, undef, undef, undef, undef, undef, undef, undef, undef, .bool (x30 == (18 : Int)), .bool (x30 == (18 : Int)), .agg (g : List Value).toArray, .int .i64 x4, .slice a_19 l_19 c_19, .slice a_19 l_19 c_19, .int .i64 (l_19 : Int), .bool (decide ((l_19 : Int) > (0 : Int))), undef, undef, undef, undef, undef, undef, undef, undef, undef, undef, undef, undef, undef, undef, undef, undef, undef, undef, undef, undef, undef, undef, undef, undef, undef, undef, undef, undef, undef, undef, undef, undef, undef, undef, undef, undef, undef, undef, undef, undef, undef, undef, undef, undef, undef, undef, undef] H_17
   else
   bif (x30 == (19 : Int)) then
   (AHeap.row H p7 (0) 4).bind fun g_1 =>
   cSl (C k 77 [.agg (g_1 : List Value).toArray, .int .i64 x4] H) fun a_22 l_22 c_22 H_21 =>
   f41.L1 k k p7 p12 a_22 l_22 c_22 0 [(D.getD 0 undef), (D.getD 1 undef), .int .i64 x2, (D.getD 2 undef), .int .i64 x4, .int .i64 x5, .pointer (some ⟨p6, 0, none⟩), (D.getD 3 undef), (D.getD 4 undef), .int .i64 x15, (D.getD 5 undef), (D.getD 6 undef), (D.getD 7 undef), (D.getD 8 undef), (D.getD 9 undef), (D.getD 10 undef), (D.getD 11 undef), (D.getD 12 undef), (D.getD 13 undef), .int .i64 x30, (D.getD 14 undef), (D.getD 15 undef), (D.getD 16 undef), (D.getD 17 undef), (D.getD 18 undef), (D.getD 19 undef), (D.getD 20 undef), .bool b54, (D.getD 21 undef), (D.getD 22 undef), .bool (x30 == (8 : Int)), .bool (x30 == (8 : Int)), .bool (x30 == (9 : Int)), .bool (x30 == (9 : Int)), .bool (x30 == (12 : Int)), .bool (x30 == (12 : Int)), .bool (x30 == (13 : Int)), .bool (x30 == (13 : Int)), .bool (x30 == (14 : Int)), .bool (x30 == (14 : Int)), .bool (x30 == (15 : Int)), .bool (x30 == (15 : Int)), .bool (x30 == (16 : Int)), .bool (x30 == (16 : Int)), .bool (x30 == (17 : Int)), .bool (x30 == (17 : Int)), .bool (x30 == (18 : Int)), .bool (x30 == (18 : Int)), .bool (x30 == (19 : Int)), .bool (x30 == (19 : Int)), .agg (g_1 : List Value).toArray, .int .i64 x4, .slice a_22 l_22 c_22, undef, undef, undef, undef, undef, undef, undef, undef, undef, undef, undef, undef, undef, undef] H_21
   else
   bif (x30 == (20 : Int)) then
   bSl (ldSl H p7 (3)) fun a_23 l_23 c_23 =>
   a_23.bind fun q_18 =>
   if 0 ≤ x4 ∧ x4 < (l_23 : Int) then
   (AHeap.wr H q_18.block (q_18.off + x4.toNat * 3 + 0) [.int .i64 1]).bind fun H_22 =>
   f41.K1 k p7 p12 x15 [(D.getD 0 undef), (D.getD 1 undef), .int .i64 x2, (D.getD 2 undef), .int .i64 x4, .int .i64 x5, .pointer (some ⟨p6, 0, none⟩), (D.getD 3 undef), (D.getD 4 undef), undef, undef, undef, undef, (D.getD 5 undef), (D.getD 6 undef), (D.getD 7 undef), (D.getD 8 undef), (D.getD 9 undef), (D.getD 10 undef), (D.getD 11 undef), (D.getD 12 undef), (D.getD 13 undef), .int .i64 x30, (D.getD 14 undef), (D.getD 15 undef), undef, undef, undef, undef, undef, (D.getD 16 undef), (D.getD 17 undef), undef, undef, undef, undef, undef, (D.getD 18 undef), (D.getD 19 undef), (D.getD 20 undef), undef, undef, undef, undef, undef, undef, .bool b54, (D.getD 21 undef), (D.getD 22 undef), undef, undef, undef, undef, undef, .bool (x30 == (8 : Int)), .bool (x30 == (8 : Int)), undef, undef, undef, undef, undef, undef, undef, undef, undef, undef, undef, undef, undef, undef, .bool (x30 == (9 : Int)), .bool (x30 == (9 : Int)), undef, undef, undef, undef, undef, undef, undef, undef, undef, undef, undef, undef, undef, .bool (x30 == (12 : Int)), .bool (x30 == (12 : Int)), undef, undef, .bool (x30 == (13 : Int)), .bool (x30 == (13 : Int)), undef, .bool (x30 == (14 : Int)), .bool (x30 == (14 : Int)), undef, undef, undef, undef, undef, .bool (x30 == (15 : Int)), .bool (x30 == (15 : Int)), undef, undef, undef, undef, undef, .bool (x30 == (16 : Int)), .bool (x30 == (16 : Int)), undef, undef, undef, undef, undef, undef, undef, undef, undef, undef, undef, undef, undef, undef, undef, undef, undef, undef, undef, undef, undef, .bool (x30 == (17 : Int)), .bool (x30 == (17 : Int)), undef, undef, undef, undef, undef, undef, undef, undef, undef, undef, undef, undef, undef, undef, undef, undef, undef, undef, undef, undef, undef, .bool (x30 == (18 : Int)), .bool (x30 == (18 : Int)), undef, undef, undef, undef, undef, undef, undef, undef, undef, undef, undef, undef, undef, undef, undef, undef, undef, undef, undef, .bool (x30 == (19 : Int)), .bool (x30 == (19 : Int)), undef, undef, undef, undef, undef, undef, undef, undef, undef, undef, undef, undef, undef, undef, undef, undef, undef, undef, undef, .bool (x30 == (20 : Int)), .bool (x30 == (20 : Int)), .pointer (some ⟨p7, 3, none⟩), .slice a_23 l_23 c_23, .int .i64 x4, .pointer (some ⟨q_18.block, q_18.off + x4.toNat * 3, none⟩), .pointer (some ⟨q_18.block, q_18.off + x4.toNat * 3 + 0, none⟩), undef, undef, undef, undef, undef, undef] H_22
   else none
   else
   bif (x30 == (22 : Int)) then
   bSl (ldSl H p7 (2)) fun a_24 l_24 c_24 =>
   a_24.bind fun q_19 =>
   if 0 ≤ x4 ∧ x4 < (l_24 : Int) then
   (AHeap.wr H q_19.block (q_19.off + x4.toNat * 1) [.bool true]).bind fun H_23 =>
   f41.K1 k p7 p12 x15 [(D.getD 0 undef), (D.getD 1 undef), .int .i64 x2, (D.getD 2 undef), .int .i64 x4, .int .i64 x5, .pointer (some ⟨p6, 0, none⟩), (D.getD 3 undef), (D.getD 4 undef), undef, undef, undef, undef, (D.getD 5 undef), (D.getD 6 undef), (D.getD 7 undef), (D.getD 8 undef), (D.getD 9 undef), (D.getD 10 undef), (D.getD 11 undef), (D.getD 12 undef), (D.getD 13 undef), .int .i64 x30, (D.getD 14 undef), (D.getD 15 undef), undef, undef, undef, undef, undef, (D.getD 16 undef), (D.getD 17 undef), undef, undef, undef, undef, undef, (D.getD 18 undef), (D.getD 19 undef), (D.getD 20 undef), undef, undef, undef, undef, undef, undef, .bool b54, (D.getD 21 undef), (D.getD 22 undef), undef, undef, undef, undef, undef, .bool (x30 == (8 : Int)), .bool (x30 == (8 : Int)), undef, undef, undef, undef, undef, undef, undef, undef, undef, undef, undef, undef, undef, undef, .bool (x30 == (9 : Int)), .bool (x30 == (9 : Int)), undef, undef, undef, undef, undef, undef, undef, undef, undef, undef, undef, undef, undef, .bool (x30 == (12 : Int)), .bool (x30 == (12 : Int)), undef, undef, .bool (x30 == (13 : Int)), .bool (x30 == (13 : Int)), undef, .bool (x30 == (14 : Int)), .bool (x30 == (14 : Int)), undef, undef, undef, undef, undef, .bool (x30 == (15 : Int)), .bool (x30 == (15 : Int)), undef, undef, undef, undef, undef, .bool (x30 == (16 : Int)), .bool (x30 == (16 : Int)), undef, undef, undef, undef, undef, undef, undef, undef, undef, undef, undef, undef, undef, undef, undef, undef, undef, undef, undef, undef, undef, .bool (x30 == (17 : Int)), .bool (x30 == (17 : Int)), undef, undef, undef, undef, undef, undef, undef, undef, undef, undef, undef, undef, undef, undef, undef, undef, undef, undef, undef, undef, undef, .bool (x30 == (18 : Int)), .bool (x30 == (18 : Int)), undef, undef, undef, undef, undef, undef, undef, undef, undef, undef, undef, undef, undef, undef, undef, undef, undef, undef, undef, .bool (x30 == (19 : Int)), .bool (x30 == (19 : Int)), undef, undef, undef, undef, undef, undef, undef, undef, undef, undef, undef, undef, undef, undef, undef, undef, undef, undef, undef, .bool (x30 == (20 : Int)), .bool (x30 == (20 : Int)), undef, undef, undef, undef, undef, .bool (x30 == (22 : Int)), .bool (x30 == (22 : Int)), .pointer (some ⟨p7, 2, none⟩), .slice a_24 l_24 c_24, .int .i64 x4, .pointer (some ⟨q_19.block, q_19.off + x4.toNat * 1, none⟩)] H_23
   else none
   else
   f41.K1 k p7 p12 x15 [(D.getD 0 undef), (D.getD 1 undef), .int .i64 x2, (D.getD 2 undef), .int .i64 x4, .int .i64 x5, .pointer (some ⟨p6, 0, none⟩), (D.getD 3 undef), (D.getD 4 undef), undef, undef, undef, undef, (D.getD 5 undef), (D.getD 6 undef), (D.getD 7 undef), (D.getD 8 undef), (D.getD 9 undef), (D.getD 10 undef), (D.getD 11 undef), (D.getD 12 undef), (D.getD 13 undef), .int .i64 x30, (D.getD 14 undef), (D.getD 15 undef), undef, undef, undef, undef, undef, (D.getD 16 undef), (D.getD 17 undef), undef, undef, undef, undef, undef, (D.getD 18 undef), (D.getD 19 undef), (D.getD 20 undef), undef, undef, undef, undef, undef, undef, .bool b54, (D.getD 21 undef), (D.getD 22 undef), undef, undef, undef, undef, undef, .bool (x30 == (8 : Int)), .bool (x30 == (8 : Int)), undef, undef, undef, undef, undef, undef, undef, undef, undef, undef, undef, undef, undef, undef, .bool (x30 == (9 : Int)), .bool (x30 == (9 : Int)), undef, undef, undef, undef, undef, undef, undef, undef, undef, undef, undef, undef, undef, .bool (x30 == (12 : Int)), .bool (x30 == (12 : Int)), undef, undef, .bool (x30 == (13 : Int)), .bool (x30 == (13 : Int)), undef, .bool (x30 == (14 : Int)), .bool (x30 == (14 : Int)), undef, undef, undef, undef, undef, .bool (x30 == (15 : Int)), .bool (x30 == (15 : Int)), undef, undef, undef, undef, undef, .bool (x30 == (16 : Int)), .bool (x30 == (16 : Int)), undef, undef, undef, undef, undef, undef, undef, undef, undef, undef, undef, undef, undef, undef, undef, undef, undef, undef, undef, undef, undef, .bool (x30 == (17 : Int)), .bool (x30 == (17 : Int)), undef, undef, undef, undef, undef, undef, undef, undef, undef, undef, undef, undef, undef, undef, undef, undef, undef, undef, undef, undef, undef, .bool (x30 == (18 : Int)), .bool (x30 == (18 : Int)), undef, undef, undef, undef, undef, undef, undef, undef, undef, undef, undef, undef, undef, undef, undef, undef, undef, undef, undef, .bool (x30 == (19 : Int)), .bool (x30 == (19 : Int)), undef, undef, undef, undef, undef, undef, undef, undef, undef, undef, undef, undef, undef, undef, undef, undef, undef, undef, undef, .bool (x30 == (20 : Int)), .bool (x30 == (20 : Int)), undef, undef, undef, undef, undef, .bool (x30 == (22 : Int)), .bool (x30 == (22 : Int)), undef, undef, undef, undef] H) := by
  unfold f41.K3
  rw [gateC_eq]
  kernel_rfl
theorem f41.L1_z (k : Nat)  (p7 : Nat) (p12 : Nat) (a18 : Option Addr) (l18 : Nat) (c18 : Nat) (x19 : Int) (D : List Value) (H : AHeap) : f41.L1 k 0 p7 p12 a18 l18 c18 x19 D H = none := by kernel_rfl
theorem f41.L1_s (k : Nat) (n1 : Nat) (p7 : Nat) (p12 : Nat) (a18 : Option Addr) (l18 : Nat) (c18 : Nat) (x19 : Int) (D : List Value) (H : AHeap) : f41.L1 k (n1 + 1) p7 p12 a18 l18 c18 x19 D H =
  (bif (decide (x19 < (l18 : Int))) then
   bif sameB H (H.bump 9) p7 then
   bSl (ldSl (H.bump 9) p7 (3)) fun a l c =>
   a18.bind fun q =>
   if 0 ≤ x19 ∧ x19 < (l18 : Int) then
   bif sameB H (H.bump 9) q.block then
   (ldI .i64 (H.bump 9) q.block (q.off + x19.toNat * 1)).bind fun x =>
   a.bind fun q_1 =>
   if 0 ≤ x ∧ x < (l : Int) then
   (AHeap.wr (H.bump 9) q_1.block (q_1.off + x.toNat * 3 + 0) [.int .i64 4]).bind fun H_1 =>
   f41.L1 k n1 p7 p12 a18 l18 c18 (IntKind.i64.wrap (x19 + (1 : Int))) [(D.getD 0 undef), (D.getD 1 undef), (D.getD 2 undef), (D.getD 3 undef), (D.getD 4 undef), (D.getD 5 undef), (D.getD 6 undef), (D.getD 7 undef), (D.getD 8 undef), (D.getD 9 undef), (D.getD 10 undef), (D.getD 11 undef), (D.getD 12 undef), (D.getD 13 undef), (D.getD 14 undef), (D.getD 15 undef), (D.getD 16 undef), (D.getD 17 undef), (D.getD 18 undef), (D.getD 19 undef), (D.getD 20 undef), (D.getD 21 undef), (D.getD 22 undef), (D.getD 23 undef), (D.getD 24 undef), (D.getD 25 undef), (D.getD 26 undef), (D.getD 27 undef), (D.getD 28 undef), (D.getD 29 undef), (D.getD 30 undef), (D.getD 31 undef), (D.getD 32 undef), (D.getD 33 undef), (D.getD 34 undef), (D.getD 35 undef), (D.getD 36 undef), (D.getD 37 undef), (D.getD 38 undef), (D.getD 39 undef), (D.getD 40 undef), (D.getD 41 undef), (D.getD 42 undef), (D.getD 43 undef), (D.getD 44 undef), (D.getD 45 undef), (D.getD 46 undef), (D.getD 47 undef), (D.getD 48 undef), (D.getD 49 undef), (D.getD 50 undef), (D.getD 51 undef), (D.getD 52 undef), .int .i64 x19, .slice a18 l18 c18, .int .i64 (l18 : Int), .bool (decide (x19 < (l18 : Int))), .int .i64 x19, .int .i64 (IntKind.i64.wrap (x19 + (1 : Int))), .pointer (some ⟨p7, 3, none⟩), .slice a l c, .slice a18 l18 c18, .int .i64 x19, .pointer (some ⟨q.block, q.off + x19.toNat * 1, none⟩), .int .i64 x, .pointer (some ⟨q_1.block, q_1.off + x.toNat * 3, none⟩), .pointer (some ⟨q_1.block, q_1.off + x.toNat * 3 + 0, none⟩)] H_1
   else none
   else none
   else none
   else none
   else
   f41.K1 k p7 p12 (l18 : Int) [(D.getD 0 undef), (D.getD 1 undef), (D.getD 2 undef), (D.getD 3 undef), (D.getD 4 undef), (D.getD 5 undef), (D.getD 6 undef), (D.getD 7 undef), (D.getD 8 undef), undef, undef, .slice a18 l18 c18, .int .i64 x19, (D.getD 10 undef), (D.getD 11 undef), (D.getD 12 undef), (D.getD 13 undef), (D.getD 14 undef), (D.getD 15 undef), (D.getD 16 undef), (D.getD 17 undef), (D.getD 18 undef), (D.getD 19 undef), (D.getD 20 undef), (D.getD 21 undef), undef, undef, undef, undef, undef, (D.getD 22 undef), (D.getD 23 undef), undef, undef, undef, undef, undef, (D.getD 24 undef), (D.getD 25 undef), (D.getD 26 undef), undef, undef, undef, undef, undef, undef, (D.getD 27 undef), (D.getD 28 undef), (D.getD 29 undef), undef, undef, undef, undef, undef, (D.getD 30 undef), (D.getD 31 undef), undef, undef, undef, undef, undef, undef, undef, undef, undef, undef, undef, undef, undef, undef, (D.getD 32 undef), (D.getD 33 undef), undef, undef, undef, undef, undef, undef, undef, undef, undef, undef, undef, undef, undef, (D.getD 34 undef), (D.getD 35 undef), undef, undef, (D.getD 36 undef), (D.getD 37 undef), undef, (D.getD 38 undef), (D.getD 39 undef), undef, undef, undef, undef, undef, (D.getD 40 undef), (D.getD 41 undef), undef, undef, undef, undef, undef, (D.getD 42 undef), (D.getD 43 undef), undef, undef, undef, undef, undef, undef, undef, undef, undef, undef, undef, undef, undef, undef, undef, undef, undef, undef, undef, undef, undef, (D.getD 44 undef), (D.getD 45 undef), undef, undef, undef, undef, undef, undef, undef, undef, undef, undef, undef, undef, undef, undef, undef, undef, undef, undef, undef, undef, undef, (D.getD 46 undef), (D.getD 47 undef), undef, undef, undef, undef, undef, undef, undef, undef, undef, undef, undef, undef, undef, undef, undef, undef, undef, undef, undef, (D.getD 48 undef), (D.getD 49 undef), (D.getD 50 undef), (D.getD 51 undef), (D.getD 52 undef), .int .i64 x19, .slice a18 l18 c18, .int .i64 (l18 : Int), .bool (decide (x19 < (l18 : Int))), (D.getD 57 undef), (D.getD 58 undef), (D.getD 59 undef), (D.getD 60 undef), (D.getD 61 undef), (D.getD 62 undef), (D.getD 63 undef), (D.getD 64 undef), (D.getD 65 undef), (D.getD 66 undef), .slice a18 l18 c18, .int .i64 (l18 : Int), undef, undef, undef, undef, undef, undef, undef, undef, undef, undef, undef, undef, undef] H) := by kernel_rfl
theorem f41_eq (k : Nat) (a0_0 : Option Addr) (l0_0 : Nat) (c0_0 : Nat) (a0_1 : Option Addr) (l0_1 : Nat) (c0_1 : Nat) (a0_2 : Option Addr) (l0_2 : Nat) (c0_2 : Nat) (a0_3 : Option Addr) (l0_3 : Nat) (c0_3 : Nat) (a0_4 : Option Addr) (l0_4 : Nat) (c0_4 : Nat) (a0_5 : Option Addr) (l0_5 : Nat) (c0_5 : Nat) (a1_0 : Option Addr) (l1_0 : Nat) (c1_0 : Nat) (x1_1 : Int) (a1_2 : Option Addr) (l1_2 : Nat) (c1_2 : Nat) (a1_3 : Option Addr) (l1_3 : Nat) (c1_3 : Nat) (x2 : Int) (x3 : Int) (x4 : Int) (x5 : Int) (H : AHeap) : C (k + 1) 41 [.agg #[.slice a0_0 l0_0 c0_0, .slice a0_1 l0_1 c0_1, .slice a0_2 l0_2 c0_2, .slice a0_3 l0_3 c0_3, .slice a0_4 l0_4 c0_4, .slice a0_5 l0_5 c0_5], .agg #[.slice a1_0 l1_0 c1_0, .int .i64 x1_1, .slice a1_2 l1_2 c1_2, .slice a1_3 l1_3 c1_3], .int .i64 x2, .int .i64 x3, .int .i64 x4, .int .i64 x5] H =
  (alK none H ⟨[.slice a0_0 l0_0 c0_0, .slice a0_1 l0_1 c0_1, .slice a0_2 l0_2 c0_2, .slice a0_3 l0_3 c0_3, .slice a0_4 l0_4 c0_4, .slice a0_5 l0_5 c0_5], 0, .rw, 0⟩ fun i H_1 =>
   alK none H_1 ⟨[.slice a1_0 l1_0 c1_0, .int .i64 x1_1, .slice a1_2 l1_2 c1_2, .slice a1_3 l1_3 c1_3], 0, .rw, 0⟩ fun i_1 H_2 =>
   alK none H_2 ⟨[.slice none 0 0, .int .i64 0, .slice none 0 0, .slice none 0 0], 0, .rw, 0⟩ fun i_2 H_3 =>
   (AHeap.row H_3 i (0) 6).bind fun g =>
   (AHeap.row H_3 i_1 (0) 4).bind fun g_1 =>
   cB (C k 73 [.agg (g : List Value).toArray, .agg (g_1 : List Value).toArray, .int .i64 x2, .int .i64 x3, .int .i64 x4] H_3) fun b H_4 =>
   bif (!b) then
   (AHeap.wr H_4 i_2 (0) [.slice none 0 0, .int .i64 0, .slice none 0 0, .slice none 0 0]).bind fun H_5 =>
   (AHeap.row H_5 i_2 (0) 4).bind fun g_2 =>
   some (.tuple #[.agg (g_2 : List Value).toArray, .int .i64 0, .bool false], H_5)
   else
   (AHeap.row H_4 i_1 (0) 4).bind fun g_3 =>
   cG (C k 74 [.agg (g_3 : List Value).toArray] H_4) fun g_4 H_6 =>
   if notTup (.agg g_4) = true ∧ (g_4.toList).length = 4 then
   (AHeap.wr H_6 i_1 (0) g_4.toList).bind fun H_7 =>
   bif (x3 == (1 : Int)) then
   bSl (ldSl H_7 i_1 (3)) fun a l c =>
   a.bind fun q =>
   if 0 ≤ x2 ∧ x2 < (l : Int) then
   (AHeap.wr H_7 q.block (q.off + x2.toNat * 3 + 0) [.int .i64 2]).bind fun H_8 =>
   f41.K1 k i_1 i_2 0 [.agg #[.slice a0_0 l0_0 c0_0, .slice a0_1 l0_1 c0_1, .slice a0_2 l0_2 c0_2, .slice a0_3 l0_3 c0_3, .slice a0_4 l0_4 c0_4, .slice a0_5 l0_5 c0_5], .agg #[.slice a1_0 l1_0 c1_0, .int .i64 x1_1, .slice a1_2 l1_2 c1_2, .slice a1_3 l1_3 c1_3], .int .i64 x2, .int .i64 x3, .int .i64 x4, .int .i64 x5, .pointer (some ⟨i, 0, none⟩), .int .i64 0, .bool false, undef, undef, undef, undef, .agg (g : List Value).toArray, .agg (g_1 : List Value).toArray, .int .i64 x2, .int .i64 x3, .int .i64 x4, .bool b, .bool (!b), .agg (g_3 : List Value).toArray, .agg g_4, .int .i64 x3, .bool (x3 == (1 : Int)), .bool (x3 == (1 : Int)), .pointer (some ⟨i_1, 3, none⟩), .slice a l c, .int .i64 x2, .pointer (some ⟨q.block, q.off + x2.toNat * 3, none⟩), .pointer (some ⟨q.block, q.off + x2.toNat * 3 + 0, none⟩), undef, undef, undef, undef, undef, undef, undef, undef, undef, undef, undef, undef, undef, undef, undef, undef, undef, undef, undef, undef, undef, undef, undef, undef, undef, undef, undef, undef, undef, undef, undef, undef, undef, undef, undef, undef, undef, undef, undef, undef, undef, undef, undef, undef, undef, undef, undef, undef, undef, undef, undef, undef, undef, undef, undef, undef, undef, undef, undef, undef, undef, undef, undef, undef, undef, undef, undef, undef, undef, undef, undef, undef, undef, undef, undef, undef, undef, undef, undef, undef, undef, undef, undef, undef, undef, undef, undef, undef, undef, undef, undef, undef, undef, undef, undef, undef, undef, undef, undef, undef, undef, undef, undef, undef, undef, undef, undef, undef, undef, undef, undef, undef, undef, undef, undef, undef, undef, undef, undef, undef, undef, undef, undef, undef, undef, undef, undef, undef, undef, undef, undef, undef, undef, undef, undef, undef, undef, undef, undef, undef, undef, undef, undef, undef, undef, undef, undef, undef, undef, undef, undef, undef, undef, undef, undef, undef, undef, undef, undef, undef, undef, undef, undef, undef, undef, undef, undef, undef, undef, undef, undef, undef, undef, undef, undef, undef, undef] H_8
   else none
   else
   bif (x3 == (2 : Int)) then
   bSl (ldSl H_7 i_1 (3)) fun a_1 l_1 c_1 =>
   a_1.bind fun q_1 =>
   if 0 ≤ x2 ∧ x2 < (l_1 : Int) then
   (AHeap.wr H_7 q_1.block (q_1.off + x2.toNat * 3 + 0) [.int .i64 5]).bind fun H_9 =>
   f41.K1 k i_1 i_2 0 [.agg #[.slice a0_0 l0_0 c0_0, .slice a0_1 l0_1 c0_1, .slice a0_2 l0_2 c0_2, .slice a0_3 l0_3 c0_3, .slice a0_4 l0_4 c0_4, .slice a0_5 l0_5 c0_5], .agg #[.slice a1_0 l1_0 c1_0, .int .i64 x1_1, .slice a1_2 l1_2 c1_2, .slice a1_3 l1_3 c1_3], .int .i64 x2, .int .i64 x3, .int .i64 x4, .int .i64 x5, .pointer (some ⟨i, 0, none⟩), .int .i64 0, .bool false, undef, undef, undef, undef, .agg (g : List Value).toArray, .agg (g_1 : List Value).toArray, .int .i64 x2, .int .i64 x3, .int .i64 x4, .bool b, .bool (!b), .agg (g_3 : List Value).toArray, .agg g_4, .int .i64 x3, .bool (x3 == (1 : Int)), .bool (x3 == (1 : Int)), undef, undef, undef, undef, undef, .bool (x3 == (2 : Int)), .bool (x3 == (2 : Int)), .pointer (some ⟨i_1, 3, none⟩), .slice a_1 l_1 c_1, .int .i64 x2, .pointer (some ⟨q_1.block, q_1.off + x2.toNat * 3, none⟩), .pointer (some ⟨q_1.block, q_1.off + x2.toNat * 3 + 0, none⟩), undef, undef, undef, undef, undef, undef, undef, undef, undef, undef, undef, undef, undef, undef, undef, undef, undef, undef, undef, undef, undef, undef, undef, undef, undef, undef, undef, undef, undef, undef, undef, undef, undef, undef, undef, undef, undef, undef, undef, undef, undef, undef, undef, undef, undef, undef, undef, undef, undef, undef, undef, undef, undef, undef, undef, undef, undef, undef, undef, undef, undef, undef, undef, undef, undef, undef, undef, undef, undef, undef, undef, undef, undef, undef, undef, undef, undef, undef, undef, undef, undef, undef, undef, undef, undef, undef, undef, undef, undef, undef, undef, undef, undef, undef, undef, undef, undef, undef, undef, undef, undef, undef, undef, undef, undef, undef, undef, undef, undef, undef, undef, undef, undef, undef, undef, undef, undef, undef, undef, undef, undef, undef, undef, undef, undef, undef, undef, undef, undef, undef, undef, undef, undef, undef, undef, undef, undef, undef, undef, undef, undef, undef, undef, undef, undef, undef, undef, undef, undef, undef, undef, undef, undef, undef, undef, undef, undef, undef, undef, undef, undef, undef, undef, undef, undef, undef, undef, undef, undef, undef] H_9
   else none
   else
   bif (x3 == (6 : Int)) then
   f41.K2 k x2 x4 x5 i i_1 i_2 0 x3 (x3 == (6 : Int)) [.agg #[.slice a0_0 l0_0 c0_0, .slice a0_1 l0_1 c0_1, .slice a0_2 l0_2 c0_2, .slice a0_3 l0_3 c0_3, .slice a0_4 l0_4 c0_4, .slice a0_5 l0_5 c0_5], .agg #[.slice a1_0 l1_0 c1_0, .int .i64 x1_1, .slice a1_2 l1_2 c1_2, .slice a1_3 l1_3 c1_3], .int .i64 x3, .int .i64 0, .bool false, .agg (g : List Value).toArray, .agg (g_1 : List Value).toArray, .int .i64 x2, .int .i64 x3, .int .i64 x4, .bool b, .bool (!b), .agg (g_3 : List Value).toArray, .agg g_4, .bool (x3 == (1 : Int)), .bool (x3 == (1 : Int)), .bool (x3 == (2 : Int)), .bool (x3 == (2 : Int)), .bool (x3 == (6 : Int)), undef] H_7
   else
   f41.K2 k x2 x4 x5 i i_1 i_2 0 x3 (x3 == (10 : Int)) [.agg #[.slice a0_0 l0_0 c0_0, .slice a0_1 l0_1 c0_1, .slice a0_2 l0_2 c0_2, .slice a0_3 l0_3 c0_3, .slice a0_4 l0_4 c0_4, .slice a0_5 l0_5 c0_5], .agg #[.slice a1_0 l1_0 c1_0, .int .i64 x1_1, .slice a1_2 l1_2 c1_2, .slice a1_3 l1_3 c1_3], .int .i64 x3, .int .i64 0, .bool false, .agg (g : List Value).toArray, .agg (g_1 : List Value).toArray, .int .i64 x2, .int .i64 x3, .int .i64 x4, .bool b, .bool (!b), .agg (g_3 : List Value).toArray, .agg g_4, .bool (x3 == (1 : Int)), .bool (x3 == (1 : Int)), .bool (x3 == (2 : Int)), .bool (x3 == (2 : Int)), .bool (x3 == (6 : Int)), .bool (x3 == (10 : Int))] H_7
   else none) := by kernel_rfl

end Go.Proofs.MxF
end

section
set_option linter.unusedSimpArgs false
/- Functions of the program as the machine comes to them: printed by a program of this workplace (px.py); the kernel checks each line. -/
set_option linter.unusedVariables false
namespace Go.Proofs.MxF
open Go Go.Mx Go.Proofs

/- f40 "(interleave/interleavelaw08.Event).try"  names: 0:e 1:e 6:k 7:o -/
noncomputable def f40.Q0 (k : Nat)  : Kont (Value × AHeap) := retQ Try.prog Try.f40
noncomputable def f40.Q1 (k : Nat)  : Kont (Value × AHeap) := seqQ (gateC (Sub (bodyOf Try.f40) [1, 1, 1, 0]) (Sub (bodyOf Try.f40) [1, 1, 1, 1]) k (run Try.prog (C k) k (Sub (bodyOf Try.f40) [1, 1, 1, 1]) (f40.Q0 k ))) (f40.Q0 k )
noncomputable def f40.Q2 (k : Nat)  : Kont (Value × AHeap) := blkQ 0 (f40.Q1 k )
noncomputable def f40.K1 (k : Nat)  (p1 : Nat) (x6 : Int) (x7 : Int) (x19 : Int) (b20 : Bool) (D : List Value) (H : AHeap) : Option (Value × AHeap) :=
  gateC (Sub (bodyOf Try.f40) [1, 1, 1, 0, 1, 0, 0]) (Sub (bodyOf Try.f40) [1, 1, 1, 0, 1, 0, 1]) k (run Try.prog (C k) k (Sub (bodyOf Try.f40) [1, 1, 1, 0, 1, 0, 1]) (f40.Q2 k )) [(D.getD 0 undef), .pointer (some ⟨p1, 0, none⟩), (D.getD 1 undef), (D.getD 2 undef), (D.getD 3 undef), (D.getD 4 undef), .int .i64 x6, .int .i64 x7, (D.getD 5 undef), (D.getD 6 undef), (D.getD 7 undef), (D.getD 8 undef), (D.getD 9 undef), (D.getD 10 undef), (D.getD 11 undef), (D.getD 12 undef), (D.getD 13 undef), (D.getD 14 undef), (D.getD 15 undef), .int .i64 x19, .bool b20, (D.getD 16 undef), (D.getD 17 undef), (D.getD 18 undef), (D.getD 19 undef), (D.getD 20 undef), (D.getD 21 undef), (D.getD 22 undef), undef, undef, undef, undef, undef, undef, undef, undef, undef, undef, undef, undef, undef, undef, undef, undef, undef, undef, undef, undef, undef, undef] H
noncomputable def f40.K2 (k : Nat)  (p1 : Nat) (x6 : Int) (x7 : Int) (D : List Value) (H : AHeap) : Option (Value × AHeap) :=
  gateC (Sub (bodyOf Try.f40) [1, 1, 1, 0]) (Sub (bodyOf Try.f40) [1, 1, 1, 1]) k (run Try.prog (C k) k (Sub (bodyOf Try.f40) [1, 1, 1, 1]) (f40.Q0 k )) [(D.getD 0 undef), .pointer (some ⟨p1, 0, none⟩), (D.getD 1 undef), (D.getD 2 undef), (D.getD 3 undef), (D.getD 4 undef), .int .i64 x6, .int .i64 x7, (D.getD 5 undef), (D.getD 6 undef), (D.getD 7 undef), (D.getD 8 undef), (D.getD 9 undef), (D.getD 10 undef), (D.getD 11 undef), (D.getD 12 undef), (D.getD 13 undef), (D.getD 14 undef), (D.getD 15 undef), (D.getD 16 undef), (D.getD 17 undef), (D.getD 18 undef), (D.getD 19 undef), (D.getD 20 undef), (D.getD 21 undef), (D.getD 22 undef), (D.getD 23 undef), (D.getD 24 undef), (D.getD 25 undef), (D.getD 26 undef), (D.getD 27 undef), (D.getD 28 undef), (D.getD 29 undef), (D.getD 30 undef), (D.getD 31 undef), (D.getD 32 undef), (D.getD 33 undef), undef, undef, undef, undef, undef, undef, undef, undef, undef, undef, undef, undef, undef] H
theorem f40.K1_eq (k : Nat)  (p1 : Nat) (x6 : Int) (x7 : Int) (x19 : Int) (b20 : Bool) (D : List Value) (H : AHeap) : f40.K1 k  p1 x6 x7 x19 b20 D H =
  (bif b20 then
   f40.K2 k p1 x6 (-1) [(D.getD 0 undef), (D.getD 1 undef), (D.getD 2 undef), (D.getD 3 undef), (D.getD 4 undef), (D.getD 5 undef), (D.getD 6 undef), (D.getD 7 undef), (D.getD 8 undef), (D.getD 9 undef), (D.getD 10 undef), (D.getD 11 undef), (D.getD 12 undef), (D.getD 13 undef), (D.getD 14 undef), (D.getD 15 undef), .int .i64 x19, .bool b20, (D.getD 16 undef), (D.getD 17 undef), (D.getD 18 undef), (D.getD 19 undef), (D.getD 20 undef), (D.getD 21 undef), (D.getD 22 undef), undef, undef, undef, undef, undef, undef, undef, undef, undef] H
   else
   bif (x19 == (3 : Int)) then
   bif (x19 == (3 : Int)) then
   f40.K2 k p1 x6 0 [(D.getD 0 undef), (D.getD 1 undef), (D.getD 2 undef), (D.getD 3 undef), (D.getD 4 undef), (D.getD 5 undef), (D.getD 6 undef), (D.getD 7 undef), (D.getD 8 undef), (D.getD 9 undef), (D.getD 10 undef), (D.getD 11 undef), (D.getD 12 undef), (D.getD 13 undef), (D.getD 14 undef), (D.getD 15 undef), .int .i64 x19, .bool b20, (D.getD 16 undef), (D.getD 17 undef), (D.getD 18 undef), (D.getD 19 undef), (D.getD 20 undef), (D.getD 21 undef), (D.getD 22 undef), .bool (x19 == (3 : Int)), .bool (x19 == (3 : Int)), undef, undef, undef, undef, undef, undef, undef] H
   else
   f40.K2 k p1 x6 x7 [(D.getD 0 undef), (D.getD 1 undef), (D.getD 2 undef), (D.getD 3 undef), (D.getD 4 undef), (D.getD 5 undef), (D.getD 6 undef), (D.getD 7 undef), (D.getD 8 undef), (D.getD 9 undef), (D.getD 10 undef), (D.getD 11 undef), (D.getD 12 undef), (D.getD 13 undef), (D.getD 14 undef), (D.getD 15 undef), .int .i64 x19, .bool b20, (D.getD 16 undef), (D.getD 17 undef), (D.getD 18 undef), (D.getD 19 undef), (D.getD 20 undef), (D.getD 21 undef), (D.getD 22 undef), .bool (x19 == (3 : Int)), .bool (x19 == (3 : Int)), undef, undef, undef, undef, undef, undef, undef] H
   else
   bif (x19 == (4 : Int)) then
   bif (x19 == (4 : Int)) then
   f40.K2 k p1 x6 0 [(D.getD 0 undef), (D.getD 1 undef), (D.getD 2 undef), (D.getD 3 undef), (D.getD 4 undef), (D.getD 5 undef), (D.getD 6 undef), (D.getD 7 undef), (D.getD 8 undef), (D.getD 9 undef), (D.getD 10 undef), (D.getD 11 undef), (D.getD 12 undef), (D.getD 13 undef), (D.getD 14 undef), (D.getD 15 undef), .int .i64 x19, .bool b20, (D.getD 16 undef), (D.getD 17 undef), (D.getD 18 undef), (D.getD 19 undef), (D.getD 20 undef), (D.getD 21 undef), (D.getD 22 undef), .bool (x19 == (4 : Int)), .bool (x19 == (3 : Int)), .bool (x19 == (4 : Int)), undef, undef, undef, undef, undef, undef] H
   else
   f40.K2 k p1 x6 x7 [(D.getD 0 undef), (D.getD 1 undef), (D.getD 2 undef), (D.getD 3 undef), (D.getD 4 undef), (D.getD 5 undef), (D.getD 6 undef), (D.getD 7 undef), (D.getD 8 undef), (D.getD 9 undef), (D.getD 10 undef), (D.getD 11 undef), (D.getD 12 undef), (D.getD 13 undef), (D.getD 14 undef), (D.getD 15 undef), .int .i64 x19, .bool b20, (D.getD 16 undef), (D.getD 17 undef), (D.getD 18 undef), (D.getD 19 undef), (D.getD 20 undef), (D.getD 21 undef), (D.getD 22 undef), .bool (x19 == (4 : Int)), .bool (x19 == (3 : Int)), .bool (x19 == (4 : Int)), undef, undef, undef, undef, undef, undef] H
   else
   bif (x19 == (16 : Int)) then
   bif (x19 == (16 : Int)) then
   f40.K2 k p1 x6 0 [(D.getD 0 undef), (D.getD 1 undef), (D.getD 2 undef), (D.getD 3 undef), (D.getD 4 undef), (D.getD 5 undef), (D.getD 6 undef), (D.getD 7 undef), (D.getD 8 undef), (D.getD 9 undef), (D.getD 10 undef), (D.getD 11 undef), (D.getD 12 undef), (D.getD 13 undef), (D.getD 14 undef), (D.getD 15 undef), .int .i64 x19, .bool b20, (D.getD 16 undef), (D.getD 17 undef), (D.getD 18 undef), (D.getD 19 undef), (D.getD 20 undef), (D.getD 21 undef), (D.getD 22 undef), .bool (x19 == (16 : Int)), .bool (x19 == (3 : Int)), .bool (x19 == (4 : Int)), .bool (x19 == (16 : Int)), undef, undef, undef, undef, undef] H
   else
   f40.K2 k p1 x6 x7 [(D.getD 0 undef), (D.getD 1 undef), (D.getD 2 undef), (D.getD 3 undef), (D.getD 4 undef), (D.getD 5 undef), (D.getD 6 undef), (D.getD 7 undef), (D.getD 8 undef), (D.getD 9 undef), (D.getD 10 undef), (D.getD 11 undef), (D.getD 12 undef), (D.getD 13 undef), (D.getD 14 undef), (D.getD 15 undef), .int .i64 x19, .bool b20, (D.getD 16 undef), (D.getD 17 undef), (D.getD 18 undef), (D.getD 19 undef), (D.getD 20 undef), (D.getD 21 undef), (D.getD 22 undef), .bool (x19 == (16 : Int)), .bool (x19 == (3 : Int)), .bool (x19 == (4 : Int)), .bool (x19 == (16 : Int)), undef, undef, undef, undef, undef] H
   else
   bif (x19 == (17 : Int)) then
   bif (x19 == (17 : Int)) then
   f40.K2 k p1 x6 0 [(D.getD 0 undef), (D.getD 1 undef), (D.getD 2 undef), (D.getD 3 undef), (D.getD 4 undef), (D.getD 5 undef), (D.getD 6 undef), (D.getD 7 undef), (D.getD 8 undef), (D.getD 9 undef), (D.getD 10 undef), (D.getD 11 undef), (D.getD 12 undef), (D.getD 13 undef), (D.getD 14 undef), (D.getD 15 undef), .int .i64 x19, .bool b20, (D.getD 16 undef), (D.getD 17 undef), (D.getD 18 undef), (D.getD 19 undef), (D.getD 20 undef), (D.getD 21 undef), (D.getD 22 undef), .bool (x19 == (17 : Int)), .bool (x19 == (3 : Int)), .bool (x19 == (4 : Int)), .bool (x19 == (16 : Int)), .bool (x19 == (17 : Int)), undef, undef, undef, undef] H
   else
   f40.K2 k p1 x6 x7 [(D.getD 0 undef), (D.getD 1 undef), (D.getD 2 undef), (D.getD 3 undef), (D.getD 4 undef), (D.getD 5 undef), (D.getD 6 undef), (D.getD 7 undef), (D.getD 8 undef), (D.getD 9 undef), (D.getD 10 undef), (D.getD 11 undef), (D.getD 12 undef), (D.getD 13 undef), (D.getD 14 undef), (D.getD 15 undef), .int .i64 x19, .bool b20, (D.getD 16 undef), (D.getD 17 undef), (D.getD 18 undef), (D.getD 19 undef), (D.getD 20 undef), (D.getD 21 undef), (D.getD 22 undef), .bool (x19 == (17 : Int)), .bool (x19 == (3 : Int)), .bool (x19 == (4 : Int)), .bool (x19 == (16 : Int)), .bool (x19 == (17 : Int)), undef, undef, undef, undef] H
   else
   bif (x19 == (18 : Int)) then
   bif (x19 == (18 : Int)) then
   f40.K2 k p1 x6 0 [(D.getD 0 undef), (D.getD 1 undef), (D.getD 2 undef), (D.getD 3 undef), (D.getD 4 undef), (D.getD 5 undef), (D.getD 6 undef), (D.getD 7 undef), (D.getD 8 undef), (D.getD 9 undef), (D.getD 10 undef), (D.getD 11 undef), (D.getD 12 undef), (D.getD 13 undef), (D.getD 14 undef), (D.getD 15 undef), .int .i64 x19, .bool b20, (D.getD 16 undef), (D.getD 17 undef), (D.getD 18 undef), (D.getD 19 undef), (D.getD 20 undef), (D.getD 21 undef), (D.getD 22 undef), .bool (x19 == (18 : Int)), .bool (x19 == (3 : Int)), .bool (x19 == (4 : Int)), .bool (x19 == (16 : Int)), .bool (x19 == (17 : Int)), .bool (x19 == (18 : Int)), undef, undef, undef] H
   else
   f40.K2 k p1 x6 x7 [(D.getD 0 undef), (D.getD 1 undef), (D.getD 2 undef), (D.getD 3 undef), (D.getD 4 undef), (D.getD 5 undef), (D.getD 6 undef), (D.getD 7 undef), (D.getD 8 undef), (D.getD 9 undef), (D.getD 10 undef), (D.getD 11 undef), (D.getD 12 undef), (D.getD 13 undef), (D.getD 14 undef), (D.getD 15 undef), .int .i64 x19, .bool b20, (D.getD 16 undef), (D.getD 17 undef), (D.getD 18 undef), (D.getD 19 undef), (D.getD 20 undef), (D.getD 21 undef), (D.getD 22 undef), .bool (x19 == (18 : Int)), .bool (x19 == (3 : Int)), .bool (x19 == (4 : Int)), .bool (x19 == (16 : Int)), .bool (x19 == (17 : Int)), .bool (x19 == (18 : Int)), undef, undef, undef] H
   else
   bif (x19 == (19 : Int)) then
   bif (x19 == (19 : Int)) then
   f40.K2 k p1 x6 0 [(D.getD 0 undef), (D.getD 1 undef), (D.getD 2 undef), (D.getD 3 undef), (D.getD 4 undef), (D.getD 5 undef), (D.getD 6 undef), (D.getD 7 undef), (D.getD 8 undef), (D.getD 9 undef), (D.getD 10 undef), (D.getD 11 undef), (D.getD 12 undef), (D.getD 13 undef), (D.getD 14 undef), (D.getD 15 undef), .int .i64 x19, .bool b20, (D.getD 16 undef), (D.getD 17 undef), (D.getD 18 undef), (D.getD 19 undef), (D.getD 20 undef), (D.getD 21 undef), (D.getD 22 undef), .bool (x19 == (19 : Int)), .bool (x19 == (3 : Int)), .bool (x19 == (4 : Int)), .bool (x19 == (16 : Int)), .bool (x19 == (17 : Int)), .bool (x19 == (18 : Int)), .bool (x19 == (19 : Int)), undef, undef] H
   else
   f40.K2 k p1 x6 x7 [(D.getD 0 undef), (D.getD 1 undef), (D.getD 2 undef), (D.getD 3 undef), (D.getD 4 undef), (D.getD 5 undef), (D.getD 6 undef), (D.getD 7 undef), (D.getD 8 undef), (D.getD 9 undef), (D.getD 10 undef), (D.getD 11 undef), (D.getD 12 undef), (D.getD 13 undef), (D.getD 14 undef), (D.getD 15 undef), .int .i64 x19, .bool b20, (D.getD 16 undef), (D.getD 17 undef), (D.getD 18 undef), (D.getD 19 undef), (D.getD 20 undef), (D.getD 21 undef), (D.getD 22 undef), .bool (x19 == (19 : Int)), .bool (x19 == (3 : Int)), .bool (x19 == (4 : Int)), .bool (x19 == (16 : Int)), .bool (x19 == (17 : Int)), .bool (x19 == (18 : Int)), .bool (x19 == (19 : Int)), undef, undef] H
   else
   bif (x19 == (22 : Int)) then
   bif (x19 == (22 : Int)) then
   f40.K2 k p1 x6 0 [(D.getD 0 undef), (D.getD 1 undef), (D.getD 2 undef), (D.getD 3 undef), (D.getD 4 undef), (D.getD 5 undef), (D.getD 6 undef), (D.getD 7 undef), (D.getD 8 undef), (D.getD 9 undef), (D.getD 10 undef), (D.getD 11 undef), (D.getD 12 undef), (D.getD 13 undef), (D.getD 14 undef), (D.getD 15 undef), .int .i64 x19, .bool b20, (D.getD 16 undef), (D.getD 17 undef), (D.getD 18 undef), (D.getD 19 undef), (D.getD 20 undef), (D.getD 21 undef), (D.getD 22 undef), .bool (x19 == (22 : Int)), .bool (x19 == (3 : Int)), .bool (x19 == (4 : Int)), .bool (x19 == (16 : Int)), .bool (x19 == (17 : Int)), .bool (x19 == (18 : Int)), .bool (x19 == (19 : Int)), .bool (x19 == (22 : Int)), undef] H
   else
   f40.K2 k p1 x6 x7 [(D.getD 0 undef), (D.getD 1 undef), (D.getD 2 undef), (D.getD 3 undef), (D.getD 4 undef), (D.getD 5 undef), (D.getD 6 undef), (D.getD 7 undef), (D.getD 8 undef), (D.getD 9 undef), (D.getD 10 undef), (D.getD 11 undef), (D.getD 12 undef), (D.getD 13 undef), (D.getD 14 undef), (D.getD 15 undef), .int .i64 x19, .bool b20, (D.getD 16 undef), (D.getD 17 undef), (D.getD 18 undef), (D.getD 19 undef), (D.getD 20 undef), (D.getD 21 undef), (D.getD 22 undef), .bool (x19 == (22 : Int)), .bool (x19 == (3 : Int)), .bool (x19 == (4 : Int)), .bool (x19 == (16 : Int)), .bool (x19 == (17 : Int)), .bool (x19 == (18 : Int)), .bool (x19 == (19 : Int)), .bool (x19 == (22 : Int)), undef] H
   else
   bif (x19 == (23 : Int)) then
   f40.K2 k p1 x6 0 [(D.getD 0 undef), (D.getD 1 undef), (D.getD 2 undef), (D.getD 3 undef), (D.getD 4 undef), (D.getD 5 undef), (D.getD 6 undef), (D.getD 7 undef), (D.getD 8 undef), (D.getD 9 undef), (D.getD 10 undef), (D.getD 11 undef), (D.getD 12 undef), (D.getD 13 undef), (D.getD 14 undef), (D.getD 15 undef), .int .i64 x19, .bool b20, (D.getD 16 undef), (D.getD 17 undef), (D.getD 18 undef), (D.getD 19 undef), (D.getD 20 undef), (D.getD 21 undef), (D.getD 22 undef), .bool (x19 == (23 : Int)), .bool (x19 == (3 : Int)), .bool (x19 == (4 : Int)), .bool (x19 == (16 : Int)), .bool (x19 == (17 : Int)), .bool (x19 == (18 : Int)), .bool (x19 == (19 : Int)), .bool (x19 == (22 : Int)), .bool (x19 == (23 : Int))] H
   else
   f40.K2 k p1 x6 x7 [(D.getD 0 undef), (D.getD 1 undef), (D.getD 2 undef), (D.getD 3 undef), (D.getD 4 undef), (D.getD 5 undef), (D.getD 6 undef), (D.getD 7 undef), (D.getD 8 undef), (D.getD 9 undef), (D.getD 10 undef), (D.getD 11 undef), (D.getD 12 undef), (D.getD 13 undef), (D.getD 14 undef), (D.getD 15 undef), .int .i64 x19, .bool b20, (D.getD 16 undef), (D.getD 17 undef), (D.getD 18 undef), (D.getD 19 undef), (D.getD 20 undef), (D.getD 21 undef), (D.getD 22 undef), .bool (x19 == (23 : Int)), .bool (x19 == (3 : Int)), .bool (x19 == (4 : Int)), .bool (x19 == (16 : Int)), .bool (x19 == (17 : Int)), .bool (x19 == (18 : Int)), .bool (x19 == (19 : Int)), .bool (x19 == (22 : Int)), .bool (x19 == (23 : Int))] H) := by
  unfold f40.K1
  rw [gateC_eq]
  kernel_rfl
theorem f40.K2_eq (k : Nat)  (p1 : Nat) (x6 : Int) (x7 : Int) (D : List Value) (H : AHeap) : f40.K2 k  p1 x6 x7 D H =
  (bif sameB H (H.bump 17) p1 then
   (ldI .i8 (H.bump 17) p1 (0)).bind fun x =>
   bif sameB H (H.bump 17) p1 then
   (ldI .i8 (H.bump 17) p1 (3)).bind fun x_1 =>
   some (.tuple #[.int .i64 ((IntKind.i64.wrap (IntKind.u8.wrap x)).tmod (3 : Int)), .int .i64 x6, .int .i64 x7, .int .i64 (IntKind.i64.wrap (((IntKind.i64.wrap (IntKind.u8.wrap x_1)).tmod (4 : Int)) - (1 : Int)))], (H.bump 17))
   else none
   else none) := by
  unfold f40.K2
  rw [gateC_eq]
  kernel_rfl
theorem f40_eq (k : Nat) (x0_0 : Int) (x0_1 : Int) (x0_2 : Int) (x0_3 : Int) (H : AHeap) : C (k + 1) 40 [.agg #[.int .i8 x0_0, .int .i8 x0_1, .int .i8 x0_2, .int .i8 x0_3]] H =
  (alK none H ⟨[.int .i8 x0_0, .int .i8 x0_1, .int .i8 x0_2, .int .i8 x0_3], 0, .rw, 0⟩ fun i H_1 =>
   (ldI .i8 H_1 i (1)).bind fun x =>
   (ldI .i8 H_1 i (2)).bind fun x_1 =>
   bif ((IntKind.i64.wrap (((IntKind.i64.wrap (IntKind.u8.wrap x)).tmod (23 : Int)) + (1 : Int))) == (1 : Int)) then
   f40.K1 k i (IntKind.i64.wrap (((IntKind.i64.wrap (IntKind.u8.wrap x)).tmod (23 : Int)) + (1 : Int))) ((IntKind.i64.wrap (IntKind.u8.wrap x_1)).tmod (3 : Int)) (IntKind.i64.wrap (((IntKind.i64.wrap (IntKind.u8.wrap x)).tmod (23 : Int)) + (1 : Int))) ((IntKind.i64.wrap (((IntKind.i64.wrap (IntKind.u8.wrap x)).tmod (23 : Int)) + (1 : Int))) == (1 : Int)) [.agg #[.int .i8 x0_0, .int .i8 x0_1, .int .i8 x0_2, .int .i8 x0_3], .int .i64 0, .int .i64 0, .int .i64 0, .int .i64 0, .pointer (some ⟨i, 1, none⟩), .int .i8 x, .int .u8 (IntKind.u8.wrap x), .int .i64 (IntKind.i64.wrap (IntKind.u8.wrap x)), .int .i64 ((IntKind.i64.wrap (IntKind.u8.wrap x)).tmod (23 : Int)), .int .i64 (IntKind.i64.wrap (((IntKind.i64.wrap (IntKind.u8.wrap x)).tmod (23 : Int)) + (1 : Int))), .pointer (some ⟨i, 2, none⟩), .int .i8 x_1, .int .u8 (IntKind.u8.wrap x_1), .int .i64 (IntKind.i64.wrap (IntKind.u8.wrap x_1)), .int .i64 ((IntKind.i64.wrap (IntKind.u8.wrap x_1)).tmod (3 : Int)), .bool ((IntKind.i64.wrap (((IntKind.i64.wrap (IntKind.u8.wrap x)).tmod (23 : Int)) + (1 : Int))) == (1 : Int)), undef, undef, undef, undef, undef, undef] H_1
   else
   bif ((IntKind.i64.wrap (((IntKind.i64.wrap (IntKind.u8.wrap x)).tmod (23 : Int)) + (1 : Int))) == (2 : Int)) then
   f40.K1 k i (IntKind.i64.wrap (((IntKind.i64.wrap (IntKind.u8.wrap x)).tmod (23 : Int)) + (1 : Int))) ((IntKind.i64.wrap (IntKind.u8.wrap x_1)).tmod (3 : Int)) (IntKind.i64.wrap (((IntKind.i64.wrap (IntKind.u8.wrap x)).tmod (23 : Int)) + (1 : Int))) ((IntKind.i64.wrap (((IntKind.i64.wrap (IntKind.u8.wrap x)).tmod (23 : Int)) + (1 : Int))) == (2 : Int)) [.agg #[.int .i8 x0_0, .int .i8 x0_1, .int .i8 x0_2, .int .i8 x0_3], .int .i64 0, .int .i64 0, .int .i64 0, .int .i64 0, .pointer (some ⟨i, 1, none⟩), .int .i8 x, .int .u8 (IntKind.u8.wrap x), .int .i64 (IntKind.i64.wrap (IntKind.u8.wrap x)), .int .i64 ((IntKind.i64.wrap (IntKind.u8.wrap x)).tmod (23 : Int)), .int .i64 (IntKind.i64.wrap (((IntKind.i64.wrap (IntKind.u8.wrap x)).tmod (23 : Int)) + (1 : Int))), .pointer (some ⟨i, 2, none⟩), .int .i8 x_1, .int .u8 (IntKind.u8.wrap x_1), .int .i64 (IntKind.i64.wrap (IntKind.u8.wrap x_1)), .int .i64 ((IntKind.i64.wrap (IntKind.u8.wrap x_1)).tmod (3 : Int)), .bool ((IntKind.i64.wrap (((IntKind.i64.wrap (IntKind.u8.wrap x)).tmod (23 : Int)) + (1 : Int))) == (1 : Int)), .bool ((IntKind.i64.wrap (((IntKind.i64.wrap (IntKind.u8.wrap x)).tmod (23 : Int)) + (1 : Int))) == (2 : Int)), undef, undef, undef, undef, undef] H_1
   else
   bif ((IntKind.i64.wrap (((IntKind.i64.wrap (IntKind.u8.wrap x)).tmod (23 : Int)) + (1 : Int))) == (5 : Int)) then
   f40.K1 k i (IntKind.i64.wrap (((IntKind.i64.wrap (IntKind.u8.wrap x)).tmod (23 : Int)) + (1 : Int))) ((IntKind.i64.wrap (IntKind.u8.wrap x_1)).tmod (3 : Int)) (IntKind.i64.wrap (((IntKind.i64.wrap (IntKind.u8.wrap x)).tmod (23 : Int)) + (1 : Int))) ((IntKind.i64.wrap (((IntKind.i64.wrap (IntKind.u8.wrap x)).tmod (23 : Int)) + (1 : Int))) == (5 : Int)) [.agg #[.int .i8 x0_0, .int .i8 x0_1, .int .i8 x0_2, .int .i8 x0_3], .int .i64 0, .int .i64 0, .int .i64 0, .int .i64 0, .pointer (some ⟨i, 1, none⟩), .int .i8 x, .int .u8 (IntKind.u8.wrap x), .int .i64 (IntKind.i64.wrap (IntKind.u8.wrap x)), .int .i64 ((IntKind.i64.wrap (IntKind.u8.wrap x)).tmod (23 : Int)), .int .i64 (IntKind.i64.wrap (((IntKind.i64.wrap (IntKind.u8.wrap x)).tmod (23 : Int)) + (1 : Int))), .pointer (some ⟨i, 2, none⟩), .int .i8 x_1, .int .u8 (IntKind.u8.wrap x_1), .int .i64 (IntKind.i64.wrap (IntKind.u8.wrap x_1)), .int .i64 ((IntKind.i64.wrap (IntKind.u8.wrap x_1)).tmod (3 : Int)), .bool ((IntKind.i64.wrap (((IntKind.i64.wrap (IntKind.u8.wrap x)).tmod (23 : Int)) + (1 : Int))) == (1 : Int)), .bool ((IntKind.i64.wrap (((IntKind.i64.wrap (IntKind.u8.wrap x)).tmod (23 : Int)) + (1 : Int))) == (2 : Int)), .bool ((IntKind.i64.wrap (((IntKind.i64.wrap (IntKind.u8.wrap x)).tmod (23 : Int)) + (1 : Int))) == (5 : Int)), undef, undef, undef, undef] H_1
   else
   bif ((IntKind.i64.wrap (((IntKind.i64.wrap (IntKind.u8.wrap x)).tmod (23 : Int)) + (1 : Int))) == (12 : Int)) then
   f40.K1 k i (IntKind.i64.wrap (((IntKind.i64.wrap (IntKind.u8.wrap x)).tmod (23 : Int)) + (1 : Int))) ((IntKind.i64.wrap (IntKind.u8.wrap x_1)).tmod (3 : Int)) (IntKind.i64.wrap (((IntKind.i64.wrap (IntKind.u8.wrap x)).tmod (23 : Int)) + (1 : Int))) ((IntKind.i64.wrap (((IntKind.i64.wrap (IntKind.u8.wrap x)).tmod (23 : Int)) + (1 : Int))) == (12 : Int)) [.agg #[.int .i8 x0_0, .int .i8 x0_1, .int .i8 x0_2, .int .i8 x0_3], .int .i64 0, .int .i64 0, .int .i64 0, .int .i64 0, .pointer (some ⟨i, 1, none⟩), .int .i8 x, .int .u8 (IntKind.u8.wrap x), .int .i64 (IntKind.i64.wrap (IntKind.u8.wrap x)), .int .i64 ((IntKind.i64.wrap (IntKind.u8.wrap x)).tmod (23 : Int)), .int .i64 (IntKind.i64.wrap (((IntKind.i64.wrap (IntKind.u8.wrap x)).tmod (23 : Int)) + (1 : Int))), .pointer (some ⟨i, 2, none⟩), .int .i8 x_1, .int .u8 (IntKind.u8.wrap x_1), .int .i64 (IntKind.i64.wrap (IntKind.u8.wrap x_1)), .int .i64 ((IntKind.i64.wrap (IntKind.u8.wrap x_1)).tmod (3 : Int)), .bool ((IntKind.i64.wrap (((IntKind.i64.wrap (IntKind.u8.wrap x)).tmod (23 : Int)) + (1 : Int))) == (1 : Int)), .bool ((IntKind.i64.wrap (((IntKind.i64.wrap (IntKind.u8.wrap x)).tmod (23 : Int)) + (1 : Int))) == (2 : Int)), .bool ((IntKind.i64.wrap (((IntKind.i64.wrap (IntKind.u8.wrap x)).tmod (23 : Int)) + (1 : Int))) == (5 : Int)), .bool ((IntKind.i64.wrap (((IntKind.i64.wrap (IntKind.u8.wrap x)).tmod (23 : Int)) + (1 : Int))) == (12 : Int)), undef, undef, undef] H_1
   else
   bif ((IntKind.i64.wrap (((IntKind.i64.wrap (IntKind.u8.wrap x)).tmod (23 : Int)) + (1 : Int))) == (13 : Int)) then
   f40.K1 k i (IntKind.i64.wrap (((IntKind.i64.wrap (IntKind.u8.wrap x)).tmod (23 : Int)) + (1 : Int))) ((IntKind.i64.wrap (IntKind.u8.wrap x_1)).tmod (3 : Int)) (IntKind.i64.wrap (((IntKind.i64.wrap (IntKind.u8.wrap x)).tmod (23 : Int)) + (1 : Int))) ((IntKind.i64.wrap (((IntKind.i64.wrap (IntKind.u8.wrap x)).tmod (23 : Int)) + (1 : Int))) == (13 : Int)) [.agg #[.int .i8 x0_0, .int .i8 x0_1, .int .i8 x0_2, .int .i8 x0_3], .int .i64 0, .int .i64 0, .int .i64 0, .int .i64 0, .pointer (some ⟨i, 1, none⟩), .int .i8 x, .int .u8 (IntKind.u8.wrap x), .int .i64 (IntKind.i64.wrap (IntKind.u8.wrap x)), .int .i64 ((IntKind.i64.wrap (IntKind.u8.wrap x)).tmod (23 : Int)), .int .i64 (IntKind.i64.wrap (((IntKind.i64.wrap (IntKind.u8.wrap x)).tmod (23 : Int)) + (1 : Int))), .pointer (some ⟨i, 2, none⟩), .int .i8 x_1, .int .u8 (IntKind.u8.wrap x_1), .int .i64 (IntKind.i64.wrap (IntKind.u8.wrap x_1)), .int .i64 ((IntKind.i64.wrap (IntKind.u8.wrap x_1)).tmod (3 : Int)), .bool ((IntKind.i64.wrap (((IntKind.i64.wrap (IntKind.u8.wrap x)).tmod (23 : Int)) + (1 : Int))) == (1 : Int)), .bool ((IntKind.i64.wrap (((IntKind.i64.wrap (IntKind.u8.wrap x)).tmod (23 : Int)) + (1 : Int))) == (2 : Int)), .bool ((IntKind.i64.wrap (((IntKind.i64.wrap (IntKind.u8.wrap x)).tmod (23 : Int)) + (1 : Int))) == (5 : Int)), .bool ((IntKind.i64.wrap (((IntKind.i64.wrap (IntKind.u8.wrap x)).tmod (23 : Int)) + (1 : Int))) == (12 : Int)), .bool ((IntKind.i64.wrap (((IntKind.i64.wrap (IntKind.u8.wrap x)).tmod (23 : Int)) + (1 : Int))) == (13 : Int)), undef, undef] H_1
   else
   bif ((IntKind.i64.wrap (((IntKind.i64.wrap (IntKind.u8.wrap x)).tmod (23 : Int)) + (1 : Int))) == (14 : Int)) then
   f40.K1 k i (IntKind.i64.wrap (((IntKind.i64.wrap (IntKind.u8.wrap x)).tmod (23 : Int)) + (1 : Int))) ((IntKind.i64.wrap (IntKind.u8.wrap x_1)).tmod (3 : Int)) (IntKind.i64.wrap (((IntKind.i64.wrap (IntKind.u8.wrap x)).tmod (23 : Int)) + (1 : Int))) ((IntKind.i64.wrap (((IntKind.i64.wrap (IntKind.u8.wrap x)).tmod (23 : Int)) + (1 : Int))) == (14 : Int)) [.agg #[.int .i8 x0_0, .int .i8 x0_1, .int .i8 x0_2, .int .i8 x0_3], .int .i64 0, .int .i64 0, .int .i64 0, .int .i64 0, .pointer (some ⟨i, 1, none⟩), .int .i8 x, .int .u8 (IntKind.u8.wrap x), .int .i64 (IntKind.i64.wrap (IntKind.u8.wrap x)), .int .i64 ((IntKind.i64.wrap (IntKind.u8.wrap x)).tmod (23 : Int)), .int .i64 (IntKind.i64.wrap (((IntKind.i64.wrap (IntKind.u8.wrap x)).tmod (23 : Int)) + (1 : Int))), .pointer (some ⟨i, 2, none⟩), .int .i8 x_1, .int .u8 (IntKind.u8.wrap x_1), .int .i64 (IntKind.i64.wrap (IntKind.u8.wrap x_1)), .int .i64 ((IntKind.i64.wrap (IntKind.u8.wrap x_1)).tmod (3 : Int)), .bool ((IntKind.i64.wrap (((IntKind.i64.wrap (IntKind.u8.wrap x)).tmod (23 : Int)) + (1 : Int))) == (1 : Int)), .bool ((IntKind.i64.wrap (((IntKind.i64.wrap (IntKind.u8.wrap x)).tmod (23 : Int)) + (1 : Int))) == (2 : Int)), .bool ((IntKind.i64.wrap (((IntKind.i64.wrap (IntKind.u8.wrap x)).tmod (23 : Int)) + (1 : Int))) == (5 : Int)), .bool ((IntKind.i64.wrap (((IntKind.i64.wrap (IntKind.u8.wrap x)).tmod (23 : Int)) + (1 : Int))) == (12 : Int)), .bool ((IntKind.i64.wrap (((IntKind.i64.wrap (IntKind.u8.wrap x)).tmod (23 : Int)) + (1 : Int))) == (13 : Int)), .bool ((IntKind.i64.wrap (((IntKind.i64.wrap (IntKind.u8.wrap x)).tmod (23 : Int)) + (1 : Int))) == (14 : Int)), undef] H_1
   else
   f40.K1 k i (IntKind.i64.wrap (((IntKind.i64.wrap (IntKind.u8.wrap x)).tmod (23 : Int)) + (1 : Int))) ((IntKind.i64.wrap (IntKind.u8.wrap x_1)).tmod (3 : Int)) (IntKind.i64.wrap (((IntKind.i64.wrap (IntKind.u8.wrap x)).tmod (23 : Int)) + (1 : Int))) ((IntKind.i64.wrap (((IntKind.i64.wrap (IntKind.u8.wrap x)).tmod (23 : Int)) + (1 : Int))) == (15 : Int)) [.agg #[.int .i8 x0_0, .int .i8 x0_1, .int .i8 x0_2, .int .i8 x0_3], .int .i64 0, .int .i64 0, .int .i64 0, .int .i64 0, .pointer (some ⟨i, 1, none⟩), .int .i8 x, .int .u8 (IntKind.u8.wrap x), .int .i64 (IntKind.i64.wrap (IntKind.u8.wrap x)), .int .i64 ((IntKind.i64.wrap (IntKind.u8.wrap x)).tmod (23 : Int)), .int .i64 (IntKind.i64.wrap (((IntKind.i64.wrap (IntKind.u8.wrap x)).tmod (23 : Int)) + (1 : Int))), .pointer (some ⟨i, 2, none⟩), .int .i8 x_1, .int .u8 (IntKind.u8.wrap x_1), .int .i64 (IntKind.i64.wrap (IntKind.u8.wrap x_1)), .int .i64 ((IntKind.i64.wrap (IntKind.u8.wrap x_1)).tmod (3 : Int)), .bool ((IntKind.i64.wrap (((IntKind.i64.wrap (IntKind.u8.wrap x)).tmod (23 : Int)) + (1 : Int))) == (1 : Int)), .bool ((IntKind.i64.wrap (((IntKind.i64.wrap (IntKind.u8.wrap x)).tmod (23 : Int)) + (1 : Int))) == (2 : Int)), .bool ((IntKind.i64.wrap (((IntKind.i64.wrap (IntKind.u8.wrap x)).tmod (23 : Int)) + (1 : Int))) == (5 : Int)), .bool ((IntKind.i64.wrap (((IntKind.i64.wrap (IntKind.u8.wrap x)).tmod (23 : Int)) + (1 : Int))) == (12 : Int)), .bool ((IntKind.i64.wrap (((IntKind.i64.wrap (IntKind.u8.wrap x)).tmod (23 : Int)) + (1 : Int))) == (13 : Int)), .bool ((IntKind.i64.wrap (((IntKind.i64.wrap (IntKind.u8.wrap x)).tmod (23 : Int)) + (1 : Int))) == (14 : Int)), .bool ((IntKind.i64.wrap (((IntKind.i64.wrap (IntKind.u8.wrap x)).tmod (23 : Int)) + (1 : Int))) == (15 : Int))] H_1) := by kernel_rfl

/- f37 "interleave/interleavelaw08.reach"  names: 0:w 1:l 2:w 3:l 5:s 6:i 7:t 8:k 9:o 10:wake 11:a 12:_ 13:ok -/
noncomputable def f37.Q0 (k : Nat)  : Kont (Value × AHeap) := retQ Try.prog Try.f37
noncomputable def f37.Q1 (k : Nat)  : Kont (Value × AHeap) := seqQ (gateC (Sub (bodyOf Try.f37) [1, 1, 0]) (Sub (bodyOf Try.f37) [1, 1, 1]) k (run Try.prog (C k) k (Sub (bodyOf Try.f37) [1, 1, 1]) (f37.Q0 k ))) (f37.Q0 k )
noncomputable def f37.Q2 (k : Nat)  : Kont (Value × AHeap) := blkQ 0 (f37.Q1 k )
noncomputable def f37.L1 (k : Nat) (n1 : Nat) (a1 : Option Addr) (l1 : Nat) (c1 : Nat) (p2 : Nat) (p4 : Nat) (p5 : Nat) (x6 : Int) (D : List Value) (H : AHeap) : Option (Value × AHeap) :=
  iter (run Try.prog (C k) k (Sub (bodyOf Try.f37) [1, 1, 0, 1, 0, 0])) (f37.Q2 k ) n1 [(D.getD 0 undef), .slice a1 l1 c1, .pointer (some ⟨p2, 0, none⟩), undef, .pointer (some ⟨p4, 0, none⟩), .pointer (some ⟨p5, 0, none⟩), .int .i64 x6, (D.getD 1 undef), (D.getD 2 undef), (D.getD 3 undef), (D.getD 4 undef), (D.getD 5 undef), (D.getD 6 undef), (D.getD 7 undef), (D.getD 8 undef), (D.getD 9 undef), (D.getD 10 undef), (D.getD 11 undef), (D.getD 12 undef), (D.getD 13 undef), (D.getD 14 undef), (D.getD 15 undef), (D.getD 16 undef), (D.getD 17 undef), (D.getD 18 undef), (D.getD 19 undef), (D.getD 20 undef), (D.getD 21 undef), (D.getD 22 undef), (D.getD 23 undef), (D.getD 24 undef), (D.getD 25 undef), (D.getD 26 undef), (D.getD 27 undef), (D.getD 28 undef), (D.getD 29 undef), (D.getD 30 undef), (D.getD 31 undef), (D.getD 32 undef), (D.getD 33 undef), (D.getD 34 undef), (D.getD 35 undef), (D.getD 36 undef), (D.getD 37 undef), (D.getD 38 undef), undef] H
theorem f37.L1_z (k : Nat)  (a1 : Option Addr) (l1 : Nat) (c1 : Nat) (p2 : Nat) (p4 : Nat) (p5 : Nat) (x6 : Int) (D : List Value) (H : AHeap) : f37.L1 k 0 a1 l1 c1 p2 p4 p5 x6 D H = none := by kernel_rfl
theorem f37.L1_s (k : Nat) (n1 : Nat) (a1 : Option Addr) (l1 : Nat) (c1 : Nat) (p2 : Nat) (p4 : Nat) (p5 : Nat) (x6 : Int) (D : List Value) (H : AHeap) : f37.L1 k (n1 + 1) a1 l1 c1 p2 p4 p5 x6 D H =
  (bif (decide (x6 < (l1 : Int))) then
   a1.bind fun q =>
   if 0 ≤ x6 ∧ x6 < (l1 : Int) then
   (AHeap.row H q.block (q.off + x6.toNat * 4) 4).bind fun g =>
   cT (C k 40 [.agg (g : List Value).toArray] H) fun u H_1 =>
   exI .i64 (u.toList[0]?) fun x =>
   exI .i64 (u.toList[1]?) fun x_1 =>
   exI .i64 (u.toList[2]?) fun x_2 =>
   exI .i64 (u.toList[3]?) fun x_3 =>
   (AHeap.row H_1 p2 (0) 6).bind fun g_1 =>
   (AHeap.row H_1 p5 (0) 4).bind fun g_2 =>
   cT (C k 38 [.agg (g_1 : List Value).toArray, .agg (g_2 : List Value).toArray, .int .i64 x, .int .i64 x_1, .int .i64 x_2, .int .i64 x_3] H_1) fun u_1 H_2 =>
   exG (u_1.toList[0]?) fun g_3 =>
   exI .i64 (u_1.toList[1]?) fun x_4 =>
   exB (u_1.toList[2]?) fun b =>
   alK none H_2 ⟨[.slice none 0 0, .int .i64 0, .slice none 0 0, .slice none 0 0], 0, .rw, 0⟩ fun i H_3 =>
   if notTup (.agg g_3) = true ∧ (g_3.toList).length = 4 then
   (AHeap.wr H_3 i (0) g_3.toList).bind fun H_4 =>
   bif b then
   (AHeap.row H_4 i (0) 4).bind fun g_4 =>
   if notTup (.agg (g_4 : List Value).toArray) = true ∧ (g_4).length = 4 then
   (AHeap.wr H_4 p5 (0) g_4).bind fun H_5 =>
   f37.L1 k n1 a1 l1 c1 p2 p4 p5 (IntKind.i64.wrap (x6 + (1 : Int))) [(D.getD 0 undef), .int .i64 x, .int .i64 x_1, .int .i64 x_2, .int .i64 x_3, .pointer (some ⟨i, 0, none⟩), .int .i64 x_4, .bool b, (D.getD 8 undef), (D.getD 9 undef), .int .i64 x6, .slice a1 l1 c1, .int .i64 (l1 : Int), .bool (decide (x6 < (l1 : Int))), .int .i64 x6, .int .i64 (IntKind.i64.wrap (x6 + (1 : Int))), .tuple u, .slice a1 l1 c1, .int .i64 x6, .pointer (some ⟨q.block, q.off + x6.toNat * 4, none⟩), .agg (g : List Value).toArray, .tuple u, .int .i64 x, .int .i64 x_1, .int .i64 x_2, .int .i64 x_3, .tuple u_1, .agg (g_1 : List Value).toArray, .agg (g_2 : List Value).toArray, .int .i64 x, .int .i64 x_1, .int .i64 x_2, .int .i64 x_3, .tuple u_1, .agg g_3, .int .i64 x_4, .bool b, .bool b, .agg (g_4 : List Value).toArray] H_5
   else none
   else
   f37.L1 k n1 a1 l1 c1 p2 p4 p5 (IntKind.i64.wrap (x6 + (1 : Int))) [(D.getD 0 undef), .int .i64 x, .int .i64 x_1, .int .i64 x_2, .int .i64 x_3, .pointer (some ⟨i, 0, none⟩), .int .i64 x_4, .bool b, (D.getD 8 undef), (D.getD 9 undef), .int .i64 x6, .slice a1 l1 c1, .int .i64 (l1 : Int), .bool (decide (x6 < (l1 : Int))), .int .i64 x6, .int .i64 (IntKind.i64.wrap (x6 + (1 : Int))), .tuple u, .slice a1 l1 c1, .int .i64 x6, .pointer (some ⟨q.block, q.off + x6.toNat * 4, none⟩), .agg (g : List Value).toArray, .tuple u, .int .i64 x, .int .i64 x_1, .int .i64 x_2, .int .i64 x_3, .tuple u_1, .agg (g_1 : List Value).toArray, .agg (g_2 : List Value).toArray, .int .i64 x, .int .i64 x_1, .int .i64 x_2, .int .i64 x_3, .tuple u_1, .agg g_3, .int .i64 x_4, .bool b, .bool b, (D.getD 38 undef)] H_4
   else none
   else none
   else
   (AHeap.row H p5 (0) 4).bind fun g_5 =>
   if notTup (.agg (g_5 : List Value).toArray) = true ∧ (g_5).length = 4 then
   (AHeap.wr H p4 (0) g_5).bind fun H_6 =>
   (AHeap.row H_6 p4 (0) 4).bind fun g_6 =>
   some (.agg (g_6 : List Value).toArray, H_6)
   else none) := by kernel_rfl
theorem f37_eq (k : Nat) (a0_0 : Option Addr) (l0_0 : Nat) (c0_0 : Nat) (a0_1 : Option Addr) (l0_1 : Nat) (c0_1 : Nat) (a0_2 : Option Addr) (l0_2 : Nat) (c0_2 : Nat) (a0_3 : Option Addr) (l0_3 : Nat) (c0_3 : Nat) (a0_4 : Option Addr) (l0_4 : Nat) (c0_4 : Nat) (a0_5 : Option Addr) (l0_5 : Nat) (c0_5 : Nat) (a1 : Option Addr) (l1 : Nat) (c1 : Nat) (H : AHeap) : C (k + 1) 37 [.agg #[.slice a0_0 l0_0 c0_0, .slice a0_1 l0_1 c0_1, .slice a0_2 l0_2 c0_2, .slice a0_3 l0_3 c0_3, .slice a0_4 l0_4 c0_4, .slice a0_5 l0_5 c0_5], .slice a1 l1 c1] H =
  (alK none H ⟨[.slice a0_0 l0_0 c0_0, .slice a0_1 l0_1 c0_1, .slice a0_2 l0_2 c0_2, .slice a0_3 l0_3 c0_3, .slice a0_4 l0_4 c0_4, .slice a0_5 l0_5 c0_5], 0, .rw, 0⟩ fun i H_1 =>
   alK none H_1 ⟨[.slice none 0 0, .int .i64 0, .slice none 0 0, .slice none 0 0], 0, .rw, 0⟩ fun i_1 H_2 =>
   (AHeap.row H_2 i (0) 6).bind fun g =>
   cG (C k 33 [.agg (g : List Value).toArray] H_2) fun g_1 H_3 =>
   alK none H_3 ⟨[.slice none 0 0, .int .i64 0, .slice none 0 0, .slice none 0 0], 0, .rw, 0⟩ fun i_2 H_4 =>
   if notTup (.agg g_1) = true ∧ (g_1.toList).length = 4 then
   (AHeap.wr H_4 i_2 (0) g_1.toList).bind fun H_5 =>
   f37.L1 k k a1 l1 c1 i i_1 i_2 0 [.agg #[.slice a0_0 l0_0 c0_0, .slice a0_1 l0_1 c0_1, .slice a0_2 l0_2 c0_2, .slice a0_3 l0_3 c0_3, .slice a0_4 l0_4 c0_4, .slice a0_5 l0_5 c0_5], undef, undef, undef, undef, undef, undef, undef, .agg (g : List Value).toArray, .agg g_1, undef, undef, undef, undef, undef, undef, undef, undef, undef, undef, undef, undef, undef, undef, undef, undef, undef, undef, undef, undef, undef, undef, undef, undef, undef, undef, undef, undef, undef] H_5
   else none) := by kernel_rfl

end Go.Proofs.MxF
end
