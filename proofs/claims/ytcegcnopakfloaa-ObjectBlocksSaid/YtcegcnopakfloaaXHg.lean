/- Texts of this claim, laid together: O1 O2 O3 O5 O6 O7 O8 O9 O10 O11 O12 O13. -/
import Derived.Test.YtcegcnopakfloaaXHd
import Derived.Test.YtcegcnopakfloaaXHc
import Derived.Test.YtcegcnopakfloaaXHe
import Derived.Test.YtcegcnopakfloaaXHf
section
set_option linter.unusedSimpArgs false
/- The state of the objects, and what a walk sees of it. -/
set_option linter.unusedVariables false
namespace Go.Mx
open Go
section
variable {α : Type} {f : α → List Value} {sz : Nat} {H : AHeap} {a : Option Addr} {n : Nat} {xs : List α} {i j : Nat} {x : α}
theorem tbl_ldI (hf : ∀ x, (f x).length = sz) (h : Cells H a n (xs.flatMap f)) (hx : xs[i]? = some x) {k : IntKind} {v : Int} (hj : (f x)[j]? = some (.int k v)) :
    ∃ q, a = some q ∧ ldI k H q.block (q.off + (i : Int).toNat * sz + j) = some v := by
  have hjl : j < sz := by rw [← hf x]; exact (List.getElem?_eq_some_iff.1 hj).1
  obtain ⟨q, e, hq⟩ := h.ldI ((flat_get hf hx hjl).trans hj)
  exact ⟨q, e, by rw [Int.toNat_natCast, Nat.add_assoc]; exact hq⟩
theorem tbl_ldB (hf : ∀ x, (f x).length = sz) (h : Cells H a n (xs.flatMap f)) (hx : xs[i]? = some x) {v : Bool} (hj : (f x)[j]? = some (.bool v)) :
    ∃ q, a = some q ∧ ldB H q.block (q.off + (i : Int).toNat * sz + j) = some v := by
  have hjl : j < sz := by rw [← hf x]; exact (List.getElem?_eq_some_iff.1 hj).1
  obtain ⟨q, e, hq⟩ := h.ldB ((flat_get hf hx hjl).trans hj)
  exact ⟨q, e, by rw [Int.toNat_natCast, Nat.add_assoc]; exact hq⟩
theorem tbl_ldSl (hf : ∀ x, (f x).length = sz) (h : Cells H a n (xs.flatMap f)) (hx : xs[i]? = some x) {b : Option Addr} {l c : Nat} (hj : (f x)[j]? = some (.slice b l c)) :
    ∃ q, a = some q ∧ ldSl H q.block (q.off + (i : Int).toNat * sz + j) = some (b, l, c) := by
  have hjl : j < sz := by rw [← hf x]; exact (List.getElem?_eq_some_iff.1 hj).1
  obtain ⟨q, e, hq⟩ := h.ldSl ((flat_get hf hx hjl).trans hj)
  exact ⟨q, e, by rw [Int.toNat_natCast, Nat.add_assoc]; exact hq⟩
theorem tbl_row (hf : ∀ x, (f x).length = sz) (hsz : 0 < sz) (h : Cells H a n (xs.flatMap f)) (hx : xs[i]? = some x) :
    ∃ q, a = some q ∧ H.row q.block (q.off + (i : Int).toNat * sz) sz = some (f x) := by
  have hn : n = xs.length * sz := by rw [← flat_len hf]; exact h.1.symm
  have hi : i < xs.length := (List.getElem?_eq_some_iff.1 hx).1
  obtain ⟨q, e, hq⟩ := h.row (j := i * sz) (m := sz) hsz (by rw [hn, ← Nat.succ_mul]; exact Nat.mul_le_mul_right _ hi)
  exact ⟨q, e, by rw [Int.toNat_natCast, hq, flat_row hf hx]⟩
end
end Go.Mx
namespace Go.Proofs.MxF
open Go Go.Mx Go.Proofs
/-- a lock's state -/
structure LockS where
  own : Int
  rd : List Int
deriving DecidableEq
structure ThS where
  st : Int
  cd : Int
  at' : Bool
deriving DecidableEq
structure SyncS where
  locks : List LockS
  tx : Int
  done : List Bool
  ths : List ThS
deriving DecidableEq
/-- a lock's state with the place of its readers -/
structure LkV where
  own : Int
  a : Option Addr
  l : Nat
  c : Nat
  rd : List Int
def LkV.pure (x : LkV) : LockS := ⟨x.own, x.rd⟩
def rowL (x : LkV) : List Value := [.int .i64 x.own, .slice x.a x.l x.c]
def rowT (x : ThS) : List Value := [.int .i64 x.st, .int .i64 x.cd, .bool x.at']
def rowB (x : Bool) : List Value := [.bool x]
theorem rowL_len (x : LkV) : (rowL x).length = 2 := rfl
theorem rowT_len (x : ThS) : (rowT x).length = 3 := rfl
theorem rowB_len (x : Bool) : (rowB x).length = 1 := rfl
def IntsF (F : Nat → Prop) (H : AHeap) (a : Option Addr) (l : Nat) (xs : List Int) : Prop := CellsF F H a l (ints xs)

/-- a state that lies in three slices -/
structure SyncP (F : Nat → Prop) (H : AHeap) (aL : Option Addr) (lL : Nat) (aD : Option Addr) (lD : Nat) (aT : Option Addr) (lT : Nat) (ls : List LkV) (s : SyncS) : Prop where
  L : CellsF F H aL (lL * 2) (ls.flatMap rowL)
  D : CellsF F H aD (lD * 1) (s.done.flatMap rowB)
  T : CellsF F H aT (lT * 3) (s.ths.flatMap rowT)
  locks : ls.map LkV.pure = s.locks
  rd : ∀ x ∈ ls, IntsF F H x.a x.l x.rd
def SyncR (F : Nat → Prop) (H : AHeap) (cs : List Value) (s : SyncS) : Prop :=
  ∃ aL lL cL aD lD cD aT lT cT ls, cs = [.slice aL lL cL, .int .i64 s.tx, .slice aD lD cD, .slice aT lT cT] ∧ SyncP F H aL lL aD lD aT lT ls s
section
variable {F G : Nat → Prop} {H H' : AHeap} {aL : Option Addr} {lL : Nat} {aD : Option Addr} {lD : Nat} {aT : Option Addr} {lT : Nat} {ls : List LkV} {s : SyncS} {cs : List Value}
theorem SyncP.lenL (h : SyncP F H aL lL aD lD aT lT ls s) : lL = ls.length := by have := h.L.1.1; rw [flat_len rowL_len] at this; omega
theorem SyncP.lenL' (h : SyncP F H aL lL aD lD aT lT ls s) : lL = s.locks.length := by rw [h.lenL, ← h.locks, List.length_map]
theorem SyncP.lenD (h : SyncP F H aL lL aD lD aT lT ls s) : lD = s.done.length := by have := h.D.1.1; rw [flat_len rowB_len] at this; omega
theorem SyncP.lenT (h : SyncP F H aL lL aD lD aT lT ls s) : lT = s.ths.length := by have := h.T.1.1; rw [flat_len rowT_len] at this; omega
theorem SyncP.agree (h : SyncP F H aL lL aD lD aT lT ls s) (A : Agree H H') : SyncP F H' aL lL aD lD aT lT ls s := ⟨h.L.agree A, h.D.agree A, h.T.agree A, h.locks, fun x hx => (h.rd x hx).agree A⟩
theorem SyncP.wrote (h : SyncP F H aL lL aD lD aT lT ls s) {i : Nat} {b' : Blk} (w : Wrote H H' i b') (hi : ¬ F i) : SyncP F H' aL lL aD lD aT lT ls s := ⟨h.L.wrote w hi, h.D.wrote w hi, h.T.wrote w hi, h.locks, fun x hx => (h.rd x hx).wrote w hi⟩
theorem SyncP.mono (h : SyncP F H aL lL aD lD aT lT ls s) (k : ∀ i, F i → G i) : SyncP G H aL lL aD lD aT lT ls s := ⟨h.L.mono k, h.D.mono k, h.T.mono k, h.locks, fun x hx => (h.rd x hx).mono k⟩
theorem SyncR.agree (h : SyncR F H cs s) (A : Agree H H') : SyncR F H' cs s := by
  obtain ⟨aL, lL, cL, aD, lD, cD, aT, lT, cT, ls, e, h⟩ := h; exact ⟨aL, lL, cL, aD, lD, cD, aT, lT, cT, ls, e, h.agree A⟩
theorem SyncR.wrote (h : SyncR F H cs s) {i : Nat} {b' : Blk} (w : Wrote H H' i b') (hi : ¬ F i) : SyncR F H' cs s := by
  obtain ⟨aL, lL, cL, aD, lD, cD, aT, lT, cT, ls, e, h⟩ := h; exact ⟨aL, lL, cL, aD, lD, cD, aT, lT, cT, ls, e, h.wrote w hi⟩
theorem SyncR.mono (h : SyncR F H cs s) (k : ∀ i, F i → G i) : SyncR G H cs s := by
  obtain ⟨aL, lL, cL, aD, lD, cD, aT, lT, cT, ls, e, h⟩ := h; exact ⟨aL, lL, cL, aD, lD, cD, aT, lT, cT, ls, e, h.mono k⟩
/-- lock number i -/
theorem SyncP.lock (h : SyncP F H aL lL aD lD aT lT ls s) {i : Nat} (hi : i < lL) : ∃ x, ls[i]? = some x ∧ s.locks[i]? = some x.pure ∧ IntsF F H x.a x.l x.rd := by
  have := h.lenL
  have e := List.getElem?_eq_getElem (show i < ls.length by omega)
  refine ⟨_, e, ?_, h.rd _ (List.getElem_mem _)⟩
  rw [← h.locks, List.getElem?_map, e]; rfl
end

theorem awake35 {k : Nat} (hk : 1 ≤ k) (H : AHeap) : C k 35 [] H = some (.bool true, H) := by
  obtain ⟨k, rfl⟩ : ∃ j, k = j + 1 := ⟨k - 1, by omega⟩
  rfl

theorem f64_loop {k l c : Nat} {a : Option Addr} {l' c' : Nat} {a' : Option Addr} {xs : List Int} (hl : l < maxLen) (hll : l' = l) : ∀ (m i n : Nat) (H : AHeap) (D : List Value), Ints H a l xs → Ints H a' l' xs → i + m = l → m < n →
    Ok (f64.L1 k n a l c a' l' c' (i : Int) D H) fun r => r.1 = .bool true ∧ Agree H r.2 := by
  intro m
  induction m with
  | zero =>
    intro i n H D h h' hm hn
    obtain ⟨n, rfl⟩ : ∃ j, n = j + 1 := ⟨n - 1, by omega⟩
    rw [f64.L1_s]
    exact ok_biff (by simp only [decide_eq_false_iff_not]; omega) (Ok.ret ⟨rfl, Agree.refl H⟩)
  | succ m ih =>
    intro i n H D h h' hm hn
    obtain ⟨n, rfl⟩ : ∃ j, n = j + 1 := ⟨n - 1, by omega⟩
    rw [f64.L1_s]
    have Ab := agree_bump H 9
    obtain ⟨q, x, hx, e, hq⟩ := Ints.at (h.agree Ab) (i := i) (by omega)
    obtain ⟨q', x', hx', e', hq'⟩ := Ints.at (h'.agree Ab) (i := i) (by omega)
    rw [hx] at hx'
    cases hx'
    refine ok_bift (by simp only [decide_eq_true_eq]; omega) (ok_bind e (ok_if (by omega) (ok_bift (Cells.stay h e _ Ab) (ok_bind hq (ok_bind e' (ok_if (by omega) (ok_bift (Cells.stay h' e' _ Ab) (ok_bind hq' (ok_biff (by simp) ?_)))))))))
    rw [wrapS (l := l) (by omega) (Nat.le_of_lt hl)]
    obtain ⟨r, er, h1, h2⟩ := ih (i + 1) n _ _ (h.agree Ab) (h'.agree Ab) (by omega) (by omega)
    exact ⟨r, er, h1, Ab.trans h2⟩
theorem f64_spec {k l c : Nat} {a : Option Addr} {l' c' : Nat} {a' : Option Addr} {xs : List Int} {H : AHeap} (hl : l < maxLen) (hk : l + 3 ≤ k) (h : Ints H a l xs) (h' : Ints H a' l' xs) :
    ∃ H', C k 64 [.slice a l c, .slice a' l' c'] H = some (.bool true, H') ∧ Agree H H' := by
  obtain ⟨k, rfl⟩ : ∃ j, k = j + 1 := ⟨k - 1, by omega⟩
  rw [f64_eq]
  have hll : l' = l := h'.len.trans h.len.symm
  refine call_of_ok (ok_biff (by simp [hll]) ?_)
  exact f64_loop (k := k) (c := c) (c' := c') hl hll l 0 k H _ h h' (by omega) (by omega)

theorem eq78 (a b : Int) (c : Bool) (a' b' : Int) (c' : Bool) : eqV Try.prog 40 78 (.agg #[.int .i64 a, .int .i64 b, .bool c]) (.agg #[.int .i64 a', .int .i64 b', .bool c']) = some ((a == a') && ((b == b') && ((c == c') && true))) := by kernel_rfl
section
variable {k p2 p3 : Nat} {F G : Nat → Prop} {aL : Option Addr} {lL cL : Nat} {aD : Option Addr} {lD cD : Nat} {aT : Option Addr} {lT cT : Nat} {ls : List LkV} {s : SyncS} {bL : Option Addr} {mL dL : Nat} {bD : Option Addr} {mD dD : Nat} {bT : Option Addr} {mT dT : Nat} {ms : List LkV}
/-- both boxes of Same -/
structure Both (p2 p3 : Nat) (aL : Option Addr) (lL cL : Nat) (aD : Option Addr) (lD cD : Nat) (aT : Option Addr) (lT cT : Nat) (ls : List LkV) (s : SyncS) (bL : Option Addr) (mL dL : Nat) (bD : Option Addr) (mD dD : Nat) (bT : Option Addr) (mT dT : Nat) (ms : List LkV) (F G : Nat → Prop) (H : AHeap) : Prop where
  b2 : ∃ e v, At H p2 ⟨[.slice aL lL cL, .int .i64 s.tx, .slice aD lD cD, .slice aT lT cT], e, .rw, v⟩
  b3 : ∃ e v, At H p3 ⟨[.slice bL mL dL, .int .i64 s.tx, .slice bD mD dD, .slice bT mT dT], e, .rw, v⟩
  s2 : SyncP F H aL lL aD lD aT lT ls s
  s3 : SyncP G H bL mL bD mD bT mT ms s
theorem Both.agree {H H' : AHeap} (h : Both p2 p3 aL lL cL aD lD cD aT lT cT ls s bL mL dL bD mD dD bT mT dT ms F G H) (A : Agree H H') : Both p2 p3 aL lL cL aD lD cD aT lT cT ls s bL mL dL bD mD dD bT mT dT ms F G H' := by
  obtain ⟨⟨e, v, h1⟩, ⟨e', v', h2⟩, h3, h4⟩ := h
  exact ⟨⟨e, v, h1.agree A⟩, ⟨e', v', h2.agree A⟩, h3.agree A, h4.agree A⟩
theorem f32_l3 (hl : lT ≤ 1000) : ∀ (m i n : Nat) (H : AHeap) (D : List Value), Both p2 p3 aL lL cL aD lD cD aT lT cT ls s bL mL dL bD mD dD bT mT dT ms F G H → i + m = lT → m < n →
    Ok (f32.L3 k n p2 p3 (i : Int) D H) fun r => r.1 = .bool true ∧ Agree H r.2 := by
  intro m
  induction m with
  | zero =>
    intro i n H D h hm hn
    obtain ⟨n, rfl⟩ : ∃ j, n = j + 1 := ⟨n - 1, by omega⟩
    rw [f32.L3_s]
    obtain ⟨e, v, b2⟩ := h.b2
    exact ok_bSl (ldSl_at b2 (by simp) rfl) (ok_biff (by simp only [decide_eq_false_iff_not]; omega) (Ok.ret ⟨rfl, Agree.refl H⟩))
  | succ m ih =>
    intro i n H D h hm hn
    obtain ⟨n, rfl⟩ : ∃ j, n = j + 1 := ⟨n - 1, by omega⟩
    rw [f32.L3_s]
    obtain ⟨e, v, b2⟩ := h.b2
    obtain ⟨e', v', b3⟩ := h.b3
    have Ab := agree_bump H 11
    have hb := h.agree Ab
    have l2 := h.s2.lenT
    have l3 := h.s3.lenT
    have hx := List.getElem?_eq_getElem (show i < s.ths.length by omega)
    obtain ⟨q, eq, hq⟩ := tbl_row rowT_len (by omega) hb.s2.T.1 hx
    obtain ⟨q', eq', hq'⟩ := tbl_row rowT_len (by omega) hb.s3.T.1 hx
    refine ok_bSl (ldSl_at b2 (by simp) rfl) (ok_bift (by simp only [decide_eq_true_eq]; omega) (ok_bift (sameB_agree b2 Ab) (ok_bSl (ldSl_at (b2.agree Ab) (by simp) rfl) (ok_bind eq (ok_if (by omega) (ok_bift (h.s2.T.1.stay eq _ Ab) (ok_bind hq ?_)))))))
    refine ok_bift (sameB_agree b3 Ab) (ok_bSl (ldSl_at (b3.agree Ab) (by simp) rfl) (ok_bind eq' (ok_if (by omega) (ok_bift (h.s3.T.1.stay eq' _ Ab) (ok_bind hq' ?_)))))
    refine ok_bind (eq78 _ _ _ _ _ _) (ok_biff (by simp) ?_)
    rw [wrapS (l := lT) (by omega) (by unfold maxLen; omega)]
    obtain ⟨r, er, h1, h2⟩ := ih (i + 1) n _ _ hb (by omega) (by omega)
    exact ⟨r, er, h1, Ab.trans h2⟩
theorem f32_l2 (hl : lT ≤ 1000) (hl2 : lD ≤ 1000) (hk : 1100 ≤ k) : ∀ (m i n : Nat) (H : AHeap) (D : List Value), Both p2 p3 aL lL cL aD lD cD aT lT cT ls s bL mL dL bD mD dD bT mT dT ms F G H → i + m = lD → m < n →
    Ok (f32.L2 k n p2 p3 (i : Int) D H) fun r => r.1 = .bool true ∧ Agree H r.2 := by
  intro m
  induction m with
  | zero =>
    intro i n H D h hm hn
    obtain ⟨n, rfl⟩ : ∃ j, n = j + 1 := ⟨n - 1, by omega⟩
    rw [f32.L2_s]
    obtain ⟨e, v, b2⟩ := h.b2
    exact ok_bSl (ldSl_at b2 (by simp) rfl) (ok_biff (by simp only [decide_eq_false_iff_not]; omega) (f32_l3 hl lT 0 k H _ h (by omega) (by omega)))
  | succ m ih =>
    intro i n H D h hm hn
    obtain ⟨n, rfl⟩ : ∃ j, n = j + 1 := ⟨n - 1, by omega⟩
    rw [f32.L2_s]
    obtain ⟨e, v, b2⟩ := h.b2
    obtain ⟨e', v', b3⟩ := h.b3
    have Ab := agree_bump H 11
    have hb := h.agree Ab
    have l2 := h.s2.lenD
    have l3 := h.s3.lenD
    have hx := List.getElem?_eq_getElem (show i < s.done.length by omega)
    obtain ⟨q, eq, hq⟩ := tbl_ldB rowB_len hb.s2.D.1 hx (j := 0) rfl
    obtain ⟨q', eq', hq'⟩ := tbl_ldB rowB_len hb.s3.D.1 hx (j := 0) rfl
    refine ok_bSl (ldSl_at b2 (by simp) rfl) (ok_bift (by simp only [decide_eq_true_eq]; omega) (ok_bift (sameB_agree b2 Ab) (ok_bSl (ldSl_at (b2.agree Ab) (by simp) rfl) (ok_bind eq (ok_if (by omega) (ok_bift (h.s2.D.1.stay eq _ Ab) (ok_bind hq ?_)))))))
    refine ok_bift (sameB_agree b3 Ab) (ok_bSl (ldSl_at (b3.agree Ab) (by simp) rfl) (ok_bind eq' (ok_if (by omega) (ok_bift (h.s3.D.1.stay eq' _ Ab) (ok_bind hq' ?_)))))
    refine ok_biff (by simp) ?_
    rw [wrapS (l := lD) (by omega) (by unfold maxLen; omega)]
    obtain ⟨r, er, h1, h2⟩ := ih (i + 1) n _ _ hb (by omega) (by omega)
    exact ⟨r, er, h1, Ab.trans h2⟩
theorem f32_l1 (hl : lT ≤ 1000) (hl2 : lD ≤ 1000) (hl1 : lL ≤ 1000) (hk : 1100 ≤ k) (hrd : ∀ x ∈ ls, x.l ≤ 1000) (hmap : ls.map LkV.pure = s.locks) : ∀ (m i n : Nat) (H : AHeap) (D : List Value), Both p2 p3 aL lL cL aD lD cD aT lT cT ls s bL mL dL bD mD dD bT mT dT ms F G H → i + m = lL → m < n →
    Ok (f32.L1 k n p2 p3 (i : Int) D H) fun r => r.1 = .bool true ∧ Agree H r.2 := by
  intro m
  induction m with
  | zero =>
    intro i n H D h hm hn
    obtain ⟨n, rfl⟩ : ∃ j, n = j + 1 := ⟨n - 1, by omega⟩
    rw [f32.L1_s]
    obtain ⟨e, v, b2⟩ := h.b2
    exact ok_bSl (ldSl_at b2 (by simp) rfl) (ok_biff (by simp only [decide_eq_false_iff_not]; omega) (f32_l2 hl hl2 hk lD 0 k H _ h (by omega) (by omega)))
  | succ m ih =>
    intro i n H D h hm hn
    obtain ⟨n, rfl⟩ : ∃ j, n = j + 1 := ⟨n - 1, by omega⟩
    rw [f32.L1_s]
    obtain ⟨e, v, b2⟩ := h.b2
    obtain ⟨e', v', b3⟩ := h.b3
    have Ab := agree_bump H 29
    have hb := h.agree Ab
    have l2 := h.s2.lenL'
    have l3 := h.s3.lenL'
    obtain ⟨x, hx, px, ix⟩ := hb.s2.lock (i := i) (by omega)
    obtain ⟨y, hy, py, iy⟩ := hb.s3.lock (i := i) (by omega)
    rw [px] at py
    have hown : x.own = y.own := congrArg LockS.own (Option.some.inj py)
    have hrdl : x.rd = y.rd := congrArg LockS.rd (Option.some.inj py)
    obtain ⟨q, eq, hq⟩ := tbl_ldI rowL_len hb.s2.L.1 hx (j := 0) rfl
    obtain ⟨q', eq', hq'⟩ := tbl_ldI rowL_len hb.s3.L.1 hy (j := 0) rfl
    obtain ⟨r, er, hr⟩ := tbl_ldSl rowL_len hb.s2.L.1 hx (j := 1) rfl
    obtain ⟨r', er', hr'⟩ := tbl_ldSl rowL_len hb.s3.L.1 hy (j := 1) rfl
    have sx := h.s2.L.1.stay eq _ Ab
    have sy := h.s3.L.1.stay eq' _ Ab
    rw [eq] at er
    cases er
    rw [eq'] at er'
    cases er'
    refine ok_bSl (ldSl_at b2 (by simp) rfl) (ok_bift (by simp only [decide_eq_true_eq]; omega) (ok_bift (sameB_agree b2 Ab) (ok_bSl (ldSl_at (b2.agree Ab) (by simp) rfl) (ok_bind eq (ok_if (by omega) (ok_bift sx (ok_bind hq ?_)))))))
    refine ok_bift (sameB_agree b3 Ab) (ok_bSl (ldSl_at (b3.agree Ab) (by simp) rfl) (ok_bind eq' (ok_if (by omega) (ok_bift sy (ok_bind hq' ?_)))))
    refine ok_biff (by rw [hown]; simp) ?_
    refine ok_bift (sameB_agree b2 Ab) (ok_bSl (ldSl_at (b2.agree Ab) (by simp) rfl) (ok_bind eq (ok_if (by omega) (ok_bift sx (ok_bSl hr ?_)))))
    refine ok_bift (sameB_agree b3 Ab) (ok_bSl (ldSl_at (b3.agree Ab) (by simp) rfl) (ok_bind eq' (ok_if (by omega) (ok_bift sy (ok_bSl hr' ?_)))))
    have hxl := hrd x (List.mem_of_getElem? hx)
    have hm' : maxLen = 9223372036854775807 := rfl
    refine ok_cB (f64_spec (by omega) (by omega) ix.1 (by rw [hrdl]; exact iy.1)) fun H1 A1 => ok_biff rfl ?_
    rw [wrapS (l := lL) (by omega) (by omega)]
    have A2 := Ab.trans A1
    obtain ⟨r, er, h1, h2⟩ := ih (i + 1) n _ _ (h.agree A2) (by omega) (by omega)
    exact ⟨r, er, h1, A2.trans h2⟩
/-- Same, of equal states -/
theorem f32_spec {H : AHeap} {cs cs' : List Value} (hk : 1200 ≤ k) (h : SyncR F H cs s) (h' : SyncR G H cs' s) (hl : s.ths.length ≤ 1000) (hl2 : s.done.length ≤ 1000) (hl1 : s.locks.length ≤ 1000) (hrd : ∀ x ∈ s.locks, x.rd.length ≤ 1000) :
    ∃ H', C k 32 [.agg cs.toArray, .agg cs'.toArray] H = some (.bool true, H') ∧ Agree H H' := by
  obtain ⟨k, rfl⟩ : ∃ j, k = j + 1 + 1 := ⟨k - 2, by omega⟩
  obtain ⟨aL, lL, cL, aD, lD, cD, aT, lT, cT, ls, rfl, h⟩ := h
  obtain ⟨bL, mL, dL, bD, mD, dD, bT, mT, dT, ms, rfl, h'⟩ := h'
  rw [f32_eq]
  have l1 := h.lenL'
  have l1' := h'.lenL'
  have l2 := h.lenD
  have l2' := h'.lenD
  have l3 := h.lenT
  have l3' := h'.lenT
  refine call_of_ok (ok_al fun i H1 hi n1 A1 B1 => ok_al fun i' H2 hi' n2 A2 B2 => ?_)
  have A02 := A1.trans A2
  have B12 := B1.agree A2
  refine ok_bind (ldI_at B12 (by simp) rfl) (ok_bind (ldI_at B2 (by simp) rfl) (ok_biff (by simp) ?_))
  refine ok_bSl (ldSl_at B12 (by simp) rfl) (ok_bSl (ldSl_at B2 (by simp) rfl) (ok_biff (by simp; omega) ?_))
  refine ok_bSl (ldSl_at B12 (by simp) rfl) (ok_bSl (ldSl_at B2 (by simp) rfl) (ok_biff (by simp; omega) ?_))
  refine ok_bSl (ldSl_at B12 (by simp) rfl) (ok_bSl (ldSl_at B2 (by simp) rfl) (ok_biff (by simp; omega) ?_))
  rw [f32.K1_eq]
  have hls : ∀ x ∈ ls, x.l ≤ 1000 := fun x hx => by
    have := (h.rd x hx).1
    have e := Ints.len this
    have := hrd x.pure (by rw [← h.locks]; exact List.mem_map_of_mem hx)
    have : x.rd.length ≤ 1000 := this
    omega
  obtain ⟨r, er, e1, e2⟩ := f32_l1 (k := k + 1) (by omega) (by omega) (by omega) (by omega) hls h.locks lL 0 (k + 1) H2 _ ⟨⟨_, _, B12⟩, ⟨_, _, B2⟩, h.agree A02, h'.agree A02⟩ (by omega) (by omega)
  exact ⟨r, er, e1, A02.trans e2⟩
end
end Go.Proofs.MxF
end

section
set_option linter.unusedSimpArgs false
/- Start, of the program and of the reference. -/
set_option linter.unusedVariables false
namespace Go.Proofs.MxF
open Go Go.Mx Go.Proofs
def lkv0 : LkV := ⟨-1, none, 0, 0, []⟩
def startT (n : Nat) : List ThS := (List.replicate n ⟨0, 0, false⟩).set 0 ⟨1, 0, false⟩
/-- the state at the beginning -/
def startS (nl nf nt : Nat) : SyncS := ⟨List.replicate nl ⟨-1, []⟩, -1, List.replicate nf false, startT nt⟩
theorem rep_flat {α : Type} {f : α → List Value} (x : α) (n : Nat) : rep (f x) n = (List.replicate n x).flatMap f := by
  induction n with
  | zero => rfl
  | succ n ih => rw [rep, ih, List.replicate_succ, List.flatMap_cons]
theorem app61 (H : AHeap) (a a' : Option Addr) (l c l' c' : Nat) : apndV Try.prog [61, 61] H (.slice a l c) (.slice a' l' c') = (firstC H 2 l' (.slice a' l' c')).bind fun news => apndS 2 32 H a l c news l' := by kernel_rfl
theorem app62 (H : AHeap) (a a' : Option Addr) (l c l' c' : Nat) : apndV Try.prog [62, 62] H (.slice a l c) (.slice a' l' c') = (firstC H 3 l' (.slice a' l' c')).bind fun news => apndS 3 24 H a l c news l' := by kernel_rfl
theorem app37 (H : AHeap) (a a' : Option Addr) (l c l' c' : Nat) : apndV Try.prog [37, 37] H (.slice a l c) (.slice a' l' c') = (firstC H 1 l' (.slice a' l' c')).bind fun news => apndS 1 1 H a l c news l' := by kernel_rfl
theorem ok_bsk62 {R : Type} {Q : R → Prop} {x y : Int} {b : Bool} {K : List Value → Nat → Option R} (k : Ok (K [.int .i64 x, .int .i64 y, .bool b] 3) Q) :
    Ok (buildSK Try.prog 62 1 [(0, .agg #[.int .i64 x, .int .i64 y, .bool b])] K) Q := by
  have : buildSK Try.prog 62 1 [(0, .agg #[.int .i64 x, .int .i64 y, .bool b])] K = K [.int .i64 x, .int .i64 y, .bool b] 3 := by kernel_rfl
  rw [this]; exact k
theorem startL_pure (n : Nat) : (List.replicate n lkv0).map LkV.pure = List.replicate n ⟨-1, []⟩ := by rw [List.map_replicate]; rfl
theorem own_block {N sz : Nat} {H : AHeap} {i : Nat} {cs : List Value} {n : Nat} (h : At H i ⟨cs, sz, .rw, 0⟩) (hN : N ≤ i) (hl : cs.length = n * sz) : Own N sz H (some ⟨i, 0, none⟩) n n cs :=
  ⟨hl, Nat.le_refl _, .inr ⟨i, _, rfl, hN, h, rfl, rfl, hl, List.take_of_length_le (Nat.le_of_eq hl)⟩⟩

section
variable {k : Nat} {H0 : AHeap} {p2 p3 M nl nf nt d t : Nat}
theorem f33_loop (hk : 1000 ≤ k) (hnl : nl ≤ 100) (hnt : nt ≤ 1000) (hp2 : H0.next ≤ p2) (hp3 : H0.next ≤ p3) (hd : H0.next ≤ d) (ht : H0.next ≤ t) (h2M : p2 < M) (h3M : p3 < M) (hdM : d < M) (htM : t < M) (ne1 : p2 ≠ p3) (ne2 : d ≠ p2) (ne3 : d ≠ p3) (ne4 : t ≠ p2) (ne5 : t ≠ p3) (ne6 : d ≠ t) :
    ∀ (m i n : Nat) (H : AHeap) (D : List Value) (a : Option Addr) (l c e2 v2 e3 v3 : Nat) (y0 y1 y2 y3 : Value), i + m = nl → m < n → Agree H0 H → M ≤ H.next →
    At H p2 ⟨[y0, y1, y2, y3], e2, .rw, v2⟩ → At H p3 ⟨[.slice a l c, .int .i64 (-1), .slice (some ⟨d, 0, none⟩) nf nf, .slice (some ⟨t, 0, none⟩) nt nt], e3, .rw, v3⟩ →
    At H d ⟨(List.replicate nf false).flatMap rowB, 1, .rw, 0⟩ → At H t ⟨(List.replicate nt ⟨0, 0, false⟩).flatMap rowT, 3, .rw, 0⟩ → Own M 2 H a l c ((List.replicate i lkv0).flatMap rowL) →
    Ok (f33.L1 k n p2 p3 (nl : Int) (i : Int) D H) fun r => ∃ cs, r.1 = .agg (cs : List Value).toArray ∧ SyncR (H0.next ≤ ·) r.2 cs (startS nl nf nt) ∧ Agree H0 r.2 := by
  intro m
  induction m with
  | zero =>
    intro i n H D a l c e2 v2 e3 v3 y0 y1 y2 y3 hm hn A hM h2 h3 hD hT ho
    obtain ⟨n, rfl⟩ : ∃ j, n = j + 1 := ⟨n - 1, by omega⟩
    rw [f33.L1_s]
    have hnl : i = nl := by omega
    subst hnl
    have hMN := A.next
    have lD : ((List.replicate nf false).flatMap rowB).length = nf * 1 := by rw [flat_len rowB_len, List.length_replicate]
    have lT : ((List.replicate nt (⟨0, 0, false⟩ : ThS)).flatMap rowT).length = nt * 3 := by rw [flat_len rowT_len, List.length_replicate]
    have ob := ho.block
    have oL : Own M 2 H a l c ((List.replicate i lkv0).flatMap rowL) := ho
    have oD := own_block hD hd lD
    have oT := own_block hT ht lT
    -- the end: the state is handed back
    have fin : ∀ (H1 : AHeap) (ts : List ThS), Agree H0 H1 → At H1 p2 ⟨[y0, y1, y2, y3], e2, .rw, v2⟩ → At H1 p3 ⟨[.slice a l c, .int .i64 (-1), .slice (some ⟨d, 0, none⟩) nf nf, .slice (some ⟨t, 0, none⟩) nt nt], e3, .rw, v3⟩ →
        Own M 2 H1 a l c ((List.replicate i lkv0).flatMap rowL) → Own H0.next 1 H1 (some ⟨d, 0, none⟩) nf nf ((List.replicate nf false).flatMap rowB) → Own H0.next 3 H1 (some ⟨t, 0, none⟩) nt nt (ts.flatMap rowT) → ts = startT nt →
        Ok ((AHeap.row H1 p3 0 4).bind fun g => if notTup (Value.agg (g : List Value).toArray) = true ∧ g.length = 4 then (AHeap.wr H1 p2 0 g).bind fun H5 => (AHeap.row H5 p2 0 4).bind fun g1 => some (Value.agg (g1 : List Value).toArray, H5) else none)
          fun r => ∃ cs, r.1 = .agg (cs : List Value).toArray ∧ SyncR (H0.next ≤ ·) r.2 cs (startS i nf nt) ∧ Agree H0 r.2 := by
      intro H1 ts A1 g2 g3 gL gD gT e
      subst e
      refine ok_bind (row_at g3 (by simp) (by simp)) (ok_if ⟨rfl, rfl⟩ (ok_wr g2 rfl (by simp) fun H2 W2 => ok_bind (row_at W2.at' (by simp) (by simp [splice])) (Ok.ret ?_)))
      refine ⟨_, rfl, ⟨a, l, c, some ⟨d, 0, none⟩, nf, nf, some ⟨t, 0, none⟩, nt, nt, List.replicate i lkv0, rfl, ?_⟩, A1.wrote W2 hp2⟩
      have w1 : CellsF (fun j => H0.next ≤ j ∧ j ≠ p2) H1 a (l * 2) ((List.replicate i lkv0).flatMap rowL) := ⟨gL.cells, fun q e => by have := gL.block q e; omega⟩
      have w2 : CellsF (fun j => H0.next ≤ j ∧ j ≠ p2) H1 (some ⟨d, 0, none⟩) (nf * 1) ((List.replicate nf false).flatMap rowB) := ⟨gD.cells, fun q e => by cases e; exact ⟨hd, ne2⟩⟩
      have w3 : CellsF (fun j => H0.next ≤ j ∧ j ≠ p2) H1 (some ⟨t, 0, none⟩) (nt * 3) ((startT nt).flatMap rowT) := ⟨gT.cells, fun q e => by cases e; exact ⟨ht, ne4⟩⟩
      refine ⟨(w1.wrote W2 (by simp)).mono fun _ h => h.1, (w2.wrote W2 (by simp)).mono fun _ h => h.1, (w3.wrote W2 (by simp)).mono fun _ h => h.1, startL_pure i, fun x hx => ?_⟩
      rw [List.mem_replicate] at hx
      rw [hx.2]
      exact ⟨Ints.nil _, fun q e => by cases e⟩
    refine ok_biff (by simp only [decide_eq_false_iff_not]; omega) (ok_bSl (ldSl_at h3 (by simp) rfl) (ok_bif (fun hc => ?_) (fun hc => ?_)))
    · rw [decide_eq_true_eq] at hc
      refine ok_bSl (ldSl_at h3 (by simp) rfl) (ok_bind rfl (ok_if (by omega) ?_))
      obtain ⟨nt, rfl⟩ : ∃ j, nt = j + 1 := ⟨nt - 1, by omega⟩
      obtain ⟨q, H1, eq, hq0, hw, o1, k1, n1⟩ := own_wr oT (o := 0 * 3 + 0) (vs := [.int .i64 1]) (by simp) (by simp; omega)
      cases eq
      refine ok_bind hw ?_
      have hx : (List.replicate (nt + 1) (⟨0, 0, false⟩ : ThS))[0]? = some ⟨0, 0, false⟩ := by simp
      rw [flat_splice rowT_len (y := ⟨1, 0, false⟩) hx (by simp) rfl] at o1
      have kA : Agree H0 H1 := k1.agree A (fun q e => by cases e; exact ht)
      exact fin H1 _ kA (h2.keep k1 (fun q e => by cases e; exact ne4)) (h3.keep k1 (fun q e => by cases e; exact ne5)) (oL.keep k1 (fun q q' e1 e2 => by cases e2; have := ob q e1; show t ≠ q.block; omega)) (oD.keep k1 (fun q q' e1 e2 => by cases e1; cases e2; exact Ne.symm ne6)) o1 rfl
    · rw [decide_eq_false_iff_not] at hc
      have : nt = 0 := by omega
      subst this
      exact fin H _ A h2 h3 oL oD oT rfl
  | succ m ih =>
    intro i n H D a l c e2 v2 e3 v3 y0 y1 y2 y3 hm hn A hM h2 h3 hD hT ho
    obtain ⟨n, rfl⟩ : ∃ j, n = j + 1 := ⟨n - 1, by omega⟩
    rw [f33.L1_s]
    have ob := ho.block
    have hl : l = i := by have := ho.1; rw [flat_len rowL_len, List.length_replicate] at this; omega
    refine ok_bift (by simp only [decide_eq_true_eq]; omega) (ok_bSl (ldSl_at h3 (by simp) rfl) (ok_al fun j H1 hj n1 A1 B1 => ?_))
    refine ok_cSl (app_own (by decide) (app61 _ _ _ _ _ _ _) (ho.agree A1) (cs' := rowL lkv0) ⟨rfl, .inr ⟨j, 0, none, _, rfl, B1, by simp, by simp, rfl⟩⟩ (by omega) (by omega) (by omega)) fun a2 l2 c2 H2 hp => ?_
    obtain ⟨rfl, o2, k2, or2⟩ := hp
    rw [← flat_snoc, ← List.replicate_succ'] at o2
    have K2 : Keep a H H2 := Keep.of_agree A1 k2
    have hk2 := K2.next
    have hne : ∀ {x : Nat}, x < M → ∀ q, a = some q → q.block ≠ x := fun hx q e => by have := ob q e; omega
    refine ok_wr (h3.keep K2 (hne h3M)) rfl (by simp) fun H3 W3 => ?_
    rw [wrapS (l := nl) (by omega) (by unfold maxLen; omega)]
    have hMN := A.next
    refine ih (i + 1) n H3 _ a2 _ c2 _ _ _ _ y0 y1 y2 y3 (by omega) (by omega) ((K2.agree A (fun q e => by have := ob q e; omega)).wrote W3 hp3) (by rw [W3.next]; omega)
      ((h2.keep K2 (hne h2M)).wrote W3 ne1) W3.at' ((hD.keep K2 (hne hdM)).wrote W3 ne3) ((hT.keep K2 (hne htM)).wrote W3 ne5) (o2.wrote W3 h3M)
end
/-- object.Start -/
theorem f33_spec {k : Nat} (hk : 1200 ≤ k) {H : AHeap} (hF : ∀ i, H.next ≤ i → H.get i = none) {a0 : Option Addr} {l0 c0 : Nat} {a1 : Option Addr} {l1 c1 : Nat} {a2 : Option Addr} {l2 c2 : Nat} {a3 : Option Addr} {l3 c3 : Nat} {a4 : Option Addr} {l4 c4 : Nat} {a5 : Option Addr} {l5 c5 : Nat}
    (h1 : l1 ≤ 100) (h3 : l3 ≤ 100) (h4 : l4 ≤ 100) :
    Ok (C k 33 [.agg #[.slice a0 l0 c0, .slice a1 l1 c1, .slice a2 l2 c2, .slice a3 l3 c3, .slice a4 l4 c4, .slice a5 l5 c5]] H) fun r => ∃ cs, r.1 = .agg (cs : List Value).toArray ∧ SyncR (H.next ≤ ·) r.2 cs (startS l1 l3 l4) ∧ Agree H r.2 := by
  obtain ⟨k, rfl⟩ : ∃ j, k = j + 1 := ⟨k - 1, by omega⟩
  rw [f33_eq]
  refine ok_al fun i H1 hi n1 A1 B1 => ok_al fun i' H2 hi' n2 A2 B2 => ?_
  have Ab := agree_bump H2 11
  have B12 := B1.agree A2
  have F2 := (A1.trans A2).fresh hF
  have f3 : Free (H2.bump 11) (H2.next + 3) := free_bump F2 (by omega)
  have f7 : Free (H2.bump 11) (H2.next + 7) := free_bump F2 (by omega)
  have f9 : Free (H2.bump 11) (H2.next + 9) := free_bump F2 (by omega)
  refine ok_bift (sameB_agree B12 Ab) (ok_bSl (ldSl_at (B12.agree Ab) (by simp) rfl) (ok_if rfl (ok_if (by omega) ?_)))
  refine ok_als Ab f3 (by omega) fun H3 n3 A3 B3 S3 G3 => ?_
  refine ok_bift (sameB_agree B12 A3) (ok_bSl (ldSl_at (B12.agree A3) (by simp) rfl) (ok_if rfl (ok_if (by omega) ?_)))
  refine ok_als A3 (G3 _ f7 (by omega)) (by omega) fun H4 n4 A4 B4 S4 G4 => ?_
  refine ok_als A4 (G4 _ (G3 _ f9 (by omega)) (by omega)) (by omega) fun H5 n5 A5 B5 S5 G5 => ok_wr B5 rfl (by simp) fun H6 W6 => ?_
  have A26 : Agree H2 H6 := A5.wrote W6 (by omega)
  refine ok_bSl (ldSl_at (B12.agree A26) (by simp) rfl) ?_
  have nb : (H2.bump 11).next = H2.next + 11 := rfl
  have n6 := W6.next
  have e3 : ((l3 : Int)).toNat = l3 := by omega
  have e4 : ((l4 : Int)).toNat = l4 := by omega
  rw [e3] at B3
  rw [e4] at B4
  rw [e3, e4] at W6 ⊢
  have b3 := (S5 _ _ (S4 _ _ B3)).wrote W6 (show H2.next + 3 ≠ H2.next + 9 by omega)
  have b4 := (S5 _ _ B4).wrote W6 (show H2.next + 7 ≠ H2.next + 9 by omega)
  rw [show ([.bool false] : List Value) = rowB false from rfl, rep_flat] at b3
  rw [show ([.int .i64 0, .int .i64 0, .bool false] : List Value) = rowT ⟨0, 0, false⟩ from rfl, rep_flat] at b4
  exact f33_loop (H0 := H) (p2 := i') (M := H2.next + 11) (d := H2.next + 3) (t := H2.next + 7) (by omega) h1 (by omega) (by omega) (by omega) (by omega) (by omega) (by omega) (by omega) (by omega) (by omega) (by omega) (by omega) (by omega) (by omega) (by omega) (by omega)
    l1 0 k H6 _ none 0 0 _ _ _ _ _ _ _ _ (by omega) (by omega) ((A1.trans A2).trans A26) (by omega) (B2.agree A26) W6.at' b3 b4 (Own.nil _ _ _)
end Go.Proofs.MxF
end

section
set_option linter.unusedSimpArgs false
/- Start of the reference; ObjectStarts. -/
set_option linter.unusedVariables false
namespace Go.Proofs.MxF
open Go Go.Mx Go.Proofs
/-- two slices lie apart -/
def Apart (a b : Option Addr) : Prop := ∀ q q', a = some q → b = some q' → q'.block ≠ q.block
theorem Apart.symm {a b : Option Addr} (h : Apart a b) : Apart b a := fun q q' e e' => Ne.symm (h q' q e' e)
theorem apart_grow {a b b' : Option Addr} {H : AHeap} {n : Nat} {cs : List Value} (h : Apart a b) (hc : Cells H a n cs) (or : ∀ q, b' = some q → (∃ q', b = some q' ∧ q'.block = q.block) ∨ H.next ≤ q.block) : Apart a b' := by
  intro q q' e e'
  rcases or q' e' with ⟨q0, e0, eb⟩ | hge
  · rw [← eb]; exact h q q0 e e0
  · have := Cells.below hc q e; omega
section
variable {k : Nat} {H0 : AHeap} {p1 p2 p3 M nl nf nt : Nat} {w0 w1 w2 w3 w4 w5 : Option Addr} {n0 k0 n2 k2 k1 k3 k4 n5 k5 : Nat}
/-- what is true around the three loops of the reference's Start -/
structure Sta (p1 p2 p3 M : Nat) (H0 H : AHeap) : Prop where
  A : Agree H0 H
  hM : M ≤ H.next
  b2 : ∃ y0 y1 y2 y3 e v, At H p2 ⟨[y0, y1, y2, y3], e, .rw, v⟩
  z1 : H0.next ≤ p1 ∧ H0.next ≤ p2 ∧ H0.next ≤ p3 ∧ p1 < M ∧ p2 < M ∧ p3 < M ∧ p1 ≠ p2 ∧ p1 ≠ p3 ∧ p2 ≠ p3
theorem Sta.next {H H' : AHeap} (h : Sta p1 p2 p3 M H0 H) {a : Option Addr} (ha : ∀ q, a = some q → M ≤ q.block) (K : Keep a H H') {H3 : AHeap} {b : Blk} (W : Wrote H' H3 p3 b) : Sta p1 p2 p3 M H0 H3 := by
  obtain ⟨A, hM, ⟨y0, y1, y2, y3, e, v, b2⟩, z⟩ := h
  have hA := A.next
  refine ⟨(K.agree A fun q e => by have := ha q e; omega).wrote W z.2.2.1, by rw [W.next]; have := K.next; omega, ⟨y0, y1, y2, y3, e, v, (b2.keep K fun q e => by have := ha q e; omega).wrote W z.2.2.2.2.2.2.2.2⟩, z⟩
theorem f34_l3 (hk : 1000 ≤ k) (hnt : nt ≤ 100) : ∀ (m i n : Nat) (H : AHeap) (D : List Value) (aL : Option Addr) (lL cL : Nat) (aD : Option Addr) (lD cD : Nat) (a : Option Addr) (l c e1 v1 e3 v3 : Nat), i + m = nt → m < n → Sta p1 p2 p3 M H0 H →
    At H p1 ⟨[.slice w0 n0 k0, .slice w1 nl k1, .slice w2 n2 k2, .slice w3 nf k3, .slice w4 nt k4, .slice w5 n5 k5], e1, .rw, v1⟩ →
    At H p3 ⟨[.slice aL lL cL, .int .i64 (-1), .slice aD lD cD, .slice a l c], e3, .rw, v3⟩ →
    Own M 2 H aL lL cL ((List.replicate nl lkv0).flatMap rowL) → Own M 1 H aD lD cD ((List.replicate nf false).flatMap rowB) → Own M 3 H a l c ((startT i).flatMap rowT) → Apart aL a → Apart aD a →
    Ok (f34.L3 k n p1 p2 p3 (i : Int) D H) fun r => ∃ cs, r.1 = .agg (cs : List Value).toArray ∧ SyncR (H0.next ≤ ·) r.2 cs (startS nl nf nt) ∧ Agree H0 r.2 := by
  intro m
  induction m with
  | zero =>
    intro i n H D aL lL cL aD lD cD a l c e1 v1 e3 v3 hm hn hS h1 h3 oL oD oT ap1 ap2
    obtain ⟨n, rfl⟩ : ∃ j, n = j + 1 := ⟨n - 1, by omega⟩
    rw [f34.L3_s]
    have : i = nt := by omega
    subst this
    obtain ⟨A, hM, ⟨y0, y1, y2, y3, e, v, b2⟩, z⟩ := hS
    have hA := A.next
    refine ok_bSl (ldSl_at h1 (by simp) rfl) (ok_biff (by simp only [decide_eq_false_iff_not]; omega) (ok_bind (row_at h3 (by simp) (by simp)) (ok_if ⟨rfl, rfl⟩ (ok_wr b2 rfl (by simp) fun H2 W2 => ok_bind (row_at W2.at' (by simp) (by simp [splice])) (Ok.ret ?_)))))
    refine ⟨_, rfl, ⟨aL, lL, cL, aD, lD, cD, a, l, c, List.replicate nl lkv0, rfl, ?_⟩, A.wrote W2 z.2.1⟩
    have nf : ¬ (M ≤ p2) := by omega
    refine ⟨(oL.cellsF.wrote W2 nf).mono fun _ h => by omega, (oD.cellsF.wrote W2 nf).mono fun _ h => by omega, (oT.cellsF.wrote W2 nf).mono fun _ h => by omega, startL_pure nl, fun x hx => ?_⟩
    rw [List.mem_replicate] at hx
    rw [hx.2]
    exact ⟨Ints.nil _, fun q e => by cases e⟩
  | succ m ih =>
    intro i n H D aL lL cL aD lD cD a l c e1 v1 e3 v3 hm hn hS h1 h3 oL oD oT ap1 ap2
    obtain ⟨n, rfl⟩ : ∃ j, n = j + 1 := ⟨n - 1, by omega⟩
    rw [f34.L3_s]
    have ob := oT.block
    have z := hS.z1
    have hMN := hS.hM
    have hl : l = i := by have := oT.1; rw [flat_len rowT_len] at this; unfold startT at this; rw [List.length_set, List.length_replicate] at this; omega
    have hne : ∀ {x : Nat}, x < M → ∀ q, a = some q → q.block ≠ x := fun hx q e => by have := ob q e; omega
    refine ok_bSl (ldSl_at h1 (by simp) rfl) (ok_bift (by simp only [decide_eq_true_eq]; omega) (ok_al fun j H1 hj n1 A1 B1 => ok_wr B1 rfl (by simp) fun H2 W2 => ?_))
    have A2 : Agree H H2 := A1.wrote W2 (by omega)
    have st : ∀ x : ThS, x = (if i = 0 then ⟨1, 0, false⟩ else ⟨0, 0, false⟩) → startT (i + 1) = startT i ++ [x] := by
      intro x hx
      subst hx
      unfold startT
      cases i with
      | zero => rfl
      | succ i => rw [if_neg (by omega), List.replicate_succ', List.set_append_left _ _ (by simp)]
    have fin : ∀ (x : ThS) (H4 H5 H6 H7 : AHeap) (D : List Value) (i1 : Nat) (a2 : Option Addr) (l2 c2 : Nat) (b' : Blk), x = (if i = 0 then ⟨1, 0, false⟩ else ⟨0, 0, false⟩) → Agree H H4 → Agree H4 H5 →
        (l2 = l + 1 ∧ Own M 3 H6 a2 l2 c2 ((startT i).flatMap rowT ++ rowT x) ∧ Keep a H5 H6 ∧ ∀ q, a2 = some q → (∃ q', a = some q' ∧ q'.block = q.block) ∨ H5.next ≤ q.block) →
        Wrote H6 H7 p3 b' → (∃ e v, b' = ⟨[.slice aL lL cL, .int .i64 (-1), .slice aD lD cD, .slice a2 l2 c2], e, .rw, v⟩) →
        Ok (f34.L3 k n p1 p2 p3 (IntKind.i64.wrap ((i : Int) + 1)) D H7) fun r => ∃ cs, r.1 = .agg (cs : List Value).toArray ∧ SyncR (H0.next ≤ ·) r.2 cs (startS nl nf nt) ∧ Agree H0 r.2 := by
      intro x H4 H5 H6 H7 D i1 a2 l2 c2 b' hx A4 A5 hp W7 hb
      obtain ⟨rfl, o2, k2, or2⟩ := hp
      obtain ⟨e, v, rfl⟩ := hb
      have A05 := A4.trans A5
      have K := Keep.of_agree A05 k2
      rw [← flat_snoc, ← st x hx] at o2
      rw [wrapS (l := nt) (by omega) (by unfold maxLen; omega)]
      have e1 : ∀ q q', aL = some q → a = some q' → q'.block ≠ q.block := ap1
      exact ih (i + 1) n H7 D aL lL cL aD lD cD a2 _ c2 _ _ _ _ (by omega) (by omega) (hS.next ob K W7) ((h1.keep K (hne z.2.2.2.1)).wrote W7 z.2.2.2.2.2.2.2.1) W7.at'
        ((oL.keep K ap1).wrote W7 z.2.2.2.2.2.1) ((oD.keep K ap2).wrote W7 z.2.2.2.2.2.1) (o2.wrote W7 z.2.2.2.2.2.1) (apart_grow ap1 (oL.cells.agree A05) or2) (apart_grow ap2 (oD.cells.agree A05) or2)
    refine ok_bif (fun hc => ?_) (fun hc => ?_)
    · have hi0 : i = 0 := by rw [beq_iff_eq] at hc; omega
      refine ok_wr W2.at' rfl (by simp [splice]) fun H3 W3 => ?_
      have A3 : Agree H H3 := A2.wrote W3 (by omega)
      refine ok_bSl (ldSl_at (h3.agree A3) (by simp) rfl) (ok_bind (row_at W3.at' (by simp) (by simp [splice])) (ok_bsk62 (ok_al fun i1 H5 hi1 n5 A5 B5 => ?_)))
      refine ok_cSl (app_own (by decide) (app62 _ _ _ _ _ _ _) ((oT.agree A3).agree A5) (cs' := rowT ⟨1, 0, false⟩) ⟨rfl, .inr ⟨i1, 0, none, _, rfl, B5, by simp, by simp, rfl⟩⟩ (by have := (A3.trans A5).next; omega) (by omega) (by omega)) fun a2 l2 c2 H6 hp => ?_
      have g3 := (h3.agree (A3.trans A5)).keep hp.2.2.1 (hne z.2.2.2.2.2.1)
      exact ok_wr g3 rfl (by simp) fun H7 W7 => fin ⟨1, 0, false⟩ H3 H5 H6 H7 _ i1 a2 l2 c2 _ (by rw [if_pos hi0]) A3 A5 hp W7 ⟨_, _, rfl⟩
    · have hi0 : ¬ i = 0 := by simp at hc; omega
      refine ok_bSl (ldSl_at (h3.agree A2) (by simp) rfl) (ok_bind (row_at W2.at' (by simp) (by simp [splice])) (ok_bsk62 (ok_al fun i1 H5 hi1 n5 A5 B5 => ?_)))
      refine ok_cSl (app_own (by decide) (app62 _ _ _ _ _ _ _) ((oT.agree A2).agree A5) (cs' := rowT ⟨0, 0, false⟩) ⟨rfl, .inr ⟨i1, 0, none, _, rfl, B5, by simp, by simp, rfl⟩⟩ (by have := (A2.trans A5).next; omega) (by omega) (by omega)) fun a2 l2 c2 H6 hp => ?_
      have g3 := (h3.agree (A2.trans A5)).keep hp.2.2.1 (hne z.2.2.2.2.2.1)
      exact ok_wr g3 rfl (by simp) fun H7 W7 => fin ⟨0, 0, false⟩ H2 H5 H6 H7 _ i1 a2 l2 c2 _ (by rw [if_neg hi0]) A2 A5 hp W7 ⟨_, _, rfl⟩
theorem f34_l2 (hk : 1000 ≤ k) (hnt : nt ≤ 100) (hnf : nf ≤ 100) : ∀ (m i n : Nat) (H : AHeap) (D : List Value) (aL : Option Addr) (lL cL : Nat) (a : Option Addr) (l c e1 v1 e3 v3 : Nat), i + m = nf → m < n → Sta p1 p2 p3 M H0 H →
    At H p1 ⟨[.slice w0 n0 k0, .slice w1 nl k1, .slice w2 n2 k2, .slice w3 nf k3, .slice w4 nt k4, .slice w5 n5 k5], e1, .rw, v1⟩ →
    At H p3 ⟨[.slice aL lL cL, .int .i64 (-1), .slice a l c, .slice none 0 0], e3, .rw, v3⟩ →
    Own M 2 H aL lL cL ((List.replicate nl lkv0).flatMap rowL) → Own M 1 H a l c ((List.replicate i false).flatMap rowB) → Apart aL a →
    Ok (f34.L2 k n p1 p2 p3 (i : Int) D H) fun r => ∃ cs, r.1 = .agg (cs : List Value).toArray ∧ SyncR (H0.next ≤ ·) r.2 cs (startS nl nf nt) ∧ Agree H0 r.2 := by
  intro m
  induction m with
  | zero =>
    intro i n H D aL lL cL a l c e1 v1 e3 v3 hm hn hS h1 h3 oL oD ap1
    obtain ⟨n, rfl⟩ : ∃ j, n = j + 1 := ⟨n - 1, by omega⟩
    rw [f34.L2_s]
    have : i = nf := by omega
    subst this
    exact ok_bSl (ldSl_at h1 (by simp) rfl) (ok_biff (by simp only [decide_eq_false_iff_not]; omega) (f34_l3 hk hnt nt 0 k H _ aL lL cL a l c none 0 0 _ _ _ _ (by omega) (by omega) hS h1 h3 oL oD (Own.nil _ _ _) (fun _ _ _ e => by cases e) (fun _ _ _ e => by cases e)))
  | succ m ih =>
    intro i n H D aL lL cL a l c e1 v1 e3 v3 hm hn hS h1 h3 oL oD ap1
    obtain ⟨n, rfl⟩ : ∃ j, n = j + 1 := ⟨n - 1, by omega⟩
    rw [f34.L2_s]
    have ob := oD.block
    have z := hS.z1
    have hMN := hS.hM
    have hl : l = i := by have := oD.1; rw [flat_len rowB_len, List.length_replicate] at this; omega
    have hne : ∀ {x : Nat}, x < M → ∀ q, a = some q → q.block ≠ x := fun hx q e => by have := ob q e; omega
    refine ok_bSl (ldSl_at h1 (by simp) rfl) (ok_bift (by simp only [decide_eq_true_eq]; omega) (ok_bSl (ldSl_at h3 (by simp) rfl) (ok_al fun j H1 hj n1 A1 B1 => ?_)))
    refine ok_cSl (app_own (by decide) (app37 _ _ _ _ _ _ _) (oD.agree A1) (cs' := rowB false) ⟨rfl, .inr ⟨j, 0, none, _, rfl, B1, by simp, by simp, rfl⟩⟩ (by omega) (by omega) (by omega)) fun a2 l2 c2 H2 hp => ?_
    obtain ⟨rfl, o2, k2, or2⟩ := hp
    rw [← flat_snoc, ← List.replicate_succ'] at o2
    have K := Keep.of_agree A1 k2
    refine ok_wr (h3.keep K (hne z.2.2.2.2.2.1)) rfl (by simp) fun H3 W3 => ?_
    rw [wrapS (l := nf) (by omega) (by unfold maxLen; omega)]
    exact ih (i + 1) n H3 _ aL lL cL a2 _ c2 _ _ _ _ (by omega) (by omega) (hS.next ob K W3) ((h1.keep K (hne z.2.2.2.1)).wrote W3 z.2.2.2.2.2.2.2.1) W3.at' ((oL.keep K ap1).wrote W3 z.2.2.2.2.2.1) (o2.wrote W3 z.2.2.2.2.2.1) (apart_grow ap1 (oL.cells.agree A1) or2)
theorem f34_l1 (hk : 1000 ≤ k) (hnt : nt ≤ 100) (hnf : nf ≤ 100) (hnl : nl ≤ 100) : ∀ (m i n : Nat) (H : AHeap) (D : List Value) (a : Option Addr) (l c e1 v1 e3 v3 : Nat), i + m = nl → m < n → Sta p1 p2 p3 M H0 H →
    At H p1 ⟨[.slice w0 n0 k0, .slice w1 nl k1, .slice w2 n2 k2, .slice w3 nf k3, .slice w4 nt k4, .slice w5 n5 k5], e1, .rw, v1⟩ →
    At H p3 ⟨[.slice a l c, .int .i64 (-1), .slice none 0 0, .slice none 0 0], e3, .rw, v3⟩ → Own M 2 H a l c ((List.replicate i lkv0).flatMap rowL) →
    Ok (f34.L1 k n p1 p2 p3 (i : Int) D H) fun r => ∃ cs, r.1 = .agg (cs : List Value).toArray ∧ SyncR (H0.next ≤ ·) r.2 cs (startS nl nf nt) ∧ Agree H0 r.2 := by
  intro m
  induction m with
  | zero =>
    intro i n H D a l c e1 v1 e3 v3 hm hn hS h1 h3 oL
    obtain ⟨n, rfl⟩ : ∃ j, n = j + 1 := ⟨n - 1, by omega⟩
    rw [f34.L1_s]
    have : i = nl := by omega
    subst this
    exact ok_bSl (ldSl_at h1 (by simp) rfl) (ok_biff (by simp only [decide_eq_false_iff_not]; omega) (f34_l2 hk hnt hnf nf 0 k H _ a l c none 0 0 _ _ _ _ (by omega) (by omega) hS h1 h3 oL (Own.nil _ _ _) (fun _ _ _ e => by cases e)))
  | succ m ih =>
    intro i n H D a l c e1 v1 e3 v3 hm hn hS h1 h3 oL
    obtain ⟨n, rfl⟩ : ∃ j, n = j + 1 := ⟨n - 1, by omega⟩
    rw [f34.L1_s]
    have ob := oL.block
    have z := hS.z1
    have hMN := hS.hM
    have hl : l = i := by have := oL.1; rw [flat_len rowL_len, List.length_replicate] at this; omega
    have hne : ∀ {x : Nat}, x < M → ∀ q, a = some q → q.block ≠ x := fun hx q e => by have := ob q e; omega
    refine ok_bSl (ldSl_at h1 (by simp) rfl) (ok_bift (by simp only [decide_eq_true_eq]; omega) (ok_bSl (ldSl_at h3 (by simp) rfl) (ok_al fun j H1 hj n1 A1 B1 => ?_)))
    refine ok_cSl (app_own (by decide) (app61 _ _ _ _ _ _ _) (oL.agree A1) (cs' := rowL lkv0) ⟨rfl, .inr ⟨j, 0, none, _, rfl, B1, by simp, by simp, rfl⟩⟩ (by omega) (by omega) (by omega)) fun a2 l2 c2 H2 hp => ?_
    obtain ⟨rfl, o2, k2, or2⟩ := hp
    rw [← flat_snoc, ← List.replicate_succ'] at o2
    have K := Keep.of_agree A1 k2
    refine ok_wr (h3.keep K (hne z.2.2.2.2.2.1)) rfl (by simp) fun H3 W3 => ?_
    rw [wrapS (l := nl) (by omega) (by unfold maxLen; omega)]
    exact ih (i + 1) n H3 _ a2 _ c2 _ _ _ _ (by omega) (by omega) (hS.next ob K W3) ((h1.keep K (hne z.2.2.2.1)).wrote W3 z.2.2.2.2.2.2.2.1) W3.at' (o2.wrote W3 z.2.2.2.2.2.1)
end
/-- interleaveref08.Start -/
theorem f34_spec {k : Nat} (hk : 1200 ≤ k) {H : AHeap} {a0 : Option Addr} {l0 c0 : Nat} {a1 : Option Addr} {l1 c1 : Nat} {a2 : Option Addr} {l2 c2 : Nat} {a3 : Option Addr} {l3 c3 : Nat} {a4 : Option Addr} {l4 c4 : Nat} {a5 : Option Addr} {l5 c5 : Nat}
    (h1 : l1 ≤ 100) (h3 : l3 ≤ 100) (h4 : l4 ≤ 100) :
    Ok (C k 34 [.agg #[.slice a0 l0 c0, .slice a1 l1 c1, .slice a2 l2 c2, .slice a3 l3 c3, .slice a4 l4 c4, .slice a5 l5 c5]] H) fun r => ∃ cs, r.1 = .agg (cs : List Value).toArray ∧ SyncR (H.next ≤ ·) r.2 cs (startS l1 l3 l4) ∧ Agree H r.2 := by
  obtain ⟨k, rfl⟩ : ∃ j, k = j + 1 := ⟨k - 1, by omega⟩
  rw [f34_eq]
  refine ok_al fun i H1 hi n1 A1 B1 => ok_al fun i' H2 hi' n2 A2 B2 => ok_al fun i'' H3 hi'' n3 A3 B3 => ok_wr B3 rfl (by simp) fun H4 W4 => ?_
  have A13 : Agree H1 H4 := (A2.trans A3).wrote W4 (by omega)
  have A24 : Agree H2 H4 := A3.wrote W4 (by omega)
  have A04 := A1.trans A13
  have n4 := W4.next
  exact f34_l1 (H0 := H) (p2 := i') (M := H3.next) (by omega) h4 h3 h1 l1 0 k H4 _ none 0 0 _ _ _ _ (by omega) (by omega) ⟨A04, by omega, ⟨_, _, _, _, _, _, B2.agree A24⟩, by omega⟩ (B1.agree A13) W4.at' (Own.nil _ _ _)
end Go.Proofs.MxF
end

section
set_option linter.unusedSimpArgs false
/- The world; which states fit; which objects are named. -/
set_option linter.unusedVariables false
namespace Go.Proofs.MxF
open Go Go.Mx Go.Proofs
structure Wld where
  cells : Nat
  rw : List Bool
  mutex : List Int
  futures : Nat
  threads : Nat
def rowK (x : ByteArray × Bool) : List Value := [.string x.1, .bool x.2]
def rowC (x : ByteArray × Int) : List Value := [.string x.1, .int .i64 x.2]
theorem rowK_len (x : ByteArray × Bool) : (rowK x).length = 2 := rfl
theorem rowC_len (x : ByteArray × Int) : (rowC x).length = 2 := rfl
structure WorldP (F : Nat → Prop) (H : AHeap) (l0 : Nat) (a1 : Option Addr) (l1 : Nat) (a2 : Option Addr) (l2 l3 l4 : Nat) (ks : List (ByteArray × Bool)) (cs : List (ByteArray × Int)) (w : Wld) : Prop where
  c : l0 = w.cells
  K : CellsF F H a1 (l1 * 2) (ks.flatMap rowK)
  kq : ks.map (·.2) = w.rw
  N : CellsF F H a2 (l2 * 2) (cs.flatMap rowC)
  cq : cs.map (·.2) = w.mutex
  f : l3 = w.futures
  t : l4 = w.threads
  big : l0 ≤ 1000 ∧ l1 ≤ 1000 ∧ l2 ≤ 1000 ∧ l3 ≤ 1000 ∧ l4 ≤ 1000
def WorldR (F : Nat → Prop) (H : AHeap) (wc : List Value) (w : Wld) : Prop := ∃ a0 l0 c0 a1 l1 c1 a2 l2 c2 a3 l3 c3 a4 l4 c4 a5 l5 c5 ks cs,
  wc = [.slice a0 l0 c0, .slice a1 l1 c1, .slice a2 l2 c2, .slice a3 l3 c3, .slice a4 l4 c4, .slice a5 l5 c5] ∧ WorldP F H l0 a1 l1 a2 l2 l3 l4 ks cs w
section
variable {F G : Nat → Prop} {H H' : AHeap} {l0 : Nat} {a1 : Option Addr} {l1 : Nat} {a2 : Option Addr} {l2 l3 l4 : Nat} {ks : List (ByteArray × Bool)} {cs : List (ByteArray × Int)} {w : Wld} {wc : List Value}
theorem WorldP.agree (h : WorldP F H l0 a1 l1 a2 l2 l3 l4 ks cs w) (A : Agree H H') : WorldP F H' l0 a1 l1 a2 l2 l3 l4 ks cs w := ⟨h.c, h.K.agree A, h.kq, h.N.agree A, h.cq, h.f, h.t, h.big⟩
theorem WorldP.wrote (h : WorldP F H l0 a1 l1 a2 l2 l3 l4 ks cs w) {i : Nat} {b' : Blk} (W : Wrote H H' i b') (hi : ¬ F i) : WorldP F H' l0 a1 l1 a2 l2 l3 l4 ks cs w := ⟨h.c, h.K.wrote W hi, h.kq, h.N.wrote W hi, h.cq, h.f, h.t, h.big⟩
theorem WorldR.agree (h : WorldR F H wc w) (A : Agree H H') : WorldR F H' wc w := by
  obtain ⟨a0, l0, c0, a1, l1, c1, a2, l2, c2, a3, l3, c3, a4, l4, c4, a5, l5, c5, ks, cs, e, h⟩ := h
  exact ⟨a0, l0, c0, a1, l1, c1, a2, l2, c2, a3, l3, c3, a4, l4, c4, a5, l5, c5, ks, cs, e, h.agree A⟩
theorem WorldR.wrote (h : WorldR F H wc w) {i : Nat} {b' : Blk} (W : Wrote H H' i b') (hi : ¬ F i) : WorldR F H' wc w := by
  obtain ⟨a0, l0, c0, a1, l1, c1, a2, l2, c2, a3, l3, c3, a4, l4, c4, a5, l5, c5, ks, cs, e, h⟩ := h
  exact ⟨a0, l0, c0, a1, l1, c1, a2, l2, c2, a3, l3, c3, a4, l4, c4, a5, l5, c5, ks, cs, e, h.wrote W hi⟩
theorem WorldP.lenK (h : WorldP F H l0 a1 l1 a2 l2 l3 l4 ks cs w) : l1 = ks.length := by have := h.K.1.1; rw [flat_len rowK_len] at this; omega
theorem WorldP.lenK' (h : WorldP F H l0 a1 l1 a2 l2 l3 l4 ks cs w) : l1 = w.rw.length := by rw [h.lenK, ← h.kq, List.length_map]
theorem WorldP.lenN (h : WorldP F H l0 a1 l1 a2 l2 l3 l4 ks cs w) : l2 = cs.length := by have := h.N.1.1; rw [flat_len rowC_len] at this; omega
theorem WorldP.lenN' (h : WorldP F H l0 a1 l1 a2 l2 l3 l4 ks cs w) : l2 = w.mutex.length := by rw [h.lenN, ← h.cq, List.length_map]
end
def inR (i : Int) (n : Nat) : Bool := decide (0 ≤ i) && decide (i < (n : Int))
theorem inR_iff {i : Int} {n : Nat} : inR i n = true ↔ 0 ≤ i ∧ i < n := by unfold inR; simp
theorem inR_f {i : Int} {n : Nat} : inR i n = false ↔ ¬ (0 ≤ i ∧ i < n) := by rw [← inR_iff, Bool.not_eq_true]
def fitsS (w : Wld) (s : SyncS) : Bool := w.mutex.all (fun m => inR m w.rw.length) && ((s.locks.length == w.rw.length) && ((s.done.length == w.futures) && (s.ths.length == w.threads)))
theorem f70_spec {k : Nat} (hk : 1 ≤ k) (i : Int) (n : Nat) (H : AHeap) : C k 70 [.int .i64 i, .int .i64 (n : Int)] H = some (.bool (inR i n), H) := by
  obtain ⟨k, rfl⟩ : ∃ j, k = j + 1 := ⟨k - 1, by omega⟩
  rw [f70_eq]
  unfold inR
  by_cases h : 0 ≤ i
  · rw [show decide (i ≥ 0) = true from decide_eq_true h]; rfl
  · rw [show decide (i ≥ 0) = false from decide_eq_false h]; rfl
theorem f93_spec {k : Nat} (hk : 1 ≤ k) (i : Int) (n : Nat) (H : AHeap) : C k 93 [.int .i64 i, .int .i64 (n : Int)] H = some (.bool (inR i n), H) := by
  obtain ⟨k, rfl⟩ : ∃ j, k = j + 1 := ⟨k - 1, by omega⟩
  rw [f93_eq]
  unfold inR
  by_cases h : 0 ≤ i
  · rw [show decide (i ≥ 0) = true from decide_eq_true h]; rfl
  · rw [show decide (i ≥ 0) = false from decide_eq_false h]; rfl
theorem beq_nat (a b : Nat) : ((a : Int) == (b : Int)) = (a == b) := by
  rw [Bool.eq_iff_iff, beq_iff_eq, beq_iff_eq]; omega

section
variable {k p2 p3 : Nat} {F G : Nat → Prop} {a0 : Option Addr} {l0 c0 : Nat} {a1 : Option Addr} {l1 c1 : Nat} {a2 : Option Addr} {l2 c2 : Nat} {a3 : Option Addr} {l3 c3 : Nat} {a4 : Option Addr} {l4 c4 : Nat} {a5 : Option Addr} {l5 c5 : Nat} {ks : List (ByteArray × Bool)} {cs : List (ByteArray × Int)} {w : Wld}
  {aL : Option Addr} {lL cL : Nat} {aD : Option Addr} {lD cD : Nat} {aT : Option Addr} {lT cT : Nat} {tx : Int} {s : SyncS}
/-- the boxes of a function that is given a world and a state -/
structure WS (p2 p3 : Nat) (H : AHeap) (a0 : Option Addr) (l0 c0 : Nat) (a1 : Option Addr) (l1 c1 : Nat) (a2 : Option Addr) (l2 c2 : Nat) (a3 : Option Addr) (l3 c3 : Nat) (a4 : Option Addr) (l4 c4 : Nat) (a5 : Option Addr) (l5 c5 : Nat)
    (aL : Option Addr) (lL cL : Nat) (tx : Int) (aD : Option Addr) (lD cD : Nat) (aT : Option Addr) (lT cT : Nat) : Prop where
  b2 : ∃ e v, At H p2 ⟨[.slice a0 l0 c0, .slice a1 l1 c1, .slice a2 l2 c2, .slice a3 l3 c3, .slice a4 l4 c4, .slice a5 l5 c5], e, .rw, v⟩
  b3 : ∃ e v, At H p3 ⟨[.slice aL lL cL, .int .i64 tx, .slice aD lD cD, .slice aT lT cT], e, .rw, v⟩
theorem WS.agree {H H' : AHeap} (h : WS p2 p3 H a0 l0 c0 a1 l1 c1 a2 l2 c2 a3 l3 c3 a4 l4 c4 a5 l5 c5 aL lL cL tx aD lD cD aT lT cT) (A : Agree H H') : WS p2 p3 H' a0 l0 c0 a1 l1 c1 a2 l2 c2 a3 l3 c3 a4 l4 c4 a5 l5 c5 aL lL cL tx aD lD cD aT lT cT := by
  obtain ⟨⟨e, v, h1⟩, ⟨e', v', h2⟩⟩ := h
  exact ⟨⟨e, v, h1.agree A⟩, ⟨e', v', h2.agree A⟩⟩
theorem fits_end (hw : l1 = w.rw.length) (hf : l3 = w.futures) (ht : l4 = w.threads) (hL : lL = s.locks.length) (hD : lD = s.done.length) (hT : lT = s.ths.length) (hm : w.mutex.all (fun m => inR m w.rw.length) = true) :
    ((lL : Int) == (l1 : Int) && ((lD : Int) == (l3 : Int) && (lT : Int) == (l4 : Int))) = fitsS w s := by
  unfold fitsS
  rw [hm, Bool.true_and, beq_nat, beq_nat, beq_nat, hw, hf, ht, hL, hD, hT]
theorem f65_loop (hk : 10 ≤ k) {H0 : AHeap} (hP : WorldP F H0 l0 a1 l1 a2 l2 l3 l4 ks cs w) (hL : lL = s.locks.length) (hD : lD = s.done.length) (hT : lT = s.ths.length) : ∀ (m i n : Nat) (H : AHeap) (D : List Value), Agree H0 H →
    WS p2 p3 H a0 l0 c0 a1 l1 c1 a2 l2 c2 a3 l3 c3 a4 l4 c4 a5 l5 c5 aL lL cL tx aD lD cD aT lT cT → (w.mutex.take i).all (fun m => inR m w.rw.length) = true → i + m = l2 → m < n →
    Ok (f65.L1 k n p2 p3 a2 l2 c2 (l2 : Int) (i : Int) D H) fun r => r.1 = .bool (fitsS w s) ∧ Agree H0 r.2 := by
  intro m
  induction m with
  | zero =>
    intro i n H D A h hpre hm hn
    obtain ⟨n, rfl⟩ : ∃ j, n = j + 1 := ⟨n - 1, by omega⟩
    rw [f65.L1_s]
    obtain ⟨e, v, b2⟩ := h.b2
    obtain ⟨e', v', b3⟩ := h.b3
    have hmm : w.mutex.all (fun m => inR m w.rw.length) = true := by rw [List.take_of_length_le (by have := hP.lenN'; omega)] at hpre; exact hpre
    have key := fits_end (w := w) (s := s) hP.lenK' hP.f hP.t hL hD hT hmm
    refine ok_biff (by simp only [decide_eq_false_iff_not]; omega) (ok_bSl (ldSl_at b3 (by simp) rfl) (ok_bSl (ldSl_at b2 (by simp) rfl) (ok_bif (fun h1 => ?_) (fun h1 => ?_))))
    · rw [h1, Bool.true_and] at key
      refine ok_bSl (ldSl_at b3 (by simp) rfl) (ok_bSl (ldSl_at b2 (by simp) rfl) (ok_bif (fun h2 => ?_) (fun h2 => ?_)))
      · rw [h2, Bool.true_and] at key
        exact ok_bSl (ldSl_at b3 (by simp) rfl) (ok_bSl (ldSl_at b2 (by simp) rfl) (Ok.ret ⟨by rw [key], A⟩))
      · rw [h2, Bool.false_and] at key
        exact Ok.ret ⟨by rw [key], A⟩
    · rw [h1, Bool.false_and] at key
      exact Ok.ret ⟨by rw [key], A⟩
  | succ m ih =>
    intro i n H D A h hpre hm hn
    obtain ⟨n, rfl⟩ : ∃ j, n = j + 1 := ⟨n - 1, by omega⟩
    rw [f65.L1_s]
    have hbig := hP.big
    have hlen := hP.lenN
    have hx := List.getElem?_eq_getElem (show i < cs.length by omega)
    have hmx : w.mutex[i]? = some cs[i].2 := by rw [← hP.cq, List.getElem?_map, hx]; rfl
    obtain ⟨q, eq, hq⟩ := tbl_row rowC_len (by omega) (hP.N.1.agree A) hx
    refine ok_bift (by simp only [decide_eq_true_eq]; omega) (ok_bind eq (ok_if (by omega) (ok_bind hq (ok_al fun j H1 hj n1 A1 B1 => ok_if ⟨rfl, rfl⟩ (ok_wr B1 rfl (by simp [rowC]) fun H2 W2 => ?_)))))
    have A2 : Agree H H2 := A1.wrote W2 (by omega)
    obtain ⟨e, v, b2⟩ := (h.agree A2).b2
    refine ok_bind (ldI_at W2.at' (by simp) rfl) (ok_bSl (ldSl_at b2 (by simp) rfl) (ok_cB0 (f70_spec (by omega) _ _ _) ?_))
    have hstep : (w.mutex.take (i + 1)).all (fun m => inR m w.rw.length) = inR cs[i].2 l1 := by
      rw [List.take_add_one, hmx, List.all_append, hpre, Bool.true_and, hP.lenK']
      simp
    refine ok_bif (fun hc => Ok.ret ⟨?_, A.trans A2⟩) (fun hc => ?_)
    · have hf : inR cs[i].2 l1 = false := by simpa using hc
      rw [hf] at hstep
      have : w.mutex.all (fun m => inR m w.rw.length) = false := by
        rw [← List.take_append_drop (i + 1) w.mutex, List.all_append, hstep, Bool.false_and]
      unfold fitsS
      rw [this]; rfl
    · have hf : inR cs[i].2 l1 = true := by simpa using hc
      rw [hf] at hstep
      rw [wrapS (l := l2) (by omega) (by unfold maxLen; omega)]
      exact ih (i + 1) n H2 _ (A.trans A2) (h.agree A2) hstep (by omega) (by omega)
end
/-- object.Fits -/
theorem f65_spec {k : Nat} (hk : 1100 ≤ k) {F G : Nat → Prop} {H : AHeap} {wc sc : List Value} {w : Wld} {s : SyncS} (hw : WorldR F H wc w) (hs : SyncR G H sc s) :
    ∃ H', C k 65 [.agg wc.toArray, .agg sc.toArray] H = some (.bool (fitsS w s), H') ∧ Agree H H' := by
  obtain ⟨k, rfl⟩ : ∃ j, k = j + 1 := ⟨k - 1, by omega⟩
  obtain ⟨a0, l0, c0, a1, l1, c1, a2, l2, c2, a3, l3, c3, a4, l4, c4, a5, l5, c5, ks, cs, rfl, hw⟩ := hw
  obtain ⟨aL, lL, cL, aD, lD, cD, aT, lT, cT, ls, rfl, hs⟩ := hs
  rw [f65_eq]
  refine call_of_ok (ok_al fun i H1 hi n1 A1 B1 => ok_al fun i' H2 hi' n2 A2 B2 => ?_)
  have A02 := A1.trans A2
  refine ok_bSl (ldSl_at (B1.agree A2) (by simp) rfl) ?_
  have := hw.big
  have key := fun D => f65_loop (k := k) (s := s) (by omega) hw hs.lenL' hs.lenD hs.lenT l2 0 k H2 D A02 ⟨⟨_, _, B1.agree A2⟩, ⟨_, _, B2⟩⟩ (by simp) (by omega) (by omega)
  exact key _
end Go.Proofs.MxF
end

section
set_option linter.unusedSimpArgs false
/- Fits of the reference; which objects are named. -/
set_option linter.unusedVariables false
namespace Go.Proofs.MxF
open Go Go.Mx Go.Proofs
section
variable {k p2 p3 : Nat} {F G : Nat → Prop} {a0 : Option Addr} {l0 c0 : Nat} {a1 : Option Addr} {l1 c1 : Nat} {a2 : Option Addr} {l2 c2 : Nat} {a3 : Option Addr} {l3 c3 : Nat} {a4 : Option Addr} {l4 c4 : Nat} {a5 : Option Addr} {l5 c5 : Nat} {ks : List (ByteArray × Bool)} {cs : List (ByteArray × Int)} {w : Wld}
  {aL : Option Addr} {lL cL : Nat} {aD : Option Addr} {lD cD : Nat} {aT : Option Addr} {lT cT : Nat} {tx : Int} {s : SyncS}
theorem f79_loop (hk : 10 ≤ k) {H0 : AHeap} (hP : WorldP F H0 l0 a1 l1 a2 l2 l3 l4 ks cs w) (hL : lL = s.locks.length) (hD : lD = s.done.length) (hT : lT = s.ths.length) : ∀ (m i n : Nat) (H : AHeap) (D : List Value), Agree H0 H →
    WS p2 p3 H a0 l0 c0 a1 l1 c1 a2 l2 c2 a3 l3 c3 a4 l4 c4 a5 l5 c5 aL lL cL tx aD lD cD aT lT cT → (w.mutex.take i).all (fun m => inR m w.rw.length) = true → i + m = l2 → m < n →
    Ok (f79.L1 k n p2 p3 (i : Int) D H) fun r => r.1 = .bool (fitsS w s) ∧ Agree H0 r.2 := by
  intro m
  induction m with
  | zero =>
    intro i n H D A h hpre hm hn
    obtain ⟨n, rfl⟩ : ∃ j, n = j + 1 := ⟨n - 1, by omega⟩
    rw [f79.L1_s]
    obtain ⟨e, v, b2⟩ := h.b2
    obtain ⟨e', v', b3⟩ := h.b3
    have hmm : w.mutex.all (fun m => inR m w.rw.length) = true := by rw [List.take_of_length_le (by have := hP.lenN'; omega)] at hpre; exact hpre
    have key := fits_end (w := w) (s := s) hP.lenK' hP.f hP.t hL hD hT hmm
    refine ok_bSl (ldSl_at b2 (by simp) rfl) (ok_biff (by simp only [decide_eq_false_iff_not]; omega) (ok_bSl (ldSl_at b3 (by simp) rfl) (ok_bSl (ldSl_at b2 (by simp) rfl) (ok_bif (fun h1 => ?_) (fun h1 => ?_)))))
    · rw [h1, Bool.true_and] at key
      refine ok_bSl (ldSl_at b3 (by simp) rfl) (ok_bSl (ldSl_at b2 (by simp) rfl) (ok_bif (fun h2 => ?_) (fun h2 => ?_)))
      · rw [h2, Bool.true_and] at key
        exact ok_bSl (ldSl_at b3 (by simp) rfl) (ok_bSl (ldSl_at b2 (by simp) rfl) (Ok.ret ⟨by rw [key], A⟩))
      · rw [h2, Bool.false_and] at key
        exact Ok.ret ⟨by rw [key], A⟩
    · rw [h1, Bool.false_and] at key
      exact Ok.ret ⟨by rw [key], A⟩
  | succ m ih =>
    intro i n H D A h hpre hm hn
    obtain ⟨n, rfl⟩ : ∃ j, n = j + 1 := ⟨n - 1, by omega⟩
    rw [f79.L1_s]
    have hbig := hP.big
    have hlen := hP.lenN
    have Ab := agree_bump H 19
    have hx := List.getElem?_eq_getElem (show i < cs.length by omega)
    have hmx : w.mutex[i]? = some cs[i].2 := by rw [← hP.cq, List.getElem?_map, hx]; rfl
    obtain ⟨q, eq, hq⟩ := tbl_ldI rowC_len (hP.N.1.agree (A.trans Ab)) hx (j := 1) rfl
    have sq := (hP.N.1.agree A).stay eq _ Ab
    obtain ⟨e, v, b2⟩ := h.b2
    have c2 := b2.agree Ab
    have hstep : (w.mutex.take (i + 1)).all (fun m => inR m w.rw.length) = inR cs[i].2 l1 := by
      rw [List.take_add_one, hmx, List.all_append, hpre, Bool.true_and, hP.lenK']
      simp
    have bad : inR cs[i].2 l1 = false → fitsS w s = false := by
      intro hf
      rw [hf] at hstep
      have : w.mutex.all (fun m => inR m w.rw.length) = false := by
        rw [← List.take_append_drop (i + 1) w.mutex, List.all_append, hstep, Bool.false_and]
      unfold fitsS
      rw [this]; rfl
    refine ok_bSl (ldSl_at b2 (by simp) rfl) (ok_bift (by simp only [decide_eq_true_eq]; omega) (ok_bift (sameB_agree b2 Ab) (ok_bSl (ldSl_at c2 (by simp) rfl) (ok_bind eq (ok_if (by omega) (ok_bift sq (ok_bind hq (ok_bif (fun hc => ?_) (fun hc => ?_)))))))))
    · rw [decide_eq_true_eq] at hc
      exact Ok.ret ⟨by rw [bad (inR_f.2 (by omega))], A.trans Ab⟩
    · rw [decide_eq_false_iff_not] at hc
      refine ok_bift (sameB_agree b2 Ab) (ok_bSl (ldSl_at c2 (by simp) rfl) (ok_bind eq (ok_if (by omega) (ok_bift sq (ok_bind hq (ok_bift (sameB_agree b2 Ab) (ok_bSl (ldSl_at c2 (by simp) rfl) (ok_bif (fun hd => ?_) (fun hd => ?_)))))))))
      · rw [decide_eq_true_eq] at hd
        exact Ok.ret ⟨by rw [bad (inR_f.2 (by omega))], A.trans Ab⟩
      · rw [decide_eq_false_iff_not] at hd
        rw [inR_iff.2 (by omega)] at hstep
        rw [wrapS (l := l2) (by omega) (by unfold maxLen; omega)]
        exact ih (i + 1) n _ _ (A.trans Ab) (h.agree Ab) hstep (by omega) (by omega)
end
/-- interleaveref08.Fits -/
theorem f79_spec {k : Nat} (hk : 1100 ≤ k) {F G : Nat → Prop} {H : AHeap} {wc sc : List Value} {w : Wld} {s : SyncS} (hw : WorldR F H wc w) (hs : SyncR G H sc s) :
    ∃ H', C k 79 [.agg wc.toArray, .agg sc.toArray] H = some (.bool (fitsS w s), H') ∧ Agree H H' := by
  obtain ⟨k, rfl⟩ : ∃ j, k = j + 1 := ⟨k - 1, by omega⟩
  obtain ⟨a0, l0, c0, a1, l1, c1, a2, l2, c2, a3, l3, c3, a4, l4, c4, a5, l5, c5, ks, cs, rfl, hw⟩ := hw
  obtain ⟨aL, lL, cL, aD, lD, cD, aT, lT, cT, ls, rfl, hs⟩ := hs
  rw [f79_eq]
  refine call_of_ok (ok_al fun i H1 hi n1 A1 B1 => ok_al fun i' H2 hi' n2 A2 B2 => ?_)
  have A02 := A1.trans A2
  have := hw.big
  have key := fun D => f79_loop (k := k) (s := s) (c2 := c2) (by omega) hw hs.lenL' hs.lenD hs.lenT l2 0 k H2 D A02 ⟨⟨_, _, B1.agree A2⟩, ⟨_, _, B2⟩⟩ (by simp) (by omega) (by omega)
  exact key _

theorem genD {R : Type} {Q : R → Prop} {X : List Value → Option R} (h : ∀ D, Ok (X D) Q) (D : List Value) : Ok (X D) Q := h D
theorem kinds (x : Int) : x = 1 ∨ x = 2 ∨ x = 3 ∨ x = 4 ∨ x = 5 ∨ x = 6 ∨ x = 7 ∨ x = 8 ∨ x = 9 ∨ x = 10 ∨ x = 11 ∨ x = 12 ∨ x = 13 ∨ x = 14 ∨ x = 15 ∨ x = 16 ∨ x = 17 ∨ x = 18 ∨ x = 19 ∨ x = 20 ∨ x = 21 ∨ x = 22 ∨ x = 23 ∨ (∀ n : Int, (1 ≤ n ∧ n ≤ 23) → (x == n) = false) := by
  by_cases h : 1 ≤ x ∧ x ≤ 23
  · omega
  · have : ∀ n : Int, (1 ≤ n ∧ n ≤ 23) → (x == n) = false := by
      intro n hn
      rw [beq_eq_false_iff_ne]
      intro e
      subst e
      exact h hn
    exact .inr (.inr (.inr (.inr (.inr (.inr (.inr (.inr (.inr (.inr (.inr (.inr (.inr (.inr (.inr (.inr (.inr (.inr (.inr (.inr (.inr (.inr (.inr this))))))))))))))))))))))
/-- which kinds take this object -/
def namedS (w : Wld) (kind obj : Int) : Bool :=
  bif (kind == 1 || kind == 2 || kind == 5 || kind == 12 || kind == 13 || kind == 14 || kind == 15) then obj == -1
  else bif (kind == 3 || kind == 4) then inR obj w.cells
  else bif (kind == 6 || kind == 7) then inR obj w.rw.length && !(w.rw.getD obj.toNat false)
  else bif (kind == 8 || kind == 9 || kind == 10 || kind == 11) then inR obj w.rw.length && w.rw.getD obj.toNat false
  else bif (kind == 16 || kind == 17 || kind == 18 || kind == 19) then inR obj w.mutex.length
  else bif (kind == 20 || kind == 21) then inR obj w.threads
  else bif (kind == 22 || kind == 23) then inR obj w.futures
  else false
theorem rw_at {F : Nat → Prop} {H : AHeap} {l0 : Nat} {a1 : Option Addr} {l1 : Nat} {a2 : Option Addr} {l2 l3 l4 : Nat} {ks : List (ByteArray × Bool)} {cs : List (ByteArray × Int)} {w : Wld} (h : WorldP F H l0 a1 l1 a2 l2 l3 l4 ks cs w) {i : Int} (hi : inR i l1 = true) :
    ∃ q, a1 = some q ∧ ldB H q.block (q.off + i.toNat * 2 + 1) = some (w.rw.getD i.toNat false) := by
  have hi := inR_iff.1 hi
  have hlen := h.lenK
  have hx := List.getElem?_eq_getElem (show i.toNat < ks.length by omega)
  obtain ⟨q, e, hq⟩ := tbl_ldB rowK_len h.K.1 hx (j := 1) rfl
  refine ⟨q, e, ?_⟩
  have : w.rw.getD i.toNat false = ks[i.toNat].2 := by rw [← h.kq, List.getD_eq_getElem?_getD, List.getElem?_map, hx]; rfl
  rw [this, ← hq]
  congr 1
section
variable {k p : Nat} {F : Nat → Prop} {H0 H : AHeap} {a0 : Option Addr} {l0 c0 : Nat} {a1 : Option Addr} {l1 c1 : Nat} {a2 : Option Addr} {l2 c2 : Nat} {a3 : Option Addr} {l3 c3 : Nat} {a4 : Option Addr} {l4 c4 : Nat} {a5 : Option Addr} {l5 c5 : Nat} {ks : List (ByteArray × Bool)} {cs : List (ByteArray × Int)} {w : Wld}
theorem f71_spec (hk : 2 ≤ k) {wc : List Value} (hw : WorldR F H wc w) (kind obj : Int) :
    ∃ H', C k 71 [.agg wc.toArray, .int .i64 kind, .int .i64 obj] H = some (.bool (namedS w kind obj), H') ∧ Agree H H' := by
  obtain ⟨k, rfl⟩ : ∃ j, k = j + 1 := ⟨k - 1, by omega⟩
  obtain ⟨a0, l0, c0, a1, l1, c1, a2, l2, c2, a3, l3, c3, a4, l4, c4, a5, l5, c5, ks, cs, rfl, hw⟩ := hw
  rw [f71_eq]
  refine call_of_ok (ok_al fun i H1 hi n1 A1 B1 => ?_)
  have hw1 := hw.agree A1
  have lK := hw.lenK'
  have lN := hw.lenN'
  have hk1 : 1 ≤ k := by omega
  have cs0 : ∀ {K : Option Addr → Nat → Nat → Option (Value × AHeap)} {Q : Value × AHeap → Prop}, Ok (K a0 l0 c0) Q → Ok (bSl (ldSl H1 i 0) K) Q := fun h => ok_bSl (ldSl_at B1 (by simp) rfl) h
  have cs1 : ∀ {K : Option Addr → Nat → Nat → Option (Value × AHeap)} {Q : Value × AHeap → Prop}, Ok (K a1 l1 c1) Q → Ok (bSl (ldSl H1 i 1) K) Q := fun h => ok_bSl (ldSl_at B1 (by simp) rfl) h
  have cs2 : ∀ {K : Option Addr → Nat → Nat → Option (Value × AHeap)} {Q : Value × AHeap → Prop}, Ok (K a2 l2 c2) Q → Ok (bSl (ldSl H1 i 2) K) Q := fun h => ok_bSl (ldSl_at B1 (by simp) rfl) h
  have cs3 : ∀ {K : Option Addr → Nat → Nat → Option (Value × AHeap)} {Q : Value × AHeap → Prop}, Ok (K a3 l3 c3) Q → Ok (bSl (ldSl H1 i 3) K) Q := fun h => ok_bSl (ldSl_at B1 (by simp) rfl) h
  have cs4 : ∀ {K : Option Addr → Nat → Nat → Option (Value × AHeap)} {Q : Value × AHeap → Prop}, Ok (K a4 l4 c4) Q → Ok (bSl (ldSl H1 i 4) K) Q := fun h => ok_bSl (ldSl_at B1 (by simp) rfl) h
  have below : ∀ {n : Nat} {K : Bool → AHeap → Option (Value × AHeap)} {Q : Value × AHeap → Prop}, Ok (K (inR obj n) H1) Q → Ok (cB (C k 70 [.int .i64 obj, .int .i64 (n : Int)] H1) K) Q := fun h => ok_cB0 (f70_spec hk1 obj _ H1) h
  have hc := hw.c
  have hf := hw.f
  have ht := hw.t
  have locks : ∀ {g : Bool → Bool} {K : Bool → Option (Value × AHeap)}, (∀ b, K b = some (.bool (g b), H1)) → ∀ v : Bool, (inR obj w.rw.length && g (w.rw.getD obj.toNat false)) = v →
      Ok (cB (C k 70 [.int .i64 obj, .int .i64 (l1 : Int)] H1) fun b H_1 => bif b then bSl (ldSl H_1 i 1) (fun a_1 l_1 c_1 => a_1.bind fun q => if 0 ≤ obj ∧ obj < (l_1 : Int) then (ldB H_1 q.block (q.off + obj.toNat * 2 + 1)).bind fun b_1 => some (Value.bool (g b_1), H_1) else none) else some (Value.bool false, H_1))
      fun r => r.1 = Value.bool v ∧ Agree H r.2 := by
    intro g K _ v hv
    refine below ?_
    rw [← lK] at hv
    refine ok_bif (fun hb => ?_) (fun hb => ?_)
    · obtain ⟨q, eq, hq⟩ := rw_at hw1 hb
      rw [hb, Bool.true_and] at hv
      have := inR_iff.1 hb
      exact cs1 (ok_bind eq (ok_if (by omega) (ok_bind hq (Ok.ret ⟨by rw [hv], A1⟩))))
    · rw [hb, Bool.false_and] at hv
      exact Ok.ret ⟨by rw [hv], A1⟩
  have other : (∀ n : Int, (1 ≤ n ∧ n ≤ 23) → (kind == n) = false) → namedS w kind obj = false := by
    intro h
    unfold namedS
    rw [h 1 (by decide), h 2 (by decide), h 3 (by decide), h 4 (by decide), h 5 (by decide), h 6 (by decide), h 7 (by decide), h 8 (by decide), h 9 (by decide), h 10 (by decide), h 11 (by decide), h 12 (by decide), h 13 (by decide), h 14 (by decide), h 15 (by decide), h 16 (by decide), h 17 (by decide), h 18 (by decide), h 19 (by decide), h 20 (by decide), h 21 (by decide), h 22 (by decide), h 23 (by decide)]
    rfl
  rcases kinds kind with rfl | rfl | rfl | rfl | rfl | rfl | rfl | rfl | rfl | rfl | rfl | rfl | rfl | rfl | rfl | rfl | rfl | rfl | rfl | rfl | rfl | rfl | rfl | hne
  · refine ok_bift rfl ?_
    refine genD (X := fun D => f71.K1 k obj i _ _ D H1) (fun D => ?_) _; rw [f71.K1_eq]
    refine ok_bift rfl ?_
    exact Ok.ret ⟨rfl, A1⟩
  · refine ok_biff rfl ?_
    refine ok_bift rfl ?_
    refine genD (X := fun D => f71.K1 k obj i _ _ D H1) (fun D => ?_) _; rw [f71.K1_eq]
    refine ok_bift rfl ?_
    exact Ok.ret ⟨rfl, A1⟩
  · refine ok_biff rfl ?_
    refine ok_biff rfl ?_
    refine ok_biff rfl ?_
    refine ok_biff rfl ?_
    refine ok_biff rfl ?_
    refine ok_biff rfl ?_
    refine genD (X := fun D => f71.K1 k obj i _ _ D H1) (fun D => ?_) _; rw [f71.K1_eq]
    refine ok_biff rfl ?_
    refine ok_bift rfl ?_
    refine genD (X := fun D => f71.K2 k obj i _ _ D H1) (fun D => ?_) _; rw [f71.K2_eq]
    refine ok_bift rfl ?_
    exact cs0 (below (Ok.ret ⟨by rw [hc]; rfl, A1⟩))
  · refine ok_biff rfl ?_
    refine ok_biff rfl ?_
    refine ok_biff rfl ?_
    refine ok_biff rfl ?_
    refine ok_biff rfl ?_
    refine ok_biff rfl ?_
    refine genD (X := fun D => f71.K1 k obj i _ _ D H1) (fun D => ?_) _; rw [f71.K1_eq]
    refine ok_biff rfl ?_
    refine ok_biff rfl ?_
    refine genD (X := fun D => f71.K2 k obj i _ _ D H1) (fun D => ?_) _; rw [f71.K2_eq]
    refine ok_bift rfl ?_
    exact cs0 (below (Ok.ret ⟨by rw [hc]; rfl, A1⟩))
  · refine ok_biff rfl ?_
    refine ok_biff rfl ?_
    refine ok_bift rfl ?_
    refine genD (X := fun D => f71.K1 k obj i _ _ D H1) (fun D => ?_) _; rw [f71.K1_eq]
    refine ok_bift rfl ?_
    exact Ok.ret ⟨rfl, A1⟩
  · refine ok_biff rfl ?_
    refine ok_biff rfl ?_
    refine ok_biff rfl ?_
    refine ok_biff rfl ?_
    refine ok_biff rfl ?_
    refine ok_biff rfl ?_
    refine genD (X := fun D => f71.K1 k obj i _ _ D H1) (fun D => ?_) _; rw [f71.K1_eq]
    refine ok_biff rfl ?_
    refine ok_biff rfl ?_
    refine genD (X := fun D => f71.K2 k obj i _ _ D H1) (fun D => ?_) _; rw [f71.K2_eq]
    refine ok_biff rfl ?_
    refine ok_bift rfl ?_
    refine genD (X := fun D => f71.K3 k obj i _ _ D H1) (fun D => ?_) _; rw [f71.K3_eq]
    refine ok_bift rfl ?_
    exact cs1 (locks (g := fun b => !b) (K := fun b => some (.bool (!b), H1)) (fun b => rfl) _ rfl)
  · refine ok_biff rfl ?_
    refine ok_biff rfl ?_
    refine ok_biff rfl ?_
    refine ok_biff rfl ?_
    refine ok_biff rfl ?_
    refine ok_biff rfl ?_
    refine genD (X := fun D => f71.K1 k obj i _ _ D H1) (fun D => ?_) _; rw [f71.K1_eq]
    refine ok_biff rfl ?_
    refine ok_biff rfl ?_
    refine genD (X := fun D => f71.K2 k obj i _ _ D H1) (fun D => ?_) _; rw [f71.K2_eq]
    refine ok_biff rfl ?_
    refine ok_biff rfl ?_
    refine genD (X := fun D => f71.K3 k obj i _ _ D H1) (fun D => ?_) _; rw [f71.K3_eq]
    refine ok_bift rfl ?_
    exact cs1 (locks (g := fun b => !b) (K := fun b => some (.bool (!b), H1)) (fun b => rfl) _ rfl)
  · refine ok_biff rfl ?_
    refine ok_biff rfl ?_
    refine ok_biff rfl ?_
    refine ok_biff rfl ?_
    refine ok_biff rfl ?_
    refine ok_biff rfl ?_
    refine genD (X := fun D => f71.K1 k obj i _ _ D H1) (fun D => ?_) _; rw [f71.K1_eq]
    refine ok_biff rfl ?_
    refine ok_biff rfl ?_
    refine genD (X := fun D => f71.K2 k obj i _ _ D H1) (fun D => ?_) _; rw [f71.K2_eq]
    refine ok_biff rfl ?_
    refine ok_biff rfl ?_
    refine genD (X := fun D => f71.K3 k obj i _ _ D H1) (fun D => ?_) _; rw [f71.K3_eq]
    refine ok_biff rfl ?_
    refine ok_bift rfl ?_
    refine genD (X := fun D => f71.K4 k obj i _ _ D H1) (fun D => ?_) _; rw [f71.K4_eq]
    refine ok_bift rfl ?_
    exact cs1 (locks (g := fun b => b) (K := fun b => some (.bool b, H1)) (fun b => rfl) _ rfl)
  · refine ok_biff rfl ?_
    refine ok_biff rfl ?_
    refine ok_biff rfl ?_
    refine ok_biff rfl ?_
    refine ok_biff rfl ?_
    refine ok_biff rfl ?_
    refine genD (X := fun D => f71.K1 k obj i _ _ D H1) (fun D => ?_) _; rw [f71.K1_eq]
    refine ok_biff rfl ?_
    refine ok_biff rfl ?_
    refine genD (X := fun D => f71.K2 k obj i _ _ D H1) (fun D => ?_) _; rw [f71.K2_eq]
    refine ok_biff rfl ?_
    refine ok_biff rfl ?_
    refine genD (X := fun D => f71.K3 k obj i _ _ D H1) (fun D => ?_) _; rw [f71.K3_eq]
    refine ok_biff rfl ?_
    refine ok_biff rfl ?_
    refine ok_bift rfl ?_
    refine genD (X := fun D => f71.K4 k obj i _ _ D H1) (fun D => ?_) _; rw [f71.K4_eq]
    refine ok_bift rfl ?_
    exact cs1 (locks (g := fun b => b) (K := fun b => some (.bool b, H1)) (fun b => rfl) _ rfl)
  · refine ok_biff rfl ?_
    refine ok_biff rfl ?_
    refine ok_biff rfl ?_
    refine ok_biff rfl ?_
    refine ok_biff rfl ?_
    refine ok_biff rfl ?_
    refine genD (X := fun D => f71.K1 k obj i _ _ D H1) (fun D => ?_) _; rw [f71.K1_eq]
    refine ok_biff rfl ?_
    refine ok_biff rfl ?_
    refine genD (X := fun D => f71.K2 k obj i _ _ D H1) (fun D => ?_) _; rw [f71.K2_eq]
    refine ok_biff rfl ?_
    refine ok_biff rfl ?_
    refine genD (X := fun D => f71.K3 k obj i _ _ D H1) (fun D => ?_) _; rw [f71.K3_eq]
    refine ok_biff rfl ?_
    refine ok_biff rfl ?_
    refine ok_biff rfl ?_
    refine ok_bift rfl ?_
    refine genD (X := fun D => f71.K4 k obj i _ _ D H1) (fun D => ?_) _; rw [f71.K4_eq]
    refine ok_bift rfl ?_
    exact cs1 (locks (g := fun b => b) (K := fun b => some (.bool b, H1)) (fun b => rfl) _ rfl)
  · refine ok_biff rfl ?_
    refine ok_biff rfl ?_
    refine ok_biff rfl ?_
    refine ok_biff rfl ?_
    refine ok_biff rfl ?_
    refine ok_biff rfl ?_
    refine genD (X := fun D => f71.K1 k obj i _ _ D H1) (fun D => ?_) _; rw [f71.K1_eq]
    refine ok_biff rfl ?_
    refine ok_biff rfl ?_
    refine genD (X := fun D => f71.K2 k obj i _ _ D H1) (fun D => ?_) _; rw [f71.K2_eq]
    refine ok_biff rfl ?_
    refine ok_biff rfl ?_
    refine genD (X := fun D => f71.K3 k obj i _ _ D H1) (fun D => ?_) _; rw [f71.K3_eq]
    refine ok_biff rfl ?_
    refine ok_biff rfl ?_
    refine ok_biff rfl ?_
    refine ok_biff rfl ?_
    refine genD (X := fun D => f71.K4 k obj i _ _ D H1) (fun D => ?_) _; rw [f71.K4_eq]
    refine ok_bift rfl ?_
    exact cs1 (locks (g := fun b => b) (K := fun b => some (.bool b, H1)) (fun b => rfl) _ rfl)
  · refine ok_biff rfl ?_
    refine ok_biff rfl ?_
    refine ok_biff rfl ?_
    refine ok_bift rfl ?_
    refine genD (X := fun D => f71.K1 k obj i _ _ D H1) (fun D => ?_) _; rw [f71.K1_eq]
    refine ok_bift rfl ?_
    exact Ok.ret ⟨rfl, A1⟩
  · refine ok_biff rfl ?_
    refine ok_biff rfl ?_
    refine ok_biff rfl ?_
    refine ok_biff rfl ?_
    refine ok_bift rfl ?_
    refine genD (X := fun D => f71.K1 k obj i _ _ D H1) (fun D => ?_) _; rw [f71.K1_eq]
    refine ok_bift rfl ?_
    exact Ok.ret ⟨rfl, A1⟩
  · refine ok_biff rfl ?_
    refine ok_biff rfl ?_
    refine ok_biff rfl ?_
    refine ok_biff rfl ?_
    refine ok_biff rfl ?_
    refine ok_bift rfl ?_
    refine genD (X := fun D => f71.K1 k obj i _ _ D H1) (fun D => ?_) _; rw [f71.K1_eq]
    refine ok_bift rfl ?_
    exact Ok.ret ⟨rfl, A1⟩
  · refine ok_biff rfl ?_
    refine ok_biff rfl ?_
    refine ok_biff rfl ?_
    refine ok_biff rfl ?_
    refine ok_biff rfl ?_
    refine ok_biff rfl ?_
    refine genD (X := fun D => f71.K1 k obj i _ _ D H1) (fun D => ?_) _; rw [f71.K1_eq]
    refine ok_bift rfl ?_
    exact Ok.ret ⟨rfl, A1⟩
  · refine ok_biff rfl ?_
    refine ok_biff rfl ?_
    refine ok_biff rfl ?_
    refine ok_biff rfl ?_
    refine ok_biff rfl ?_
    refine ok_biff rfl ?_
    refine genD (X := fun D => f71.K1 k obj i _ _ D H1) (fun D => ?_) _; rw [f71.K1_eq]
    refine ok_biff rfl ?_
    refine ok_biff rfl ?_
    refine genD (X := fun D => f71.K2 k obj i _ _ D H1) (fun D => ?_) _; rw [f71.K2_eq]
    refine ok_biff rfl ?_
    refine ok_biff rfl ?_
    refine genD (X := fun D => f71.K3 k obj i _ _ D H1) (fun D => ?_) _; rw [f71.K3_eq]
    refine ok_biff rfl ?_
    refine ok_biff rfl ?_
    refine ok_biff rfl ?_
    refine ok_biff rfl ?_
    refine genD (X := fun D => f71.K4 k obj i _ _ D H1) (fun D => ?_) _; rw [f71.K4_eq]
    refine ok_biff rfl ?_
    refine ok_bift rfl ?_
    refine genD (X := fun D => f71.K5 k obj i _ _ D H1) (fun D => ?_) _; rw [f71.K5_eq]
    refine ok_bift rfl ?_
    exact cs2 (below (Ok.ret ⟨by rw [lN]; rfl, A1⟩))
  · refine ok_biff rfl ?_
    refine ok_biff rfl ?_
    refine ok_biff rfl ?_
    refine ok_biff rfl ?_
    refine ok_biff rfl ?_
    refine ok_biff rfl ?_
    refine genD (X := fun D => f71.K1 k obj i _ _ D H1) (fun D => ?_) _; rw [f71.K1_eq]
    refine ok_biff rfl ?_
    refine ok_biff rfl ?_
    refine genD (X := fun D => f71.K2 k obj i _ _ D H1) (fun D => ?_) _; rw [f71.K2_eq]
    refine ok_biff rfl ?_
    refine ok_biff rfl ?_
    refine genD (X := fun D => f71.K3 k obj i _ _ D H1) (fun D => ?_) _; rw [f71.K3_eq]
    refine ok_biff rfl ?_
    refine ok_biff rfl ?_
    refine ok_biff rfl ?_
    refine ok_biff rfl ?_
    refine genD (X := fun D => f71.K4 k obj i _ _ D H1) (fun D => ?_) _; rw [f71.K4_eq]
    refine ok_biff rfl ?_
    refine ok_biff rfl ?_
    refine ok_bift rfl ?_
    refine genD (X := fun D => f71.K5 k obj i _ _ D H1) (fun D => ?_) _; rw [f71.K5_eq]
    refine ok_bift rfl ?_
    exact cs2 (below (Ok.ret ⟨by rw [lN]; rfl, A1⟩))
  · refine ok_biff rfl ?_
    refine ok_biff rfl ?_
    refine ok_biff rfl ?_
    refine ok_biff rfl ?_
    refine ok_biff rfl ?_
    refine ok_biff rfl ?_
    refine genD (X := fun D => f71.K1 k obj i _ _ D H1) (fun D => ?_) _; rw [f71.K1_eq]
    refine ok_biff rfl ?_
    refine ok_biff rfl ?_
    refine genD (X := fun D => f71.K2 k obj i _ _ D H1) (fun D => ?_) _; rw [f71.K2_eq]
    refine ok_biff rfl ?_
    refine ok_biff rfl ?_
    refine genD (X := fun D => f71.K3 k obj i _ _ D H1) (fun D => ?_) _; rw [f71.K3_eq]
    refine ok_biff rfl ?_
    refine ok_biff rfl ?_
    refine ok_biff rfl ?_
    refine ok_biff rfl ?_
    refine genD (X := fun D => f71.K4 k obj i _ _ D H1) (fun D => ?_) _; rw [f71.K4_eq]
    refine ok_biff rfl ?_
    refine ok_biff rfl ?_
    refine ok_biff rfl ?_
    refine ok_bift rfl ?_
    refine genD (X := fun D => f71.K5 k obj i _ _ D H1) (fun D => ?_) _; rw [f71.K5_eq]
    refine ok_bift rfl ?_
    exact cs2 (below (Ok.ret ⟨by rw [lN]; rfl, A1⟩))
  · refine ok_biff rfl ?_
    refine ok_biff rfl ?_
    refine ok_biff rfl ?_
    refine ok_biff rfl ?_
    refine ok_biff rfl ?_
    refine ok_biff rfl ?_
    refine genD (X := fun D => f71.K1 k obj i _ _ D H1) (fun D => ?_) _; rw [f71.K1_eq]
    refine ok_biff rfl ?_
    refine ok_biff rfl ?_
    refine genD (X := fun D => f71.K2 k obj i _ _ D H1) (fun D => ?_) _; rw [f71.K2_eq]
    refine ok_biff rfl ?_
    refine ok_biff rfl ?_
    refine genD (X := fun D => f71.K3 k obj i _ _ D H1) (fun D => ?_) _; rw [f71.K3_eq]
    refine ok_biff rfl ?_
    refine ok_biff rfl ?_
    refine ok_biff rfl ?_
    refine ok_biff rfl ?_
    refine genD (X := fun D => f71.K4 k obj i _ _ D H1) (fun D => ?_) _; rw [f71.K4_eq]
    refine ok_biff rfl ?_
    refine ok_biff rfl ?_
    refine ok_biff rfl ?_
    refine ok_biff rfl ?_
    refine genD (X := fun D => f71.K5 k obj i _ _ D H1) (fun D => ?_) _; rw [f71.K5_eq]
    refine ok_bift rfl ?_
    exact cs2 (below (Ok.ret ⟨by rw [lN]; rfl, A1⟩))
  · refine ok_biff rfl ?_
    refine ok_biff rfl ?_
    refine ok_biff rfl ?_
    refine ok_biff rfl ?_
    refine ok_biff rfl ?_
    refine ok_biff rfl ?_
    refine genD (X := fun D => f71.K1 k obj i _ _ D H1) (fun D => ?_) _; rw [f71.K1_eq]
    refine ok_biff rfl ?_
    refine ok_biff rfl ?_
    refine genD (X := fun D => f71.K2 k obj i _ _ D H1) (fun D => ?_) _; rw [f71.K2_eq]
    refine ok_biff rfl ?_
    refine ok_biff rfl ?_
    refine genD (X := fun D => f71.K3 k obj i _ _ D H1) (fun D => ?_) _; rw [f71.K3_eq]
    refine ok_biff rfl ?_
    refine ok_biff rfl ?_
    refine ok_biff rfl ?_
    refine ok_biff rfl ?_
    refine genD (X := fun D => f71.K4 k obj i _ _ D H1) (fun D => ?_) _; rw [f71.K4_eq]
    refine ok_biff rfl ?_
    refine ok_biff rfl ?_
    refine ok_biff rfl ?_
    refine ok_biff rfl ?_
    refine genD (X := fun D => f71.K5 k obj i _ _ D H1) (fun D => ?_) _; rw [f71.K5_eq]
    refine ok_biff rfl ?_
    refine ok_bift rfl ?_
    refine genD (X := fun D => f71.K6 k obj i _ _ D H1) (fun D => ?_) _; rw [f71.K6_eq]
    refine ok_bift rfl ?_
    exact cs4 (below (Ok.ret ⟨by rw [ht]; rfl, A1⟩))
  · refine ok_biff rfl ?_
    refine ok_biff rfl ?_
    refine ok_biff rfl ?_
    refine ok_biff rfl ?_
    refine ok_biff rfl ?_
    refine ok_biff rfl ?_
    refine genD (X := fun D => f71.K1 k obj i _ _ D H1) (fun D => ?_) _; rw [f71.K1_eq]
    refine ok_biff rfl ?_
    refine ok_biff rfl ?_
    refine genD (X := fun D => f71.K2 k obj i _ _ D H1) (fun D => ?_) _; rw [f71.K2_eq]
    refine ok_biff rfl ?_
    refine ok_biff rfl ?_
    refine genD (X := fun D => f71.K3 k obj i _ _ D H1) (fun D => ?_) _; rw [f71.K3_eq]
    refine ok_biff rfl ?_
    refine ok_biff rfl ?_
    refine ok_biff rfl ?_
    refine ok_biff rfl ?_
    refine genD (X := fun D => f71.K4 k obj i _ _ D H1) (fun D => ?_) _; rw [f71.K4_eq]
    refine ok_biff rfl ?_
    refine ok_biff rfl ?_
    refine ok_biff rfl ?_
    refine ok_biff rfl ?_
    refine genD (X := fun D => f71.K5 k obj i _ _ D H1) (fun D => ?_) _; rw [f71.K5_eq]
    refine ok_biff rfl ?_
    refine ok_biff rfl ?_
    refine genD (X := fun D => f71.K6 k obj i _ _ D H1) (fun D => ?_) _; rw [f71.K6_eq]
    refine ok_bift rfl ?_
    exact cs4 (below (Ok.ret ⟨by rw [ht]; rfl, A1⟩))
  · refine ok_biff rfl ?_
    refine ok_biff rfl ?_
    refine ok_biff rfl ?_
    refine ok_biff rfl ?_
    refine ok_biff rfl ?_
    refine ok_biff rfl ?_
    refine genD (X := fun D => f71.K1 k obj i _ _ D H1) (fun D => ?_) _; rw [f71.K1_eq]
    refine ok_biff rfl ?_
    refine ok_biff rfl ?_
    refine genD (X := fun D => f71.K2 k obj i _ _ D H1) (fun D => ?_) _; rw [f71.K2_eq]
    refine ok_biff rfl ?_
    refine ok_biff rfl ?_
    refine genD (X := fun D => f71.K3 k obj i _ _ D H1) (fun D => ?_) _; rw [f71.K3_eq]
    refine ok_biff rfl ?_
    refine ok_biff rfl ?_
    refine ok_biff rfl ?_
    refine ok_biff rfl ?_
    refine genD (X := fun D => f71.K4 k obj i _ _ D H1) (fun D => ?_) _; rw [f71.K4_eq]
    refine ok_biff rfl ?_
    refine ok_biff rfl ?_
    refine ok_biff rfl ?_
    refine ok_biff rfl ?_
    refine genD (X := fun D => f71.K5 k obj i _ _ D H1) (fun D => ?_) _; rw [f71.K5_eq]
    refine ok_biff rfl ?_
    refine ok_biff rfl ?_
    refine genD (X := fun D => f71.K6 k obj i _ _ D H1) (fun D => ?_) _; rw [f71.K6_eq]
    refine ok_biff rfl ?_
    refine ok_bift rfl ?_
    refine ok_bift rfl ?_
    exact cs3 (below (Ok.ret ⟨by rw [hf]; rfl, A1⟩))
  · refine ok_biff rfl ?_
    refine ok_biff rfl ?_
    refine ok_biff rfl ?_
    refine ok_biff rfl ?_
    refine ok_biff rfl ?_
    refine ok_biff rfl ?_
    refine genD (X := fun D => f71.K1 k obj i _ _ D H1) (fun D => ?_) _; rw [f71.K1_eq]
    refine ok_biff rfl ?_
    refine ok_biff rfl ?_
    refine genD (X := fun D => f71.K2 k obj i _ _ D H1) (fun D => ?_) _; rw [f71.K2_eq]
    refine ok_biff rfl ?_
    refine ok_biff rfl ?_
    refine genD (X := fun D => f71.K3 k obj i _ _ D H1) (fun D => ?_) _; rw [f71.K3_eq]
    refine ok_biff rfl ?_
    refine ok_biff rfl ?_
    refine ok_biff rfl ?_
    refine ok_biff rfl ?_
    refine genD (X := fun D => f71.K4 k obj i _ _ D H1) (fun D => ?_) _; rw [f71.K4_eq]
    refine ok_biff rfl ?_
    refine ok_biff rfl ?_
    refine ok_biff rfl ?_
    refine ok_biff rfl ?_
    refine genD (X := fun D => f71.K5 k obj i _ _ D H1) (fun D => ?_) _; rw [f71.K5_eq]
    refine ok_biff rfl ?_
    refine ok_biff rfl ?_
    refine genD (X := fun D => f71.K6 k obj i _ _ D H1) (fun D => ?_) _; rw [f71.K6_eq]
    refine ok_biff rfl ?_
    refine ok_biff rfl ?_
    refine ok_bift rfl ?_
    exact cs3 (below (Ok.ret ⟨by rw [hf]; rfl, A1⟩))
  · refine ok_biff (hne _ (by decide)) ?_
    refine ok_biff (hne _ (by decide)) ?_
    refine ok_biff (hne _ (by decide)) ?_
    refine ok_biff (hne _ (by decide)) ?_
    refine ok_biff (hne _ (by decide)) ?_
    refine ok_biff (hne _ (by decide)) ?_
    refine genD (X := fun D => f71.K1 k obj i _ _ D H1) (fun D => ?_) _; rw [f71.K1_eq]
    refine ok_biff (hne _ (by decide)) ?_
    refine ok_biff (hne _ (by decide)) ?_
    refine genD (X := fun D => f71.K2 k obj i _ _ D H1) (fun D => ?_) _; rw [f71.K2_eq]
    refine ok_biff (hne _ (by decide)) ?_
    refine ok_biff (hne _ (by decide)) ?_
    refine genD (X := fun D => f71.K3 k obj i _ _ D H1) (fun D => ?_) _; rw [f71.K3_eq]
    refine ok_biff (hne _ (by decide)) ?_
    refine ok_biff (hne _ (by decide)) ?_
    refine ok_biff (hne _ (by decide)) ?_
    refine ok_biff (hne _ (by decide)) ?_
    refine genD (X := fun D => f71.K4 k obj i _ _ D H1) (fun D => ?_) _; rw [f71.K4_eq]
    refine ok_biff (hne _ (by decide)) ?_
    refine ok_biff (hne _ (by decide)) ?_
    refine ok_biff (hne _ (by decide)) ?_
    refine ok_biff (hne _ (by decide)) ?_
    refine genD (X := fun D => f71.K5 k obj i _ _ D H1) (fun D => ?_) _; rw [f71.K5_eq]
    refine ok_biff (hne _ (by decide)) ?_
    refine ok_biff (hne _ (by decide)) ?_
    refine genD (X := fun D => f71.K6 k obj i _ _ D H1) (fun D => ?_) _; rw [f71.K6_eq]
    refine ok_biff (hne _ (by decide)) ?_
    refine ok_biff (hne _ (by decide)) ?_
    refine ok_biff (hne _ (by decide)) ?_
    refine genD (X := fun D => f71.K7 k D H1) (fun D => ?_) _; rw [f71.K7_eq]
    exact Ok.ret ⟨by rw [other hne], A1⟩
theorem f94_spec (hk : 2 ≤ k) {wc : List Value} (hw : WorldR F H wc w) (kind obj : Int) :
    ∃ H', C k 94 [.agg wc.toArray, .int .i64 kind, .int .i64 obj] H = some (.bool (namedS w kind obj), H') ∧ Agree H H' := by
  obtain ⟨k, rfl⟩ : ∃ j, k = j + 1 := ⟨k - 1, by omega⟩
  obtain ⟨a0, l0, c0, a1, l1, c1, a2, l2, c2, a3, l3, c3, a4, l4, c4, a5, l5, c5, ks, cs, rfl, hw⟩ := hw
  rw [f94_eq]
  refine call_of_ok (ok_al fun i H1 hi n1 A1 B1 => ?_)
  have hw1 := hw.agree A1
  have lK := hw.lenK'
  have lN := hw.lenN'
  have hk1 : 1 ≤ k := by omega
  have cs0 : ∀ {K : Option Addr → Nat → Nat → Option (Value × AHeap)} {Q : Value × AHeap → Prop}, Ok (K a0 l0 c0) Q → Ok (bSl (ldSl H1 i 0) K) Q := fun h => ok_bSl (ldSl_at B1 (by simp) rfl) h
  have cs1 : ∀ {K : Option Addr → Nat → Nat → Option (Value × AHeap)} {Q : Value × AHeap → Prop}, Ok (K a1 l1 c1) Q → Ok (bSl (ldSl H1 i 1) K) Q := fun h => ok_bSl (ldSl_at B1 (by simp) rfl) h
  have cs2 : ∀ {K : Option Addr → Nat → Nat → Option (Value × AHeap)} {Q : Value × AHeap → Prop}, Ok (K a2 l2 c2) Q → Ok (bSl (ldSl H1 i 2) K) Q := fun h => ok_bSl (ldSl_at B1 (by simp) rfl) h
  have cs3 : ∀ {K : Option Addr → Nat → Nat → Option (Value × AHeap)} {Q : Value × AHeap → Prop}, Ok (K a3 l3 c3) Q → Ok (bSl (ldSl H1 i 3) K) Q := fun h => ok_bSl (ldSl_at B1 (by simp) rfl) h
  have cs4 : ∀ {K : Option Addr → Nat → Nat → Option (Value × AHeap)} {Q : Value × AHeap → Prop}, Ok (K a4 l4 c4) Q → Ok (bSl (ldSl H1 i 4) K) Q := fun h => ok_bSl (ldSl_at B1 (by simp) rfl) h
  have below : ∀ {n : Nat} {K : Bool → AHeap → Option (Value × AHeap)} {Q : Value × AHeap → Prop}, Ok (K (inR obj n) H1) Q → Ok (cB (C k 93 [.int .i64 obj, .int .i64 (n : Int)] H1) K) Q := fun h => ok_cB0 (f93_spec hk1 obj _ H1) h
  have hc := hw.c
  have hf := hw.f
  have ht := hw.t
  have locks : ∀ {g : Bool → Bool} {K : Bool → Option (Value × AHeap)}, (∀ b, K b = some (.bool (g b), H1)) → ∀ v : Bool, (inR obj w.rw.length && g (w.rw.getD obj.toNat false)) = v →
      Ok (cB (C k 93 [.int .i64 obj, .int .i64 (l1 : Int)] H1) fun b H_1 => bif b then bSl (ldSl H_1 i 1) (fun a_1 l_1 c_1 => a_1.bind fun q => if 0 ≤ obj ∧ obj < (l_1 : Int) then (ldB H_1 q.block (q.off + obj.toNat * 2 + 1)).bind fun b_1 => some (Value.bool (g b_1), H_1) else none) else some (Value.bool false, H_1))
      fun r => r.1 = Value.bool v ∧ Agree H r.2 := by
    intro g K _ v hv
    refine below ?_
    rw [← lK] at hv
    refine ok_bif (fun hb => ?_) (fun hb => ?_)
    · obtain ⟨q, eq, hq⟩ := rw_at hw1 hb
      rw [hb, Bool.true_and] at hv
      have := inR_iff.1 hb
      exact cs1 (ok_bind eq (ok_if (by omega) (ok_bind hq (Ok.ret ⟨by rw [hv], A1⟩))))
    · rw [hb, Bool.false_and] at hv
      exact Ok.ret ⟨by rw [hv], A1⟩
  have other : (∀ n : Int, (1 ≤ n ∧ n ≤ 23) → (kind == n) = false) → namedS w kind obj = false := by
    intro h
    unfold namedS
    rw [h 1 (by decide), h 2 (by decide), h 3 (by decide), h 4 (by decide), h 5 (by decide), h 6 (by decide), h 7 (by decide), h 8 (by decide), h 9 (by decide), h 10 (by decide), h 11 (by decide), h 12 (by decide), h 13 (by decide), h 14 (by decide), h 15 (by decide), h 16 (by decide), h 17 (by decide), h 18 (by decide), h 19 (by decide), h 20 (by decide), h 21 (by decide), h 22 (by decide), h 23 (by decide)]
    rfl
  rcases kinds kind with rfl | rfl | rfl | rfl | rfl | rfl | rfl | rfl | rfl | rfl | rfl | rfl | rfl | rfl | rfl | rfl | rfl | rfl | rfl | rfl | rfl | rfl | rfl | hne
  · refine ok_bift rfl ?_
    refine genD (X := fun D => f94.K1 k obj i _ _ D H1) (fun D => ?_) _; rw [f94.K1_eq]
    refine ok_bift rfl ?_
    exact Ok.ret ⟨rfl, A1⟩
  · refine ok_biff rfl ?_
    refine ok_bift rfl ?_
    refine genD (X := fun D => f94.K1 k obj i _ _ D H1) (fun D => ?_) _; rw [f94.K1_eq]
    refine ok_bift rfl ?_
    exact Ok.ret ⟨rfl, A1⟩
  · refine ok_biff rfl ?_
    refine ok_biff rfl ?_
    refine ok_biff rfl ?_
    refine ok_biff rfl ?_
    refine ok_biff rfl ?_
    refine ok_biff rfl ?_
    refine genD (X := fun D => f94.K1 k obj i _ _ D H1) (fun D => ?_) _; rw [f94.K1_eq]
    refine ok_biff rfl ?_
    refine ok_bift rfl ?_
    refine genD (X := fun D => f94.K2 k obj i _ _ D H1) (fun D => ?_) _; rw [f94.K2_eq]
    refine ok_bift rfl ?_
    exact cs0 (below (Ok.ret ⟨by rw [hc]; rfl, A1⟩))
  · refine ok_biff rfl ?_
    refine ok_biff rfl ?_
    refine ok_biff rfl ?_
    refine ok_biff rfl ?_
    refine ok_biff rfl ?_
    refine ok_biff rfl ?_
    refine genD (X := fun D => f94.K1 k obj i _ _ D H1) (fun D => ?_) _; rw [f94.K1_eq]
    refine ok_biff rfl ?_
    refine ok_biff rfl ?_
    refine genD (X := fun D => f94.K2 k obj i _ _ D H1) (fun D => ?_) _; rw [f94.K2_eq]
    refine ok_bift rfl ?_
    exact cs0 (below (Ok.ret ⟨by rw [hc]; rfl, A1⟩))
  · refine ok_biff rfl ?_
    refine ok_biff rfl ?_
    refine ok_bift rfl ?_
    refine genD (X := fun D => f94.K1 k obj i _ _ D H1) (fun D => ?_) _; rw [f94.K1_eq]
    refine ok_bift rfl ?_
    exact Ok.ret ⟨rfl, A1⟩
  · refine ok_biff rfl ?_
    refine ok_biff rfl ?_
    refine ok_biff rfl ?_
    refine ok_biff rfl ?_
    refine ok_biff rfl ?_
    refine ok_biff rfl ?_
    refine genD (X := fun D => f94.K1 k obj i _ _ D H1) (fun D => ?_) _; rw [f94.K1_eq]
    refine ok_biff rfl ?_
    refine ok_biff rfl ?_
    refine genD (X := fun D => f94.K2 k obj i _ _ D H1) (fun D => ?_) _; rw [f94.K2_eq]
    refine ok_biff rfl ?_
    refine ok_bift rfl ?_
    refine genD (X := fun D => f94.K3 k obj i _ _ D H1) (fun D => ?_) _; rw [f94.K3_eq]
    refine ok_bift rfl ?_
    exact cs1 (locks (g := fun b => !b) (K := fun b => some (.bool (!b), H1)) (fun b => rfl) _ rfl)
  · refine ok_biff rfl ?_
    refine ok_biff rfl ?_
    refine ok_biff rfl ?_
    refine ok_biff rfl ?_
    refine ok_biff rfl ?_
    refine ok_biff rfl ?_
    refine genD (X := fun D => f94.K1 k obj i _ _ D H1) (fun D => ?_) _; rw [f94.K1_eq]
    refine ok_biff rfl ?_
    refine ok_biff rfl ?_
    refine genD (X := fun D => f94.K2 k obj i _ _ D H1) (fun D => ?_) _; rw [f94.K2_eq]
    refine ok_biff rfl ?_
    refine ok_biff rfl ?_
    refine genD (X := fun D => f94.K3 k obj i _ _ D H1) (fun D => ?_) _; rw [f94.K3_eq]
    refine ok_bift rfl ?_
    exact cs1 (locks (g := fun b => !b) (K := fun b => some (.bool (!b), H1)) (fun b => rfl) _ rfl)
  · refine ok_biff rfl ?_
    refine ok_biff rfl ?_
    refine ok_biff rfl ?_
    refine ok_biff rfl ?_
    refine ok_biff rfl ?_
    refine ok_biff rfl ?_
    refine genD (X := fun D => f94.K1 k obj i _ _ D H1) (fun D => ?_) _; rw [f94.K1_eq]
    refine ok_biff rfl ?_
    refine ok_biff rfl ?_
    refine genD (X := fun D => f94.K2 k obj i _ _ D H1) (fun D => ?_) _; rw [f94.K2_eq]
    refine ok_biff rfl ?_
    refine ok_biff rfl ?_
    refine genD (X := fun D => f94.K3 k obj i _ _ D H1) (fun D => ?_) _; rw [f94.K3_eq]
    refine ok_biff rfl ?_
    refine ok_bift rfl ?_
    refine genD (X := fun D => f94.K4 k obj i _ _ D H1) (fun D => ?_) _; rw [f94.K4_eq]
    refine ok_bift rfl ?_
    exact cs1 (locks (g := fun b => b) (K := fun b => some (.bool b, H1)) (fun b => rfl) _ rfl)
  · refine ok_biff rfl ?_
    refine ok_biff rfl ?_
    refine ok_biff rfl ?_
    refine ok_biff rfl ?_
    refine ok_biff rfl ?_
    refine ok_biff rfl ?_
    refine genD (X := fun D => f94.K1 k obj i _ _ D H1) (fun D => ?_) _; rw [f94.K1_eq]
    refine ok_biff rfl ?_
    refine ok_biff rfl ?_
    refine genD (X := fun D => f94.K2 k obj i _ _ D H1) (fun D => ?_) _; rw [f94.K2_eq]
    refine ok_biff rfl ?_
    refine ok_biff rfl ?_
    refine genD (X := fun D => f94.K3 k obj i _ _ D H1) (fun D => ?_) _; rw [f94.K3_eq]
    refine ok_biff rfl ?_
    refine ok_biff rfl ?_
    refine ok_bift rfl ?_
    refine genD (X := fun D => f94.K4 k obj i _ _ D H1) (fun D => ?_) _; rw [f94.K4_eq]
    refine ok_bift rfl ?_
    exact cs1 (locks (g := fun b => b) (K := fun b => some (.bool b, H1)) (fun b => rfl) _ rfl)
  · refine ok_biff rfl ?_
    refine ok_biff rfl ?_
    refine ok_biff rfl ?_
    refine ok_biff rfl ?_
    refine ok_biff rfl ?_
    refine ok_biff rfl ?_
    refine genD (X := fun D => f94.K1 k obj i _ _ D H1) (fun D => ?_) _; rw [f94.K1_eq]
    refine ok_biff rfl ?_
    refine ok_biff rfl ?_
    refine genD (X := fun D => f94.K2 k obj i _ _ D H1) (fun D => ?_) _; rw [f94.K2_eq]
    refine ok_biff rfl ?_
    refine ok_biff rfl ?_
    refine genD (X := fun D => f94.K3 k obj i _ _ D H1) (fun D => ?_) _; rw [f94.K3_eq]
    refine ok_biff rfl ?_
    refine ok_biff rfl ?_
    refine ok_biff rfl ?_
    refine ok_bift rfl ?_
    refine genD (X := fun D => f94.K4 k obj i _ _ D H1) (fun D => ?_) _; rw [f94.K4_eq]
    refine ok_bift rfl ?_
    exact cs1 (locks (g := fun b => b) (K := fun b => some (.bool b, H1)) (fun b => rfl) _ rfl)
  · refine ok_biff rfl ?_
    refine ok_biff rfl ?_
    refine ok_biff rfl ?_
    refine ok_biff rfl ?_
    refine ok_biff rfl ?_
    refine ok_biff rfl ?_
    refine genD (X := fun D => f94.K1 k obj i _ _ D H1) (fun D => ?_) _; rw [f94.K1_eq]
    refine ok_biff rfl ?_
    refine ok_biff rfl ?_
    refine genD (X := fun D => f94.K2 k obj i _ _ D H1) (fun D => ?_) _; rw [f94.K2_eq]
    refine ok_biff rfl ?_
    refine ok_biff rfl ?_
    refine genD (X := fun D => f94.K3 k obj i _ _ D H1) (fun D => ?_) _; rw [f94.K3_eq]
    refine ok_biff rfl ?_
    refine ok_biff rfl ?_
    refine ok_biff rfl ?_
    refine ok_biff rfl ?_
    refine genD (X := fun D => f94.K4 k obj i _ _ D H1) (fun D => ?_) _; rw [f94.K4_eq]
    refine ok_bift rfl ?_
    exact cs1 (locks (g := fun b => b) (K := fun b => some (.bool b, H1)) (fun b => rfl) _ rfl)
  · refine ok_biff rfl ?_
    refine ok_biff rfl ?_
    refine ok_biff rfl ?_
    refine ok_bift rfl ?_
    refine genD (X := fun D => f94.K1 k obj i _ _ D H1) (fun D => ?_) _; rw [f94.K1_eq]
    refine ok_bift rfl ?_
    exact Ok.ret ⟨rfl, A1⟩
  · refine ok_biff rfl ?_
    refine ok_biff rfl ?_
    refine ok_biff rfl ?_
    refine ok_biff rfl ?_
    refine ok_bift rfl ?_
    refine genD (X := fun D => f94.K1 k obj i _ _ D H1) (fun D => ?_) _; rw [f94.K1_eq]
    refine ok_bift rfl ?_
    exact Ok.ret ⟨rfl, A1⟩
  · refine ok_biff rfl ?_
    refine ok_biff rfl ?_
    refine ok_biff rfl ?_
    refine ok_biff rfl ?_
    refine ok_biff rfl ?_
    refine ok_bift rfl ?_
    refine genD (X := fun D => f94.K1 k obj i _ _ D H1) (fun D => ?_) _; rw [f94.K1_eq]
    refine ok_bift rfl ?_
    exact Ok.ret ⟨rfl, A1⟩
  · refine ok_biff rfl ?_
    refine ok_biff rfl ?_
    refine ok_biff rfl ?_
    refine ok_biff rfl ?_
    refine ok_biff rfl ?_
    refine ok_biff rfl ?_
    refine genD (X := fun D => f94.K1 k obj i _ _ D H1) (fun D => ?_) _; rw [f94.K1_eq]
    refine ok_bift rfl ?_
    exact Ok.ret ⟨rfl, A1⟩
  · refine ok_biff rfl ?_
    refine ok_biff rfl ?_
    refine ok_biff rfl ?_
    refine ok_biff rfl ?_
    refine ok_biff rfl ?_
    refine ok_biff rfl ?_
    refine genD (X := fun D => f94.K1 k obj i _ _ D H1) (fun D => ?_) _; rw [f94.K1_eq]
    refine ok_biff rfl ?_
    refine ok_biff rfl ?_
    refine genD (X := fun D => f94.K2 k obj i _ _ D H1) (fun D => ?_) _; rw [f94.K2_eq]
    refine ok_biff rfl ?_
    refine ok_biff rfl ?_
    refine genD (X := fun D => f94.K3 k obj i _ _ D H1) (fun D => ?_) _; rw [f94.K3_eq]
    refine ok_biff rfl ?_
    refine ok_biff rfl ?_
    refine ok_biff rfl ?_
    refine ok_biff rfl ?_
    refine genD (X := fun D => f94.K4 k obj i _ _ D H1) (fun D => ?_) _; rw [f94.K4_eq]
    refine ok_biff rfl ?_
    refine ok_bift rfl ?_
    refine genD (X := fun D => f94.K5 k obj i _ _ D H1) (fun D => ?_) _; rw [f94.K5_eq]
    refine ok_bift rfl ?_
    exact cs2 (below (Ok.ret ⟨by rw [lN]; rfl, A1⟩))
  · refine ok_biff rfl ?_
    refine ok_biff rfl ?_
    refine ok_biff rfl ?_
    refine ok_biff rfl ?_
    refine ok_biff rfl ?_
    refine ok_biff rfl ?_
    refine genD (X := fun D => f94.K1 k obj i _ _ D H1) (fun D => ?_) _; rw [f94.K1_eq]
    refine ok_biff rfl ?_
    refine ok_biff rfl ?_
    refine genD (X := fun D => f94.K2 k obj i _ _ D H1) (fun D => ?_) _; rw [f94.K2_eq]
    refine ok_biff rfl ?_
    refine ok_biff rfl ?_
    refine genD (X := fun D => f94.K3 k obj i _ _ D H1) (fun D => ?_) _; rw [f94.K3_eq]
    refine ok_biff rfl ?_
    refine ok_biff rfl ?_
    refine ok_biff rfl ?_
    refine ok_biff rfl ?_
    refine genD (X := fun D => f94.K4 k obj i _ _ D H1) (fun D => ?_) _; rw [f94.K4_eq]
    refine ok_biff rfl ?_
    refine ok_biff rfl ?_
    refine ok_bift rfl ?_
    refine genD (X := fun D => f94.K5 k obj i _ _ D H1) (fun D => ?_) _; rw [f94.K5_eq]
    refine ok_bift rfl ?_
    exact cs2 (below (Ok.ret ⟨by rw [lN]; rfl, A1⟩))
  · refine ok_biff rfl ?_
    refine ok_biff rfl ?_
    refine ok_biff rfl ?_
    refine ok_biff rfl ?_
    refine ok_biff rfl ?_
    refine ok_biff rfl ?_
    refine genD (X := fun D => f94.K1 k obj i _ _ D H1) (fun D => ?_) _; rw [f94.K1_eq]
    refine ok_biff rfl ?_
    refine ok_biff rfl ?_
    refine genD (X := fun D => f94.K2 k obj i _ _ D H1) (fun D => ?_) _; rw [f94.K2_eq]
    refine ok_biff rfl ?_
    refine ok_biff rfl ?_
    refine genD (X := fun D => f94.K3 k obj i _ _ D H1) (fun D => ?_) _; rw [f94.K3_eq]
    refine ok_biff rfl ?_
    refine ok_biff rfl ?_
    refine ok_biff rfl ?_
    refine ok_biff rfl ?_
    refine genD (X := fun D => f94.K4 k obj i _ _ D H1) (fun D => ?_) _; rw [f94.K4_eq]
    refine ok_biff rfl ?_
    refine ok_biff rfl ?_
    refine ok_biff rfl ?_
    refine ok_bift rfl ?_
    refine genD (X := fun D => f94.K5 k obj i _ _ D H1) (fun D => ?_) _; rw [f94.K5_eq]
    refine ok_bift rfl ?_
    exact cs2 (below (Ok.ret ⟨by rw [lN]; rfl, A1⟩))
  · refine ok_biff rfl ?_
    refine ok_biff rfl ?_
    refine ok_biff rfl ?_
    refine ok_biff rfl ?_
    refine ok_biff rfl ?_
    refine ok_biff rfl ?_
    refine genD (X := fun D => f94.K1 k obj i _ _ D H1) (fun D => ?_) _; rw [f94.K1_eq]
    refine ok_biff rfl ?_
    refine ok_biff rfl ?_
    refine genD (X := fun D => f94.K2 k obj i _ _ D H1) (fun D => ?_) _; rw [f94.K2_eq]
    refine ok_biff rfl ?_
    refine ok_biff rfl ?_
    refine genD (X := fun D => f94.K3 k obj i _ _ D H1) (fun D => ?_) _; rw [f94.K3_eq]
    refine ok_biff rfl ?_
    refine ok_biff rfl ?_
    refine ok_biff rfl ?_
    refine ok_biff rfl ?_
    refine genD (X := fun D => f94.K4 k obj i _ _ D H1) (fun D => ?_) _; rw [f94.K4_eq]
    refine ok_biff rfl ?_
    refine ok_biff rfl ?_
    refine ok_biff rfl ?_
    refine ok_biff rfl ?_
    refine genD (X := fun D => f94.K5 k obj i _ _ D H1) (fun D => ?_) _; rw [f94.K5_eq]
    refine ok_bift rfl ?_
    exact cs2 (below (Ok.ret ⟨by rw [lN]; rfl, A1⟩))
  · refine ok_biff rfl ?_
    refine ok_biff rfl ?_
    refine ok_biff rfl ?_
    refine ok_biff rfl ?_
    refine ok_biff rfl ?_
    refine ok_biff rfl ?_
    refine genD (X := fun D => f94.K1 k obj i _ _ D H1) (fun D => ?_) _; rw [f94.K1_eq]
    refine ok_biff rfl ?_
    refine ok_biff rfl ?_
    refine genD (X := fun D => f94.K2 k obj i _ _ D H1) (fun D => ?_) _; rw [f94.K2_eq]
    refine ok_biff rfl ?_
    refine ok_biff rfl ?_
    refine genD (X := fun D => f94.K3 k obj i _ _ D H1) (fun D => ?_) _; rw [f94.K3_eq]
    refine ok_biff rfl ?_
    refine ok_biff rfl ?_
    refine ok_biff rfl ?_
    refine ok_biff rfl ?_
    refine genD (X := fun D => f94.K4 k obj i _ _ D H1) (fun D => ?_) _; rw [f94.K4_eq]
    refine ok_biff rfl ?_
    refine ok_biff rfl ?_
    refine ok_biff rfl ?_
    refine ok_biff rfl ?_
    refine genD (X := fun D => f94.K5 k obj i _ _ D H1) (fun D => ?_) _; rw [f94.K5_eq]
    refine ok_biff rfl ?_
    refine ok_bift rfl ?_
    refine genD (X := fun D => f94.K6 k obj i _ _ D H1) (fun D => ?_) _; rw [f94.K6_eq]
    refine ok_bift rfl ?_
    exact cs4 (below (Ok.ret ⟨by rw [ht]; rfl, A1⟩))
  · refine ok_biff rfl ?_
    refine ok_biff rfl ?_
    refine ok_biff rfl ?_
    refine ok_biff rfl ?_
    refine ok_biff rfl ?_
    refine ok_biff rfl ?_
    refine genD (X := fun D => f94.K1 k obj i _ _ D H1) (fun D => ?_) _; rw [f94.K1_eq]
    refine ok_biff rfl ?_
    refine ok_biff rfl ?_
    refine genD (X := fun D => f94.K2 k obj i _ _ D H1) (fun D => ?_) _; rw [f94.K2_eq]
    refine ok_biff rfl ?_
    refine ok_biff rfl ?_
    refine genD (X := fun D => f94.K3 k obj i _ _ D H1) (fun D => ?_) _; rw [f94.K3_eq]
    refine ok_biff rfl ?_
    refine ok_biff rfl ?_
    refine ok_biff rfl ?_
    refine ok_biff rfl ?_
    refine genD (X := fun D => f94.K4 k obj i _ _ D H1) (fun D => ?_) _; rw [f94.K4_eq]
    refine ok_biff rfl ?_
    refine ok_biff rfl ?_
    refine ok_biff rfl ?_
    refine ok_biff rfl ?_
    refine genD (X := fun D => f94.K5 k obj i _ _ D H1) (fun D => ?_) _; rw [f94.K5_eq]
    refine ok_biff rfl ?_
    refine ok_biff rfl ?_
    refine genD (X := fun D => f94.K6 k obj i _ _ D H1) (fun D => ?_) _; rw [f94.K6_eq]
    refine ok_bift rfl ?_
    exact cs4 (below (Ok.ret ⟨by rw [ht]; rfl, A1⟩))
  · refine ok_biff rfl ?_
    refine ok_biff rfl ?_
    refine ok_biff rfl ?_
    refine ok_biff rfl ?_
    refine ok_biff rfl ?_
    refine ok_biff rfl ?_
    refine genD (X := fun D => f94.K1 k obj i _ _ D H1) (fun D => ?_) _; rw [f94.K1_eq]
    refine ok_biff rfl ?_
    refine ok_biff rfl ?_
    refine genD (X := fun D => f94.K2 k obj i _ _ D H1) (fun D => ?_) _; rw [f94.K2_eq]
    refine ok_biff rfl ?_
    refine ok_biff rfl ?_
    refine genD (X := fun D => f94.K3 k obj i _ _ D H1) (fun D => ?_) _; rw [f94.K3_eq]
    refine ok_biff rfl ?_
    refine ok_biff rfl ?_
    refine ok_biff rfl ?_
    refine ok_biff rfl ?_
    refine genD (X := fun D => f94.K4 k obj i _ _ D H1) (fun D => ?_) _; rw [f94.K4_eq]
    refine ok_biff rfl ?_
    refine ok_biff rfl ?_
    refine ok_biff rfl ?_
    refine ok_biff rfl ?_
    refine genD (X := fun D => f94.K5 k obj i _ _ D H1) (fun D => ?_) _; rw [f94.K5_eq]
    refine ok_biff rfl ?_
    refine ok_biff rfl ?_
    refine genD (X := fun D => f94.K6 k obj i _ _ D H1) (fun D => ?_) _; rw [f94.K6_eq]
    refine ok_biff rfl ?_
    refine ok_bift rfl ?_
    refine ok_bift rfl ?_
    exact cs3 (below (Ok.ret ⟨by rw [hf]; rfl, A1⟩))
  · refine ok_biff rfl ?_
    refine ok_biff rfl ?_
    refine ok_biff rfl ?_
    refine ok_biff rfl ?_
    refine ok_biff rfl ?_
    refine ok_biff rfl ?_
    refine genD (X := fun D => f94.K1 k obj i _ _ D H1) (fun D => ?_) _; rw [f94.K1_eq]
    refine ok_biff rfl ?_
    refine ok_biff rfl ?_
    refine genD (X := fun D => f94.K2 k obj i _ _ D H1) (fun D => ?_) _; rw [f94.K2_eq]
    refine ok_biff rfl ?_
    refine ok_biff rfl ?_
    refine genD (X := fun D => f94.K3 k obj i _ _ D H1) (fun D => ?_) _; rw [f94.K3_eq]
    refine ok_biff rfl ?_
    refine ok_biff rfl ?_
    refine ok_biff rfl ?_
    refine ok_biff rfl ?_
    refine genD (X := fun D => f94.K4 k obj i _ _ D H1) (fun D => ?_) _; rw [f94.K4_eq]
    refine ok_biff rfl ?_
    refine ok_biff rfl ?_
    refine ok_biff rfl ?_
    refine ok_biff rfl ?_
    refine genD (X := fun D => f94.K5 k obj i _ _ D H1) (fun D => ?_) _; rw [f94.K5_eq]
    refine ok_biff rfl ?_
    refine ok_biff rfl ?_
    refine genD (X := fun D => f94.K6 k obj i _ _ D H1) (fun D => ?_) _; rw [f94.K6_eq]
    refine ok_biff rfl ?_
    refine ok_biff rfl ?_
    refine ok_bift rfl ?_
    exact cs3 (below (Ok.ret ⟨by rw [hf]; rfl, A1⟩))
  · refine ok_biff (hne _ (by decide)) ?_
    refine ok_biff (hne _ (by decide)) ?_
    refine ok_biff (hne _ (by decide)) ?_
    refine ok_biff (hne _ (by decide)) ?_
    refine ok_biff (hne _ (by decide)) ?_
    refine ok_biff (hne _ (by decide)) ?_
    refine genD (X := fun D => f94.K1 k obj i _ _ D H1) (fun D => ?_) _; rw [f94.K1_eq]
    refine ok_biff (hne _ (by decide)) ?_
    refine ok_biff (hne _ (by decide)) ?_
    refine genD (X := fun D => f94.K2 k obj i _ _ D H1) (fun D => ?_) _; rw [f94.K2_eq]
    refine ok_biff (hne _ (by decide)) ?_
    refine ok_biff (hne _ (by decide)) ?_
    refine genD (X := fun D => f94.K3 k obj i _ _ D H1) (fun D => ?_) _; rw [f94.K3_eq]
    refine ok_biff (hne _ (by decide)) ?_
    refine ok_biff (hne _ (by decide)) ?_
    refine ok_biff (hne _ (by decide)) ?_
    refine ok_biff (hne _ (by decide)) ?_
    refine genD (X := fun D => f94.K4 k obj i _ _ D H1) (fun D => ?_) _; rw [f94.K4_eq]
    refine ok_biff (hne _ (by decide)) ?_
    refine ok_biff (hne _ (by decide)) ?_
    refine ok_biff (hne _ (by decide)) ?_
    refine ok_biff (hne _ (by decide)) ?_
    refine genD (X := fun D => f94.K5 k obj i _ _ D H1) (fun D => ?_) _; rw [f94.K5_eq]
    refine ok_biff (hne _ (by decide)) ?_
    refine ok_biff (hne _ (by decide)) ?_
    refine genD (X := fun D => f94.K6 k obj i _ _ D H1) (fun D => ?_) _; rw [f94.K6_eq]
    refine ok_biff (hne _ (by decide)) ?_
    refine ok_biff (hne _ (by decide)) ?_
    refine ok_biff (hne _ (by decide)) ?_
    refine genD (X := fun D => f94.K7 k D H1) (fun D => ?_) _; rw [f94.K7_eq]
    exact Ok.ret ⟨by rw [other hne], A1⟩
end
end Go.Proofs.MxF
end

section
set_option linter.unusedSimpArgs false
/- What is asked of a thread before it goes on. -/
set_option linter.unusedVariables false
namespace Go.Proofs.MxF
open Go Go.Mx Go.Proofs
theorem and_l {a b : Bool} (h : (a && b) = true) : a = true := by cases a <;> simp_all
theorem and_r {a b : Bool} (h : (a && b) = true) : b = true := by cases a <;> simp_all
def lkS (s : SyncS) (i : Int) : LockS := s.locks.getD i.toNat ⟨-1, []⟩
def thS (s : SyncS) (i : Int) : ThS := s.ths.getD i.toNat ⟨0, 0, false⟩
def dnS (s : SyncS) (i : Int) : Bool := s.done.getD i.toNat false
def mtx (w : Wld) (i : Int) : Int := w.mutex.getD i.toNat 0
theorem nat_cast_toNat {i : Int} {n : Nat} (h : inR i n = true) : ((i.toNat : Nat) : Int) = i ∧ i.toNat < n := by have := inR_iff.1 h; omega
section
variable {F G : Nat → Prop} {H : AHeap} {aL : Option Addr} {lL : Nat} {aD : Option Addr} {lD : Nat} {aT : Option Addr} {lT : Nat} {ls : List LkV} {s : SyncS} {i : Int}
theorem SyncP.lk (h : SyncP F H aL lL aD lD aT lT ls s) (hi : inR i lL = true) : ∃ x, ls[i.toNat]? = some x ∧ x.pure = lkS s i ∧ IntsF F H x.a x.l x.rd := by
  obtain ⟨x, h1, h2, h3⟩ := h.lock (i := i.toNat) (nat_cast_toNat hi).2
  exact ⟨x, h1, by unfold lkS; rw [List.getD_eq_getElem?_getD, h2]; rfl, h3⟩
theorem SyncP.lkRow (h : SyncP F H aL lL aD lD aT lT ls s) (hi : inR i lL = true) : ∃ (q : Addr) (x : LkV), aL = some q ∧ H.row q.block (q.off + i.toNat * 2) 2 = some [.int .i64 x.own, .slice x.a x.l x.c] ∧ x.pure = lkS s i ∧ IntsF F H x.a x.l x.rd ∧ x ∈ ls := by
  obtain ⟨x, h1, h2, h3⟩ := h.lk hi
  obtain ⟨q, e, hq⟩ := tbl_row rowL_len (by omega) h.L.1 h1
  exact ⟨q, x, e, hq, h2, h3, List.mem_of_getElem? h1⟩
theorem SyncP.lkOwn (h : SyncP F H aL lL aD lD aT lT ls s) (hi : inR i lL = true) : ∃ q, aL = some q ∧ ldI .i64 H q.block (q.off + i.toNat * 2 + 0) = some (lkS s i).own := by
  obtain ⟨x, h1, h2, h3⟩ := h.lk hi
  obtain ⟨q, e, hq⟩ := tbl_ldI rowL_len h.L.1 h1 (j := 0) rfl
  exact ⟨q, e, by rw [← h2]; exact hq⟩
theorem SyncP.lkRd (h : SyncP F H aL lL aD lD aT lT ls s) (hi : inR i lL = true) : ∃ q a l c, aL = some q ∧ ldSl H q.block (q.off + i.toNat * 2 + 1) = some (a, l, c) ∧ IntsF F H a l (lkS s i).rd := by
  obtain ⟨x, h1, h2, h3⟩ := h.lk hi
  obtain ⟨q, e, hq⟩ := tbl_ldSl rowL_len h.L.1 h1 (j := 1) rfl
  exact ⟨q, _, _, _, e, hq, by rw [← h2]; exact h3⟩
theorem SyncP.th (h : SyncP F H aL lL aD lD aT lT ls s) (hi : inR i lT = true) : s.ths[i.toNat]? = some (thS s i) := by
  have hl := h.lenT
  have := List.getElem?_eq_getElem (show i.toNat < s.ths.length by have := (nat_cast_toNat hi).2; omega)
  unfold thS
  rw [List.getD_eq_getElem?_getD, this]; rfl
theorem SyncP.thRow (h : SyncP F H aL lL aD lD aT lT ls s) (hi : inR i lT = true) : ∃ q, aT = some q ∧ H.row q.block (q.off + i.toNat * 3) 3 = some [.int .i64 (thS s i).st, .int .i64 (thS s i).cd, .bool (thS s i).at'] := by
  obtain ⟨q, e, hq⟩ := tbl_row rowT_len (by omega) h.T.1 (h.th hi)
  exact ⟨q, e, hq⟩
theorem SyncP.thSt (h : SyncP F H aL lL aD lD aT lT ls s) (hi : inR i lT = true) : ∃ q, aT = some q ∧ ldI .i64 H q.block (q.off + i.toNat * 3 + 0) = some (thS s i).st := by
  obtain ⟨q, e, hq⟩ := tbl_ldI rowT_len h.T.1 (h.th hi) (j := 0) rfl
  exact ⟨q, e, hq⟩
theorem SyncP.thAt (h : SyncP F H aL lL aD lD aT lT ls s) (hi : inR i lT = true) : ∃ q, aT = some q ∧ ldB H q.block (q.off + i.toNat * 3 + 2) = some (thS s i).at' := by
  obtain ⟨q, e, hq⟩ := tbl_ldB rowT_len h.T.1 (h.th hi) (j := 2) rfl
  exact ⟨q, e, hq⟩
theorem SyncP.dn (h : SyncP F H aL lL aD lD aT lT ls s) (hi : inR i lD = true) : ∃ q, aD = some q ∧ ldB H q.block (q.off + i.toNat * 1) = some (dnS s i) := by
  have hl := h.lenD
  have hx := List.getElem?_eq_getElem (show i.toNat < s.done.length by have := (nat_cast_toNat hi).2; omega)
  obtain ⟨q, e, hq⟩ := tbl_ldB rowB_len h.D.1 hx (j := 0) rfl
  refine ⟨q, e, ?_⟩
  unfold dnS
  rw [List.getD_eq_getElem?_getD, hx]
  exact hq
theorem WorldP.mt {l0 : Nat} {a1 : Option Addr} {l1 : Nat} {a2 : Option Addr} {l2 l3 l4 : Nat} {ks : List (ByteArray × Bool)} {cs : List (ByteArray × Int)} {w : Wld} (h : WorldP F H l0 a1 l1 a2 l2 l3 l4 ks cs w) (hi : inR i l2 = true) :
    ∃ q, a2 = some q ∧ ldI .i64 H q.block (q.off + i.toNat * 2 + 1) = some (mtx w i) := by
  have hl := h.lenN
  have hlt : i.toNat < cs.length := by have := (nat_cast_toNat hi).2; omega
  have hx := List.getElem?_eq_getElem hlt
  obtain ⟨q, e, hq⟩ := tbl_ldI rowC_len h.N.1 hx (j := 1) rfl
  refine ⟨q, e, ?_⟩
  have : mtx w i = (cs[i.toNat]'hlt).2 := by unfold mtx; rw [← h.cq, List.getD_eq_getElem?_getD, List.getElem?_map, hx]; rfl
  rw [this]
  exact hq
theorem fits_facts {w : Wld} (h : fitsS w s = true) : (∀ i, inR i w.mutex.length = true → inR (mtx w i) w.rw.length = true) ∧ s.locks.length = w.rw.length ∧ s.done.length = w.futures ∧ s.ths.length = w.threads := by
  unfold fitsS at h
  have h1 := List.all_eq_true.1 (and_l h)
  have h2 := and_r h
  refine ⟨fun i hi => ?_, beq_iff_eq.1 (and_l h2), beq_iff_eq.1 (and_l (and_r h2)), beq_iff_eq.1 (and_r (and_r h2))⟩
  have hx := List.getElem?_eq_getElem (nat_cast_toNat hi).2
  have : mtx w i = w.mutex[i.toNat]'(nat_cast_toNat hi).2 := by unfold mtx; rw [List.getD_eq_getElem?_getD, hx]; rfl
  rw [this]
  exact h1 _ (List.getElem_mem _)
end
def lockingS (l : LockS) (th kind : Int) : Bool :=
  bif kind == 6 then l.own == -1
  else bif kind == 10 then (l.own == -1) && ((l.rd.length : Int) == 0)
  else bif kind == 8 then (l.own == -1) && !hasI l.rd th
  else bif kind == 9 then hasI l.rd th
  else l.own == th
def runningS (w : Wld) (s : SyncS) (th kind obj : Int) : Bool :=
  bif (kind == 6 || kind == 7 || kind == 8 || kind == 9 || kind == 10 || kind == 11) then lockingS (lkS s obj) th kind
  else bif kind == 12 then s.tx == -1
  else bif kind == 13 then s.tx == th
  else bif kind == 14 then !(thS s th).at'
  else bif kind == 15 then (thS s th).at'
  else bif (kind == 16 || kind == 18 || kind == 19) then (lkS s (mtx w obj)).own == th
  else bif kind == 20 then (obj != th) && ((thS s obj).st == 0)
  else bif kind == 21 then (obj != th) && ((thS s obj).st == 5)
  else bif kind == 22 then !dnS s obj
  else bif kind == 23 then dnS s obj
  else true
def readyS (w : Wld) (s : SyncS) (th kind obj : Int) : Bool :=
  bif kind == 1 then (thS s th).st == 1
  else bif kind == 17 then ((thS s th).st == 4) && (((thS s th).cd == obj) && ((lkS s (mtx w obj)).own == -1))
  else ((thS s th).st == 2) && runningS w s th kind obj
def enabledS (w : Wld) (s : SyncS) (th kind obj : Int) : Bool := fitsS w s && (inR th w.threads && (namedS w kind obj && readyS w s th kind obj))

theorem f78_loop {k l c : Nat} {a : Option Addr} {xs : List Int} {v : Int} {H : AHeap} (h : Ints H a l xs) (hl : l ≤ maxLen) : ∀ (m i n : Nat) (D : List Value), i + m = l → m < n →
    Ok (f78.L1 k n a l c v (i : Int) D H) fun r => r = (.bool (hasI (xs.drop i) v), H) := by
  intro m
  induction m with
  | zero =>
    intro i n D hm hn
    obtain ⟨n, rfl⟩ : ∃ j, n = j + 1 := ⟨n - 1, by omega⟩
    rw [f78.L1_s]
    refine ok_biff (by simp only [decide_eq_false_iff_not]; omega) (Ok.ret ?_)
    rw [hasI_end (by have := h.len; omega)]
  | succ m ih =>
    intro i n D hm hn
    obtain ⟨n, rfl⟩ : ∃ j, n = j + 1 := ⟨n - 1, by omega⟩
    rw [f78.L1_s]
    obtain ⟨q, x, hx, e, hq⟩ := Ints.at h (i := i) (by omega)
    refine ok_bift (by simp only [decide_eq_true_eq]; omega) (ok_bind e (ok_if (by omega) (ok_bind hq ?_)))
    rw [hasI_at hx, wrapS (l := l) (by omega) hl]
    refine ok_bif (fun hb => Ok.ret ?_) (fun hb => ?_)
    · rw [hb]; rfl
    · rw [hb, Bool.false_or]
      exact ih (i + 1) n _ (by omega) (by omega)
theorem f78_spec {k l c : Nat} {a : Option Addr} {xs : List Int} {H : AHeap} (h : Ints H a l xs) (hl : l ≤ maxLen) (hk : l + 2 ≤ k) (v : Int) :
    C k 78 [.slice a l c, .int .i64 v] H = some (.bool (hasI xs v), H) := by
  obtain ⟨k, rfl⟩ : ∃ j, k = j + 1 := ⟨k - 1, by omega⟩
  rw [f78_eq]
  exact eq_of_ok (f78_loop (k := k) (c := c) (v := v) h hl l 0 k _ (by omega) (by omega))
theorem bifAnd {H : AHeap} {a b : Bool} : (bif a then some (Value.bool b, H) else some (Value.bool false, H)) = some (Value.bool (a && b), H) := by cases a <;> rfl
/-- object.locking -/
theorem f92_spec {k : Nat} (hk : 1010 ≤ k) {H : AHeap} {x : LkV} (h : Ints H x.a x.l x.rd) (hl : x.l ≤ 1000) (th kind : Int) :
    ∃ H', C k 92 [.agg #[.int .i64 x.own, .slice x.a x.l x.c], .int .i64 th, .int .i64 kind] H = some (.bool (lockingS x.pure th kind), H') ∧ Agree H H' := by
  obtain ⟨k, rfl⟩ : ∃ j, k = j + 1 := ⟨k - 1, by omega⟩
  rw [f92_eq]
  have hlen := h.len
  have hm : maxLen = 9223372036854775807 := rfl
  refine call_of_ok (ok_al fun i H1 hi n1 A1 B1 => ?_)
  have h1 := h.agree A1
  show Ok _ fun (r : Value × AHeap) => r.1 = Value.bool (lockingS ⟨x.own, x.rd⟩ th kind) ∧ Agree H r.2
  unfold lockingS
  refine ok_bif (fun c => ?_) (fun c => ?_)
  · rw [c]; exact ok_bind (ldI_at B1 (by simp) rfl) (Ok.ret ⟨rfl, A1⟩)
  rw [c]
  refine ok_bif (fun c => ?_) (fun c => ?_)
  · rw [c]
    refine ok_bind (ldI_at B1 (by simp) rfl) (ok_bif (fun d => ok_bSl (ldSl_at B1 (by simp) rfl) (Ok.ret ⟨?_, A1⟩)) (fun d => Ok.ret ⟨?_, A1⟩))
    · show _ = Value.bool ((x.own == -1) && ((x.rd.length : Int) == 0))
      rw [d, hlen]; rfl
    · show _ = Value.bool ((x.own == -1) && ((x.rd.length : Int) == 0))
      rw [d]; rfl
  rw [c]
  refine ok_bif (fun c => ?_) (fun c => ?_)
  · rw [c]
    refine ok_bind (ldI_at B1 (by simp) rfl) (ok_bif (fun d => ok_bSl (ldSl_at B1 (by simp) rfl) (ok_cB0 (f63_spec h1 (by omega) (by omega) th) (Ok.ret ⟨?_, A1⟩))) (fun d => Ok.ret ⟨?_, A1⟩))
    · show _ = Value.bool ((x.own == -1) && !hasI x.rd th)
      rw [d]; rfl
    · show _ = Value.bool ((x.own == -1) && !hasI x.rd th)
      rw [d]; rfl
  rw [c]
  refine ok_bif (fun c => ?_) (fun c => ?_)
  · rw [c]
    exact ok_bSl (ldSl_at B1 (by simp) rfl) (ok_cB0 (f63_spec h1 (by omega) (by omega) th) (Ok.ret ⟨rfl, A1⟩))
  rw [c]
  exact ok_bind (ldI_at B1 (by simp) rfl) (Ok.ret ⟨rfl, A1⟩)
end Go.Proofs.MxF
end

section
set_option linter.unusedSimpArgs false
/- object.Enabled. -/
set_option linter.unusedVariables false
namespace Go.Proofs.MxF
open Go Go.Mx Go.Proofs
section
variable {k : Nat} {F G : Nat → Prop} {H0 : AHeap} {p5 p6 : Nat} {a0 : Option Addr} {l0 c0 : Nat} {a1 : Option Addr} {l1 c1 : Nat} {a2 : Option Addr} {l2 c2 : Nat} {a3 : Option Addr} {l3 c3 : Nat} {a4 : Option Addr} {l4 c4 : Nat} {a5 : Option Addr} {l5 c5 : Nat} {ks : List (ByteArray × Bool)} {cs : List (ByteArray × Int)} {w : Wld}
  {aL : Option Addr} {lL cL : Nat} {aD : Option Addr} {lD cD : Nat} {aT : Option Addr} {lT cT : Nat} {ls : List LkV} {s : SyncS} {th obj : Int}
/-- what is known when a running thread is asked -/
structure Asks (F G : Nat → Prop) (H : AHeap) (p5 p6 : Nat) (a0 : Option Addr) (l0 c0 : Nat) (a1 : Option Addr) (l1 c1 : Nat) (a2 : Option Addr) (l2 c2 : Nat) (a3 : Option Addr) (l3 c3 : Nat) (a4 : Option Addr) (l4 c4 : Nat) (a5 : Option Addr) (l5 c5 : Nat) (ks : List (ByteArray × Bool)) (cs : List (ByteArray × Int)) (w : Wld)
    (aL : Option Addr) (lL cL : Nat) (aD : Option Addr) (lD cD : Nat) (aT : Option Addr) (lT cT : Nat) (ls : List LkV) (s : SyncS) (th : Int) : Prop where
  W : WorldP F H l0 a1 l1 a2 l2 l3 l4 ks cs w
  S : SyncP G H aL lL aD lD aT lT ls s
  b : WS p5 p6 H a0 l0 c0 a1 l1 c1 a2 l2 c2 a3 l3 c3 a4 l4 c4 a5 l5 c5 aL lL cL s.tx aD lD cD aT lT cT
  fit : fitsS w s = true
  th : inR th w.threads = true
  rd : ∀ x ∈ ls, x.l ≤ 1000
theorem Asks.agree {H H' : AHeap} (h : Asks F G H p5 p6 a0 l0 c0 a1 l1 c1 a2 l2 c2 a3 l3 c3 a4 l4 c4 a5 l5 c5 ks cs w aL lL cL aD lD cD aT lT cT ls s th) (A : Agree H H') :
    Asks F G H' p5 p6 a0 l0 c0 a1 l1 c1 a2 l2 c2 a3 l3 c3 a4 l4 c4 a5 l5 c5 ks cs w aL lL cL aD lD cD aT lT cT ls s th := ⟨h.W.agree A, h.S.agree A, h.b.agree A, h.fit, h.th, h.rd⟩
theorem Asks.lens {H : AHeap} (h : Asks F G H p5 p6 a0 l0 c0 a1 l1 c1 a2 l2 c2 a3 l3 c3 a4 l4 c4 a5 l5 c5 ks cs w aL lL cL aD lD cD aT lT cT ls s th) :
    lL = w.rw.length ∧ lD = w.futures ∧ lT = w.threads ∧ l2 = w.mutex.length ∧ (∀ i, inR i w.mutex.length = true → inR (mtx w i) w.rw.length = true) := by
  obtain ⟨f1, f2, f3, f4⟩ := fits_facts h.fit
  have := h.S.lenL'
  have := h.S.lenD
  have := h.S.lenT
  have := h.W.lenN'
  exact ⟨by omega, by omega, by omega, by omega, f1⟩
/-- the owner of a condition's mutex -/
theorem own_of_mutex {H : AHeap} (h : Asks F G H p5 p6 a0 l0 c0 a1 l1 c1 a2 l2 c2 a3 l3 c3 a4 l4 c4 a5 l5 c5 ks cs w aL lL cL aD lD cD aT lT cT ls s th) (hn : inR obj w.mutex.length = true) {n : Nat} {K : Int → Option (Value × AHeap)} {Q : Value × AHeap → Prop}
    (k : Ok (K (lkS s (mtx w obj)).own) Q) :
    Ok (bif sameB H (H.bump n) p6 then bSl (ldSl (H.bump n) p6 0) fun a l c => bif sameB H (H.bump n) p5 then bSl (ldSl (H.bump n) p5 2) fun a_1 l_1 c_1 => a_1.bind fun q => if 0 ≤ obj ∧ obj < (l_1 : Int) then
      bif sameB H (H.bump n) q.block then (ldI .i64 (H.bump n) q.block (q.off + obj.toNat * 2 + 1)).bind fun x => a.bind fun q_1 => if 0 ≤ x ∧ x < (l : Int) then bif sameB H (H.bump n) q_1.block then
      (ldI .i64 (H.bump n) q_1.block (q_1.off + x.toNat * 2 + 0)).bind K else none else none else none else none else none else none) Q := by
  obtain ⟨e1, e2, e3, e4, e5⟩ := h.lens
  have Ab := agree_bump H n
  have hb := h.agree Ab
  obtain ⟨e, v, b5⟩ := h.b.b2
  obtain ⟨e', v', b6⟩ := h.b.b3
  have r1 := inR_iff.1 hn
  have hm := e5 _ hn
  have r2 := inR_iff.1 hm
  obtain ⟨q, eq, hq⟩ := hb.W.mt (i := obj) (by rw [e4]; exact hn)
  obtain ⟨q', eq', hq'⟩ := hb.S.lkOwn (i := mtx w obj) (by rw [e1]; exact hm)
  refine ok_bift (sameB_agree b6 Ab) (ok_bSl (ldSl_at (b6.agree Ab) (by simp) rfl) (ok_bift (sameB_agree b5 Ab) (ok_bSl (ldSl_at (b5.agree Ab) (by simp) rfl) (ok_bind eq (ok_if (by omega) (ok_bift (h.W.N.1.stay eq _ Ab) (ok_bind hq ?_)))))))
  exact ok_bind eq' (ok_if (by omega) (ok_bift (h.S.L.1.stay eq' _ Ab) (ok_bind hq' k)))
/-- the second half of what is asked -/
def runTail (w : Wld) (s : SyncS) (th kind obj : Int) (b : Bool) : Bool :=
  bif b then (lkS s (mtx w obj)).own == th
  else bif kind == 20 then (obj != th) && ((thS s obj).st == 0)
  else bif kind == 21 then (obj != th) && ((thS s obj).st == 5)
  else bif kind == 22 then !dnS s obj
  else bif kind == 23 then dnS s obj
  else true
theorem f72_tail {H : AHeap} (A : Agree H0 H) (h : Asks F G H p5 p6 a0 l0 c0 a1 l1 c1 a2 l2 c2 a3 l3 c3 a4 l4 c4 a5 l5 c5 ks cs w aL lL cL aD lD cD aT lT cT ls s th) {kind : Int} (hn : namedS w kind obj = true) (D : List Value) (b : Bool)
    (hb : b = true → inR obj w.mutex.length = true) :
    Ok (f72.K2 k th obj p5 p6 kind b D H) fun r => r.1 = .bool (runTail w s th kind obj b) ∧ Agree H0 r.2 := by
  obtain ⟨e1, e2, e3, e4, e5⟩ := h.lens
  obtain ⟨e, v, b5⟩ := h.b.b2
  obtain ⟨e', v', b6⟩ := h.b.b3
  rw [f72.K2_eq]
  unfold runTail
  refine ok_bif (fun hc => ?_) (fun hc => ?_)
  · rw [hc]
    exact own_of_mutex h (hb hc) (Ok.ret ⟨rfl, A.trans (agree_bump H 14)⟩)
  rw [hc]
  refine ok_bif (fun c => ?_) (fun c => ?_)
  · have ho : inR obj w.threads = true := by rw [beq_iff_eq] at c; subst c; exact hn
    have ro := inR_iff.1 ho
    obtain ⟨q, eq, hq⟩ := h.S.thSt (i := obj) (by rw [e3]; exact ho)
    rw [c]
    refine ok_bif (fun d => ok_bSl (ldSl_at b6 (by simp) rfl) (ok_bind eq (ok_if (by omega) (ok_bind hq (Ok.ret ⟨?_, A⟩))))) (fun d => Ok.ret ⟨?_, A⟩)
    · rw [d]; rfl
    · rw [d]; rfl
  rw [c]
  refine ok_bif (fun c => ?_) (fun c => ?_)
  · have ho : inR obj w.threads = true := by rw [beq_iff_eq] at c; subst c; exact hn
    have ro := inR_iff.1 ho
    obtain ⟨q, eq, hq⟩ := h.S.thSt (i := obj) (by rw [e3]; exact ho)
    rw [c]
    refine ok_bif (fun d => ok_bSl (ldSl_at b6 (by simp) rfl) (ok_bind eq (ok_if (by omega) (ok_bind hq (Ok.ret ⟨?_, A⟩))))) (fun d => Ok.ret ⟨?_, A⟩)
    · rw [d]; rfl
    · rw [d]; rfl
  rw [c]
  refine ok_bif (fun c => ?_) (fun c => ?_)
  · have ho : inR obj w.futures = true := by rw [beq_iff_eq] at c; subst c; exact hn
    have ro := inR_iff.1 ho
    obtain ⟨q, eq, hq⟩ := h.S.dn (i := obj) (by rw [e2]; exact ho)
    rw [c]
    exact ok_bSl (ldSl_at b6 (by simp) rfl) (ok_bind eq (ok_if (by omega) (ok_bind hq (Ok.ret ⟨rfl, A⟩))))
  rw [c]
  refine ok_bif (fun c => ?_) (fun c => ?_)
  · have ho : inR obj w.futures = true := by rw [beq_iff_eq] at c; subst c; exact hn
    have ro := inR_iff.1 ho
    obtain ⟨q, eq, hq⟩ := h.S.dn (i := obj) (by rw [e2]; exact ho)
    rw [c]
    exact ok_bSl (ldSl_at b6 (by simp) rfl) (ok_bind eq (ok_if (by omega) (ok_bind hq (Ok.ret ⟨rfl, A⟩))))
  rw [c, f72.K3_eq]
  exact Ok.ret ⟨rfl, A⟩
theorem run_tail (w : Wld) (s : SyncS) (th kind obj : Int) (h : (kind == 6 || kind == 7 || kind == 8 || kind == 9 || kind == 10 || kind == 11) = false) (h12 : (kind == 12) = false) (h13 : (kind == 13) = false) (h14 : (kind == 14) = false) (h15 : (kind == 15) = false) :
    runningS w s th kind obj = runTail w s th kind obj (kind == 16 || kind == 18 || kind == 19) := by
  unfold runningS runTail
  rw [h, h12, h13, h14, h15]
  rfl
theorem mtx_named {w : Wld} {kind obj : Int} (hn : namedS w kind obj = true) (h : kind = 16 ∨ kind = 17 ∨ kind = 18 ∨ kind = 19) : inR obj w.mutex.length = true := by
  rcases h with rfl | rfl | rfl | rfl <;> exact hn
theorem f72_run (hk : 1100 ≤ k) {H : AHeap} (A : Agree H0 H) (h : Asks F G H p5 p6 a0 l0 c0 a1 l1 c1 a2 l2 c2 a3 l3 c3 a4 l4 c4 a5 l5 c5 ks cs w aL lL cL aD lD cD aT lT cT ls s th) {kind : Int} (hn : namedS w kind obj = true) (D : List Value) (b : Bool)
    (hb : b = (kind == 6 || kind == 7 || kind == 8 || kind == 9 || kind == 10 || kind == 11)) :
    Ok (f72.K1 k th kind obj p5 p6 kind b D H) fun r => r.1 = .bool (runningS w s th kind obj) ∧ Agree H0 r.2 := by
  obtain ⟨e1, e2, e3, e4, e5⟩ := h.lens
  obtain ⟨e, v, b5⟩ := h.b.b2
  obtain ⟨e', v', b6⟩ := h.b.b3
  have rt := inR_iff.1 h.th
  rw [f72.K1_eq]
  unfold runningS
  rw [← hb]
  refine ok_bif (fun hc => ?_) (fun hc => ?_)
  · rw [hc]
    have ho : inR obj w.rw.length = true := by
      rw [hc] at hb
      have hb := hb.symm
      simp only [Bool.or_eq_true, beq_iff_eq] at hb
      rcases hb with ((((rfl | rfl) | rfl) | rfl) | rfl) | rfl
      all_goals exact and_l (b := _) hn
    have ro := inR_iff.1 ho
    obtain ⟨q, x, eq, hq, hx, hxi, hxm⟩ := h.S.lkRow (i := obj) (by rw [e1]; exact ho)
    have hxl : x.l ≤ 1000 := h.rd x hxm
    refine ok_bSl (ldSl_at b6 (by simp) rfl) (ok_bind eq (ok_if (by omega) (ok_bind hq ?_)))
    refine ok_cB (f92_spec (by omega) hxi.1 hxl th kind) fun H1 A1 => Ok.ret ⟨by rw [hx]; rfl, A.trans A1⟩
  refine ok_bif (fun c => ?_) (fun c12 => ?_)
  · rw [hc, c]; exact ok_bind (ldI_at b6 (by simp) rfl) (Ok.ret ⟨rfl, A⟩)
  refine ok_bif (fun c => ?_) (fun c13 => ?_)
  · rw [hc, c12, c]; exact ok_bind (ldI_at b6 (by simp) rfl) (Ok.ret ⟨rfl, A⟩)
  refine ok_bif (fun c => ?_) (fun c14 => ?_)
  · obtain ⟨q, eq, hq⟩ := h.S.thAt (i := th) (by rw [e3]; exact h.th)
    rw [hc, c12, c13, c]
    exact ok_bSl (ldSl_at b6 (by simp) rfl) (ok_bind eq (ok_if (by omega) (ok_bind hq (Ok.ret ⟨rfl, A⟩))))
  refine ok_bif (fun c => ?_) (fun c15 => ?_)
  · obtain ⟨q, eq, hq⟩ := h.S.thAt (i := th) (by rw [e3]; exact h.th)
    rw [hc, c12, c13, c14, c]
    exact ok_bSl (ldSl_at b6 (by simp) rfl) (ok_bind eq (ok_if (by omega) (ok_bind hq (Ok.ret ⟨rfl, A⟩))))
  rw [hc, c12, c13, c14, c15]
  show Ok _ fun (r : Value × AHeap) => r.1 = Value.bool (runTail w s th kind obj (kind == 16 || kind == 18 || kind == 19)) ∧ Agree H0 r.2
  refine ok_bif (fun c => ?_) (fun c16 => ?_)
  · have hb : (kind == 16 || kind == 18 || kind == 19) = (kind == 16) := by rw [c]; rfl
    rw [hb]
    exact f72_tail A h hn _ _ fun _ => mtx_named hn (by rw [beq_iff_eq] at c; omega)
  refine ok_bif (fun c => ?_) (fun c18 => ?_)
  · have hb : (kind == 16 || kind == 18 || kind == 19) = (kind == 18) := by rw [c16, c]; rfl
    rw [hb]
    exact f72_tail A h hn _ _ fun _ => mtx_named hn (by rw [beq_iff_eq] at c; omega)
  · have hb : (kind == 16 || kind == 18 || kind == 19) = (kind == 19) := by rw [c16, c18]; rfl
    rw [hb]
    exact f72_tail A h hn _ _ fun c => mtx_named hn (by rw [beq_iff_eq] at c; omega)
end
end Go.Proofs.MxF
end

section
set_option linter.unusedSimpArgs false
/- object.Enabled: the whole. -/
set_option linter.unusedVariables false
namespace Go.Proofs.MxF
open Go Go.Mx Go.Proofs
section
variable {k : Nat} {F G : Nat → Prop} {H0 : AHeap} {p5 p6 : Nat} {a0 : Option Addr} {l0 c0 : Nat} {a1 : Option Addr} {l1 c1 : Nat} {a2 : Option Addr} {l2 c2 : Nat} {a3 : Option Addr} {l3 c3 : Nat} {a4 : Option Addr} {l4 c4 : Nat} {a5 : Option Addr} {l5 c5 : Nat} {ks : List (ByteArray × Bool)} {cs : List (ByteArray × Int)} {w : Wld}
  {aL : Option Addr} {lL cL : Nat} {aD : Option Addr} {lD cD : Nat} {aT : Option Addr} {lT cT : Nat} {ls : List LkV} {s : SyncS} {th obj : Int}
theorem f72_spec (hk : 1200 ≤ k) {H : AHeap} (hW : WorldP F H l0 a1 l1 a2 l2 l3 l4 ks cs w) (hS : SyncP G H aL lL aD lD aT lT ls s) (fit : fitsS w s = true) (ht : inR th w.threads = true) (hrd : ∀ x ∈ ls, x.l ≤ 1000) {kind : Int} (hn : namedS w kind obj = true) :
    ∃ H', C k 72 [.agg #[.slice a0 l0 c0, .slice a1 l1 c1, .slice a2 l2 c2, .slice a3 l3 c3, .slice a4 l4 c4, .slice a5 l5 c5], .agg #[.slice aL lL cL, .int .i64 s.tx, .slice aD lD cD, .slice aT lT cT], .int .i64 th, .int .i64 kind, .int .i64 obj] H = some (.bool (runningS w s th kind obj), H') ∧ Agree H H' := by
  obtain ⟨k, rfl⟩ : ∃ j, k = j + 1 := ⟨k - 1, by omega⟩
  rw [f72_eq]
  refine call_of_ok (ok_al fun i H1 hi n1 A1 B1 => ok_al fun i' H2 hi' n2 A2 B2 => ?_)
  have A := A1.trans A2
  have h : Asks F G H2 i i' a0 l0 c0 a1 l1 c1 a2 l2 c2 a3 l3 c3 a4 l4 c4 a5 l5 c5 ks cs w aL lL cL aD lD cD aT lT cT ls s th := ⟨hW.agree A, hS.agree A, ⟨⟨_, _, B1.agree A2⟩, ⟨_, _, B2⟩⟩, fit, ht, hrd⟩
  refine ok_bif (fun c => f72_run (by omega) A h hn _ _ (by rw [c]; rfl)) (fun c6 => ?_)
  refine ok_bif (fun c => f72_run (by omega) A h hn _ _ (by rw [c6, c]; rfl)) (fun c7 => ?_)
  refine ok_bif (fun c => f72_run (by omega) A h hn _ _ (by rw [c6, c7, c]; rfl)) (fun c8 => ?_)
  refine ok_bif (fun c => f72_run (by omega) A h hn _ _ (by rw [c6, c7, c8, c]; rfl)) (fun c9 => ?_)
  refine ok_bif (fun c => f72_run (by omega) A h hn _ _ (by rw [c6, c7, c8, c9, c]; rfl)) (fun c10 => ?_)
  exact f72_run (by omega) A h hn _ _ (by rw [c6, c7, c8, c9, c10]; rfl)
theorem f39_K1 (hk : 1200 ≤ k) {H : AHeap} (A : Agree H0 H) (h : Asks F G H p5 p6 a0 l0 c0 a1 l1 c1 a2 l2 c2 a3 l3 c3 a4 l4 c4 a5 l5 c5 ks cs w aL lL cL aD lD cD aT lT cT ls s th) {kind : Int} (hn : namedS w kind obj = true) (D : List Value) :
    Ok (f39.K1 k th kind obj p5 p6 D H) fun r => r.1 = .bool (readyS w s th kind obj) ∧ Agree H0 r.2 := by
  obtain ⟨e1, e2, e3, e4, e5⟩ := h.lens
  obtain ⟨e, v, b5⟩ := h.b.b2
  obtain ⟨e', v', b6⟩ := h.b.b3
  have rt := inR_iff.1 h.th
  rw [f39.K1_eq]
  unfold readyS
  obtain ⟨q, eq, hq⟩ := h.S.thRow (i := th) (by rw [e3]; exact h.th)
  refine ok_bSl (ldSl_at b6 (by simp) rfl) (ok_bind eq (ok_if (by omega) (ok_bind hq (ok_al fun i H1 hi n1 A1 B1 => ok_if ⟨rfl, rfl⟩ (ok_wr B1 rfl (by simp) fun H2 W2 => ?_)))))
  have A2 : Agree H H2 := A1.wrote W2 (by omega)
  have h2 := h.agree A2
  have B2 := W2.at'
  have AA := A.trans A2
  refine ok_bif (fun c => ?_) (fun g1 => ?_)
  · rw [c]; exact ok_bind (ldI_at B2 (by simp) rfl) (Ok.ret ⟨rfl, AA⟩)
  rw [g1]
  refine ok_bif (fun c => ?_) (fun g17 => ?_)
  · rw [c]
    have Ab := agree_bump H2 24
    have sb := sameB_agree B2 Ab
    refine ok_bift sb (ok_bind (ldI_at (B2.agree Ab) (by simp) rfl) (ok_bif (fun d => ?_) (fun d => Ok.ret ⟨?_, AA.trans Ab⟩)))
    · refine ok_bift sb (ok_bind (ldI_at (B2.agree Ab) (by simp) rfl) (ok_bif (fun d2 => ?_) (fun d2 => Ok.ret ⟨?_, AA.trans Ab⟩)))
      · refine own_of_mutex h2 (mtx_named hn (by rw [beq_iff_eq] at c; omega)) (Ok.ret ⟨?_, AA.trans Ab⟩)
        rw [d, d2]; rfl
      · rw [d, d2]; rfl
    · rw [d]; rfl
  rw [g17]
  refine ok_bind (ldI_at B2 (by simp) rfl) (ok_bif (fun d => ?_) (fun d => Ok.ret ⟨?_, AA⟩))
  · obtain ⟨e, v, b5⟩ := h2.b.b2
    obtain ⟨e', v', b6⟩ := h2.b.b3
    have r5 : H2.row p5 0 6 = some [.slice a0 l0 c0, .slice a1 l1 c1, .slice a2 l2 c2, .slice a3 l3 c3, .slice a4 l4 c4, .slice a5 l5 c5] := row_at b5 (by simp) (by simp)
    have r6 : H2.row p6 0 4 = some [.slice aL lL cL, .int .i64 s.tx, .slice aD lD cD, .slice aT lT cT] := row_at b6 (by simp) (by simp)
    refine ok_bind r5 (ok_bind r6 (ok_cB (f72_spec (by omega) h2.W h2.S h.fit h.th h.rd hn) fun H3 A3 => Ok.ret ⟨?_, AA.trans A3⟩))
    rw [d]; rfl
  · rw [d]; rfl
end
theorem rd_le {F : Nat → Prop} {H : AHeap} {aL : Option Addr} {lL : Nat} {aD : Option Addr} {lD : Nat} {aT : Option Addr} {lT : Nat} {ls : List LkV} {s : SyncS} {n : Nat} (h : SyncP F H aL lL aD lD aT lT ls s) (hr : ∀ x ∈ s.locks, x.rd.length ≤ n) : ∀ x ∈ ls, x.l ≤ n := by
  intro x hx
  have e := Ints.len (h.rd x hx).1
  have : x.pure.rd.length ≤ n := hr x.pure (by rw [← h.locks]; exact List.mem_map_of_mem hx)
  have : x.rd.length ≤ n := this
  omega
/-- object.Enabled -/
theorem f39_spec {k : Nat} (hk : 1300 ≤ k) {F G : Nat → Prop} {H : AHeap} {wc sc : List Value} {w : Wld} {s : SyncS} (hw : WorldR F H wc w) (hs : SyncR G H sc s) (hr : ∀ x ∈ s.locks, x.rd.length ≤ 1000) (th kind obj : Int) :
    ∃ H', C k 39 [.agg wc.toArray, .agg sc.toArray, .int .i64 th, .int .i64 kind, .int .i64 obj] H = some (.bool (enabledS w s th kind obj), H') ∧ Agree H H' := by
  obtain ⟨k, rfl⟩ : ∃ j, k = j + 1 := ⟨k - 1, by omega⟩
  have hw0 := hw
  have hs0 := hs
  obtain ⟨a0, l0, c0, a1, l1, c1, a2, l2, c2, a3, l3, c3, a4, l4, c4, a5, l5, c5, ks, cs, rfl, hw⟩ := hw
  obtain ⟨aL, lL, cL, aD, lD, cD, aT, lT, cT, ls, rfl, hs⟩ := hs
  rw [f39_eq]
  refine call_of_ok (ok_al fun i H1 hi n1 A1 B1 => ok_al fun i' H2 hi' n2 A2 B2 => ?_)
  have A02 := A1.trans A2
  have B12 := B1.agree A2
  have rw5 : ∀ H', Agree H2 H' → H'.row i 0 6 = some [.slice a0 l0 c0, .slice a1 l1 c1, .slice a2 l2 c2, .slice a3 l3 c3, .slice a4 l4 c4, .slice a5 l5 c5] := fun H' A => row_at (B12.agree A) (by simp) (by simp)
  have rw6 : ∀ H', Agree H2 H' → H'.row i' 0 4 = some [.slice aL lL cL, .int .i64 s.tx, .slice aD lD cD, .slice aT lT cT] := fun H' A => row_at (B2.agree A) (by simp) (by simp)
  have hk1 : 1100 ≤ k := by omega
  unfold enabledS
  refine ok_bind (rw5 _ (Agree.refl _)) (ok_bind (rw6 _ (Agree.refl _)) (ok_cB (f65_spec hk1 (hw0.agree A02) (hs0.agree A02)) fun H3 A3 => ok_bif (fun c => Ok.ret ⟨?_, A02.trans A3⟩) (fun c => ?_)))
  · have : fitsS w s = false := by simpa using c
    rw [this]; rfl
  have hf : fitsS w s = true := by simpa using c
  rw [hf, Bool.true_and]
  have ht := hw.t
  refine ok_bSl (ldSl_at (B12.agree A3) (by simp) rfl) (ok_cB0 (f70_spec (by omega) th l4 H3) (ok_bif (fun c => Ok.ret ⟨?_, A02.trans A3⟩) (fun c => ?_)))
  · have : inR th l4 = false := by simpa using c
    rw [← ht, this]; rfl
  have hth : inR th l4 = true := by simpa using c
  rw [← ht, hth, Bool.true_and]
  refine ok_bind (rw5 _ A3) (ok_cB (f71_spec (by omega) (hw0.agree (A02.trans A3)) kind obj) fun H4 A4 => ok_bif (fun c => Ok.ret ⟨?_, (A02.trans A3).trans A4⟩) (fun c => ?_))
  · have : namedS w kind obj = false := by simpa using c
    rw [this]; rfl
  have hn : namedS w kind obj = true := by simpa using c
  rw [hn, Bool.true_and]
  have A34 := A3.trans A4
  have A04 := A02.trans A34
  exact f39_K1 (by omega) A04 ⟨hw.agree A04, hs.agree A04, ⟨⟨_, _, B12.agree A34⟩, ⟨_, _, B2.agree A34⟩⟩, hf, by rw [← ht]; exact hth, rd_le hs hr⟩ hn _
end Go.Proofs.MxF
end

section
set_option linter.unusedSimpArgs false
/- The reference's Enabled. -/
set_option linter.unusedVariables false
namespace Go.Proofs.MxF
open Go Go.Mx Go.Proofs
section
variable {k : Nat} {F G : Nat → Prop} {H0 : AHeap} {p5 p6 p11 : Nat} {a0 : Option Addr} {l0 c0 : Nat} {a1 : Option Addr} {l1 c1 : Nat} {a2 : Option Addr} {l2 c2 : Nat} {a3 : Option Addr} {l3 c3 : Nat} {a4 : Option Addr} {l4 c4 : Nat} {a5 : Option Addr} {l5 c5 : Nat} {ks : List (ByteArray × Bool)} {cs : List (ByteArray × Int)} {w : Wld}
  {aL : Option Addr} {lL cL : Nat} {aD : Option Addr} {lD cD : Nat} {aT : Option Addr} {lT cT : Nat} {ls : List LkV} {s : SyncS} {th obj : Int}
theorem f73_K3 {H : AHeap} (A : Agree H0 H) (h : Asks F G H p5 p6 a0 l0 c0 a1 l1 c1 a2 l2 c2 a3 l3 c3 a4 l4 c4 a5 l5 c5 ks cs w aL lL cL aD lD cD aT lT cT ls s th) {kind : Int} (hn : namedS w kind obj = true) (D : List Value) (b : Bool)
    (hb : b = true → inR obj w.mutex.length = true) :
    Ok (f73.K3 k th obj p5 p6 kind b D H) fun r => r.1 = .bool (runTail w s th kind obj b) ∧ Agree H0 r.2 := by
  obtain ⟨e1, e2, e3, e4, e5⟩ := h.lens
  obtain ⟨e, v, b5⟩ := h.b.b2
  obtain ⟨e', v', b6⟩ := h.b.b3
  rw [f73.K3_eq]
  unfold runTail
  refine ok_bif (fun hc => ?_) (fun hc => ?_)
  · rw [hc]
    exact own_of_mutex h (hb hc) (Ok.ret ⟨rfl, A.trans (agree_bump H 14)⟩)
  rw [hc]
  refine ok_bif (fun c => ?_) (fun c => ?_)
  · have ho : inR obj w.threads = true := by rw [beq_iff_eq] at c; subst c; exact hn
    have ro := inR_iff.1 ho
    obtain ⟨q, eq, hq⟩ := h.S.thSt (i := obj) (by rw [e3]; exact ho)
    rw [c]
    refine ok_bif (fun d => ok_bSl (ldSl_at b6 (by simp) rfl) (ok_bind eq (ok_if (by omega) (ok_bind hq (Ok.ret ⟨?_, A⟩))))) (fun d => Ok.ret ⟨?_, A⟩)
    · rw [d]; rfl
    · rw [d]; rfl
  rw [c]
  refine ok_bif (fun c => ?_) (fun c => ?_)
  · have ho : inR obj w.threads = true := by rw [beq_iff_eq] at c; subst c; exact hn
    have ro := inR_iff.1 ho
    obtain ⟨q, eq, hq⟩ := h.S.thSt (i := obj) (by rw [e3]; exact ho)
    rw [c]
    refine ok_bif (fun d => ok_bSl (ldSl_at b6 (by simp) rfl) (ok_bind eq (ok_if (by omega) (ok_bind hq (Ok.ret ⟨?_, A⟩))))) (fun d => Ok.ret ⟨?_, A⟩)
    · rw [d]; rfl
    · rw [d]; rfl
  rw [c]
  refine ok_bif (fun c => ?_) (fun c => ?_)
  · have ho : inR obj w.futures = true := by rw [beq_iff_eq] at c; subst c; exact hn
    have ro := inR_iff.1 ho
    obtain ⟨q, eq, hq⟩ := h.S.dn (i := obj) (by rw [e2]; exact ho)
    rw [c]
    exact ok_bSl (ldSl_at b6 (by simp) rfl) (ok_bind eq (ok_if (by omega) (ok_bind hq (Ok.ret ⟨rfl, A⟩))))
  rw [c]
  refine ok_bif (fun c => ?_) (fun c => ?_)
  · have ho : inR obj w.futures = true := by rw [beq_iff_eq] at c; subst c; exact hn
    have ro := inR_iff.1 ho
    obtain ⟨q, eq, hq⟩ := h.S.dn (i := obj) (by rw [e2]; exact ho)
    rw [c]
    exact ok_bSl (ldSl_at b6 (by simp) rfl) (ok_bind eq (ok_if (by omega) (ok_bind hq (Ok.ret ⟨rfl, A⟩))))
  rw [c]
  exact Ok.ret ⟨rfl, A⟩
theorem f73_K2 (hk : 1100 ≤ k) {H : AHeap} (A : Agree H0 H) (h : Asks F G H p5 p6 a0 l0 c0 a1 l1 c1 a2 l2 c2 a3 l3 c3 a4 l4 c4 a5 l5 c5 ks cs w aL lL cL aD lD cD aT lT cT ls s th) {kind : Int} (hn : namedS w kind obj = true) (D : List Value) (b : Bool)
    (hb : b = (kind == 7 || kind == 11)) (h6 : (kind == 6) = false) (h10 : (kind == 10) = false) (h8 : (kind == 8) = false) {e11 v11 : Nat} (b11 : At H p11 ⟨[.int .i64 (thS s th).st, .int .i64 (thS s th).cd, .bool (thS s th).at'], e11, .rw, v11⟩) :
    Ok (f73.K2 k th obj p5 p6 p11 kind b D H) fun r => r.1 = .bool (runningS w s th kind obj) ∧ Agree H0 r.2 := by
  obtain ⟨e1, e2, e3, e4, e5⟩ := h.lens
  obtain ⟨e, v, b5⟩ := h.b.b2
  obtain ⟨e', v', b6⟩ := h.b.b3
  rw [f73.K2_eq]
  have hm : maxLen = 9223372036854775807 := rfl
  refine ok_bif (fun hc => ?_) (fun hc => ?_)
  · have hkd : kind = 7 ∨ kind = 11 := by rw [hc] at hb; have hb := hb.symm; simp only [Bool.or_eq_true, beq_iff_eq] at hb; exact hb
    have ho : inR obj w.rw.length = true := by rcases hkd with rfl | rfl <;> exact and_l (b := _) hn
    have ro := inR_iff.1 ho
    obtain ⟨q, eq, hq⟩ := h.S.lkOwn (i := obj) (by rw [e1]; exact ho)
    refine ok_bSl (ldSl_at b6 (by simp) rfl) (ok_bind eq (ok_if (by omega) (ok_bind hq (Ok.ret ⟨?_, A⟩))))
    rcases hkd with rfl | rfl <;> rfl
  have h7 : (kind == 7) = false := by rw [hc] at hb; have := hb.symm; simp only [Bool.or_eq_false_iff] at this; exact this.1
  have h11 : (kind == 11) = false := by rw [hc] at hb; have := hb.symm; simp only [Bool.or_eq_false_iff] at this; exact this.2
  refine ok_bif (fun c => ?_) (fun h9 => ?_)
  · rw [beq_iff_eq] at c
    subst c
    have ho : inR obj w.rw.length = true := and_l (b := _) hn
    have ro := inR_iff.1 ho
    obtain ⟨x, hx1, hx2, hx3⟩ := h.S.lk (i := obj) (by rw [e1]; exact ho)
    obtain ⟨q, eq, hq⟩ := tbl_ldSl rowL_len h.S.L.1 hx1 (j := 1) rfl
    have hxl := h.rd x (List.mem_of_getElem? hx1)
    rw [(nat_cast_toNat ho).1] at hq
    refine ok_bSl (ldSl_at b6 (by simp) rfl) (ok_bind eq (ok_if (by omega) (ok_bSl hq (ok_cB0 (f78_spec hx3.1 (by omega) (by omega) th) (Ok.ret ⟨?_, A⟩)))))
    show _ = Value.bool (hasI (lkS s obj).rd th)
    rw [← hx2]; rfl
  refine ok_bif (fun c => ?_) (fun h12 => ?_)
  · rw [beq_iff_eq] at c; subst c
    exact ok_bind (ldI_at b6 (by simp) rfl) (Ok.ret ⟨rfl, A⟩)
  refine ok_bif (fun c => ?_) (fun h13 => ?_)
  · rw [beq_iff_eq] at c; subst c
    exact ok_bind (ldI_at b6 (by simp) rfl) (Ok.ret ⟨rfl, A⟩)
  refine ok_bif (fun c => ?_) (fun h14 => ?_)
  · rw [beq_iff_eq] at c; subst c
    exact ok_bind (ldB_at b11 (by simp) rfl) (Ok.ret ⟨rfl, A⟩)
  refine ok_bif (fun c => ?_) (fun h15 => ?_)
  · rw [beq_iff_eq] at c; subst c
    exact ok_bind (ldB_at b11 (by simp) rfl) (Ok.ret ⟨rfl, A⟩)
  rw [run_tail w s th kind obj (by rw [h6, h7, h8, h9, h10, h11]; rfl) h12 h13 h14 h15]
  refine ok_bif (fun c => ?_) (fun c16 => ?_)
  · have hb : (kind == 16 || kind == 18 || kind == 19) = (kind == 16) := by rw [c]; rfl
    rw [hb]
    exact f73_K3 A h hn _ _ fun _ => mtx_named hn (by rw [beq_iff_eq] at c; omega)
  refine ok_bif (fun c => ?_) (fun c18 => ?_)
  · have hb : (kind == 16 || kind == 18 || kind == 19) = (kind == 18) := by rw [c16, c]; rfl
    rw [hb]
    exact f73_K3 A h hn _ _ fun _ => mtx_named hn (by rw [beq_iff_eq] at c; omega)
  · have hb : (kind == 16 || kind == 18 || kind == 19) = (kind == 19) := by rw [c16, c18]; rfl
    rw [hb]
    exact f73_K3 A h hn _ _ fun c => mtx_named hn (by rw [beq_iff_eq] at c; omega)
theorem f73_K1 (hk : 1200 ≤ k) {H : AHeap} (A : Agree H0 H) (h : Asks F G H p5 p6 a0 l0 c0 a1 l1 c1 a2 l2 c2 a3 l3 c3 a4 l4 c4 a5 l5 c5 ks cs w aL lL cL aD lD cD aT lT cT ls s th) {kind : Int} (hn : namedS w kind obj = true) (D : List Value) :
    Ok (f73.K1 k th kind obj p5 p6 D H) fun r => r.1 = .bool (readyS w s th kind obj) ∧ Agree H0 r.2 := by
  obtain ⟨e1, e2, e3, e4, e5⟩ := h.lens
  obtain ⟨e, v, b5⟩ := h.b.b2
  obtain ⟨e', v', b6⟩ := h.b.b3
  have rt := inR_iff.1 h.th
  have hm : maxLen = 9223372036854775807 := rfl
  rw [f73.K1_eq]
  unfold readyS
  obtain ⟨q, eq, hq⟩ := h.S.thRow (i := th) (by rw [e3]; exact h.th)
  refine ok_bSl (ldSl_at b6 (by simp) rfl) (ok_bind eq (ok_if (by omega) (ok_bind hq (ok_al fun i H1 hi n1 A1 B1 => ok_if ⟨rfl, rfl⟩ (ok_wr B1 rfl (by simp) fun H2 W2 => ?_)))))
  have A2 : Agree H H2 := A1.wrote W2 (by omega)
  have h2 := h.agree A2
  have B2 := W2.at'
  have AA := A.trans A2
  obtain ⟨e, v, b5⟩ := h2.b.b2
  obtain ⟨e', v', b6⟩ := h2.b.b3
  refine ok_bif (fun c => ?_) (fun g1 => ?_)
  · rw [c]; exact ok_bind (ldI_at B2 (by simp) rfl) (Ok.ret ⟨rfl, AA⟩)
  rw [g1]
  refine ok_bif (fun c => ?_) (fun g17 => ?_)
  · rw [c]
    have Ab := agree_bump H2 24
    have sb := sameB_agree B2 Ab
    refine ok_bift sb (ok_bind (ldI_at (B2.agree Ab) (by simp) rfl) (ok_bif (fun d => ?_) (fun d => Ok.ret ⟨?_, AA.trans Ab⟩)))
    · refine ok_bift sb (ok_bind (ldI_at (B2.agree Ab) (by simp) rfl) (ok_bif (fun d2 => ?_) (fun d2 => Ok.ret ⟨?_, AA.trans Ab⟩)))
      · refine own_of_mutex h2 (mtx_named hn (by rw [beq_iff_eq] at c; omega)) (Ok.ret ⟨?_, AA.trans Ab⟩)
        rw [d, d2]; rfl
      · rw [d, d2]; rfl
    · rw [d]; rfl
  rw [g17]
  refine ok_bind (ldI_at B2 (by simp) rfl) (ok_bif (fun d => Ok.ret ⟨?_, AA⟩) (fun d => ?_))
  · have : ((thS s th).st == 2) = false := by simpa using d
    rw [this]; rfl
  have hd : ((thS s th).st == 2) = true := by simpa using d
  rw [hd]
  show Ok _ fun (r : Value × AHeap) => r.1 = Value.bool (runningS w s th kind obj) ∧ Agree H0 r.2
  refine ok_bif (fun c => ?_) (fun h6 => ?_)
  · rw [beq_iff_eq] at c; subst c
    have ho : inR obj w.rw.length = true := and_l (b := _) hn
    have ro := inR_iff.1 ho
    obtain ⟨q, eq, hq⟩ := h2.S.lkOwn (i := obj) (by rw [e1]; exact ho)
    exact ok_bSl (ldSl_at b6 (by simp) rfl) (ok_bind eq (ok_if (by omega) (ok_bind hq (Ok.ret ⟨rfl, AA⟩))))
  refine ok_bif (fun c => ?_) (fun h10 => ?_)
  · rw [beq_iff_eq] at c; subst c
    have ho : inR obj w.rw.length = true := and_l (b := _) hn
    have ro := inR_iff.1 ho
    obtain ⟨q, eq, hq⟩ := h2.S.lkOwn (i := obj) (by rw [e1]; exact ho)
    obtain ⟨q', a, l, c, eq', hq', hI⟩ := h2.S.lkRd (i := obj) (by rw [e1]; exact ho)
    have hl := Ints.len hI.1
    refine ok_bSl (ldSl_at b6 (by simp) rfl) (ok_bind eq (ok_if (by omega) (ok_bind hq (ok_bif (fun d => ?_) (fun d => Ok.ret ⟨?_, AA⟩)))))
    · refine ok_bSl (ldSl_at b6 (by simp) rfl) (ok_bind eq' (ok_if (by omega) (ok_bSl hq' (Ok.ret ⟨?_, AA⟩))))
      show _ = Value.bool (((lkS s obj).own == -1) && (((lkS s obj).rd.length : Int) == 0))
      rw [d, hl]; rfl
    · show _ = Value.bool (((lkS s obj).own == -1) && (((lkS s obj).rd.length : Int) == 0))
      rw [d]; rfl
  refine ok_bif (fun c => ?_) (fun h8 => ?_)
  · rw [beq_iff_eq] at c; subst c
    have ho : inR obj w.rw.length = true := and_l (b := _) hn
    have ro := inR_iff.1 ho
    obtain ⟨q, eq, hq⟩ := h2.S.lkOwn (i := obj) (by rw [e1]; exact ho)
    obtain ⟨x, hx1, hx2, hx3⟩ := h2.S.lk (i := obj) (by rw [e1]; exact ho)
    obtain ⟨q', eq', hq'⟩ := tbl_ldSl rowL_len h2.S.L.1 hx1 (j := 1) rfl
    have hxl := h.rd x (List.mem_of_getElem? hx1)
    rw [(nat_cast_toNat ho).1] at hq'
    refine ok_bSl (ldSl_at b6 (by simp) rfl) (ok_bind eq (ok_if (by omega) (ok_bind hq (ok_bif (fun d => ?_) (fun d => Ok.ret ⟨?_, AA⟩)))))
    · refine ok_bSl (ldSl_at b6 (by simp) rfl) (ok_bind eq' (ok_if (by omega) (ok_bSl hq' (ok_cB0 (f78_spec hx3.1 (by omega) (by omega) th) (Ok.ret ⟨?_, AA⟩)))))
      show _ = Value.bool (((lkS s obj).own == -1) && !hasI (lkS s obj).rd th)
      rw [d, ← hx2]; rfl
    · show _ = Value.bool (((lkS s obj).own == -1) && !hasI (lkS s obj).rd th)
      rw [d]; rfl
  refine ok_bif (fun c => ?_) (fun h7 => ?_)
  · exact f73_K2 (by omega) AA h2 hn _ _ (by rw [c]; rfl) h6 h10 h8 B2
  · exact f73_K2 (by omega) AA h2 hn _ _ (by rw [h7]; rfl) h6 h10 h8 B2
end
/-- interleaveref08.Enabled -/
theorem f73_spec {k : Nat} (hk : 1300 ≤ k) {F G : Nat → Prop} {H : AHeap} {wc sc : List Value} {w : Wld} {s : SyncS} (hw : WorldR F H wc w) (hs : SyncR G H sc s) (hr : ∀ x ∈ s.locks, x.rd.length ≤ 1000) (th kind obj : Int) :
    ∃ H', C k 73 [.agg wc.toArray, .agg sc.toArray, .int .i64 th, .int .i64 kind, .int .i64 obj] H = some (.bool (enabledS w s th kind obj), H') ∧ Agree H H' := by
  obtain ⟨k, rfl⟩ : ∃ j, k = j + 1 := ⟨k - 1, by omega⟩
  have hw0 := hw
  have hs0 := hs
  obtain ⟨a0, l0, c0, a1, l1, c1, a2, l2, c2, a3, l3, c3, a4, l4, c4, a5, l5, c5, ks, cs, rfl, hw⟩ := hw
  obtain ⟨aL, lL, cL, aD, lD, cD, aT, lT, cT, ls, rfl, hs⟩ := hs
  rw [f73_eq]
  refine call_of_ok (ok_al fun i H1 hi n1 A1 B1 => ok_al fun i' H2 hi' n2 A2 B2 => ?_)
  have A02 := A1.trans A2
  have B12 := B1.agree A2
  have rw5 : ∀ H', Agree H2 H' → H'.row i 0 6 = some [.slice a0 l0 c0, .slice a1 l1 c1, .slice a2 l2 c2, .slice a3 l3 c3, .slice a4 l4 c4, .slice a5 l5 c5] := fun H' A => row_at (B12.agree A) (by simp) (by simp)
  have rw6 : ∀ H', Agree H2 H' → H'.row i' 0 4 = some [.slice aL lL cL, .int .i64 s.tx, .slice aD lD cD, .slice aT lT cT] := fun H' A => row_at (B2.agree A) (by simp) (by simp)
  have hk1 : 1100 ≤ k := by omega
  unfold enabledS
  refine ok_bind (rw5 _ (Agree.refl _)) (ok_bind (rw6 _ (Agree.refl _)) (ok_cB (f79_spec hk1 (hw0.agree A02) (hs0.agree A02)) fun H3 A3 => ok_bif (fun c => Ok.ret ⟨?_, A02.trans A3⟩) (fun c => ?_)))
  · have : fitsS w s = false := by simpa using c
    rw [this]; rfl
  have hf : fitsS w s = true := by simpa using c
  rw [hf, Bool.true_and]
  have ht := hw.t
  refine ok_bSl (ldSl_at (B12.agree A3) (by simp) rfl) (ok_cB0 (f93_spec (by omega) th l4 H3) (ok_bif (fun c => Ok.ret ⟨?_, A02.trans A3⟩) (fun c => ?_)))
  · have : inR th l4 = false := by simpa using c
    rw [← ht, this]; rfl
  have hth : inR th l4 = true := by simpa using c
  rw [← ht, hth, Bool.true_and]
  refine ok_bind (rw5 _ A3) (ok_cB (f94_spec (by omega) (hw0.agree (A02.trans A3)) kind obj) fun H4 A4 => ok_bif (fun c => Ok.ret ⟨?_, (A02.trans A3).trans A4⟩) (fun c => ?_))
  · have : namedS w kind obj = false := by simpa using c
    rw [this]; rfl
  have hn : namedS w kind obj = true := by simpa using c
  rw [hn, Bool.true_and]
  have A34 := A3.trans A4
  have A04 := A02.trans A34
  exact f73_K1 (by omega) A04 ⟨hw.agree A04, hs.agree A04, ⟨⟨_, _, B12.agree A34⟩, ⟨_, _, B2.agree A34⟩⟩, hf, by rw [← ht]; exact hth, rd_le hs hr⟩ hn _
end Go.Proofs.MxF
end

section
set_option linter.unusedSimpArgs false
/- A state of ours, that may be changed. -/
set_option linter.unusedVariables false
namespace Go.Proofs.MxF
open Go Go.Mx Go.Proofs
structure OwnP (N : Nat) (H : AHeap) (aL : Option Addr) (lL cL : Nat) (aD : Option Addr) (lD cD : Nat) (aT : Option Addr) (lT cT : Nat) (ls : List LkV) (s : SyncS) : Prop where
  L : Own N 2 H aL lL cL (ls.flatMap rowL)
  D : Own N 1 H aD lD cD (s.done.flatMap rowB)
  T : Own N 3 H aT lT cT (s.ths.flatMap rowT)
  rd : ∀ x ∈ ls, Own N 1 H x.a x.l x.c (ints x.rd)
  locks : ls.map LkV.pure = s.locks
  aLD : Apart aL aD
  aLT : Apart aL aT
  aDT : Apart aD aT
  apL : ∀ x ∈ ls, Apart aL x.a
  apD : ∀ x ∈ ls, Apart aD x.a
  apT : ∀ x ∈ ls, Apart aT x.a
  apR : ls.Pairwise fun x y => Apart x.a y.a
section
variable {N : Nat} {H H' : AHeap} {aL : Option Addr} {lL cL : Nat} {aD : Option Addr} {lD cD : Nat} {aT : Option Addr} {lT cT : Nat} {ls : List LkV} {s : SyncS}
theorem OwnP.toP (h : OwnP N H aL lL cL aD lD cD aT lT cT ls s) : SyncP (N ≤ ·) H aL lL aD lD aT lT ls s :=
  ⟨h.L.cellsF, h.D.cellsF, h.T.cellsF, h.locks, fun x hx => by have := (h.rd x hx).cellsF; rw [Nat.mul_one] at this; exact this⟩
theorem OwnP.agree (h : OwnP N H aL lL cL aD lD cD aT lT cT ls s) (A : Agree H H') : OwnP N H' aL lL cL aD lD cD aT lT cT ls s :=
  ⟨h.L.agree A, h.D.agree A, h.T.agree A, fun x hx => (h.rd x hx).agree A, h.locks, h.aLD, h.aLT, h.aDT, h.apL, h.apD, h.apT, h.apR⟩
theorem OwnP.wrote (h : OwnP N H aL lL cL aD lD cD aT lT cT ls s) {i : Nat} {b' : Blk} (w : Wrote H H' i b') (hi : i < N) : OwnP N H' aL lL cL aD lD cD aT lT cT ls s :=
  ⟨h.L.wrote w hi, h.D.wrote w hi, h.T.wrote w hi, fun x hx => (h.rd x hx).wrote w hi, h.locks, h.aLD, h.aLT, h.aDT, h.apL, h.apD, h.apT, h.apR⟩
theorem Apart.ne {a b : Option Addr} (h : Apart a b) : ∀ q q', a = some q → b = some q' → q'.block ≠ q.block := h
/-- every block of the state -/
theorem OwnP.blocks (h : OwnP N H aL lL cL aD lD cD aT lT cT ls s) : (∀ q, aL = some q → q.block < H.next) ∧ (∀ q, aD = some q → q.block < H.next) ∧ (∀ q, aT = some q → q.block < H.next) ∧ ∀ x ∈ ls, ∀ q, x.a = some q → q.block < H.next :=
  ⟨Cells.below h.L.cells, Cells.below h.D.cells, Cells.below h.T.cells, fun x hx => Cells.below (h.rd x hx).cells⟩
/-- cells of a thread are written -/
theorem OwnP.setT (h : OwnP N H aL lL cL aD lD cD aT lT cT ls s) {i : Int} (hi : inR i lT = true) {j : Nat} {vs : List Value} {y : ThS} (hv : 0 < vs.length) (hj : j + vs.length ≤ 3) (hy : rowT y = splice (rowT (thS s i)) j vs) :
    ∃ q H', aT = some q ∧ H.wr q.block (q.off + i.toNat * 3 + j) vs = some H' ∧ OwnP N H' aL lL cL aD lD cD aT lT cT ls { s with ths := s.ths.set i.toNat y } ∧ Keep aT H H' ∧ H'.next = H.next := by
  have hlt := (nat_cast_toNat hi).2
  have hx := h.toP.th hi
  have hb : i.toNat * 3 + (j + vs.length) ≤ lT * 3 := by
    have : (i.toNat + 1) * 3 ≤ lT * 3 := Nat.mul_le_mul_right _ hlt
    omega
  obtain ⟨q, H', eq, hq0, hw, o1, k1, n1⟩ := own_wr h.T (o := i.toNat * 3 + j) (vs := vs) hv (by omega)
  rw [flat_splice rowT_len hx hj hy] at o1
  refine ⟨q, H', eq, by rw [Nat.add_assoc]; exact hw, ⟨h.L.keep k1 h.aLT, h.D.keep k1 h.aDT, o1, fun x hx => (h.rd x hx).keep k1 (h.apT x hx).symm, h.locks, h.aLD, h.aLT, h.aDT, h.apL, h.apD, h.apT, h.apR⟩, k1, n1⟩
/-- a future is set -/
theorem OwnP.setD (h : OwnP N H aL lL cL aD lD cD aT lT cT ls s) {i : Int} (hi : inR i lD = true) (b : Bool) :
    ∃ q H', aD = some q ∧ H.wr q.block (q.off + i.toNat * 1) [.bool b] = some H' ∧ OwnP N H' aL lL cL aD lD cD aT lT cT ls { s with done := s.done.set i.toNat b } ∧ Keep aD H H' ∧ H'.next = H.next := by
  have hlt := (nat_cast_toNat hi).2
  have hl := h.toP.lenD
  have hx := List.getElem?_eq_getElem (show i.toNat < s.done.length by omega)
  obtain ⟨q, H', eq, hq0, hw, o1, k1, n1⟩ := own_wr h.D (o := i.toNat * 1 + 0) (vs := [.bool b]) (by simp) (by simp; omega)
  rw [flat_splice rowB_len (y := b) hx (by simp) rfl] at o1
  exact ⟨q, H', eq, hw, ⟨h.L.keep k1 h.aLD, o1, h.T.keep k1 h.aDT.symm, fun x hx => (h.rd x hx).keep k1 (h.apD x hx).symm, h.locks, h.aLD, h.aLT, h.aDT, h.apL, h.apD, h.apT, h.apR⟩, k1, n1⟩
theorem set_pure {i : Nat} {y : LkV} (h : ls.map LkV.pure = s.locks) : (ls.set i y).map LkV.pure = s.locks.set i y.pure := by rw [List.map_set, h]
/-- a lock's owner is set -/
theorem OwnP.setO (h : OwnP N H aL lL cL aD lD cD aT lT cT ls s) {i : Int} (hi : inR i lL = true) (o : Int) :
    ∃ q H' ls', aL = some q ∧ H.wr q.block (q.off + i.toNat * 2 + 0) [.int .i64 o] = some H' ∧ OwnP N H' aL lL cL aD lD cD aT lT cT ls' { s with locks := s.locks.set i.toNat ⟨o, (lkS s i).rd⟩ } ∧ Keep aL H H' ∧ H'.next = H.next := by
  obtain ⟨x, hx, px, ix⟩ := h.toP.lk hi
  have hlt := (nat_cast_toNat hi).2
  have hl := h.toP.lenL
  obtain ⟨q, H', eq, hq0, hw, o1, k1, n1⟩ := own_wr h.L (o := i.toNat * 2 + 0) (vs := [.int .i64 o]) (by simp) (by simp; omega)
  rw [flat_splice rowL_len (y := ⟨o, x.a, x.l, x.c, x.rd⟩) hx (by simp) rfl] at o1
  have hin : ∀ y ∈ ls.set i.toNat ⟨o, x.a, x.l, x.c, x.rd⟩, ∃ z ∈ ls, y.a = z.a ∧ y.l = z.l ∧ y.c = z.c ∧ y.rd = z.rd := by
    intro y hy
    rcases List.mem_or_eq_of_mem_set hy with hy | rfl
    · exact ⟨y, hy, rfl, rfl, rfl, rfl⟩
    · exact ⟨x, List.mem_of_getElem? hx, rfl, rfl, rfl, rfl⟩
  refine ⟨q, H', ls.set i.toNat ⟨o, x.a, x.l, x.c, x.rd⟩, eq, by rw [Nat.add_assoc]; exact hw, ⟨o1, h.D.keep k1 h.aLD.symm, h.T.keep k1 h.aLT.symm, ?_, ?_, h.aLD, h.aLT, h.aDT, ?_, ?_, ?_, ?_⟩, k1, n1⟩
  · intro y hy
    obtain ⟨z, hz, e1, e2, e3, e4⟩ := hin y hy
    rw [e1, e2, e3, e4]
    exact (h.rd z hz).keep k1 (h.apL z hz).symm
  · rw [set_pure h.locks]
    show s.locks.set i.toNat ⟨o, x.rd⟩ = s.locks.set i.toNat ⟨o, (lkS s i).rd⟩
    rw [← px]; rfl
  · intro y hy; obtain ⟨z, hz, e1, _⟩ := hin y hy; rw [e1]; exact h.apL z hz
  · intro y hy; obtain ⟨z, hz, e1, _⟩ := hin y hy; rw [e1]; exact h.apD z hz
  · intro y hy; obtain ⟨z, hz, e1, _⟩ := hin y hy; rw [e1]; exact h.apT z hz
  · rw [List.pairwise_iff_getElem]
    intro m n hm hn hmn
    have key := List.pairwise_iff_getElem.1 h.apR m n (by simpa using hm) (by simpa using hn) hmn
    have hax : ∀ (m : Nat) (hm : m < (ls.set i.toNat ⟨o, x.a, x.l, x.c, x.rd⟩).length), (ls.set i.toNat ⟨o, x.a, x.l, x.c, x.rd⟩)[m].a = (ls[m]'(by simpa using hm)).a := by
      intro m hm
      rw [List.getElem_set]
      split
      · rename_i e
        subst e
        have : ls[i.toNat]'(by simpa using hm) = x := by
          have h2 := List.getElem?_eq_getElem (show i.toNat < ls.length by simpa using hm)
          rw [hx] at h2
          exact (Option.some.inj h2).symm
        rw [this]
      · rfl
    rw [hax m hm, hax n hn]
    exact key
end
end Go.Proofs.MxF
end

section
set_option linter.unusedSimpArgs false
/- The readers of a lock are replaced; copies. -/
set_option linter.unusedVariables false
namespace Go.Proofs.MxF
open Go Go.Mx Go.Proofs
section
variable {N : Nat} {H H' : AHeap} {aL : Option Addr} {lL cL : Nat} {aD : Option Addr} {lD cD : Nat} {aT : Option Addr} {lT cT : Nat} {ls : List LkV} {s : SyncS}
theorem apR_ne (h : ls.Pairwise fun x y => Apart x.a y.a) {i m : Nat} {x y : LkV} (hx : ls[i]? = some x) (hy : ls[m]? = some y) (hne : m ≠ i) : Apart x.a y.a := by
  obtain ⟨h1, e1⟩ := List.getElem?_eq_some_iff.1 hx
  obtain ⟨h2, e2⟩ := List.getElem?_eq_some_iff.1 hy
  rcases Nat.lt_or_gt_of_ne hne with hlt | hlt
  · have := List.pairwise_iff_getElem.1 h m i h2 h1 hlt
    rw [e1, e2] at this
    exact this.symm
  · have := List.pairwise_iff_getElem.1 h i m h1 h2 hlt
    rw [e1, e2] at this
    exact this
theorem OwnP.setR (h : OwnP N H aL lL cL aD lD cD aT lT cT ls s) {i : Int} (hi : inR i lL = true) {x : LkV} (hx : ls[i.toNat]? = some x) {H1 : AHeap} (k : Keep x.a H H1) {a' : Option Addr} {l' c' : Nat} {rd' : List Int}
    (o : Own N 1 H1 a' l' c' (ints rd')) (or : ∀ q, a' = some q → (∃ q', x.a = some q' ∧ q'.block = q.block) ∨ H.next ≤ q.block) :
    ∃ q H2 ls', aL = some q ∧ H1.wr q.block (q.off + i.toNat * 2 + 1) [.slice a' l' c'] = some H2 ∧ OwnP N H2 aL lL cL aD lD cD aT lT cT ls' { s with locks := s.locks.set i.toNat ⟨(lkS s i).own, rd'⟩ } ∧ Keep aL H1 H2 ∧ H2.next = H1.next := by
  have hlt := (nat_cast_toNat hi).2
  have hl := h.toP.lenL
  have hxm := List.mem_of_getElem? hx
  have hpx : x.pure = lkS s i := by
    obtain ⟨y, hy, py, _⟩ := h.toP.lk hi
    rw [hx] at hy
    cases hy
    exact py
  have L1 := h.L.keep k (h.apL x hxm)
  have gL : Apart aL a' := apart_grow (h.apL x hxm) h.L.cells or
  have gD : Apart aD a' := apart_grow (h.apD x hxm) h.D.cells or
  have gT : Apart aT a' := apart_grow (h.apT x hxm) h.T.cells or
  obtain ⟨q, H2, eq, hq0, hw, o1, k1, n1⟩ := own_wr L1 (o := i.toNat * 2 + 1) (vs := [.slice a' l' c']) (by simp) (by simp; omega)
  rw [flat_splice rowL_len (y := ⟨x.own, a', l', c', rd'⟩) hx (by simp) rfl] at o1
  have hin : ∀ y ∈ ls.set i.toNat ⟨x.own, a', l', c', rd'⟩, (∃ m, m ≠ i.toNat ∧ ls[m]? = some y) ∨ y = ⟨x.own, a', l', c', rd'⟩ := by
    intro y hy
    obtain ⟨m, hm⟩ := List.getElem?_of_mem hy
    rw [List.getElem?_set] at hm
    split at hm
    · split at hm
      · exact .inr (Option.some.inj hm).symm
      · cases hm
    · rename_i hne
      exact .inl ⟨m, fun e => hne e.symm, hm⟩
  refine ⟨q, H2, ls.set i.toNat ⟨x.own, a', l', c', rd'⟩, eq, by rw [Nat.add_assoc]; exact hw, ⟨o1, (h.D.keep k (h.apD x hxm)).keep k1 h.aLD.symm, (h.T.keep k (h.apT x hxm)).keep k1 h.aLT.symm, ?_, ?_, h.aLD, h.aLT, h.aDT, ?_, ?_, ?_, ?_⟩, k1, n1⟩
  · intro y hy
    rcases hin y hy with ⟨m, hm, hy⟩ | rfl
    · have hym := List.mem_of_getElem? hy
      exact ((h.rd y hym).keep k (apR_ne h.apR hx hy hm).symm).keep k1 (h.apL y hym).symm
    · exact o.keep k1 gL.symm
  · rw [set_pure h.locks]
    show s.locks.set i.toNat ⟨x.own, rd'⟩ = s.locks.set i.toNat ⟨(lkS s i).own, rd'⟩
    rw [← hpx]; rfl
  · intro y hy
    rcases hin y hy with ⟨m, hm, hy⟩ | rfl
    · exact h.apL y (List.mem_of_getElem? hy)
    · exact gL
  · intro y hy
    rcases hin y hy with ⟨m, hm, hy⟩ | rfl
    · exact h.apD y (List.mem_of_getElem? hy)
    · exact gD
  · intro y hy
    rcases hin y hy with ⟨m, hm, hy⟩ | rfl
    · exact h.apT y (List.mem_of_getElem? hy)
    · exact gT
  · have gR : ∀ (m : Nat) (y : LkV), m ≠ i.toNat → ls[m]? = some y → Apart y.a a' := fun m y hm hy => apart_grow (apR_ne h.apR hx hy hm).symm (h.rd y (List.mem_of_getElem? hy)).cells or
    rw [List.pairwise_iff_getElem]
    intro m n hm hn hmn
    have hm' : m < ls.length := by simpa using hm
    have hn' : n < ls.length := by simpa using hn
    have key := List.pairwise_iff_getElem.1 h.apR m n hm' hn' hmn
    rw [List.getElem_set, List.getElem_set]
    split
    · rename_i e
      rw [if_neg (by omega)]
      exact (gR n _ (by omega) (List.getElem?_eq_getElem hn')).symm
    · split
      · rename_i e1 e2
        exact gR m _ (fun e => e1 e.symm) (List.getElem?_eq_getElem hm')
      · exact key
end
theorem eqN26 (a : Option Addr) (l c : Nat) : eqV Try.prog 40 26 (.slice a l c) (.slice none 0 0) = some a.isNone := by cases a <;> kernel_rfl
theorem eqN61 (a : Option Addr) (l c : Nat) : eqV Try.prog 40 61 (.slice a l c) (.slice none 0 0) = some a.isNone := by cases a <;> kernel_rfl
theorem eqN37 (a : Option Addr) (l c : Nat) : eqV Try.prog 40 37 (.slice a l c) (.slice none 0 0) = some a.isNone := by cases a <;> kernel_rfl
theorem eqN62 (a : Option Addr) (l c : Nat) : eqV Try.prog 40 62 (.slice a l c) (.slice none 0 0) = some a.isNone := by cases a <;> kernel_rfl
/-- a copy of a slice, by an append to an empty one -/
theorem copy_own {sz bts : Nat} (hsz : sz ≠ 0) {X : AHeap → Nat → Option (Value × AHeap)} {H : AHeap} {a : Option Addr} {l c : Nat} {cs : List Value} (hb : l * bts ≤ 70368744177664) (hb' : l ≤ 70368744177664)
    (hX : ∀ H1 i, X H1 i = (firstC H1 sz l (.slice a l c)).bind fun news => apndS sz bts H1 (some ⟨i, 0, none⟩) 0 0 news l)
    (h : Cells H a (l * sz) cs) {K : Option Addr → Nat → Nat → AHeap → Option (Value × AHeap)} {Q : Value × AHeap → Prop}
    (k : ∀ a' c' H', Own H.next sz H' a' l c' cs → Agree H H' → Ok (K a' l c' H') Q) : Ok (alK none H ⟨[], sz, .rw, 0⟩ fun i H1 => cSl (X H1 i) K) Q := by
  refine ok_al fun i H1 hi n1 A1 B1 => ?_
  have hO : Own H.next sz H1 (some ⟨i, 0, none⟩) 0 0 [] := ⟨by simp, Nat.le_refl _, .inr ⟨i, _, rfl, by omega, B1, rfl, rfl, by simp, by simp⟩⟩
  refine ok_cSl (app_own hsz (hX H1 i) hO (h.agree A1) (by omega) (by rw [Nat.zero_add]; exact hb) (by omega)) fun a2 l2 c2 H2 hp => ?_
  obtain ⟨rfl, o2, k2, _⟩ := hp
  rw [Nat.zero_add] at o2 ⊢
  exact k a2 c2 H2 (by simpa using o2) (k2.agree A1 (fun q e => by cases e; show H.next ≤ i; omega))
theorem clone_gen {sz bts : Nat} (hsz : sz ≠ 0) {X : AHeap → Nat → Option (Value × AHeap)} {E : Option Bool} {H : AHeap} {a : Option Addr} {l c : Nat} {cs : List Value} (hb : l * bts ≤ 70368744177664) (hb' : l ≤ 70368744177664)
    (hX : ∀ H1 i, X H1 i = (firstC H1 sz l (.slice a l c)).bind fun news => apndS sz bts H1 (some ⟨i, 0, none⟩) 0 0 news l) (hE : E = some a.isNone) (h : Cells H a (l * sz) cs) :
    ∃ a' l' c' H', (E.bind fun b => bif b then some (Value.slice none 0 0, H) else alK none H ⟨[], sz, .rw, 0⟩ fun i H_1 => cSl (X H_1 i) fun a l c H_2 => some (Value.slice a l c, H_2)) = some (Value.slice a' l' c', H') ∧ (l' = l ∧ Own H.next sz H' a' l' c' cs ∧ Agree H H') := by
  refine callsl_of_ok (ok_bind hE ?_)
  cases a with
  | none =>
    have hcs : cs = [] := by rcases h.2 with ⟨_, e⟩ | ⟨i, o, s, b, e, _⟩; exact e; cases e
    have hl : l = 0 := by
      have h0 : l * sz = 0 := by rw [← h.1, hcs]; rfl
      exact (Nat.mul_eq_zero.1 h0).resolve_right hsz
    subst hl
    subst hcs
    exact ok_bift rfl (Ok.ret ⟨none, 0, 0, rfl, rfl, Own.nil _ _ _, Agree.refl H⟩)
  | some q => exact ok_biff rfl (copy_own hsz hb hb' hX h fun a' c' H' o A => Ok.ret ⟨a', l, c', rfl, rfl, o, A⟩)
theorem f80_spec {k : Nat} (hk : 1 ≤ k) {H : AHeap} {a : Option Addr} {l c : Nat} {xs : List Int} (hl : l ≤ 1000000) (h : Ints H a l xs) :
    ∃ a' l' c' H', C k 80 [.slice a l c] H = some (.slice a' l' c', H') ∧ (l' = l ∧ Own H.next 1 H' a' l' c' (ints xs) ∧ Agree H H') := by
  obtain ⟨k, rfl⟩ : ∃ j, k = j + 1 := ⟨k - 1, by omega⟩
  rw [f80_eq]
  exact clone_gen (sz := 1) (bts := 8) (by decide) (by omega) (by omega) (fun H1 i => app26' _ _ _ _ _ _ _) (eqN26 a l c) (by rw [Nat.mul_one]; exact h)
theorem f88_spec {k : Nat} (hk : 1 ≤ k) {H : AHeap} {a : Option Addr} {l c : Nat} {cs : List Value} (hl : l ≤ 1000000) (h : Cells H a (l * 2) cs) :
    ∃ a' l' c' H', C k 88 [.slice a l c] H = some (.slice a' l' c', H') ∧ (l' = l ∧ Own H.next 2 H' a' l' c' cs ∧ Agree H H') := by
  obtain ⟨k, rfl⟩ : ∃ j, k = j + 1 := ⟨k - 1, by omega⟩
  rw [f88_eq]
  exact clone_gen (sz := 2) (bts := 32) (by decide) (by omega) (by omega) (fun H1 i => app61 _ _ _ _ _ _ _) (eqN61 a l c) h
theorem f89_spec {k : Nat} (hk : 1 ≤ k) {H : AHeap} {a : Option Addr} {l c : Nat} {cs : List Value} (hl : l ≤ 1000000) (h : Cells H a (l * 1) cs) :
    ∃ a' l' c' H', C k 89 [.slice a l c] H = some (.slice a' l' c', H') ∧ (l' = l ∧ Own H.next 1 H' a' l' c' cs ∧ Agree H H') := by
  obtain ⟨k, rfl⟩ : ∃ j, k = j + 1 := ⟨k - 1, by omega⟩
  rw [f89_eq]
  exact clone_gen (sz := 1) (bts := 1) (by decide) (by omega) (by omega) (fun H1 i => app37 _ _ _ _ _ _ _) (eqN37 a l c) h
theorem f90_spec {k : Nat} (hk : 1 ≤ k) {H : AHeap} {a : Option Addr} {l c : Nat} {cs : List Value} (hl : l ≤ 1000000) (h : Cells H a (l * 3) cs) :
    ∃ a' l' c' H', C k 90 [.slice a l c] H = some (.slice a' l' c', H') ∧ (l' = l ∧ Own H.next 3 H' a' l' c' cs ∧ Agree H H') := by
  obtain ⟨k, rfl⟩ : ∃ j, k = j + 1 := ⟨k - 1, by omega⟩
  rw [f90_eq]
  exact clone_gen (sz := 3) (bts := 24) (by decide) (by omega) (by omega) (fun H1 i => app62 _ _ _ _ _ _ _) (eqN62 a l c) h
end Go.Proofs.MxF
end

section
set_option linter.unusedSimpArgs false
/- object.clone. -/
set_option linter.unusedVariables false
namespace Go.Proofs.MxF
open Go Go.Mx Go.Proofs
def OwnR (N : Nat) (H : AHeap) (cs : List Value) (s : SyncS) : Prop :=
  ∃ aL lL cL aD lD cD aT lT cT ls, cs = [.slice aL lL cL, .int .i64 s.tx, .slice aD lD cD, .slice aT lT cT] ∧ OwnP N H aL lL cL aD lD cD aT lT cT ls s
theorem apart_new {a b : Option Addr} {H : AHeap} {n : Nat} {cs : List Value} (hc : Cells H a n cs) (hb : ∀ q, b = some q → H.next ≤ q.block) : Apart a b := by
  intro q q' e e'
  have := Cells.below hc q e
  have := hb q' e'
  omega
section
variable {k : Nat} {F : Nat → Prop} {H0 : AHeap} {p1 p2 M : Nat} {aL : Option Addr} {lL cL : Nat} {aL0 : Option Addr} {lL0 : Nat} {aD : Option Addr} {lD cD : Nat} {aT : Option Addr} {lT cT : Nat} {ls : List LkV} {s : SyncS}
theorem f66_loop (hk : 1100 ≤ k) (hP : SyncP F H0 aL0 lL0 aD lD aT lT ls s) (hlL : lL = ls.length) (hlL1 : lL ≤ 1000) (hlD : lD ≤ 1000) (hlT : lT ≤ 1000) (hrd : ∀ x ∈ ls, x.l ≤ 1000) (z1 : H0.next ≤ p1) (z2 : H0.next ≤ p2) (z3 : p1 < M) (z4 : p2 < M) (z5 : p1 ≠ p2) :
    ∀ (m j n : Nat) (cur : List LkV) (H : AHeap) (D : List Value) (e1 v1 e2 v2 : Nat) (y0 y1 y2 y3 : Value), j + m = lL → m < n → Agree H0 H → M ≤ H.next →
    At H p1 ⟨[.slice aL lL cL, .int .i64 s.tx, .slice aD lD cD, .slice aT lT cT], e1, .rw, v1⟩ → At H p2 ⟨[y0, y1, y2, y3], e2, .rw, v2⟩ → Own M 2 H aL lL cL (cur.flatMap rowL) → cur.map LkV.pure = s.locks → cur.length = lL → cur.drop j = ls.drop j →
    (∀ x ∈ cur.take j, Own M 1 H x.a x.l x.c (ints x.rd)) → (∀ x ∈ cur.take j, Apart aL x.a) → (cur.take j).Pairwise (fun x y => Apart x.a y.a) →
    Ok (f66.L1 k n p1 p2 (lL : Int) (j : Int) D H) fun r => ∃ cs, r.1 = .agg (cs : List Value).toArray ∧ OwnR H0.next r.2 cs s ∧ Agree H0 r.2 := by
  intro m
  induction m with
  | zero =>
    intro j n cur H D e1 v1 e2 v2 y0 y1 y2 y3 hm hn A hM b1 b2 oL hcur hcl hdr hrd' hap hpw
    obtain ⟨n, rfl⟩ : ∃ j, n = j + 1 := ⟨n - 1, by omega⟩
    rw [f66.L1_s]
    have hNM : H0.next ≤ M := by omega
    rw [List.take_of_length_le (by omega)] at hrd' hap hpw
    refine ok_biff (by simp only [decide_eq_false_iff_not]; omega) (ok_bSl (ldSl_at b1 (by simp) rfl) ?_)
    refine ok_cSl (f89_spec (by omega) (by omega) (hP.D.1.agree A)) fun a3 l3 c3 H3 hp => ?_
    obtain ⟨rfl, o3, A3⟩ := hp
    have nA := A.next
    have n3 := A3.next
    refine ok_wr (b1.agree A3) rfl (by simp) fun H4 W4 => ?_
    have hb3 := o3.block
    have A04 : Agree H0 H4 := (A.trans A3).wrote W4 z1
    have n4 := W4.next
    refine ok_bSl (ldSl_at W4.at' (by simp) rfl) ?_
    refine ok_cSl (f90_spec (by omega) (by omega) (hP.T.1.agree A04)) fun a5 l5 c5 H5 hp => ?_
    obtain ⟨rfl, o5, A5⟩ := hp
    have n5 := A5.next
    have hb5 := o5.block
    refine ok_wr (W4.at'.agree A5) rfl (by simp [splice]) fun H6 W6 => ?_
    refine ok_bind (row_at W6.at' (by simp) (by simp [splice])) (ok_if ⟨rfl, rfl⟩ ?_)
    have bb2 := (((b2.agree A3).wrote W4 (Ne.symm z5)).agree A5).wrote W6 (Ne.symm z5)
    refine ok_wr bb2 rfl (by simp [splice]) fun H7 W7 => ok_bind (row_at W7.at' (by simp) (by simp [splice])) (Ok.ret ?_)
    have fr : ∀ {N' sz : Nat} {a : Option Addr} {l c : Nat} {cs : List Value}, M ≤ N' → Own N' sz H a l c cs → Own M sz H7 a l c cs := by
      intro N' sz a l c cs hN h
      have h := h.lower hN
      exact ((((h.agree A3).wrote W4 z3).agree A5).wrote W6 z3).wrote W7 z4
    have oD : Own M 1 H7 a3 l3 c3 (s.done.flatMap rowB) := ((((o3.lower hM).wrote W4 z3).agree A5).wrote W6 z3).wrote W7 z4
    have oT : Own M 3 H7 a5 l5 c5 (s.ths.flatMap rowT) := (((o5.lower (show M ≤ H4.next by omega)).wrote W6 z3)).wrote W7 z4
    have bel := Cells.below oL.cells
    have belD := Cells.below (o3.cells)
    refine ⟨_, rfl, ⟨aL, lL, cL, a3, l3, c3, a5, l5, c5, cur, rfl, ⟨(fr (Nat.le_refl _) oL).lower hNM, oD.lower hNM, oT.lower hNM, fun x hx => (fr (Nat.le_refl _) (hrd' x hx)).lower hNM, hcur, ?_, ?_, ?_, hap, ?_, ?_, hpw⟩⟩, ((A04.trans A5).wrote W6 z1).wrote W7 z2⟩
    · exact apart_new oL.cells hb3
    · intro q q' e e'; have := bel q e; have := hb5 q' e'; omega
    · intro q q' e e'; have := belD q e; have := hb5 q' e'; omega
    · intro x hx
      exact (apart_new (hrd' x hx).cells hb3).symm
    · intro x hx q q' e e'
      have := Cells.below (hrd' x hx).cells q' e'
      have := hb5 q e
      omega
  | succ m ih =>
    intro j n cur H D e1 v1 e2 v2 y0 y1 y2 y3 hm hn A hM b1 b2 oL hcur hcl hdr hrd' hap hpw
    obtain ⟨n, rfl⟩ : ∃ j, n = j + 1 := ⟨n - 1, by omega⟩
    rw [f66.L1_s]
    have Ab := agree_bump H 13
    have hx := List.getElem?_eq_getElem (show j < ls.length by omega)
    revert hx
    generalize ls[j]'(show j < ls.length by omega) = x
    intro hx
    have hcx : cur[j]? = some x := by
      have : (cur.drop j)[0]? = (ls.drop j)[0]? := by rw [hdr]
      rw [List.getElem?_drop, List.getElem?_drop] at this
      exact this.trans hx
    have hxm := List.mem_of_getElem? hx
    have hxl := hrd x hxm
    obtain ⟨q, eq, hq⟩ := tbl_ldSl rowL_len (oL.agree Ab).cells hcx (j := 1) rfl
    have sq := own_same oL eq _ Ab
    refine ok_bift (by simp only [decide_eq_true_eq]; omega) (ok_bift (sameB_agree b1 Ab) (ok_bSl (ldSl_at (b1.agree Ab) (by simp) rfl) (ok_bind eq (ok_if (by omega) (ok_bift sq (ok_bSl hq ?_))))))
    refine ok_cSl (f80_spec (by omega) (by omega) (((hP.rd x hxm).1.agree A).agree Ab)) fun a2 l2 c2 H1 hp => ?_
    obtain ⟨rfl, o2, A1⟩ := hp
    have A01 := Ab.trans A1
    refine ok_bift (sameB_agree b1 A01) (ok_bSl (ldSl_at (b1.agree A01) (by simp) rfl) (ok_bind eq (ok_if (by omega) ?_)))
    have oL1 := oL.agree A01
    have hjb : j * 2 + (1 + 1) ≤ lL * 2 := by
      have : (j + 1) * 2 ≤ lL * 2 := Nat.mul_le_mul_right _ (by omega)
      omega
    obtain ⟨q', H2, eq', hq0, hw, o3, k3, n3⟩ := own_wr oL1 (o := j * 2 + 1) (vs := [.slice a2 x.l c2]) (by simp) (by simp; omega)
    rw [eq] at eq'
    cases eq'
    rw [flat_splice rowL_len (y := ⟨x.own, a2, x.l, c2, x.rd⟩) hcx (by simp) rfl] at o3
    have hw' : H1.wr q.block (q.off + (j : Int).toNat * 2 + 1) [.slice a2 x.l c2] = some H2 := by rw [Int.toNat_natCast, Nat.add_assoc]; exact hw
    refine ok_bind hw' ?_
    rw [wrapS (l := lL) (by omega) (by unfold maxLen; omega)]
    have hbL := oL.block
    have nA := A.next
    have n01 := A01.next
    have hb2 := o2.block
    have nb : (H.bump 13).next = H.next + 13 := rfl
    have gL : Apart aL a2 := by
      intro r r' e e'
      have := Cells.below oL.cells r e
      have := hb2 r' e'
      omega
    have K : Keep aL H H2 := Keep.of_agree A01 k3
    have hnep : ∀ {p : Nat}, p < M → ∀ r, aL = some r → r.block ≠ p := fun hp r e => by have := hbL r e; omega
    have htk : (cur.set j ⟨x.own, a2, x.l, c2, x.rd⟩).take (j + 1) = cur.take j ++ [⟨x.own, a2, x.l, c2, x.rd⟩] := by
      rw [List.take_add_one, List.getElem?_set_self (by omega), List.take_set, List.set_eq_of_length_le (by rw [List.length_take]; omega)]
      rfl
    have hpx : (cur.set j ⟨x.own, a2, x.l, c2, x.rd⟩).map LkV.pure = s.locks := by
      rw [List.map_set, hcur]
      have : s.locks[j]? = some x.pure := by rw [← hcur, List.getElem?_map, hcx]; rfl
      obtain ⟨hj1, hj2⟩ := List.getElem?_eq_some_iff.1 this
      show s.locks.set j x.pure = s.locks
      rw [← hj2, List.set_getElem_self]
    refine ih (j + 1) n (cur.set j ⟨x.own, a2, x.l, c2, x.rd⟩) H2 _ _ _ _ _ y0 y1 y2 y3 (by omega) (by omega) (K.agree A fun r e => by have := hbL r e; omega) (by have := K.next; omega)
      (b1.keep K (hnep z3)) (b2.keep K (hnep z4)) o3 hpx (by rw [List.length_set]; exact hcl) ?_ ?_ ?_ ?_
    · rw [List.drop_set_of_lt (by omega)]
      have := congrArg (List.drop 1) hdr
      rw [List.drop_drop, List.drop_drop] at this
      exact this
    · rw [htk]
      intro y hy
      rcases List.mem_append.1 hy with hy | hy
      · exact (hrd' y hy).keep K (hap y hy).symm
      · rw [List.mem_singleton] at hy
        subst hy
        exact (o2.lower (by omega)).keep k3 gL.symm
    · rw [htk]
      intro y hy
      rcases List.mem_append.1 hy with hy | hy
      · exact hap y hy
      · rw [List.mem_singleton] at hy
        subst hy
        exact gL
    · rw [htk, List.pairwise_append]
      refine ⟨hpw, List.pairwise_singleton _ _, fun y hy z hz => ?_⟩
      rw [List.mem_singleton] at hz
      subst hz
      intro r r' e e'
      have := Cells.below (hrd' y hy).cells r e
      have := hb2 r' e'
      omega
theorem f66_spec (hk : 1200 ≤ k) {H : AHeap} {sc : List Value} (hs : SyncR F H sc s) (h1 : s.locks.length ≤ 1000) (h2 : s.done.length ≤ 1000) (h3 : s.ths.length ≤ 1000) (hr : ∀ x ∈ s.locks, x.rd.length ≤ 1000) :
    Ok (C k 66 [.agg sc.toArray] H) fun r => ∃ cs, r.1 = .agg (cs : List Value).toArray ∧ OwnR H.next r.2 cs s ∧ Agree H r.2 := by
  obtain ⟨k, rfl⟩ : ∃ j, k = j + 1 := ⟨k - 1, by omega⟩
  obtain ⟨aL, lL, cL, aD, lD, cD, aT, lT, cT, ls, rfl, hs⟩ := hs
  have e1 := hs.lenL
  have e1' := hs.lenL'
  have e2 := hs.lenD
  have e3 := hs.lenT
  rw [f66_eq]
  refine ok_al fun i H1 hi n1 A1 B1 => ok_al fun i' H2 hi' n2 A2 B2 => ?_
  have A02 := A1.trans A2
  refine ok_bSl (ldSl_at (B1.agree A2) (by simp) rfl) ?_
  refine ok_cSl (f88_spec (by omega) (by omega) (hs.L.1.agree A02)) fun a3 l3 c3 H3 hp => ?_
  obtain ⟨rfl, o3, A3⟩ := hp
  have n3 := A3.next
  refine ok_wr ((B1.agree A2).agree A3) rfl (by simp) fun H4 W4 => ok_bSl (ldSl_at W4.at' (by simp) rfl) ?_
  have n4 := W4.next
  refine f66_loop (k := k) (H0 := H) (p1 := i) (p2 := i') (M := H2.next) (by omega) hs e1 (by omega) (by omega) (by omega) (rd_le hs hr) (by omega) (by omega) (by omega) (by omega) (by omega)
    l3 0 k ls H4 _ _ _ _ _ _ _ _ _ (by omega) (by omega) ((A02.trans A3).wrote W4 (by omega)) (by omega) W4.at' ((B2.agree A3).wrote W4 (by omega)) (o3.wrote W4 (by omega)) hs.locks e1.symm rfl (fun x hx => by simp at hx) (fun x hx => by simp at hx) (by simp)
end
end Go.Proofs.MxF
end
