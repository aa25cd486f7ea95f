/- The state of the objects, and what a walk sees of it. -/
import Derived.Test.YtcegcnopakfloaaXT1
import Derived.Test.YtcegcnopakfloaaXL1
import Derived.Test.YtcegcnopakfloaaXA2
import Derived.Test.YtcegcnopakfloaaXOa
set_option linter.unusedVariables false
namespace Go.Mx
open Go
section
variable {α : Type} {f : α → List Value} {sz : Nat} {H : AHeap} {a : Option Addr} {n : Nat} {xs : List α} {i j : Nat} {x : α}
theorem tbl_ldI (hf : ∀ x, (f x).length = sz) (h : Cells H a n (xs.flatMap f)) (hx : xs[i]? = some x) {k : IntKind} {v : Int} (hj : (f x)[j]? = some (.int k v)) :
    ∃ q, a = some q ∧ ldI k H q.block (q.off + (i : Int).toNat * sz + j) = some v := by
  have hjl : j < sz := by rw [← hf x]; exact (List.getElem?_eq_some_iff.1 hj).1
  obtain ⟨q, e, hq⟩ := h.ldI ((flat_get hf hx hjl).trans hj)
  exact ⟨q, e, by rw [Int.toNat_natCast, Nat.add_assoc]; exact hq⟩
theorem tbl_ldB (hf : ∀ x, (f x).length = sz) (h : Cells H a n (xs.flatMap f)) (hx : xs[i]? = some x) {v : Bool} (hj : (f x)[j]? = some (.bool v)) :
    ∃ q, a = some q ∧ ldB H q.block (q.off + (i : Int).toNat * sz + j) = some v := by
  have hjl : j < sz := by rw [← hf x]; exact (List.getElem?_eq_some_iff.1 hj).1
  obtain ⟨q, e, hq⟩ := h.ldB ((flat_get hf hx hjl).trans hj)
  exact ⟨q, e, by rw [Int.toNat_natCast, Nat.add_assoc]; exact hq⟩
theorem tbl_ldSl (hf : ∀ x, (f x).length = sz) (h : Cells H a n (xs.flatMap f)) (hx : xs[i]? = some x) {b : Option Addr} {l c : Nat} (hj : (f x)[j]? = some (.slice b l c)) :
    ∃ q, a = some q ∧ ldSl H q.block (q.off + (i : Int).toNat * sz + j) = some (b, l, c) := by
  have hjl : j < sz := by rw [← hf x]; exact (List.getElem?_eq_some_iff.1 hj).1
  obtain ⟨q, e, hq⟩ := h.ldSl ((flat_get hf hx hjl).trans hj)
  exact ⟨q, e, by rw [Int.toNat_natCast, Nat.add_assoc]; exact hq⟩
theorem tbl_row (hf : ∀ x, (f x).length = sz) (hsz : 0 < sz) (h : Cells H a n (xs.flatMap f)) (hx : xs[i]? = some x) :
    ∃ q, a = some q ∧ H.row q.block (q.off + (i : Int).toNat * sz) sz = some (f x) := by
  have hn : n = xs.length * sz := by rw [← flat_len hf]; exact h.1.symm
  have hi : i < xs.length := (List.getElem?_eq_some_iff.1 hx).1
  obtain ⟨q, e, hq⟩ := h.row (j := i * sz) (m := sz) hsz (by rw [hn, ← Nat.succ_mul]; exact Nat.mul_le_mul_right _ hi)
  exact ⟨q, e, by rw [Int.toNat_natCast, hq, flat_row hf hx]⟩
end
end Go.Mx
namespace Go.Proofs.MxF
open Go Go.Mx Go.Proofs
/-- a lock's state -/
structure LockS where
  own : Int
  rd : List Int
deriving DecidableEq
structure ThS where
  st : Int
  cd : Int
  at' : Bool
deriving DecidableEq
structure SyncS where
  locks : List LockS
  tx : Int
  done : List Bool
  ths : List ThS
deriving DecidableEq
/-- a lock's state with the place of its readers -/
structure LkV where
  own : Int
  a : Option Addr
  l : Nat
  c : Nat
  rd : List Int
def LkV.pure (x : LkV) : LockS := ⟨x.own, x.rd⟩
def rowL (x : LkV) : List Value := [.int .i64 x.own, .slice x.a x.l x.c]
def rowT (x : ThS) : List Value := [.int .i64 x.st, .int .i64 x.cd, .bool x.at']
def rowB (x : Bool) : List Value := [.bool x]
theorem rowL_len (x : LkV) : (rowL x).length = 2 := rfl
theorem rowT_len (x : ThS) : (rowT x).length = 3 := rfl
theorem rowB_len (x : Bool) : (rowB x).length = 1 := rfl
def IntsF (F : Nat → Prop) (H : AHeap) (a : Option Addr) (l : Nat) (xs : List Int) : Prop := CellsF F H a l (ints xs)

/-- a state that lies in three slices -/
structure SyncP (F : Nat → Prop) (H : AHeap) (aL : Option Addr) (lL : Nat) (aD : Option Addr) (lD : Nat) (aT : Option Addr) (lT : Nat) (ls : List LkV) (s : SyncS) : Prop where
  L : CellsF F H aL (lL * 2) (ls.flatMap rowL)
  D : CellsF F H aD (lD * 1) (s.done.flatMap rowB)
  T : CellsF F H aT (lT * 3) (s.ths.flatMap rowT)
  locks : ls.map LkV.pure = s.locks
  rd : ∀ x ∈ ls, IntsF F H x.a x.l x.rd
def SyncR (F : Nat → Prop) (H : AHeap) (cs : List Value) (s : SyncS) : Prop :=
  ∃ aL lL cL aD lD cD aT lT cT ls, cs = [.slice aL lL cL, .int .i64 s.tx, .slice aD lD cD, .slice aT lT cT] ∧ SyncP F H aL lL aD lD aT lT ls s
section
variable {F G : Nat → Prop} {H H' : AHeap} {aL : Option Addr} {lL : Nat} {aD : Option Addr} {lD : Nat} {aT : Option Addr} {lT : Nat} {ls : List LkV} {s : SyncS} {cs : List Value}
theorem SyncP.lenL (h : SyncP F H aL lL aD lD aT lT ls s) : lL = ls.length := by have := h.L.1.1; rw [flat_len rowL_len] at this; omega
theorem SyncP.lenL' (h : SyncP F H aL lL aD lD aT lT ls s) : lL = s.locks.length := by rw [h.lenL, ← h.locks, List.length_map]
theorem SyncP.lenD (h : SyncP F H aL lL aD lD aT lT ls s) : lD = s.done.length := by have := h.D.1.1; rw [flat_len rowB_len] at this; omega
theorem SyncP.lenT (h : SyncP F H aL lL aD lD aT lT ls s) : lT = s.ths.length := by have := h.T.1.1; rw [flat_len rowT_len] at this; omega
theorem SyncP.agree (h : SyncP F H aL lL aD lD aT lT ls s) (A : Agree H H') : SyncP F H' aL lL aD lD aT lT ls s := ⟨h.L.agree A, h.D.agree A, h.T.agree A, h.locks, fun x hx => (h.rd x hx).agree A⟩
theorem SyncP.wrote (h : SyncP F H aL lL aD lD aT lT ls s) {i : Nat} {b' : Blk} (w : Wrote H H' i b') (hi : ¬ F i) : SyncP F H' aL lL aD lD aT lT ls s := ⟨h.L.wrote w hi, h.D.wrote w hi, h.T.wrote w hi, h.locks, fun x hx => (h.rd x hx).wrote w hi⟩
theorem SyncP.mono (h : SyncP F H aL lL aD lD aT lT ls s) (k : ∀ i, F i → G i) : SyncP G H aL lL aD lD aT lT ls s := ⟨h.L.mono k, h.D.mono k, h.T.mono k, h.locks, fun x hx => (h.rd x hx).mono k⟩
theorem SyncR.agree (h : SyncR F H cs s) (A : Agree H H') : SyncR F H' cs s := by
  obtain ⟨aL, lL, cL, aD, lD, cD, aT, lT, cT, ls, e, h⟩ := h; exact ⟨aL, lL, cL, aD, lD, cD, aT, lT, cT, ls, e, h.agree A⟩
theorem SyncR.wrote (h : SyncR F H cs s) {i : Nat} {b' : Blk} (w : Wrote H H' i b') (hi : ¬ F i) : SyncR F H' cs s := by
  obtain ⟨aL, lL, cL, aD, lD, cD, aT, lT, cT, ls, e, h⟩ := h; exact ⟨aL, lL, cL, aD, lD, cD, aT, lT, cT, ls, e, h.wrote w hi⟩
theorem SyncR.mono (h : SyncR F H cs s) (k : ∀ i, F i → G i) : SyncR G H cs s := by
  obtain ⟨aL, lL, cL, aD, lD, cD, aT, lT, cT, ls, e, h⟩ := h; exact ⟨aL, lL, cL, aD, lD, cD, aT, lT, cT, ls, e, h.mono k⟩
/-- lock number i -/
theorem SyncP.lock (h : SyncP F H aL lL aD lD aT lT ls s) {i : Nat} (hi : i < lL) : ∃ x, ls[i]? = some x ∧ s.locks[i]? = some x.pure ∧ IntsF F H x.a x.l x.rd := by
  have := h.lenL
  have e := List.getElem?_eq_getElem (show i < ls.length by omega)
  refine ⟨_, e, ?_, h.rd _ (List.getElem_mem _)⟩
  rw [← h.locks, List.getElem?_map, e]; rfl
end

theorem awake35 {k : Nat} (hk : 1 ≤ k) (H : AHeap) : C k 35 [] H = some (.bool true, H) := by
  obtain ⟨k, rfl⟩ : ∃ j, k = j + 1 := ⟨k - 1, by omega⟩
  rfl

theorem f64_loop {k l c : Nat} {a : Option Addr} {l' c' : Nat} {a' : Option Addr} {xs : List Int} (hl : l < maxLen) (hll : l' = l) : ∀ (m i n : Nat) (H : AHeap) (D : List Value), Ints H a l xs → Ints H a' l' xs → i + m = l → m < n →
    Ok (f64.L1 k n a l c a' l' c' (i : Int) D H) fun r => r.1 = .bool true ∧ Agree H r.2 := by
  intro m
  induction m with
  | zero =>
    intro i n H D h h' hm hn
    obtain ⟨n, rfl⟩ : ∃ j, n = j + 1 := ⟨n - 1, by omega⟩
    rw [f64.L1_s]
    exact ok_biff (by simp only [decide_eq_false_iff_not]; omega) (Ok.ret ⟨rfl, Agree.refl H⟩)
  | succ m ih =>
    intro i n H D h h' hm hn
    obtain ⟨n, rfl⟩ : ∃ j, n = j + 1 := ⟨n - 1, by omega⟩
    rw [f64.L1_s]
    have Ab := agree_bump H 9
    obtain ⟨q, x, hx, e, hq⟩ := Ints.at (h.agree Ab) (i := i) (by omega)
    obtain ⟨q', x', hx', e', hq'⟩ := Ints.at (h'.agree Ab) (i := i) (by omega)
    rw [hx] at hx'
    cases hx'
    refine ok_bift (by simp only [decide_eq_true_eq]; omega) (ok_bind e (ok_if (by omega) (ok_bift (Cells.stay h e _ Ab) (ok_bind hq (ok_bind e' (ok_if (by omega) (ok_bift (Cells.stay h' e' _ Ab) (ok_bind hq' (ok_biff (by simp) ?_)))))))))
    rw [wrapS (l := l) (by omega) (Nat.le_of_lt hl)]
    obtain ⟨r, er, h1, h2⟩ := ih (i + 1) n _ _ (h.agree Ab) (h'.agree Ab) (by omega) (by omega)
    exact ⟨r, er, h1, Ab.trans h2⟩
theorem f64_spec {k l c : Nat} {a : Option Addr} {l' c' : Nat} {a' : Option Addr} {xs : List Int} {H : AHeap} (hl : l < maxLen) (hk : l + 3 ≤ k) (h : Ints H a l xs) (h' : Ints H a' l' xs) :
    ∃ H', C k 64 [.slice a l c, .slice a' l' c'] H = some (.bool true, H') ∧ Agree H H' := by
  obtain ⟨k, rfl⟩ : ∃ j, k = j + 1 := ⟨k - 1, by omega⟩
  rw [f64_eq]
  have hll : l' = l := h'.len.trans h.len.symm
  refine call_of_ok (ok_biff (by simp [hll]) ?_)
  exact f64_loop (k := k) (c := c) (c' := c') hl hll l 0 k H _ h h' (by omega) (by omega)

theorem eq78 (a b : Int) (c : Bool) (a' b' : Int) (c' : Bool) : eqV Try.prog 40 78 (.agg #[.int .i64 a, .int .i64 b, .bool c]) (.agg #[.int .i64 a', .int .i64 b', .bool c']) = some ((a == a') && ((b == b') && ((c == c') && true))) := by kernel_rfl
section
variable {k p2 p3 : Nat} {F G : Nat → Prop} {aL : Option Addr} {lL cL : Nat} {aD : Option Addr} {lD cD : Nat} {aT : Option Addr} {lT cT : Nat} {ls : List LkV} {s : SyncS} {bL : Option Addr} {mL dL : Nat} {bD : Option Addr} {mD dD : Nat} {bT : Option Addr} {mT dT : Nat} {ms : List LkV}
/-- both boxes of Same -/
structure Both (p2 p3 : Nat) (aL : Option Addr) (lL cL : Nat) (aD : Option Addr) (lD cD : Nat) (aT : Option Addr) (lT cT : Nat) (ls : List LkV) (s : SyncS) (bL : Option Addr) (mL dL : Nat) (bD : Option Addr) (mD dD : Nat) (bT : Option Addr) (mT dT : Nat) (ms : List LkV) (F G : Nat → Prop) (H : AHeap) : Prop where
  b2 : ∃ e v, At H p2 ⟨[.slice aL lL cL, .int .i64 s.tx, .slice aD lD cD, .slice aT lT cT], e, .rw, v⟩
  b3 : ∃ e v, At H p3 ⟨[.slice bL mL dL, .int .i64 s.tx, .slice bD mD dD, .slice bT mT dT], e, .rw, v⟩
  s2 : SyncP F H aL lL aD lD aT lT ls s
  s3 : SyncP G H bL mL bD mD bT mT ms s
theorem Both.agree {H H' : AHeap} (h : Both p2 p3 aL lL cL aD lD cD aT lT cT ls s bL mL dL bD mD dD bT mT dT ms F G H) (A : Agree H H') : Both p2 p3 aL lL cL aD lD cD aT lT cT ls s bL mL dL bD mD dD bT mT dT ms F G H' := by
  obtain ⟨⟨e, v, h1⟩, ⟨e', v', h2⟩, h3, h4⟩ := h
  exact ⟨⟨e, v, h1.agree A⟩, ⟨e', v', h2.agree A⟩, h3.agree A, h4.agree A⟩
theorem f32_l3 (hl : lT ≤ 1000) : ∀ (m i n : Nat) (H : AHeap) (D : List Value), Both p2 p3 aL lL cL aD lD cD aT lT cT ls s bL mL dL bD mD dD bT mT dT ms F G H → i + m = lT → m < n →
    Ok (f32.L3 k n p2 p3 (i : Int) D H) fun r => r.1 = .bool true ∧ Agree H r.2 := by
  intro m
  induction m with
  | zero =>
    intro i n H D h hm hn
    obtain ⟨n, rfl⟩ : ∃ j, n = j + 1 := ⟨n - 1, by omega⟩
    rw [f32.L3_s]
    obtain ⟨e, v, b2⟩ := h.b2
    exact ok_bSl (ldSl_at b2 (by simp) rfl) (ok_biff (by simp only [decide_eq_false_iff_not]; omega) (Ok.ret ⟨rfl, Agree.refl H⟩))
  | succ m ih =>
    intro i n H D h hm hn
    obtain ⟨n, rfl⟩ : ∃ j, n = j + 1 := ⟨n - 1, by omega⟩
    rw [f32.L3_s]
    obtain ⟨e, v, b2⟩ := h.b2
    obtain ⟨e', v', b3⟩ := h.b3
    have Ab := agree_bump H 11
    have hb := h.agree Ab
    have l2 := h.s2.lenT
    have l3 := h.s3.lenT
    have hx := List.getElem?_eq_getElem (show i < s.ths.length by omega)
    obtain ⟨q, eq, hq⟩ := tbl_row rowT_len (by omega) hb.s2.T.1 hx
    obtain ⟨q', eq', hq'⟩ := tbl_row rowT_len (by omega) hb.s3.T.1 hx
    refine ok_bSl (ldSl_at b2 (by simp) rfl) (ok_bift (by simp only [decide_eq_true_eq]; omega) (ok_bift (sameB_agree b2 Ab) (ok_bSl (ldSl_at (b2.agree Ab) (by simp) rfl) (ok_bind eq (ok_if (by omega) (ok_bift (h.s2.T.1.stay eq _ Ab) (ok_bind hq ?_)))))))
    refine ok_bift (sameB_agree b3 Ab) (ok_bSl (ldSl_at (b3.agree Ab) (by simp) rfl) (ok_bind eq' (ok_if (by omega) (ok_bift (h.s3.T.1.stay eq' _ Ab) (ok_bind hq' ?_)))))
    refine ok_bind (eq78 _ _ _ _ _ _) (ok_biff (by simp) ?_)
    rw [wrapS (l := lT) (by omega) (by unfold maxLen; omega)]
    obtain ⟨r, er, h1, h2⟩ := ih (i + 1) n _ _ hb (by omega) (by omega)
    exact ⟨r, er, h1, Ab.trans h2⟩
theorem f32_l2 (hl : lT ≤ 1000) (hl2 : lD ≤ 1000) (hk : 1100 ≤ k) : ∀ (m i n : Nat) (H : AHeap) (D : List Value), Both p2 p3 aL lL cL aD lD cD aT lT cT ls s bL mL dL bD mD dD bT mT dT ms F G H → i + m = lD → m < n →
    Ok (f32.L2 k n p2 p3 (i : Int) D H) fun r => r.1 = .bool true ∧ Agree H r.2 := by
  intro m
  induction m with
  | zero =>
    intro i n H D h hm hn
    obtain ⟨n, rfl⟩ : ∃ j, n = j + 1 := ⟨n - 1, by omega⟩
    rw [f32.L2_s]
    obtain ⟨e, v, b2⟩ := h.b2
    exact ok_bSl (ldSl_at b2 (by simp) rfl) (ok_biff (by simp only [decide_eq_false_iff_not]; omega) (f32_l3 hl lT 0 k H _ h (by omega) (by omega)))
  | succ m ih =>
    intro i n H D h hm hn
    obtain ⟨n, rfl⟩ : ∃ j, n = j + 1 := ⟨n - 1, by omega⟩
    rw [f32.L2_s]
    obtain ⟨e, v, b2⟩ := h.b2
    obtain ⟨e', v', b3⟩ := h.b3
    have Ab := agree_bump H 11
    have hb := h.agree Ab
    have l2 := h.s2.lenD
    have l3 := h.s3.lenD
    have hx := List.getElem?_eq_getElem (show i < s.done.length by omega)
    obtain ⟨q, eq, hq⟩ := tbl_ldB rowB_len hb.s2.D.1 hx (j := 0) rfl
    obtain ⟨q', eq', hq'⟩ := tbl_ldB rowB_len hb.s3.D.1 hx (j := 0) rfl
    refine ok_bSl (ldSl_at b2 (by simp) rfl) (ok_bift (by simp only [decide_eq_true_eq]; omega) (ok_bift (sameB_agree b2 Ab) (ok_bSl (ldSl_at (b2.agree Ab) (by simp) rfl) (ok_bind eq (ok_if (by omega) (ok_bift (h.s2.D.1.stay eq _ Ab) (ok_bind hq ?_)))))))
    refine ok_bift (sameB_agree b3 Ab) (ok_bSl (ldSl_at (b3.agree Ab) (by simp) rfl) (ok_bind eq' (ok_if (by omega) (ok_bift (h.s3.D.1.stay eq' _ Ab) (ok_bind hq' ?_)))))
    refine ok_biff (by simp) ?_
    rw [wrapS (l := lD) (by omega) (by unfold maxLen; omega)]
    obtain ⟨r, er, h1, h2⟩ := ih (i + 1) n _ _ hb (by omega) (by omega)
    exact ⟨r, er, h1, Ab.trans h2⟩
theorem f32_l1 (hl : lT ≤ 1000) (hl2 : lD ≤ 1000) (hl1 : lL ≤ 1000) (hk : 1100 ≤ k) (hrd : ∀ x ∈ ls, x.l ≤ 1000) (hmap : ls.map LkV.pure = s.locks) : ∀ (m i n : Nat) (H : AHeap) (D : List Value), Both p2 p3 aL lL cL aD lD cD aT lT cT ls s bL mL dL bD mD dD bT mT dT ms F G H → i + m = lL → m < n →
    Ok (f32.L1 k n p2 p3 (i : Int) D H) fun r => r.1 = .bool true ∧ Agree H r.2 := by
  intro m
  induction m with
  | zero =>
    intro i n H D h hm hn
    obtain ⟨n, rfl⟩ : ∃ j, n = j + 1 := ⟨n - 1, by omega⟩
    rw [f32.L1_s]
    obtain ⟨e, v, b2⟩ := h.b2
    exact ok_bSl (ldSl_at b2 (by simp) rfl) (ok_biff (by simp only [decide_eq_false_iff_not]; omega) (f32_l2 hl hl2 hk lD 0 k H _ h (by omega) (by omega)))
  | succ m ih =>
    intro i n H D h hm hn
    obtain ⟨n, rfl⟩ : ∃ j, n = j + 1 := ⟨n - 1, by omega⟩
    rw [f32.L1_s]
    obtain ⟨e, v, b2⟩ := h.b2
    obtain ⟨e', v', b3⟩ := h.b3
    have Ab := agree_bump H 29
    have hb := h.agree Ab
    have l2 := h.s2.lenL'
    have l3 := h.s3.lenL'
    obtain ⟨x, hx, px, ix⟩ := hb.s2.lock (i := i) (by omega)
    obtain ⟨y, hy, py, iy⟩ := hb.s3.lock (i := i) (by omega)
    rw [px] at py
    have hown : x.own = y.own := congrArg LockS.own (Option.some.inj py)
    have hrdl : x.rd = y.rd := congrArg LockS.rd (Option.some.inj py)
    obtain ⟨q, eq, hq⟩ := tbl_ldI rowL_len hb.s2.L.1 hx (j := 0) rfl
    obtain ⟨q', eq', hq'⟩ := tbl_ldI rowL_len hb.s3.L.1 hy (j := 0) rfl
    obtain ⟨r, er, hr⟩ := tbl_ldSl rowL_len hb.s2.L.1 hx (j := 1) rfl
    obtain ⟨r', er', hr'⟩ := tbl_ldSl rowL_len hb.s3.L.1 hy (j := 1) rfl
    have sx := h.s2.L.1.stay eq _ Ab
    have sy := h.s3.L.1.stay eq' _ Ab
    rw [eq] at er
    cases er
    rw [eq'] at er'
    cases er'
    refine ok_bSl (ldSl_at b2 (by simp) rfl) (ok_bift (by simp only [decide_eq_true_eq]; omega) (ok_bift (sameB_agree b2 Ab) (ok_bSl (ldSl_at (b2.agree Ab) (by simp) rfl) (ok_bind eq (ok_if (by omega) (ok_bift sx (ok_bind hq ?_)))))))
    refine ok_bift (sameB_agree b3 Ab) (ok_bSl (ldSl_at (b3.agree Ab) (by simp) rfl) (ok_bind eq' (ok_if (by omega) (ok_bift sy (ok_bind hq' ?_)))))
    refine ok_biff (by rw [hown]; simp) ?_
    refine ok_bift (sameB_agree b2 Ab) (ok_bSl (ldSl_at (b2.agree Ab) (by simp) rfl) (ok_bind eq (ok_if (by omega) (ok_bift sx (ok_bSl hr ?_)))))
    refine ok_bift (sameB_agree b3 Ab) (ok_bSl (ldSl_at (b3.agree Ab) (by simp) rfl) (ok_bind eq' (ok_if (by omega) (ok_bift sy (ok_bSl hr' ?_)))))
    have hxl := hrd x (List.mem_of_getElem? hx)
    have hm' : maxLen = 9223372036854775807 := rfl
    refine ok_cB (f64_spec (by omega) (by omega) ix.1 (by rw [hrdl]; exact iy.1)) fun H1 A1 => ok_biff rfl ?_
    rw [wrapS (l := lL) (by omega) (by omega)]
    have A2 := Ab.trans A1
    obtain ⟨r, er, h1, h2⟩ := ih (i + 1) n _ _ (h.agree A2) (by omega) (by omega)
    exact ⟨r, er, h1, A2.trans h2⟩
/-- Same, of equal states -/
theorem f32_spec {H : AHeap} {cs cs' : List Value} (hk : 1200 ≤ k) (h : SyncR F H cs s) (h' : SyncR G H cs' s) (hl : s.ths.length ≤ 1000) (hl2 : s.done.length ≤ 1000) (hl1 : s.locks.length ≤ 1000) (hrd : ∀ x ∈ s.locks, x.rd.length ≤ 1000) :
    ∃ H', C k 32 [.agg cs.toArray, .agg cs'.toArray] H = some (.bool true, H') ∧ Agree H H' := by
  obtain ⟨k, rfl⟩ : ∃ j, k = j + 1 + 1 := ⟨k - 2, by omega⟩
  obtain ⟨aL, lL, cL, aD, lD, cD, aT, lT, cT, ls, rfl, h⟩ := h
  obtain ⟨bL, mL, dL, bD, mD, dD, bT, mT, dT, ms, rfl, h'⟩ := h'
  rw [f32_eq]
  have l1 := h.lenL'
  have l1' := h'.lenL'
  have l2 := h.lenD
  have l2' := h'.lenD
  have l3 := h.lenT
  have l3' := h'.lenT
  refine call_of_ok (ok_al fun i H1 hi n1 A1 B1 => ok_al fun i' H2 hi' n2 A2 B2 => ?_)
  have A02 := A1.trans A2
  have B12 := B1.agree A2
  refine ok_bind (ldI_at B12 (by simp) rfl) (ok_bind (ldI_at B2 (by simp) rfl) (ok_biff (by simp) ?_))
  refine ok_bSl (ldSl_at B12 (by simp) rfl) (ok_bSl (ldSl_at B2 (by simp) rfl) (ok_biff (by simp; omega) ?_))
  refine ok_bSl (ldSl_at B12 (by simp) rfl) (ok_bSl (ldSl_at B2 (by simp) rfl) (ok_biff (by simp; omega) ?_))
  refine ok_bSl (ldSl_at B12 (by simp) rfl) (ok_bSl (ldSl_at B2 (by simp) rfl) (ok_biff (by simp; omega) ?_))
  rw [f32.K1_eq]
  have hls : ∀ x ∈ ls, x.l ≤ 1000 := fun x hx => by
    have := (h.rd x hx).1
    have e := Ints.len this
    have := hrd x.pure (by rw [← h.locks]; exact List.mem_map_of_mem hx)
    have : x.rd.length ≤ 1000 := this
    omega
  obtain ⟨r, er, e1, e2⟩ := f32_l1 (k := k + 1) (by omega) (by omega) (by omega) (by omega) hls h.locks lL 0 (k + 1) H2 _ ⟨⟨_, _, B12⟩, ⟨_, _, B2⟩, h.agree A02, h'.agree A02⟩ (by omega) (by omega)
  exact ⟨r, er, e1, A02.trans e2⟩
end
end Go.Proofs.MxF
