/- Simulation of single operations, part 4. -/
import Derived.Test.YtcegcnopakfloaaXM6
import Derived.Laws.StructEq
namespace Go.Mx
open Go Go.RowKit

section
variable {P : Program} {call : CallF} {w0 w : World} {ρ : Ren} {t : List Value} {H H' : AHeap} {a : Act} {o : Oper} {slot : Option Nat} {v : Value}
  {Q : Exit → Act → World → Prop}

theorem part_sim {ty : TypeId} {cs : List Value} {cs' : Array Value} {off : Nat} (h : partV P ty cs off = some v) (hc : All2 (SRel ρ) cs cs'.toList) :
    ∃ v', (part ty cs' off).run P w = .ok v' w ∧ VR1 ρ v v' := by
  unfold partV at h
  split at h
  · rename_i d hd
    cases hg : isAggD d with
    | true =>
      rw [hg] at h
      simp only [cond_true] at h
      split at h
      · rename_i n hn
        obtain ⟨inf, hi, rfl⟩ := szOf_spec hn
        split at h
        · rename_i hle
          obtain rfl := Option.some.inj h
          have hag : (isAgg ty).run P w = .ok true w := by
            simp only [isAgg, run_underlying hd, Sem.run_bind]
            cases d <;> first | rfl | cases hg
          refine ⟨.agg (cs'.extract off (off + inf.size)), ?_, .inr ⟨_, _, rfl, rfl, ?_⟩⟩
          · simp [part, hag, sizeOf, typeInfo, hi]
          · have : (cs'.extract off (off + inf.size)).toList = (cs'.toList.drop off).take inf.size := by
              simp [List.extract_eq_take_drop]
            rw [this]
            exact (hc.drop off).take inf.size
        · cases h
      · cases h
    | false =>
      rw [hg] at h
      simp only [cond_false] at h
      obtain ⟨v', h1, h2⟩ := hc.get off v h
      have hag : (isAgg ty).run P w = .ok false w := by
        simp only [isAgg, run_underlying hd, Sem.run_bind]
        cases d <;> first | rfl | cases hg
      have h1' : cs'[off]? = some v' := by simpa using h1
      exact ⟨v', by simp [part, hag, h1'], .inl h2⟩
  · cases h

theorem sim_field {ty : TypeId} {x : Operand} {f : Nat} (ho : o.op = .field ty x f) (h : opS P call slot o t H = some (v, H')) (hR : Rel w0 ρ H w) (hT : TRel ρ t a) : o.wp P a w (OpGoal w0 ρ o a v H') Q := by
  simp only [opS, aopK, ho] at h
  split at h
  · rename_i cs hx
    split at h
    · rename_i fs hu
      split at h
      · rename_i fl hf
        obtain ⟨u, hp, h⟩ := Option.bind_eq_some_iff.1 h
        rw [normK_cps] at h
        obtain ⟨u2, hu2, h⟩ := Option.bind_eq_some_iff.1 h
        cases h
        obtain rfl := normK_id hu2
        obtain ⟨cs', he, hc⟩ := (aev_rel hT hx).agg
        obtain ⟨v', h1, h2⟩ := part_sim (w := w) hp hc
        have hf' : fs[f]? = some fl := by simpa using hf
        exact sim_same v' hR h2.v (by simp [execOp, ho, he, Instr.field, run_underlying hu, hf', asAgg, h1])
      · cases h
    · cases h
  · cases h

theorem sim_index {ty : TypeId} {x ix : Operand} (ho : o.op = .index ty x ix) (h : opS P call slot o t H = some (v, H')) (hR : Rel w0 ρ H w) (hT : TRel ρ t a) : o.wp P a w (OpGoal w0 ρ o a v H') Q := by
  simp only [opS, aopK, ho] at h
  split at h
  · rename_i k i hix
    split at h
    · rename_i cs hx
      split at h
      · rename_i l e hu
        split at h
        · rename_i n hn
          split at h
          · rename_i hb
            obtain ⟨u, hp, h⟩ := Option.bind_eq_some_iff.1 h
            rw [normK_cps] at h
            obtain ⟨u2, hu2, h⟩ := Option.bind_eq_some_iff.1 h
            cases h
            obtain rfl := normK_id hu2
            obtain ⟨cs', he, hc⟩ := (aev_rel hT hx).agg
            obtain ⟨v', h1, h2⟩ := part_sim (w := w) hp hc
            obtain ⟨inf, hinf, rfl⟩ := szOf_spec hn
            exact sim_same v' hR h2.v (by simp [execOp, ho, he, (aev_rel hT hix).int, Instr.index, asIntOf, run_underlying hu, hb.1, hb.2, sizeOf, typeInfo, hinf, h1])
          · cases h
        · cases h
      · cases h
    · rename_i s hx
      split at h
      · rename_i hu
        split at h
        · rename_i hb
          obtain ⟨u, hp, h⟩ := Option.bind_eq_some_iff.1 h
          cases h
          exact sim_same _ hR (.inl (.inl (.inl rfl))) (by simp [execOp, ho, (aev_rel hT hx).string, (aev_rel hT hix).int, Instr.index, asIntOf, run_underlying hu, hb, hp])
        · cases h
      · cases h
    · cases h
  · cases h

theorem eqFs_sim {eq : TypeId → Value → Value → Option Bool} {D : Nat} (he : ∀ ty x y b x' y', eq ty x y = some b → VRel ρ x x' → VRel ρ y y' → (Op.equalIn D ty x' y').run P w = .ok b w)
    {xs ys : List Value} {xs' ys' : Array Value} (hx : All2 (SRel ρ) xs xs'.toList) (hy : All2 (SRel ρ) ys ys'.toList) :
    ∀ {fs : List Field} {b : Bool}, eqFs P eq xs ys fs = some b → (Op.eqFields D xs' ys' fs).run P w = .ok b w := by
  intro fs
  induction fs with
  | nil => intro b h; simp only [eqFs, Option.some.injEq] at h; subst h; simp [Op.eqFields]
  | cons f fs ih =>
    intro b h
    simp only [eqFs] at h
    split at h
    · cases h
    · rename_i hn
      split at h
      · rename_i u1 u2 h1 h2
        obtain ⟨r, hr, h⟩ := Option.bind_eq_some_iff.1 h
        obtain ⟨s, hs, h⟩ := Option.bind_eq_some_iff.1 h
        cases h
        obtain ⟨v1, p1, q1⟩ := part_sim (w := w) h1 hx
        obtain ⟨v2, p2, q2⟩ := part_sim (w := w) h2 hy
        have e1 := he _ _ _ _ _ _ hr q1.v q2.v
        have hn' : f.name ≠ "_" := by simpa using hn
        rw [Op.eqFields]
        simp only [if_pos hn', Sem.run_bind, p1, p2, e1, Result.andThen_ok]
        cases r
        · simp
        · simpa using ih hs
      · cases h

theorem asI_some {k : IntKind} {n : Int} (h : asI k v = some n) : v = .int k n := by
  cases v with
  | int k' m => simp only [asI] at h; split at h
                · rename_i e; subst e; simpa using h
                · cases h
  | _ => cases h
theorem asB_some {b : Bool} (h : asB v = some b) : v = .bool b := by cases v <;> simp [asB] at h; rw [h]
theorem asS_some {b : ByteArray} (h : asS v = some b) : v = .string b := by cases v <;> simp [asS] at h; rw [h]
theorem asSl_some {s : Option Addr × Nat × Nat} (h : asSl v = some s) : v = .slice s.1 s.2.1 s.2.2 := by cases v <;> simp [asSl] at h; subst h; rfl
theorem asAg_some {s : Array Value} (h : asAg v = some s) : v = .agg s := by cases v <;> simp [asAg] at h; rw [h]

theorem slice_shape {x : Option Addr} {l c : Nat} {v' : Value} (h : VRel ρ (.slice x l c) v') : ∃ y m d, v' = .slice y m d ∧ y.isNone = x.isNone := by
  have hz := h.slice
  cases x with
  | none => obtain ⟨_, _, rfl⟩ := hz; exact ⟨_, _, _, rfl, rfl⟩
  | some a => obtain ⟨_, ⟨_, _, rfl⟩ | ⟨_, _, _, rfl⟩⟩ := hz <;> exact ⟨_, _, _, rfl, rfl⟩

theorem eqV_sim : ∀ (d k : Nat) (ty : TypeId) (x y : Value) (b : Bool) (x' y' : Value), eqV P d ty x y = some b → VRel ρ x x' → VRel ρ y y' →
    (Op.equalIn (d + k) ty x' y').run P w = .ok b w := by
  intro d
  induction d with
  | zero => intro k ty x y b x' y' h; cases h
  | succ d ih =>
    intro k ty x y b x' y' h hx hy
    rw [show d + 1 + k = (d + k) + 1 from by omega]
    simp only [eqV] at h
    split at h
    · rename_i hd
      obtain ⟨a1, h1, h3⟩ := Option.bind_eq_some_iff.1 h
      obtain ⟨b1, h2, h4⟩ := Option.bind_eq_some_iff.1 h3
      clear h h3
      cases asB_some h1; cases asB_some h2; cases h4
      rw [hx.bool, hy.bool]
      simp [Op.equalIn, run_underlying hd]
    · rename_i k1 hd
      obtain ⟨a1, h1, h3⟩ := Option.bind_eq_some_iff.1 h
      obtain ⟨b1, h2, h4⟩ := Option.bind_eq_some_iff.1 h3
      clear h h3
      cases asI_some h1; cases asI_some h2; cases h4
      rw [hx.int, hy.int]
      simp [Op.equalIn, run_underlying hd]
    · rename_i hd
      obtain ⟨a1, h1, h3⟩ := Option.bind_eq_some_iff.1 h
      obtain ⟨b1, h2, h4⟩ := Option.bind_eq_some_iff.1 h3
      clear h h3
      cases asS_some h1; cases asS_some h2; cases h4
      rw [hx.string, hy.string]
      simp [Op.equalIn, run_underlying hd]
    · rename_i hd
      obtain ⟨a1, h1, h3⟩ := Option.bind_eq_some_iff.1 h
      obtain ⟨b1, h2, h4⟩ := Option.bind_eq_some_iff.1 h3
      clear h h3
      cases asSl_some h1; cases asSl_some h2
      obtain ⟨x1, m1, c1, e1, n1⟩ := slice_shape hx
      obtain ⟨x2, m2, c2, e2, n2⟩ := slice_shape hy
      rw [e1, e2]
      split at h4
      · rename_i hn
        cases h4
        rw [hn] at n1
        cases x1 with
        | none => rw [← n2]; simp [Op.equalIn, run_underlying hd]
        | some _ => cases n1
      · rename_i hn
        split at h4
        · rename_i hn2
          cases h4
          rw [hn2] at n2
          cases x2 with
          | none =>
            cases x1 with
            | none => rw [← n1] at hn; simp at hn
            | some _ => simp [Op.equalIn, run_underlying hd]
          | some _ => cases n2
        · cases h4
    · rename_i fs hd
      obtain ⟨xs, h1, h3⟩ := Option.bind_eq_some_iff.1 h
      obtain ⟨ys, h2, h4⟩ := Option.bind_eq_some_iff.1 h3
      clear h h3
      cases asAg_some h1; cases asAg_some h2
      split at h4
      · cases h4
      · rename_i hst
        obtain ⟨xs', e1, h1⟩ := hx.agg
        obtain ⟨ys', e2, h2⟩ := hy.agg
        rw [e1, e2]
        have hf : P.fieldsOf ty = fs := by simp [Program.fieldsOf, hd]
        rw [run_equalIn_struct (P := P) w (d + k) ty xs' ys' (by rw [hf]; exact hd) (by simpa using hst), hf]
        exact eqFs_sim (fun ty x y b x' y' he hx hy => ih k ty x y b x' y' he hx hy) h1 h2 h4
    · cases h

theorem run_eq_of {ty : TypeId} {x y : Value} {b : Bool} (h : ∀ w : World, (Op.equalIn 10000 ty x y).run P w = .ok b w)
    (hk : (∃ a c, x = .bool a ∧ y = .bool c) ∨ (∃ a l c b m d, x = .slice a l c ∧ y = .slice b m d) ∨ (∃ a c, x = .agg a ∧ y = .agg c)) :
    (binOp .eql ty x y).run P w = .ok (.bool b) w ∧ (binOp .neq ty x y).run P w = .ok (.bool (!b)) w := by
  rcases hk with ⟨a, c, rfl, rfl⟩ | ⟨_, _, _, _, _, _, rfl, rfl⟩ | ⟨_, _, rfl, rfl⟩ <;>
    (constructor <;> (simp only [binOp, Op.equal, Op.maxDepth, Sem.run_bind]; rw [h w]; rfl))

theorem run_eqGuard_other {op : BinOp} {ty : TypeId} {x y : Operand} {v w1 : Value} (h : ∀ xs, v ≠ .agg xs) (h2 : v ≠ .nilIface) : (eqGuard op ty x y v w1).run P w = .ok () w := by
  unfold eqGuard
  cases op <;> simp <;> (cases v <;> first | (exact absurd rfl (h _)) | (exact absurd rfl h2) | simp)

theorem binIntK_run {op : BinOp} {k : IntKind} {x y : Int} {ty : TypeId} (hns : op ≠ .shl) (hnr : op ≠ .shr) (h : binIntK op k x y some = some v) :
    (binOp op ty (.int k x) (.int k y)).run P w = .ok v w ∧ SRel ρ v v := by
  cases op <;> simp only [binIntK] at h <;> first
    | (cases h; refine ⟨?_, .inl rfl⟩; simp [binOp, Op.intArith, Op.intCmp, Op.intBits])
    | (split at h
       · cases h
       · rename_i h0; cases h; refine ⟨?_, .inl rfl⟩; simp [binOp, Op.intDiv, h0])
    | cases h

theorem binStrK_run {op : BinOp} {x y : ByteArray} {ty : TypeId} (h : binStrK op x y some = some v) :
    (binOp op ty (.string x) (.string y)).run P w = .ok v w ∧ SRel ρ v v := by
  cases op
  case add =>
    simp only [binStrK] at h
    split at h
    · rename_i hs; cases h; refine ⟨?_, .inl rfl⟩
      have : ¬ (9223372036854775807 < ((x.size : Int) + (y.size : Int))) := by omega
      simp [binOp, Op.stringOp, IntKind.max, IntKind.signed, IntKind.bits, this]
    · cases h
  all_goals
    simp only [binStrK] at h
    first
      | (cases h; refine ⟨?_, .inl rfl⟩; simp [binOp, Op.stringOp]; done)
      | cases h

theorem binK_sim {op : BinOp} {ty : TypeId} {x y x' y' : Value} {ox oy : Operand} (h : binK P op ty x y some = some v) (hx : VRel ρ x x') (hy : VRel ρ y y') :
    ∃ v', (eqGuard op ty ox oy x' y').run P w = .ok () w ∧ (binOp op ty x' y').run P w = .ok v' w ∧ SRel ρ v v' := by
  unfold binK at h
  cases x <;> (try (cases h; done))
  case int k x1 =>
    cases y with
    | int k' y1 =>
    simp only [] at h
    rw [hx.int, hy.int]
    have hg : ∀ op', (eqGuard op' ty ox oy (.int k x1) (.int k' y1)).run P w = .ok () w := fun op' => run_eqGuard_other (by intro xs e; cases e) (by intro e; cases e)
    split at h
    · split at h
      · cases h
      · rename_i h0; cases h
        exact ⟨_, hg _, by simp [binOp, Op.shift, h0], .inl rfl⟩
    · split at h
      · cases h
      · rename_i h0; cases h
        exact ⟨_, hg _, by simp [binOp, Op.shift, h0], .inl rfl⟩
    · rename_i h1 h2
      split at h
      · rename_i e; subst e
        obtain ⟨p, q⟩ := binIntK_run (w := w) (ρ := ρ) (ty := ty) (P := P) (fun e => h1 e) (fun e => h2 e) h
        exact ⟨_, hg _, p, q⟩
      · cases h
    | _ => cases h
  case string x1 =>
    obtain ⟨y1, h1, h5⟩ := Option.bind_eq_some_iff.1 h
    clear h
    cases asS_some h1
    clear h1
    have h := h5
    clear h5
    rw [hx.string, hy.string]
    obtain ⟨p, q⟩ := binStrK_run (w := w) (ρ := ρ) (ty := ty) (P := P) h
    exact ⟨_, run_eqGuard_other (by intro xs e; cases e) (by intro e; cases e), p, q⟩
  case bool x1 =>
    obtain ⟨y1, h1, h5⟩ := Option.bind_eq_some_iff.1 h
    clear h
    cases asB_some h1
    clear h1
    have h := h5
    clear h5
    rw [hx.bool, hy.bool]
    split at h
    · rename_i hd
      split at h
      · cases h
        exact ⟨_, run_eqGuard_other (by intro xs e; cases e) (by intro e; cases e), (run_eq_of (fun w => eqV_sim (w := w) (ρ := ρ) 1 9999 ty (.bool x1) (.bool y1) (x1 == y1) _ _ (by simp [eqV, hd, asB]) (.inl (.inl (.inl rfl))) (.inl (.inl (.inl rfl)))) (.inl ⟨_, _, rfl, rfl⟩)).1, .inl rfl⟩
      · cases h
        exact ⟨_, run_eqGuard_other (by intro xs e; cases e) (by intro e; cases e), (run_eq_of (fun w => eqV_sim (w := w) (ρ := ρ) 1 9999 ty (.bool x1) (.bool y1) (x1 == y1) _ _ (by simp [eqV, hd, asB]) (.inl (.inl (.inl rfl))) (.inl (.inl (.inl rfl)))) (.inl ⟨_, _, rfl, rfl⟩)).2, .inl rfl⟩
      · cases h
    · cases h
  case agg xs =>
    obtain ⟨ys, h1, h5⟩ := Option.bind_eq_some_iff.1 h
    clear h
    cases asAg_some h1
    clear h1
    have h := h5
    clear h5
    split at h
    · cases h
    · rename_i hgt
      obtain ⟨xs', e1, h1⟩ := hx.agg
      obtain ⟨ys', e2, h2⟩ := hy.agg
      split at h
      · obtain ⟨b, hb, h⟩ := Option.bind_eq_some_iff.1 h
        cases h
        have he : ∀ w : World, (Op.equalIn 10000 ty x' y').run P w = .ok b w := fun w => eqV_sim (w := w) 40 9960 ty _ _ _ _ _ hb hx hy
        subst e1; subst e2
        exact ⟨_, by simp [eqGuard, hgt], (run_eq_of he (.inr (.inr ⟨_, _, rfl, rfl⟩))).1, .inl rfl⟩
      · obtain ⟨b, hb, h⟩ := Option.bind_eq_some_iff.1 h
        cases h
        have he : ∀ w : World, (Op.equalIn 10000 ty x' y').run P w = .ok b w := fun w => eqV_sim (w := w) 40 9960 ty _ _ _ _ _ hb hx hy
        subst e1; subst e2
        exact ⟨_, by simp [eqGuard, hgt], (run_eq_of he (.inr (.inr ⟨_, _, rfl, rfl⟩))).2, .inl rfl⟩
      · cases h
  case slice a1 l1 c1 =>
    obtain ⟨s, h1, h5⟩ := Option.bind_eq_some_iff.1 h
    clear h
    cases asSl_some h1
    clear h1
    have h := h5
    clear h5
    obtain ⟨b1, m1, d1, e1, _⟩ := slice_shape hx
    obtain ⟨b2, m2, d2, e2, _⟩ := slice_shape hy
    split at h
    · obtain ⟨b, hb, h⟩ := Option.bind_eq_some_iff.1 h
      cases h
      have he : ∀ w : World, (Op.equalIn 10000 ty x' y').run P w = .ok b w := fun w => eqV_sim (w := w) 40 9960 ty _ _ _ _ _ hb hx hy
      subst e1; subst e2
      exact ⟨_, run_eqGuard_other (by intro xs e; cases e) (by intro e; cases e), (run_eq_of he (.inr (.inl ⟨_, _, _, _, _, _, rfl, rfl⟩))).1, .inl rfl⟩
    · obtain ⟨b, hb, h⟩ := Option.bind_eq_some_iff.1 h
      cases h
      have he : ∀ w : World, (Op.equalIn 10000 ty x' y').run P w = .ok b w := fun w => eqV_sim (w := w) 40 9960 ty _ _ _ _ _ hb hx hy
      subst e1; subst e2
      exact ⟨_, run_eqGuard_other (by intro xs e; cases e) (by intro e; cases e), (run_eq_of he (.inr (.inl ⟨_, _, _, _, _, _, rfl, rfl⟩))).2, .inl rfl⟩
    · cases h

theorem sim_binOp {op : BinOp} {ty uty : TypeId} {x y : Operand} (ho : o.op = .binOp op ty x y uty) (h : opS P call slot o t H = some (v, H')) (hR : Rel w0 ρ H w) (hT : TRel ρ t a) : o.wp P a w (OpGoal w0 ρ o a v H') Q := by
  simp only [opS, aopK, ho] at h
  split at h
  · rename_i u1 u2 h1 h2
    rw [binK_cps] at h
    obtain ⟨u, hu, h⟩ := Option.bind_eq_some_iff.1 h
    cases h
    obtain ⟨v', p, q, r⟩ := binK_sim (w := w) (ox := x) (oy := y) hu (aev_rel hT h1) (aev_rel hT h2)
    exact sim_same v' hR r.v (by simp [execOp, ho, p, q])
  · cases h

theorem optInt_spec (hT : TRel ρ t a) {x : Option Operand} {i : Option Int} (h : optInt t x = some i) : x.map a.eval = i.map (.int .i64) := by
  cases x with
  | none => simp only [optInt, Option.some.injEq] at h; subst h; rfl
  | some x =>
    simp only [optInt] at h
    split at h
    · rename_i n hn; cases h; simp [(aev_rel hT hn).int]
    · cases h

theorem cutBounds_run {len cap cap' : Nat} {lo hi mx : Option Int} {r : Nat × Nat × Nat} (isS : Bool) (h : cutBounds len cap lo hi mx = some r) (hc : cap ≤ cap') :
    (Instr.sliceBounds isS len cap' (lo.map (.int .i64)) (hi.map (.int .i64)) (mx.map (.int .i64))).run P w = .ok (r.1, r.2.1, if mx.isSome then r.2.2 else cap') w ∧
      r.1 ≤ r.2.1 ∧ r.2.1 ≤ r.2.2 ∧ r.2.2 ≤ cap ∧ (mx = none → r.2.2 = cap) := by
  unfold cutBounds at h
  split at h
  · rename_i m h1
    split at h
    · rename_i hb; cases h
      refine ⟨?_, by simp; omega, by simp; omega, by simp; omega, by simp⟩
      obtain ⟨m, rfl⟩ := Int.eq_ofNat_of_zero_le hb.1
      obtain ⟨h1, rfl⟩ := Int.eq_ofNat_of_zero_le hb.2.2.1
      have c1 : m ≤ cap' := by omega
      have c2 : h1 ≤ m := by omega
      cases lo with
      | none => simp [Instr.sliceBounds, Instr.sliceBound, asIntOf, c1, c2]
      | some lo =>
        simp only [Option.getD_some] at hb
        obtain ⟨lo, rfl⟩ := Int.eq_ofNat_of_zero_le hb.2.2.2.2.1
        have c3 : lo ≤ h1 := by omega
        simp [Instr.sliceBounds, Instr.sliceBound, asIntOf, c1, c2, c3]
    · cases h
  · rename_i h1
    split at h
    · rename_i hb; cases h
      refine ⟨?_, by simp; omega, by simp; omega, by simp, by simp⟩
      obtain ⟨h1, rfl⟩ := Int.eq_ofNat_of_zero_le hb.1
      have c2 : h1 ≤ cap' := by omega
      cases lo with
      | none => simp [Instr.sliceBounds, Instr.sliceBound, asIntOf, c2]
      | some lo =>
        simp only [Option.getD_some] at hb
        obtain ⟨lo, rfl⟩ := Int.eq_ofNat_of_zero_le hb.2.2.1
        have c3 : lo ≤ h1 := by omega
        simp [Instr.sliceBounds, Instr.sliceBound, asIntOf, c2, c3]
    · cases h
  · split at h
    · rename_i hb; cases h
      refine ⟨?_, by simp; omega, by simp; omega, by simp, by simp⟩
      cases lo with
      | none => simp [Instr.sliceBounds]
      | some lo =>
        simp only [Option.getD_some] at hb
        obtain ⟨lo, rfl⟩ := Int.eq_ofNat_of_zero_le hb.2.1
        have c3 : lo ≤ len := by omega
        simp [Instr.sliceBounds, Instr.sliceBound, asIntOf, c3]
    · cases h
  · cases h

theorem sim_slice {ty : TypeId} {x : Operand} {lo hi mx : Option Operand} (ho : o.op = .slice ty x lo hi mx) (h : opS P call slot o t H = some (v, H')) (hR : Rel w0 ρ H w) (hT : TRel ρ t a) : o.wp P a w (OpGoal w0 ρ o a v H') Q := by
  simp only [opS, aopK, ho] at h
  split at h
  · rename_i ad l c ilo ihi imx hx hlo hhi hmx
    split at h
    · rename_i e hu
      split at h
      · rename_i n hn
        obtain ⟨r, hr, h⟩ := Option.bind_eq_some_iff.1 h
        cases h
        obtain ⟨q, hq, hr⟩ := Option.bind_eq_some_iff.1 hr
        cases hr
        obtain ⟨inf, hinf, rfl⟩ := szOf_spec hn
        have e1 := optInt_spec hT hlo
        have e2 := optInt_spec hT hhi
        have e3 := optInt_spec hT hmx
        cases ad with
        | none =>
          obtain ⟨rfl, rfl, he⟩ := (aev_rel hT hx).slice
          obtain ⟨hrun, k1, k2, k3, k4⟩ := cutBounds_run (w := w) (P := P) true hq (Nat.le_refl _)
          refine sim_same (.slice none 0 0) hR (.inl (.inl (.inl ⟨by simp; omega, by simp; omega, rfl⟩))) ?_
          have z1 : q.1 = 0 := by omega
          have z2 : q.2.1 = 0 := by omega
          have z3 : q.2.2 = 0 := by omega
          have z4 : (if imx.isSome = true then q.2.2 else 0) = 0 := by rw [z3]; simp
          simp [execOp, ho, he, e1, e2, e3, Instr.sliceAt, Instr.slice, run_underlying hu, hrun, sizeOf, typeInfo, hinf, z1, z2, z3]
        | some ad =>
          obtain ⟨hlc, ⟨rfl, a', he⟩ | ⟨ad', sl, hρ, he⟩⟩ := (aev_rel hT hx).slice
          · obtain rfl : l = 0 := by omega
            obtain ⟨hrun, k1, k2, k3, k4⟩ := cutBounds_run (w := w) (P := P) true hq (Nat.le_refl _)
            have z1 : q.1 = 0 := by omega
            have z2 : q.2.1 = 0 := by omega
            have z3 : q.2.2 = 0 := by omega
            refine sim_same (.slice (some a') 0 0) hR (.inl (.inl (.inl ⟨by simp; omega, .inl ⟨by simp; omega, a', rfl⟩⟩))) ?_
            simp [execOp, ho, he, e1, e2, e3, Instr.sliceAt, Instr.slice, run_underlying hu, hrun, sizeOf, typeInfo, hinf, z1, z2, z3]
          · obtain ⟨hrun, k1, k2, k3, k4⟩ := cutBounds_run (w := w) (P := P) (cap' := c + if ad.spot.isSome then 0 else sl) true hq (Nat.le_add_right _ _)
            have hexec : ∀ m, m = (if imx.isSome = true then q.2.2 else c + if ad.spot.isSome then 0 else sl) →
                (execOp a.eval o).run P w = .ok (.value (.slice (some (if m = q.1 then ad'.add ad.off else (ad'.add ad.off).add (q.1 * inf.size))) (q.2.1 - q.1) (m - q.1))) w := by
              intro m hm
              subst hm
              by_cases hm : (if imx.isSome = true then q.2.2 else c + if ad.spot.isSome then 0 else sl) = q.1
              · rw [if_pos hm]
                simp [execOp, ho, he, e1, e2, e3, Instr.sliceAt, Instr.slice, run_underlying hu, hrun, sizeOf, typeInfo, hinf, hm]
              · rw [if_neg hm]
                simp [execOp, ho, he, e1, e2, e3, Instr.sliceAt, Instr.slice, run_underlying hu, hrun, sizeOf, typeInfo, hinf, hm]
            cases imx with
            | some m3 =>
              simp only [Option.isSome_some, if_true] at hexec
              have hx2 := hexec _ rfl
              by_cases hm : q.2.2 = q.1
              · rw [if_pos hm] at hx2
                refine sim_same (.slice (some (ad'.add ad.off)) 0 0) hR (.inl (.inl (.inl ⟨by simp; omega, .inl ⟨by simp; omega, _, rfl⟩⟩))) ?_
                rw [hx2, hm, show q.2.1 = q.1 from by omega, Nat.sub_self]
              · rw [if_neg hm] at hx2
                refine sim_same _ hR (.inl (.inl (.inl ⟨by simp; omega, .inr ⟨ad', sl, hρ, rfl⟩⟩))) ?_
                rw [hx2, Addr.add_add]
                simp
            | none =>
              have hq2 := k4 rfl
              simp only [Option.isSome_none, Bool.false_eq_true, if_false] at hexec
              have hx2 := hexec _ rfl
              by_cases hm : (c + if ad.spot.isSome then 0 else sl) = q.1
              · rw [if_pos hm] at hx2
                refine sim_same (.slice (some (ad'.add ad.off)) 0 0) hR (.inl (.inl (.inl ⟨by simp; omega, .inl ⟨by simp; omega, _, rfl⟩⟩))) ?_
                rw [hx2, hm, show q.2.1 = q.1 from by omega, Nat.sub_self]
              · rw [if_neg hm] at hx2
                refine sim_same _ hR (.inl (.inl (.inl ⟨by simp; omega, .inr ⟨ad', sl, hρ, rfl⟩⟩))) ?_
                rw [hx2, Addr.add_add]
                simp only [Option.isSome_none, Bool.false_eq_true, if_false]
                rw [show c + (if ad.spot.isSome = true then 0 else sl) - q.1 = q.2.2 - q.1 + (if ad.spot.isSome = true then 0 else sl) from by omega]
      · cases h
    · cases h
  · rename_i s ilo ihi hx hlo hhi hmx
    split at h
    · rename_i hu
      obtain ⟨r, hr, h⟩ := Option.bind_eq_some_iff.1 h
      cases h
      have e1 := optInt_spec hT hlo
      have e2 := optInt_spec hT hhi
      have e3 := optInt_spec hT hmx
      obtain ⟨hrun, _⟩ := cutBounds_run (w := w) (P := P) false hr (Nat.le_refl _)
      simp only [Option.map_none] at hrun
      exact sim_same _ hR (.inl (.inl (.inl rfl))) (by simp [execOp, ho, (aev_rel hT hx).string, e1, e2, e3, Instr.sliceAt, Instr.slice, run_underlying hu, hrun])
    · cases h
  · cases h

end
end Go.Mx
