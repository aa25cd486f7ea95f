/- Simulation of single operations, part 2. -/
import Derived.Test.YtcegcnopakfloaaXM4
namespace Go.Mx
open Go Go.RowKit

section
variable {P : Program} {call : CallF} {w0 w : World} {ρ : Ren} {t : List Value} {H H' : AHeap} {a : Act} {o : Oper} {slot : Option Nat} {v : Value}
  {Q : Exit → Act → World → Prop}

theorem zeroCellsOf_spec {e : TypeId} {z : List Value} (h : zeroCellsOf P e = some z) :
    ∃ inf zv, P.info? e = some inf ∧ inf.zero = some zv ∧ zv.cells.toList = z ∧ z.length = inf.size ∧ All2 (SRel ρ) z z := by
  unfold zeroCellsOf at h
  split at h
  · rename_i inf hi
    split at h
    · rename_i zv hz
      split at h
      · rename_i hc
        obtain rfl := Option.some.inj h
        simp only [Bool.and_eq_true, List.all_eq_true, beq_iff_eq] at hc
        refine ⟨inf, zv, hi, hz, rfl, hc.2, All2.of_get rfl ?_⟩
        intro i x y hx hy
        rw [hx] at hy
        obtain rfl := Option.some.inj hy
        exact .inl (closedV_rel ρ (hc.1 x (List.mem_of_getElem? hx)))
      · cases h
    · cases h
  · cases h

theorem ptr_new (ρ : Ren) (i : Nat) (b : Nat) (sl : Nat) : VRel (ρ.ext i (⟨b, 0, none⟩, sl)) (.pointer (some ⟨i, 0, none⟩)) (.pointer (some ⟨b, 0, none⟩)) :=
  .inl (.inl (.inl ⟨rfl, _, _, Ren.ext_self _ _ _, rfl⟩))
theorem slice_new (ρ : Ren) (i : Nat) (b : Nat) (sl n : Nat) : VRel (ρ.ext i (⟨b, 0, none⟩, sl)) (.slice (some ⟨i, 0, none⟩) n n) (.slice (some ⟨b, 0, none⟩) n (n + sl)) :=
  .inl (.inl (.inl ⟨Nat.le_refl _, .inr ⟨_, _, Ren.ext_self _ _ _, rfl⟩⟩))

/-- a block of known cells -/
theorem sim_new {v' : Value} {b : Blk} {cs' : Array Value} {e : TypeId} {sl : Nat} (hR : Rel w0 ρ H w) (hf : H.get (H.newId slot) = none) (hs : ∀ i, slot = some i → i < H.next)
    (hbm : b.mode = .rw) (hz : cs'.size = b.cells.length + sl * b.esz) (ha : All2 (SRel ρ) b.cells (cs'.toList.take b.cells.length))
    (hv : VRel (ρ.ext (H.newId slot) (⟨w.heap.size, 0, none⟩, sl)) v v')
    (h : (execOp a.eval o).run P w = .ok (.value v') (w.alloc (.cells cs' e))) : o.wp P a w (OpGoal w0 ρ o a v (H.alloc slot b)) Q := by
  obtain ⟨h1, h2⟩ := hR.alloc slot hf hs b hbm cs' e sl hz ha
  exact wp_val h ⟨v', _, rfl, hv, h1, h2⟩

theorem sim_alloc {e : TypeId} (ho : o.op = .alloc e) (h : opS P call slot o t H = some (v, H')) (hR : Rel w0 ρ H w)
    (hf : H.get (H.newId slot) = none) (hs : ∀ i, slot = some i → i < H.next) : o.wp P a w (OpGoal w0 ρ o a v H') Q := by
  simp only [opS, aopK, ho] at h
  split at h
  · rename_i z hz
    obtain ⟨inf, zv, h1, h2, h3, h4, h5⟩ := zeroCellsOf_spec (ρ := ρ) hz
    simp only [Option.some.injEq, Prod.mk.injEq] at h
    obtain ⟨rfl, rfl⟩ := h
    refine sim_new (sl := 0) hR hf hs rfl (cs' := zv.cells) (e := e) ?_ ?_ (ptr_new _ _ _ _) ?_
    · simp only [← h3, Array.length_toList]; omega
    · simp only [h3, List.take_length]; exact h5
    · simp [execOp, ho, Instr.alloc, zeroValue, typeInfo, h1, h2, newVar, newRow, newObj, Sem.run]
  · cases h

theorem sim_box {e : TypeId} {x : Operand} (ho : o.op = .box e x) (h : opS P call slot o t H = some (v, H')) (hR : Rel w0 ρ H w) (hT : TRel ρ t a)
    (hf : H.get (H.newId slot) = none) (hs : ∀ i, slot = some i → i < H.next) : o.wp P a w (OpGoal w0 ρ o a v H') Q := by
  simp only [opS, aopK, ho] at h
  split at h
  · rename_i u hx
    cases hnt : notTup u with
    | false => rw [hnt] at h; cases h
    | true =>
    rw [hnt] at h
    simp only [cond_true, Option.some.injEq, Prod.mk.injEq] at h
    obtain ⟨rfl, rfl⟩ := h
    have hc := (aev_rel hT hx).cells (fun b e => by subst e; cases hnt)
    have hl := hc.length
    refine sim_new (sl := 0) hR hf hs rfl (cs' := (a.eval x).cells) (e := e) ?_ ?_ (ptr_new _ _ _ _) ?_
    · simp only [Array.length_toList] at hl ⊢; omega
    · simp only [hl, List.take_length]; exact hc
    · simp [execOp, ho, Instr.box, newVar, newRow, newObj, Sem.run]
  · cases h

theorem sim_store {ty : TypeId} {x y : Operand} (ho : o.op = .store ty x y) (h : opS P call slot o t H = some (v, H')) (hR : Rel w0 ρ H w) (hT : TRel ρ t a) : o.wp P a w (OpGoal w0 ρ o a v H') Q := by
  simp only [opS, aopK, ho] at h
  split at h
  · rename_i ad u hx hy
    split at h
    · rename_i n hn
      split at h
      · rename_i hlen
        obtain ⟨hnt, hlen⟩ := hlen
        obtain ⟨H1, hw, h⟩ := Option.bind_eq_some_iff.1 h
        simp only [Option.some.injEq, Prod.mk.injEq] at h
        obtain ⟨rfl, rfl⟩ := h
        obtain ⟨hs, ad', sl, hr, he⟩ := (aev_rel hT hx).ptr
        have hc := (aev_rel hT hy).cells (fun b e => by subst e; cases hnt)
        obtain ⟨w', h1, h2⟩ := hR.wr hw hc hr P
        have hsz : (a.eval y).cells.size = n := by
          have := hc.length; simp only [Array.length_toList] at this hlen; omega
        unfold szOf at hn
        split at hn
        · rename_i inf hi
          obtain rfl := Option.some.inj hn
          unfold Oper.wp
          have hrun : (execOp a.eval o).run P w = .ok .skip w' := by
            simp [execOp, ho, he, Instr.storeAt, Instr.sureAddr, storeVar, sizeOf, typeInfo, hi, hsz, h1]
          rw [hrun]
          exact ⟨undef, ρ, rfl, VRel.undef ρ, h2, Ren.le_refl _⟩
        · cases hn
      · cases h
    · cases h
  · cases h

theorem sim_fieldAddr {ty : TypeId} {x : Operand} {f : Nat} (ho : o.op = .fieldAddr ty x f) (h : opS P call slot o t H = some (v, H')) (hR : Rel w0 ρ H w) (hT : TRel ρ t a) : o.wp P a w (OpGoal w0 ρ o a v H') Q := by
  simp only [opS, aopK, ho] at h
  split at h
  · rename_i ad hx
    split at h
    · rename_i fs hu
      split at h
      · rename_i fl hf
        split at h
        · rename_i n hn
          split at h
          · cases h
          · rename_i hn0
            simp only [Option.some.injEq, Prod.mk.injEq] at h
            obtain ⟨rfl, rfl⟩ := h
            obtain ⟨hs, ad', sl, hr, he⟩ := (aev_rel hT hx).ptr
            unfold szOf at hn
            split at hn
            · rename_i inf hi
              obtain rfl := Option.some.inj hn
              have hf' : fs[f]? = some fl := by simpa using hf
              refine sim_same (.pointer (some (ad'.add (ad.off + fl.offset)))) hR (.inl (.inl (.inl ⟨rfl, ad', sl, hr, rfl⟩))) ?_
              simp [execOp, ho, he, Instr.fieldAt, run_underlying hu, hf', Instr.sureAddr, fieldPlace, sizeOf, typeInfo, hi, hn0, Addr.add_add]
            · cases hn
        · cases h
      · cases h
    · cases h
  · cases h

theorem szOf_spec {e : TypeId} {n : Nat} (h : szOf P e = some n) : ∃ inf, P.info? e = some inf ∧ inf.size = n := by
  unfold szOf at h
  split at h
  · rename_i inf hi; exact ⟨inf, hi, Option.some.inj h⟩
  · cases h

theorem sim_indexAddr {ty : TypeId} {x ix : Operand} (ho : o.op = .indexAddr ty x ix) (h : opS P call slot o t H = some (v, H')) (hR : Rel w0 ρ H w) (hT : TRel ρ t a) : o.wp P a w (OpGoal w0 ρ o a v H') Q := by
  simp only [opS, aopK, ho] at h
  split at h
  · rename_i ad l c k i hx hix
    split at h
    · rename_i e hu
      split at h
      · rename_i n hn
        obtain ⟨ad, rfl, h⟩ := Option.bind_eq_some_iff.1 h
        split at h
        · rename_i hb
          cases h
          have hi := (aev_rel hT hix).int
          obtain ⟨hlc, ⟨h0, _⟩ | ⟨ad', sl, hr, he⟩⟩ := (aev_rel hT hx).slice
          · omega
          · obtain ⟨inf, hinf, rfl⟩ := szOf_spec hn
            refine sim_same (.pointer (some (ad'.add (ad.off + i.toNat * inf.size)))) hR (.inl (.inl (.inl ⟨rfl, ad', sl, hr, rfl⟩))) ?_
            simp [execOp, ho, he, hi, Instr.indexAt, asIntOf, run_underlying hu, hb.1, hb.2, sizeOf, typeInfo, hinf, Addr.add_add]
        · cases h
      · cases h
    · cases h
  · rename_i ad k i hx hix
    split at h
    · rename_i l e hu
      split at h
      · rename_i n hn
        split at h
        · rename_i hb
          simp only [Option.some.injEq, Prod.mk.injEq] at h
          obtain ⟨rfl, rfl⟩ := h
          have hi := (aev_rel hT hix).int
          obtain ⟨hs, ad', sl, hr, he⟩ := (aev_rel hT hx).ptr
          obtain ⟨inf, hinf, rfl⟩ := szOf_spec hn
          refine sim_same (.pointer (some (ad'.add (ad.off + i.toNat * inf.size)))) hR (.inl (.inl (.inl ⟨rfl, ad', sl, hr, rfl⟩))) ?_
          simp [execOp, ho, he, hi, Instr.indexAt, asIntOf, Instr.sureAddr, run_underlying hu, hb.1, hb.2, sizeOf, typeInfo, hinf, Addr.add_add]
        · cases h
      · cases h
    · cases h
  · cases h

theorem sim_nilCheck {x : Operand} (ho : o.op = .nilCheck x) (h : opS P call slot o t H = some (v, H')) (hR : Rel w0 ρ H w) (hT : TRel ρ t a) : o.wp P a w (OpGoal w0 ρ o a v H') Q := by
  simp only [opS, aopK, ho] at h
  split at h
  · rename_i p hx
    obtain ⟨ad, rfl, h⟩ := Option.bind_eq_some_iff.1 h
    cases h
    have hr := aev_rel hT hx
    obtain ⟨hs, ad', sl, hr', he⟩ := hr.ptr
    exact sim_same _ hR hr (by simp [execOp, ho, he])
  · rename_i f first cs hx
    simp only [Option.some.injEq, Prod.mk.injEq] at h
    obtain ⟨rfl, rfl⟩ := h
    have hr := aev_rel hT hx
    obtain ⟨rfl, cs', he, _⟩ := hr.fn
    exact sim_same _ hR hr (by simp [execOp, ho, he])
  · cases h

theorem sim_extract {x : Operand} {i : Nat} (ho : o.op = .extract x i) (h : opS P call slot o t H = some (v, H')) (hR : Rel w0 ρ H w) (hT : TRel ρ t a) : o.wp P a w (OpGoal w0 ρ o a v H') Q := by
  simp only [opS, aopK, ho] at h
  split at h
  · rename_i vs hx
    obtain ⟨u, hu, h⟩ := Option.bind_eq_some_iff.1 h
    rw [normK_cps] at h
    obtain ⟨u2, hu2, h⟩ := Option.bind_eq_some_iff.1 h
    simp only [Option.some.injEq, Prod.mk.injEq] at h
    obtain ⟨rfl, rfl⟩ := h
    obtain rfl := normK_id hu2
    obtain ⟨cs', he, hc⟩ := (aev_rel hT hx).tuple
    obtain ⟨u', hu', hru⟩ := hc.get i _ hu
    have hu'' : cs'[i]? = some u' := by simpa using hu'
    exact sim_same u' hR hru.v (by simp [execOp, ho, he, Instr.extract, hu''])
  · cases h

theorem sim_unOp {op : UnOp} {ty : TypeId} {x : Operand} (ho : o.op = .unOp op ty x) (h : opS P call slot o t H = some (v, H')) (hR : Rel w0 ρ H w) (hT : TRel ρ t a) : o.wp P a w (OpGoal w0 ρ o a v H') Q := by
  simp only [opS, aopK, ho] at h
  split at h
  · rename_i u hx
    unfold unK at h
    split at h
    · simp only [Option.some.injEq, Prod.mk.injEq] at h
      obtain ⟨rfl, rfl⟩ := h
      exact sim_same _ hR (.inl (.inl (.inl rfl))) (by simp [execOp, ho, (aev_rel hT hx).int, Op.unary, Op.intArith])
    · simp only [Option.some.injEq, Prod.mk.injEq] at h
      obtain ⟨rfl, rfl⟩ := h
      exact sim_same _ hR (.inl (.inl (.inl rfl))) (by simp [execOp, ho, (aev_rel hT hx).bool, Op.unary])
    · cases h
  · cases h

theorem sim_convert {src dst : TypeId} {x : Operand} (ho : o.op = .convert src dst x) (h : opS P call slot o t H = some (v, H')) (hR : Rel w0 ρ H w) (hT : TRel ρ t a) : o.wp P a w (OpGoal w0 ρ o a v H') Q := by
  simp only [opS, aopK, ho] at h
  split at h
  · rename_i k n hx
    split at h
    · rename_i k1 k2 hs hd
      simp only [Option.some.injEq, Prod.mk.injEq] at h
      obtain ⟨rfl, rfl⟩ := h
      exact sim_same _ hR (.inl (.inl (.inl rfl))) (by simp [execOp, ho, (aev_rel hT hx).int, convert, run_underlying hs, run_underlying hd, Conv.intToInt])
    · cases h
  · cases h

theorem sim_makeFunc {fn : Fn} {first captured : Array Operand} (ho : o.op = .makeFunc fn first captured) (h : opS P call slot o t H = some (v, H')) (hR : Rel w0 ρ H w) (hT : TRel ρ t a) : o.wp P a w (OpGoal w0 ρ o a v H') Q := by
  cases fn with
  | func f =>
    simp only [opS, aopK, ho] at h
    split at h
    · rename_i cs h1 h2
      cases hall : cs.all basicV with
      | false => rw [hall] at h; cases h
      | true =>
      rw [hall] at h
      simp only [cond_true, Option.some.injEq, Prod.mk.injEq] at h
      obtain ⟨rfl, rfl⟩ := h
      have hb : ∀ u ∈ cs, ∀ u', VRel ρ u u' → BRel ρ u u' := by
        intro u hu u' hr
        have h1 := List.all_eq_true.1 hall u hu
        rcases hr with ((h | ⟨_, _, _, h, _⟩) | ⟨_, _, h, _⟩) | ⟨_, _, h, _⟩
        · exact h
        all_goals (subst h; cases h1)
      have hc := aevs_rel hT h2
      have hfst : first = #[] := by
        have := (aevs_rel hT h1).length
        simpa using this.symm
      subst hfst
      refine sim_same (.func (.func f) #[] (captured.map a.eval)) hR (.inl (.inl (.inr ⟨f, _, _, rfl, rfl, ?_⟩))) (by simp [execOp, ho, Instr.makeFunc])
      simp only [Array.toList_map]
      refine All2.of_get hc.length ?_
      intro i x y hx hy
      obtain ⟨y', hy', hR'⟩ := hc.get i x (by simpa using hx)
      rw [hy] at hy'
      obtain rfl := Option.some.inj hy'
      exact hb x (List.mem_of_getElem? (by simpa using hx)) _ hR'
    · cases h
  | _ => simp [opS, aopK, ho] at h

end
end Go.Mx
