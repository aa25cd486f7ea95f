/- Regions, code, calls: whatever the machine comes to, the model comes to. -/
import Derived.Test.YtcegcnopakfloaaXM9
import Derived.Deep.LoopGhost
import Derived.Orders
namespace Go.Mx
open Go Go.RowKit

section
variable {P : Program} {call : CallF} {w0 w : World} {ρ : Ren} {t : List Value} {H H' : AHeap} {a : Act} {o : Oper} {slot : Option Nat} {v : Value}
  {Q : Exit → Act → World → Prop} {R : Type} {r : R}

/-- a state of the model that stands for one of the machine, from which the rest comes to r -/
def KRel (w0 : World) (ρ : Ren) (K : List Value → AHeap → Option R) (r : R) : Act → World → Prop := fun a w =>
  ∃ ρ' t H, Rel w0 ρ' H w ∧ TRel ρ' t a ∧ ρ.le ρ' ∧ K t H = some r

theorem KRel.weaken {ρ ρ1 : Ren} (hle : ρ.le ρ1) {K : List Value → AHeap → Option R} {a : Act} {w : World} (h : KRel w0 ρ1 K r a w) : KRel w0 ρ K r a w :=
  let ⟨ρ', t, H, h1, h2, h3, h4⟩ := h
  ⟨ρ', t, H, h1, h2, Ren.le_trans hle h3, h4⟩

theorem TRel.mono {ρ ρ' : Ren} (hle : ρ.le ρ') (h : TRel ρ t a) : TRel ρ' t a := ⟨h.1.mono fun _ _ => VRel.mono hle, h.2⟩

theorem put_rel (h : TRel ρ t a) {v v' : Value} (hv : VRel ρ v v') (d : Option Tmp) : TRel ρ (putT t d v) (a.put d v') := by
  cases d with
  | none => exact h
  | some d => exact ⟨by simpa [putT, Act.put] using h.1.set hv d, h.2⟩

theorem VRel.bool_rev {b : Bool} (h : VRel ρ v (.bool b)) : v = .bool b := by
  rcases h with ((h | ⟨_, _, _, _, h, _⟩) | ⟨_, _, _, h, _⟩) | ⟨_, _, _, h, _⟩
  · cases v with
    | bool b' => cases h; rfl
    | pointer p => cases p with
      | none => cases h
      | some p => obtain ⟨_, _, _, _, h⟩ := h; cases h
    | slice p l c => cases p with
      | none => obtain ⟨_, _, h⟩ := h; cases h
      | some p => obtain ⟨_, ⟨_, _, h⟩ | ⟨_, _, _, h⟩⟩ := h <;> cases h
    | map p => cases p <;> cases h
    | _ => cases h
  all_goals cases h

theorem yield_rel (hT : TRel ρ t a) {ops : Array Oper} {j : Nat} {d : Tmp} (hd : (ops[j]?).bind (·.dst) = some d) :
    yielded ops a.tmps j = match t[d]? with | some (.bool b) => some b | _ => none := by
  unfold yielded
  rw [hd]
  simp only [Option.bind_some]
  cases ht : t[d]? with
  | none =>
    have : a.tmps[d]? = none := by
      rw [List.getElem?_eq_none_iff] at ht
      rw [Array.getElem?_eq_none_iff, ← Array.length_toList, ← hT.1.length]
      exact ht
    rw [this]
  | some v =>
    obtain ⟨v', h1, h2⟩ := hT.1.get d v ht
    have h1' : a.tmps[d]? = some v' := by simpa using h1
    rw [h1']
    cases v with
    | bool b => rw [h2.bool]
    | _ =>
      split
      · rename_i b hb
        cases hb
        cases h2.bool_rev
      · rfl

theorem set_same {l : List Value} {d : Nat} {v : Value} (h : l[d]? = some v) : l.set d v = l := by
  apply List.ext_getElem?
  intro i
  rw [List.getElem?_set]
  split
  · rename_i e; subst e
    split
    · exact h.symm
    · rename_i hlt
      rw [List.getElem?_eq_none (by omega)]
  · rfl

/-- one step of a region, with its guard -/
theorem step_sim (hc : CallSound P call w0) {ops : Array Oper} {K : List Value → AHeap → Option R} {rest : List (Option Nat × Oper)} {g : Option AHeap}
    (hrun : runOps P call g ops.toList ((slot, o) :: rest) K t H = some r) (hR : Rel w0 ρ H w) (hT : TRel ρ t a)
    (hf : H.get (H.newId slot) = none) (hs : ∀ i, slot = some i → i < H.next)
    (next : Act → World → Prop)
    (hn : ∀ ρ' t' H' a' w', Rel w0 ρ' H' w' → TRel ρ' t' a' → ρ.le ρ' → (∃ v, opS P call slot o t H = some (v, H') ∨ H' = H) → runOps P call g ops.toList rest K t' H' = some r → next a' w') :
    if Region.wanted o (yielded ops a.tmps) then o.wp P a w next Q else next (a.put o.dst undef) w := by
  have doIt : ldGuard g o t H (aopK P call slot o t H fun v H' => runOps P call g ops.toList rest K (putT t o.dst v) H') = some r → o.wp P a w next Q := by
    intro h
    have h' : (aopK P call slot o t H fun v H' => runOps P call g ops.toList rest K (putT t o.dst v) H') = some r := by
      unfold ldGuard at h
      split at h
      · exact h
      · split at h
        · split at h
          · generalize sameB _ _ _ = bb at h
            cases bb
            · cases h
            · exact h
          · cases h
        · exact h
    rw [aopK_cps] at h'
    obtain ⟨p, hp, h''⟩ := Option.bind_eq_some_iff.1 h'
    have := op_sim (Q := Q) hc (v := p.1) (H' := p.2) hp hR hT hf hs
    refine Oper.wp_mono (fun a' w' hg => ?_) this
    obtain ⟨v', ρ', rfl, h1, h2, h3⟩ := hg
    exact hn ρ' _ p.2 _ w' h2 (put_rel (hT.mono h3) h1 o.dst) h3 ⟨p.1, .inl hp⟩ h''
  have skip : runOps P call g ops.toList rest K (putT t o.dst undef) H = some r → next (a.put o.dst undef) w := by
    intro h
    exact hn ρ _ H _ w hR (put_rel hT (VRel.undef ρ) o.dst) (Ren.le_refl _) ⟨undef, .inr rfl⟩ h
  unfold runOps at hrun
  cases hg : o.guard with
  | none =>
    rw [hg] at hrun
    rw [if_pos (by simp [Region.wanted, hg])]
    exact doIt hrun
  | some q =>
    obtain ⟨j, want⟩ := q
    rw [hg] at hrun
    simp only [Array.getElem?_toList] at hrun
    cases hd : (ops[j]?).bind (·.dst) with
    | none =>
      rw [hd] at hrun
      have : yielded ops a.tmps j = none := by simp [yielded, hd]
      rw [if_neg (by simp [Region.wanted, hg, this])]
      exact skip hrun
    | some d =>
      rw [hd] at hrun
      have hy := yield_rel hT hd
      simp only [] at hrun
      split at hrun
      · rename_i s hs'
        have hset : ∀ b, s = b → t.set d (.bool b) = t := fun b e => by subst e; exact set_same hs'
        rw [hs'] at hy
        cases s
        · simp only [cond_false] at hrun
          rw [hset false rfl] at hrun
          cases want
          · rw [if_pos (by simp [Region.wanted, hg, hy])]
            exact doIt hrun
          · rw [if_neg (by simp [Region.wanted, hg, hy])]
            exact skip hrun
        · simp only [cond_true] at hrun
          rw [hset true rfl] at hrun
          cases want
          · rw [if_neg (by simp [Region.wanted, hg, hy])]
            exact skip hrun
          · rw [if_pos (by simp [Region.wanted, hg, hy])]
            exact doIt hrun
      · rename_i hnb
        have hy' : yielded ops a.tmps j = none := by
          rw [hy]
          split
          · rename_i b hb; exact absurd hb (hnb b)
          · rfl
        rw [if_neg (by simp [Region.wanted, hg, hy'])]
        exact skip hrun

theorem runOps_sim (hc : CallSound P call w0) {ops : Array Oper} {K : List Value → AHeap → Option R} (hQ : ∀ ρ', ρ.le ρ' → ∀ a w, KRel w0 ρ' K r a w → Q .normal a w) :
    ∀ (l : List Oper) (ρ1 : Ren) (t : List Value) (H : AHeap) (a : Act) (w : World), ρ.le ρ1 → Rel w0 ρ1 H w → TRel ρ1 t a →
      runOps P call none ops.toList (plainOps l) K t H = some r → wpList P ops Q l a w := by
  intro l
  induction l with
  | nil =>
    intro ρ1 t H a w hle hR hT h
    exact hQ ρ1 hle a w ⟨ρ1, t, H, hR, hT, Ren.le_refl _, h⟩
  | cons o l ih =>
    intro ρ1 t H a w hle hR hT h
    have := step_sim (Q := Q) (slot := none) (o := o) hc (rest := plainOps l) h hR hT (hR.fresh _ (Nat.le_refl _)) (by intro i hi; cases hi) (wpList P ops Q l)
      (fun ρ' t' H' a' w' h1 h2 h3 _ h4 => ih ρ' t' H' a' w' (Ren.le_trans hle h3) h1 h2 h4)
    unfold wpList
    split
    · rename_i hw; rw [if_pos hw] at this; exact .inl this
    · rename_i hw; rw [if_neg hw] at this; exact this

/-- what a continuation of the machine asks of the model's exits -/
def QRel (w0 : World) (ρ : Ren) (Q : Kont R) (r : R) : Exit → Act → World → Prop
  | .normal => KRel w0 ρ (Q .normal) r
  | .exit i => KRel w0 ρ (Q (.exit i)) r
  | .ret => KRel w0 ρ (Q .ret) r
  | _ => fun _ _ => False

theorem QRel.weaken {ρ ρ1 : Ren} (hle : ρ.le ρ1) {Q : Kont R} {e : Exit} {a : Act} {w : World} (h : QRel w0 ρ1 Q r e a w) : QRel w0 ρ Q r e a w := by
  cases e <;> first | exact KRel.weaken hle h | exact h.elim

/-- regions that draw their order are handled by this -/
def DrawSound (P : Program) (call : CallF) (w0 : World) : Prop :=
  ∀ (R : Type) (r : R) (id : Nat) (ops : Array Oper) (K : List Value → AHeap → Option R) (ρ : Ren) (t : List Value) (H : AHeap) (a : Act) (w : World) (Q : Exit → Act → World → Prop),
    drawOk ops.toList = true → runOps P call (some H) ops.toList (slots ops.toList H.next (drawOrder ops.toList)) K t (H.bump ops.toList.length) = some r →
    Rel w0 ρ H w → TRel ρ t a → (∀ a w, KRel w0 ρ K r a w → Q .normal a w) → (Code.region id ops true).wp P Q a w

theorem run_sim (hc : CallSound P call w0) (hd : DrawSound P call w0) (n : Nat) : ∀ (c : Code) (Q : Kont R) (ρ : Ren) (t : List Value) (H : AHeap) (a : Act) (w : World),
    Rel w0 ρ H w → TRel ρ t a → run P call n c Q t H = some r → c.wp P (QRel w0 ρ Q r) a w := by
  intro c
  induction c with
  | skip => intro Q ρ t H a w hR hT h; exact wp_skip ⟨ρ, t, H, hR, hT, Ren.le_refl _, h⟩
  | exit id => intro Q ρ t H a w hR hT h; exact wp_exit ⟨ρ, t, H, hR, hT, Ren.le_refl _, h⟩
  | ret => intro Q ρ t H a w hR hT h; exact wp_ret ⟨ρ, t, H, hR, hT, Ren.le_refl _, h⟩
  | region id ops draw =>
    intro Q ρ t H a w hR hT h
    simp only [run] at h
    cases draw with
    | false =>
      simp only [cond_false] at h
      have := runOps_sim (Q := QRel w0 ρ Q r) hc (ρ := ρ) (K := Q .normal) (ops := ops) (fun ρ' hle a w h => KRel.weaken hle h) ops.toList ρ t H a w (Ren.le_refl _) hR hT h
      exact wp_region_list this
    | true =>
      simp only [cond_true] at h
      cases hok : drawOk ops.toList with
      | false => rw [hok] at h; cases h
      | true =>
        rw [hok] at h
        simp only [cond_true] at h
        exact hd R r id ops (Q .normal) ρ t H a w _ hok h hR hT (fun a w h => h)
  | seq x y ihx ihy =>
    intro Q ρ t H a w hR hT h
    simp only [run_seq] at h
    refine wp_seq (Code.wp_mono (fun e a' w' hq => ?_) (ihx _ ρ t H a w hR hT h))
    cases e with
    | normal =>
      obtain ⟨ρ', t', H', h1, h2, h3, h4⟩ := hq
      exact Code.wp_mono (fun e a w hh => QRel.weaken h3 hh) (ihy Q ρ' t' H' a' w' h1 h2 h4)
    | exit i => exact hq
    | ret => exact hq
    | goto l => exact hq.elim
    | panic c => exact hq.elim
    | outgrown => exact hq.elim
  | cond c x y ihx ihy =>
    intro Q ρ t H a w hR hT h
    simp only [run] at h
    split at h
    · rename_i s hs
      have hb := (aev_rel hT hs).bool
      cases s
      · exact wp_cond_false hb (ihy Q ρ t H a w hR hT h)
      · exact wp_cond_true hb (ihx Q ρ t H a w hR hT h)
    · cases h
  | block id c ih =>
    intro Q ρ t H a w hR hT h
    simp only [run] at h
    refine wp_block (Code.wp_mono (fun e a' w' hq => ?_) (ih _ ρ t H a w hR hT h))
    cases e with
    | normal => exact hq
    | exit i =>
      simp only [QRel, blkQ] at hq
      show if i = id then QRel w0 ρ Q r .normal a' w' else QRel w0 ρ Q r (.exit i) a' w'
      by_cases hid : i = id
      · rw [if_pos hid] at hq ⊢
        exact hq
      · rw [if_neg hid] at hq ⊢
        exact hq
    | ret => exact hq
    | goto l => exact hq.elim
    | panic c => exact hq.elim
    | outgrown => exact hq.elim
  | loop c ih =>
    intro Q ρ t H a w hR hT h
    simp only [run] at h
    refine wp_loop_ghost (fun k a w => KRel w0 ρ (iter (run P call n c) Q k) r a w) n ⟨ρ, t, H, hR, hT, Ren.le_refl _, h⟩ ?_
    intro k a w hI
    obtain ⟨ρ', t', H', h1, h2, h3, h4⟩ := hI
    cases k with
    | zero => cases h4
    | succ k =>
      simp only [iter] at h4
      refine Code.wp_mono (fun e a' w' hq => ?_) (ih _ ρ' t' H' a w h1 h2 h4)
      have hq' := QRel.weaken h3 hq
      cases e with
      | normal => exact ⟨k, Nat.lt_succ_self _, hq'⟩
      | exit i => exact hq'
      | ret => exact hq'
      | goto l => exact hq.elim
      | panic c => exact hq.elim
      | outgrown => exact hq.elim
  | _ => intro Q ρ t H a w hR hT h; cases h

theorem resK_sim {Rs : List ResultVar} (hR : Rel w0 ρ H w) (hT : TRel ρ t a) :
    ∀ (acc acc' : List Value) (K : List Value → Option R), resK P t H Rs acc K = some r → All2 (VRel ρ) acc acc' →
      ∃ vs vs', (Rs.mapM fun x => (match x with | .tmp t => pure (a.tmps.getD t undef) | .cell c t => do loadVar t (← asAddr (a.tmps.getD c undef)) : Sem Value)).run P w = .ok vs' w ∧
        All2 (VRel ρ) vs vs' ∧ K (acc ++ vs) = some r ∧ vs.length = Rs.length := by
  induction Rs with
  | nil => intro acc acc' K h ha; exact ⟨[], [], by simp, .nil, by simpa [resK] using h, rfl⟩
  | cons x rest ih =>
    intro acc acc' K h ha
    cases x with
    | tmp i =>
      simp only [resK] at h
      have hv : VRel ρ (t.getD i undef) (a.tmps.getD i undef) := by
        have := hT.1.getD (VRel.undef ρ) i
        simpa [List.getD, Array.getD_eq_getD_getElem?] using this
      obtain ⟨vs, vs', h1, h2, h3, h4⟩ := ih (acc ++ [t.getD i undef]) (acc' ++ [a.tmps.getD i undef]) K h (ha.append (.cons hv .nil))
      refine ⟨t.getD i undef :: vs, a.tmps.getD i undef :: vs', ?_, .cons hv h2, by simpa using h3, by simp [h4]⟩
      simp only [List.mapM_cons, Sem.run_bind, Sem.run_pure, Result.andThen_ok, h1]
    | cell c ty =>
      simp only [resK] at h
      split at h
      · rename_i ad hc
        rw [loadK_cps] at h
        obtain ⟨u, hu, h⟩ := Option.bind_eq_some_iff.1 h
        have hv : VRel ρ (.pointer (some ad)) (a.tmps.getD c undef) := by
          have := hT.1.getD (VRel.undef ρ) c
          rw [hc] at this
          simpa [List.getD, Array.getD_eq_getD_getElem?] using this
        obtain ⟨_, ad', sl, hr, he⟩ := hv.ptr
        obtain ⟨u', h1, h2⟩ := load_sim hu hR hr
        obtain ⟨vs, vs', k1, k2, k3, k4⟩ := ih (acc ++ [u]) (acc' ++ [u']) K h (ha.append (.cons h2.v .nil))
        refine ⟨u :: vs, u' :: vs', ?_, .cons h2.v k2, by simpa using k3, by simp [k4]⟩
        have hasa : (asAddr (a.tmps.getD c undef)).run P w = .ok (ad'.add ad.off) w := by rw [he]; simp [asAddr]
        simp only [List.mapM_cons, Sem.run_bind, Sem.run_pure, Result.andThen_ok, hasa, h1, k1]
      · cases h


theorem run_fn {fn : Func} {args : List Value} {args' : Array Value} {f : FuncId} (hc : CallSound P call w0) (hd : DrawSound P call w0) {n : Nat} (hfn : P.funcs[f]? = some fn)
    {vh : Value × AHeap} (h : runF P call n fn args H = some vh) (hR : Rel w0 ρ H w) (hA : All2 (VRel ρ) args args'.toList) :
    Calls P f args' w fun e w' => ∃ v' ρ', e = .returned v' ∧ VRel ρ' vh.1 v' ∧ Rel w0 ρ' vh.2 w' ∧ Ren.le ρ ρ' := by
  unfold runF at h
  split at h
  · rename_i c hb
    split at h
    · rename_i hlen
      have hl := hA.length
      have hT : TRel ρ (args ++ List.replicate (fn.ntmps - args.length) undef) { tmps := args' ++ Array.replicate (fn.ntmps - args'.size) undef, defers := [] } := by
        refine ⟨?_, rfl⟩
        simp only [Array.toList_append, Array.toList_replicate]
        rw [show args'.size = args.length from by rw [← Array.length_toList, hl]]
        exact hA.append (All2.replicate (VRel.undef ρ) _)
      have := run_sim (r := vh) hc hd n c (retQ P fn) ρ _ H _ w hR hT h
      refine calls_of_wp hfn hb (Code.wp_mono (fun e a' w' hq => ?_) this)
      have fin : KRel w0 ρ (fun t H => resK P t H fn.results.toList [] (retV H)) vh a' w' →
          a'.defers = [] ∧ ∃ v, (results fn a'.tmps).run P w' = .ok v w' ∧ ∃ v' ρ', Ending.returned v = .returned v' ∧ VRel ρ' vh.1 v' ∧ Rel w0 ρ' vh.2 w' ∧ Ren.le ρ ρ' := by
        intro hk
        obtain ⟨ρ', t', H', h1, h2, h3, h4⟩ := hk
        obtain ⟨vs, vs', k1, k2, k3, k4⟩ := resK_sim (P := P) h1 h2 [] [] (retV H') h4 .nil
        have hres : (results fn a'.tmps).run P w' = .ok (if h : vs'.toArray.size = 1 then vs'.toArray[0] else .tuple vs'.toArray) w' := by
          unfold results
          rw [Array.mapM_eq_mapM_toList]
          simp only [Sem.run_bind, Sem.run_map, Sem.run_pure]
          exact congrArg (fun (x : Result (List Value)) => (x.andThen fun a w' => Result.ok a.toArray w').andThen fun a w' => Result.ok (if h : a.size = 1 then a[0] else Value.tuple a) w') k1
        simp only [List.nil_append] at k3
        refine ⟨h2.2, _, hres, _, ρ', rfl, ?_, ?_, h3⟩
        · cases k2 with
          | nil => cases k3; exact .inr ⟨_, _, rfl, rfl, .nil⟩
          | cons q1 q2 =>
            cases q2 with
            | nil => cases k3; exact q1
            | @cons x2 y2 l2 l2' q3 q4 =>
              rename_i x1 y1
              simp only [retV] at k3
              cases hall : (x1 :: x2 :: l2).all notTup with
              | false => rw [hall] at k3; cases k3
              | true =>
                rw [hall] at k3
                cases k3
                refine .inr ⟨_, _, rfl, rfl, ?_⟩
                have hq := All2.cons q1 (All2.cons q3 q4)
                refine All2.of_get hq.length fun i x y hx hy => ?_
                obtain ⟨y', hy', hr⟩ := hq.get i x hx
                have hy2 : (y1 :: y2 :: l2')[i]? = some y := hy
                rw [hy2] at hy'
                cases hy'
                rcases hr with hr | ⟨_, _, rfl, _⟩
                · exact hr
                · have := List.all_eq_true.1 hall _ (List.mem_of_getElem? hx)
                  cases this
        · cases k2 with
          | nil => cases k3; exact h1
          | cons q1 q2 =>
            cases q2 with
            | nil => cases k3; exact h1
            | @cons x2 y2 l2 l2' q3 q4 =>
              rename_i x1 y1
              simp only [retV] at k3
              cases hall : (x1 :: x2 :: l2).all notTup with
              | false => rw [hall] at k3; cases k3
              | true => rw [hall] at k3; cases k3; exact h1
      cases e with
      | normal => exact fin hq
      | ret => exact fin hq
      | exit i => obtain ⟨_, _, _, _, _, _, h4⟩ := hq; cases h4
      | goto l => exact hq.elim
      | panic c => exact hq.elim
      | outgrown => exact hq.elim
    · cases h
  · cases h

end
end Go.Mx
