/- Texts of this claim, laid together: M10 M11 M12 M13 M14 M15 M16 M17 M18 M19. -/
import Derived.Test.YtcegcnopakfloaaXGa
import Derived.Deep.LoopGhost
import Derived.Orders
import Derived.ProofKit
import Derived.ChangeShapes
section
set_option linter.unusedSimpArgs false
/- Regions, code, calls: whatever the machine comes to, the model comes to. -/
namespace Go.Mx
open Go Go.RowKit

section
variable {P : Program} {call : CallF} {w0 w : World} {ρ : Ren} {t : List Value} {H H' : AHeap} {a : Act} {o : Oper} {slot : Option Nat} {v : Value}
  {Q : Exit → Act → World → Prop} {R : Type} {r : R}

/-- a state of the model that stands for one of the machine, from which the rest comes to r -/
def KRel (w0 : World) (ρ : Ren) (K : List Value → AHeap → Option R) (r : R) : Act → World → Prop := fun a w =>
  ∃ ρ' t H, Rel w0 ρ' H w ∧ TRel ρ' t a ∧ ρ.le ρ' ∧ K t H = some r

theorem KRel.weaken {ρ ρ1 : Ren} (hle : ρ.le ρ1) {K : List Value → AHeap → Option R} {a : Act} {w : World} (h : KRel w0 ρ1 K r a w) : KRel w0 ρ K r a w :=
  let ⟨ρ', t, H, h1, h2, h3, h4⟩ := h
  ⟨ρ', t, H, h1, h2, Ren.le_trans hle h3, h4⟩

theorem TRel.mono {ρ ρ' : Ren} (hle : ρ.le ρ') (h : TRel ρ t a) : TRel ρ' t a := ⟨h.1.mono fun _ _ => VRel.mono hle, h.2⟩

theorem put_rel (h : TRel ρ t a) {v v' : Value} (hv : VRel ρ v v') (d : Option Tmp) : TRel ρ (putT t d v) (a.put d v') := by
  cases d with
  | none => exact h
  | some d => exact ⟨by simpa [putT, Act.put] using h.1.set hv d, h.2⟩

theorem VRel.bool_rev {b : Bool} (h : VRel ρ v (.bool b)) : v = .bool b := by
  rcases h with ((h | ⟨_, _, _, _, h, _⟩) | ⟨_, _, _, h, _⟩) | ⟨_, _, _, h, _⟩
  · cases v with
    | bool b' => cases h; rfl
    | pointer p => cases p with
      | none => cases h
      | some p => obtain ⟨_, _, _, _, h⟩ := h; cases h
    | slice p l c => cases p with
      | none => obtain ⟨_, _, h⟩ := h; cases h
      | some p => obtain ⟨_, ⟨_, _, h⟩ | ⟨_, _, _, h⟩⟩ := h <;> cases h
    | map p => cases p <;> cases h
    | _ => cases h
  all_goals cases h

theorem yield_rel (hT : TRel ρ t a) {ops : Array Oper} {j : Nat} {d : Tmp} (hd : (ops[j]?).bind (·.dst) = some d) :
    yielded ops a.tmps j = match t[d]? with | some (.bool b) => some b | _ => none := by
  unfold yielded
  rw [hd]
  simp only [Option.bind_some]
  cases ht : t[d]? with
  | none =>
    have : a.tmps[d]? = none := by
      rw [List.getElem?_eq_none_iff] at ht
      rw [Array.getElem?_eq_none_iff, ← Array.length_toList, ← hT.1.length]
      exact ht
    rw [this]
  | some v =>
    obtain ⟨v', h1, h2⟩ := hT.1.get d v ht
    have h1' : a.tmps[d]? = some v' := by simpa using h1
    rw [h1']
    cases v with
    | bool b => rw [h2.bool]
    | _ =>
      split
      · rename_i b hb
        cases hb
        cases h2.bool_rev
      · rfl

theorem set_same {l : List Value} {d : Nat} {v : Value} (h : l[d]? = some v) : l.set d v = l := by
  apply List.ext_getElem?
  intro i
  rw [List.getElem?_set]
  split
  · rename_i e; subst e
    split
    · exact h.symm
    · rename_i hlt
      rw [List.getElem?_eq_none (by omega)]
  · rfl

/-- one step of a region, with its guard -/
theorem step_sim (hc : CallSound P call w0) {ops : Array Oper} {K : List Value → AHeap → Option R} {rest : List (Option Nat × Oper)} {g : Option AHeap}
    (hrun : runOps P call g ops.toList ((slot, o) :: rest) K t H = some r) (hR : Rel w0 ρ H w) (hT : TRel ρ t a)
    (hf : H.get (H.newId slot) = none) (hs : ∀ i, slot = some i → i < H.next)
    (next : Act → World → Prop)
    (hn : ∀ ρ' t' H' a' w', Rel w0 ρ' H' w' → TRel ρ' t' a' → ρ.le ρ' → (∃ v, opS P call slot o t H = some (v, H') ∨ H' = H) → runOps P call g ops.toList rest K t' H' = some r → next a' w') :
    if Region.wanted o (yielded ops a.tmps) then o.wp P a w next Q else next (a.put o.dst undef) w := by
  have doIt : ldGuard g o t H (aopK P call slot o t H fun v H' => runOps P call g ops.toList rest K (putT t o.dst v) H') = some r → o.wp P a w next Q := by
    intro h
    have h' : (aopK P call slot o t H fun v H' => runOps P call g ops.toList rest K (putT t o.dst v) H') = some r := by
      unfold ldGuard at h
      split at h
      · exact h
      · split at h
        · split at h
          · generalize sameB _ _ _ = bb at h
            cases bb
            · cases h
            · exact h
          · cases h
        · exact h
    rw [aopK_cps] at h'
    obtain ⟨p, hp, h''⟩ := Option.bind_eq_some_iff.1 h'
    have := op_sim (Q := Q) hc (v := p.1) (H' := p.2) hp hR hT hf hs
    refine Oper.wp_mono (fun a' w' hg => ?_) this
    obtain ⟨v', ρ', rfl, h1, h2, h3⟩ := hg
    exact hn ρ' _ p.2 _ w' h2 (put_rel (hT.mono h3) h1 o.dst) h3 ⟨p.1, .inl hp⟩ h''
  have skip : runOps P call g ops.toList rest K (putT t o.dst undef) H = some r → next (a.put o.dst undef) w := by
    intro h
    exact hn ρ _ H _ w hR (put_rel hT (VRel.undef ρ) o.dst) (Ren.le_refl _) ⟨undef, .inr rfl⟩ h
  unfold runOps at hrun
  cases hg : o.guard with
  | none =>
    rw [hg] at hrun
    rw [if_pos (by simp [Region.wanted, hg])]
    exact doIt hrun
  | some q =>
    obtain ⟨j, want⟩ := q
    rw [hg] at hrun
    simp only [Array.getElem?_toList] at hrun
    cases hd : (ops[j]?).bind (·.dst) with
    | none =>
      rw [hd] at hrun
      have : yielded ops a.tmps j = none := by simp [yielded, hd]
      rw [if_neg (by simp [Region.wanted, hg, this])]
      exact skip hrun
    | some d =>
      rw [hd] at hrun
      have hy := yield_rel hT hd
      simp only [] at hrun
      split at hrun
      · rename_i s hs'
        have hset : ∀ b, s = b → t.set d (.bool b) = t := fun b e => by subst e; exact set_same hs'
        rw [hs'] at hy
        cases s
        · simp only [cond_false] at hrun
          rw [hset false rfl] at hrun
          cases want
          · rw [if_pos (by simp [Region.wanted, hg, hy])]
            exact doIt hrun
          · rw [if_neg (by simp [Region.wanted, hg, hy])]
            exact skip hrun
        · simp only [cond_true] at hrun
          rw [hset true rfl] at hrun
          cases want
          · rw [if_neg (by simp [Region.wanted, hg, hy])]
            exact skip hrun
          · rw [if_pos (by simp [Region.wanted, hg, hy])]
            exact doIt hrun
      · rename_i hnb
        have hy' : yielded ops a.tmps j = none := by
          rw [hy]
          split
          · rename_i b hb; exact absurd hb (hnb b)
          · rfl
        rw [if_neg (by simp [Region.wanted, hg, hy'])]
        exact skip hrun

theorem runOps_sim (hc : CallSound P call w0) {ops : Array Oper} {K : List Value → AHeap → Option R} (hQ : ∀ ρ', ρ.le ρ' → ∀ a w, KRel w0 ρ' K r a w → Q .normal a w) :
    ∀ (l : List Oper) (ρ1 : Ren) (t : List Value) (H : AHeap) (a : Act) (w : World), ρ.le ρ1 → Rel w0 ρ1 H w → TRel ρ1 t a →
      runOps P call none ops.toList (plainOps l) K t H = some r → wpList P ops Q l a w := by
  intro l
  induction l with
  | nil =>
    intro ρ1 t H a w hle hR hT h
    exact hQ ρ1 hle a w ⟨ρ1, t, H, hR, hT, Ren.le_refl _, h⟩
  | cons o l ih =>
    intro ρ1 t H a w hle hR hT h
    have := step_sim (Q := Q) (slot := none) (o := o) hc (rest := plainOps l) h hR hT (hR.fresh _ (Nat.le_refl _)) (by intro i hi; cases hi) (wpList P ops Q l)
      (fun ρ' t' H' a' w' h1 h2 h3 _ h4 => ih ρ' t' H' a' w' (Ren.le_trans hle h3) h1 h2 h4)
    unfold wpList
    split
    · rename_i hw; rw [if_pos hw] at this; exact .inl this
    · rename_i hw; rw [if_neg hw] at this; exact this

/-- what a continuation of the machine asks of the model's exits -/
def QRel (w0 : World) (ρ : Ren) (Q : Kont R) (r : R) : Exit → Act → World → Prop
  | .normal => KRel w0 ρ (Q .normal) r
  | .exit i => KRel w0 ρ (Q (.exit i)) r
  | .ret => KRel w0 ρ (Q .ret) r
  | _ => fun _ _ => False

theorem QRel.weaken {ρ ρ1 : Ren} (hle : ρ.le ρ1) {Q : Kont R} {e : Exit} {a : Act} {w : World} (h : QRel w0 ρ1 Q r e a w) : QRel w0 ρ Q r e a w := by
  cases e <;> first | exact KRel.weaken hle h | exact h.elim

/-- regions that draw their order are handled by this -/
def DrawSound (P : Program) (call : CallF) (w0 : World) : Prop :=
  ∀ (R : Type) (r : R) (id : Nat) (ops : Array Oper) (K : List Value → AHeap → Option R) (ρ : Ren) (t : List Value) (H : AHeap) (a : Act) (w : World) (Q : Exit → Act → World → Prop),
    drawOk ops.toList = true → runOps P call (some H) ops.toList (slots ops.toList H.next (drawOrder ops.toList)) K t (H.bump ops.toList.length) = some r →
    Rel w0 ρ H w → TRel ρ t a → (∀ a w, KRel w0 ρ K r a w → Q .normal a w) → (Code.region id ops true).wp P Q a w

theorem run_sim (hc : CallSound P call w0) (hd : DrawSound P call w0) (n : Nat) : ∀ (c : Code) (Q : Kont R) (ρ : Ren) (t : List Value) (H : AHeap) (a : Act) (w : World),
    Rel w0 ρ H w → TRel ρ t a → run P call n c Q t H = some r → c.wp P (QRel w0 ρ Q r) a w := by
  intro c
  induction c with
  | skip => intro Q ρ t H a w hR hT h; exact wp_skip ⟨ρ, t, H, hR, hT, Ren.le_refl _, h⟩
  | exit id => intro Q ρ t H a w hR hT h; exact wp_exit ⟨ρ, t, H, hR, hT, Ren.le_refl _, h⟩
  | ret => intro Q ρ t H a w hR hT h; exact wp_ret ⟨ρ, t, H, hR, hT, Ren.le_refl _, h⟩
  | region id ops draw =>
    intro Q ρ t H a w hR hT h
    simp only [run] at h
    cases draw with
    | false =>
      simp only [cond_false] at h
      have := runOps_sim (Q := QRel w0 ρ Q r) hc (ρ := ρ) (K := Q .normal) (ops := ops) (fun ρ' hle a w h => KRel.weaken hle h) ops.toList ρ t H a w (Ren.le_refl _) hR hT h
      exact wp_region_list this
    | true =>
      simp only [cond_true] at h
      cases hok : drawOk ops.toList with
      | false => rw [hok] at h; cases h
      | true =>
        rw [hok] at h
        simp only [cond_true] at h
        exact hd R r id ops (Q .normal) ρ t H a w _ hok h hR hT (fun a w h => h)
  | seq x y ihx ihy =>
    intro Q ρ t H a w hR hT h
    simp only [run_seq] at h
    refine wp_seq (Code.wp_mono (fun e a' w' hq => ?_) (ihx _ ρ t H a w hR hT h))
    cases e with
    | normal =>
      obtain ⟨ρ', t', H', h1, h2, h3, h4⟩ := hq
      exact Code.wp_mono (fun e a w hh => QRel.weaken h3 hh) (ihy Q ρ' t' H' a' w' h1 h2 h4)
    | exit i => exact hq
    | ret => exact hq
    | goto l => exact hq.elim
    | panic c => exact hq.elim
    | outgrown => exact hq.elim
  | cond c x y ihx ihy =>
    intro Q ρ t H a w hR hT h
    simp only [run] at h
    split at h
    · rename_i s hs
      have hb := (aev_rel hT hs).bool
      cases s
      · exact wp_cond_false hb (ihy Q ρ t H a w hR hT h)
      · exact wp_cond_true hb (ihx Q ρ t H a w hR hT h)
    · cases h
  | block id c ih =>
    intro Q ρ t H a w hR hT h
    simp only [run] at h
    refine wp_block (Code.wp_mono (fun e a' w' hq => ?_) (ih _ ρ t H a w hR hT h))
    cases e with
    | normal => exact hq
    | exit i =>
      simp only [QRel, blkQ] at hq
      show if i = id then QRel w0 ρ Q r .normal a' w' else QRel w0 ρ Q r (.exit i) a' w'
      by_cases hid : i = id
      · rw [if_pos hid] at hq ⊢
        exact hq
      · rw [if_neg hid] at hq ⊢
        exact hq
    | ret => exact hq
    | goto l => exact hq.elim
    | panic c => exact hq.elim
    | outgrown => exact hq.elim
  | loop c ih =>
    intro Q ρ t H a w hR hT h
    simp only [run] at h
    refine wp_loop_ghost (fun k a w => KRel w0 ρ (iter (run P call n c) Q k) r a w) n ⟨ρ, t, H, hR, hT, Ren.le_refl _, h⟩ ?_
    intro k a w hI
    obtain ⟨ρ', t', H', h1, h2, h3, h4⟩ := hI
    cases k with
    | zero => cases h4
    | succ k =>
      simp only [iter] at h4
      refine Code.wp_mono (fun e a' w' hq => ?_) (ih _ ρ' t' H' a w h1 h2 h4)
      have hq' := QRel.weaken h3 hq
      cases e with
      | normal => exact ⟨k, Nat.lt_succ_self _, hq'⟩
      | exit i => exact hq'
      | ret => exact hq'
      | goto l => exact hq.elim
      | panic c => exact hq.elim
      | outgrown => exact hq.elim
  | _ => intro Q ρ t H a w hR hT h; cases h

theorem resK_sim {Rs : List ResultVar} (hR : Rel w0 ρ H w) (hT : TRel ρ t a) :
    ∀ (acc acc' : List Value) (K : List Value → Option R), resK P t H Rs acc K = some r → All2 (VRel ρ) acc acc' →
      ∃ vs vs', (Rs.mapM fun x => (match x with | .tmp t => pure (a.tmps.getD t undef) | .cell c t => do loadVar t (← asAddr (a.tmps.getD c undef)) : Sem Value)).run P w = .ok vs' w ∧
        All2 (VRel ρ) vs vs' ∧ K (acc ++ vs) = some r ∧ vs.length = Rs.length := by
  induction Rs with
  | nil => intro acc acc' K h ha; exact ⟨[], [], by simp, .nil, by simpa [resK] using h, rfl⟩
  | cons x rest ih =>
    intro acc acc' K h ha
    cases x with
    | tmp i =>
      simp only [resK] at h
      have hv : VRel ρ (t.getD i undef) (a.tmps.getD i undef) := by
        have := hT.1.getD (VRel.undef ρ) i
        simpa [List.getD, Array.getD_eq_getD_getElem?] using this
      obtain ⟨vs, vs', h1, h2, h3, h4⟩ := ih (acc ++ [t.getD i undef]) (acc' ++ [a.tmps.getD i undef]) K h (ha.append (.cons hv .nil))
      refine ⟨t.getD i undef :: vs, a.tmps.getD i undef :: vs', ?_, .cons hv h2, by simpa using h3, by simp [h4]⟩
      simp only [List.mapM_cons, Sem.run_bind, Sem.run_pure, Result.andThen_ok, h1]
    | cell c ty =>
      simp only [resK] at h
      split at h
      · rename_i ad hc
        rw [loadK_cps] at h
        obtain ⟨u, hu, h⟩ := Option.bind_eq_some_iff.1 h
        have hv : VRel ρ (.pointer (some ad)) (a.tmps.getD c undef) := by
          have := hT.1.getD (VRel.undef ρ) c
          rw [hc] at this
          simpa [List.getD, Array.getD_eq_getD_getElem?] using this
        obtain ⟨_, ad', sl, hr, he⟩ := hv.ptr
        obtain ⟨u', h1, h2⟩ := load_sim hu hR hr
        obtain ⟨vs, vs', k1, k2, k3, k4⟩ := ih (acc ++ [u]) (acc' ++ [u']) K h (ha.append (.cons h2.v .nil))
        refine ⟨u :: vs, u' :: vs', ?_, .cons h2.v k2, by simpa using k3, by simp [k4]⟩
        have hasa : (asAddr (a.tmps.getD c undef)).run P w = .ok (ad'.add ad.off) w := by rw [he]; simp [asAddr]
        simp only [List.mapM_cons, Sem.run_bind, Sem.run_pure, Result.andThen_ok, hasa, h1, k1]
      · cases h


theorem run_fn {fn : Func} {args : List Value} {args' : Array Value} {f : FuncId} (hc : CallSound P call w0) (hd : DrawSound P call w0) {n : Nat} (hfn : P.funcs[f]? = some fn)
    {vh : Value × AHeap} (h : runF P call n fn args H = some vh) (hR : Rel w0 ρ H w) (hA : All2 (VRel ρ) args args'.toList) :
    Calls P f args' w fun e w' => ∃ v' ρ', e = .returned v' ∧ VRel ρ' vh.1 v' ∧ Rel w0 ρ' vh.2 w' ∧ Ren.le ρ ρ' := by
  unfold runF at h
  split at h
  · rename_i c hb
    split at h
    · rename_i hlen
      have hl := hA.length
      have hT : TRel ρ (args ++ List.replicate (fn.ntmps - args.length) undef) { tmps := args' ++ Array.replicate (fn.ntmps - args'.size) undef, defers := [] } := by
        refine ⟨?_, rfl⟩
        simp only [Array.toList_append, Array.toList_replicate]
        rw [show args'.size = args.length from by rw [← Array.length_toList, hl]]
        exact hA.append (All2.replicate (VRel.undef ρ) _)
      have := run_sim (r := vh) hc hd n c (retQ P fn) ρ _ H _ w hR hT h
      refine calls_of_wp hfn hb (Code.wp_mono (fun e a' w' hq => ?_) this)
      have fin : KRel w0 ρ (fun t H => resK P t H fn.results.toList [] (retV H)) vh a' w' →
          a'.defers = [] ∧ ∃ v, (results fn a'.tmps).run P w' = .ok v w' ∧ ∃ v' ρ', Ending.returned v = .returned v' ∧ VRel ρ' vh.1 v' ∧ Rel w0 ρ' vh.2 w' ∧ Ren.le ρ ρ' := by
        intro hk
        obtain ⟨ρ', t', H', h1, h2, h3, h4⟩ := hk
        obtain ⟨vs, vs', k1, k2, k3, k4⟩ := resK_sim (P := P) h1 h2 [] [] (retV H') h4 .nil
        have hres : (results fn a'.tmps).run P w' = .ok (if h : vs'.toArray.size = 1 then vs'.toArray[0] else .tuple vs'.toArray) w' := by
          unfold results
          rw [Array.mapM_eq_mapM_toList]
          simp only [Sem.run_bind, Sem.run_map, Sem.run_pure]
          exact congrArg (fun (x : Result (List Value)) => (x.andThen fun a w' => Result.ok a.toArray w').andThen fun a w' => Result.ok (if h : a.size = 1 then a[0] else Value.tuple a) w') k1
        simp only [List.nil_append] at k3
        refine ⟨h2.2, _, hres, _, ρ', rfl, ?_, ?_, h3⟩
        · cases k2 with
          | nil => cases k3; exact .inr ⟨_, _, rfl, rfl, .nil⟩
          | cons q1 q2 =>
            cases q2 with
            | nil => cases k3; exact q1
            | @cons x2 y2 l2 l2' q3 q4 =>
              rename_i x1 y1
              simp only [retV] at k3
              cases hall : (x1 :: x2 :: l2).all notTup with
              | false => rw [hall] at k3; cases k3
              | true =>
                rw [hall] at k3
                cases k3
                refine .inr ⟨_, _, rfl, rfl, ?_⟩
                have hq := All2.cons q1 (All2.cons q3 q4)
                refine All2.of_get hq.length fun i x y hx hy => ?_
                obtain ⟨y', hy', hr⟩ := hq.get i x hx
                have hy2 : (y1 :: y2 :: l2')[i]? = some y := hy
                rw [hy2] at hy'
                cases hy'
                rcases hr with hr | ⟨_, _, rfl, _⟩
                · exact hr
                · have := List.all_eq_true.1 hall _ (List.mem_of_getElem? hx)
                  cases this
        · cases k2 with
          | nil => cases k3; exact h1
          | cons q1 q2 =>
            cases q2 with
            | nil => cases k3; exact h1
            | @cons x2 y2 l2 l2' q3 q4 =>
              rename_i x1 y1
              simp only [retV] at k3
              cases hall : (x1 :: x2 :: l2).all notTup with
              | false => rw [hall] at k3; cases k3
              | true => rw [hall] at k3; cases k3; exact h1
      cases e with
      | normal => exact fin hq
      | ret => exact fin hq
      | exit i => obtain ⟨_, _, _, _, _, _, h4⟩ := hq; cases h4
      | goto l => exact hq.elim
      | panic c => exact hq.elim
      | outgrown => exact hq.elim
    · cases h
  · cases h

end
end Go.Mx
end

section
set_option linter.unusedSimpArgs false
/- The machine's steps keep what they do not touch. -/
namespace Go.Mx
open Go Go.RowKit

/-- nothing is lost, and what was written bears a later number -/
structure Ext (H H' : AHeap) : Prop where
  get : ∀ i b, H.get i = some b → ∃ b', H'.get i = some b' ∧ b.ver ≤ b'.ver ∧ (b'.ver = b.ver → b' = b)
  next : H.next ≤ H'.next

theorem Ext.refl (H : AHeap) : Ext H H := ⟨fun _ b h => ⟨b, h, Nat.le_refl _, fun _ => rfl⟩, Nat.le_refl _⟩
theorem Ext.trans {A B C : AHeap} (h : Ext A B) (k : Ext B C) : Ext A C :=
  ⟨fun i b hb => by
    obtain ⟨b1, h1, h2, h3⟩ := h.get i b hb
    obtain ⟨b2, k1, k2, k3⟩ := k.get i b1 h1
    refine ⟨b2, k1, Nat.le_trans h2 k2, fun e => ?_⟩
    have e1 : b1.ver = b.ver := by omega
    have e2 : b2.ver = b1.ver := by omega
    rw [k3 e2, h3 e1], Nat.le_trans h.next k.next⟩

theorem Ext.alloc {H : AHeap} {slot : Option Nat} (hf : H.get (H.newId slot) = none) (b : Blk) : Ext H (H.alloc slot b) := by
  refine ⟨fun i b' hb => ⟨b', ?_, Nat.le_refl _, fun _ => rfl⟩, ?_⟩
  · rw [AHeap.get_alloc, if_neg (fun e => by rw [e, hf] at hb; cases hb)]; exact hb
  · cases slot <;> simp [AHeap.alloc]

theorem wr_spec {H H' : AHeap} {i o : Nat} {vs : List Value} (h : H.wr i o vs = some H') :
    ∃ b, H.get i = some b ∧ b.mode = .rw ∧ o + vs.length ≤ b.cells.length ∧ H' = H.put i { b with cells := splice b.cells o vs, ver := b.ver + 1 } := by
  unfold AHeap.wr at h
  split at h
  · rename_i b hb
    split at h
    · rename_i hc; exact ⟨b, hb, hc.1, hc.2, (Option.some.inj h).symm⟩
    · cases h
  · cases h

theorem Ext.put {H : AHeap} {i : Nat} {b b' : Blk} (hb : H.get i = some b) (hv : b.ver < b'.ver) : Ext H (H.put i b') := by
  refine ⟨fun j c hc => ?_, Nat.le_refl _⟩
  by_cases e : j = i
  · subst e
    rw [hb] at hc; cases hc
    exact ⟨b', by simp [AHeap.put], by omega, fun e => by omega⟩
  · exact ⟨c, by simp [AHeap.put, e, hc], Nat.le_refl _, fun _ => rfl⟩

theorem Ext.wr {H H' : AHeap} {i o : Nat} {vs : List Value} (h : H.wr i o vs = some H') : Ext H H' := by
  obtain ⟨b, h1, _, _, rfl⟩ := wr_spec h
  exact Ext.put h1 (Nat.lt_succ_self _)

theorem put_get_ne (H : AHeap) {i j : Nat} (b : Blk) (h : j ≠ i) : (H.put i b).get j = H.get j := by simp [AHeap.put, h]
theorem ite_swap {α : Type} (k i j : Nat) (x y z : α) (h : i ≠ j) : (if k = j then x else if k = i then y else z) = (if k = i then y else if k = j then x else z) := by
  by_cases e1 : k = j
  · subst e1; rw [if_pos rfl, if_neg (fun e => h e.symm), if_pos rfl]
  · by_cases e2 : k = i
    · rw [if_neg e1, if_pos e2, if_pos e2]
    · rw [if_neg e1, if_neg e2, if_neg e2, if_neg e1]
theorem put_comm (H : AHeap) {i j : Nat} (b c : Blk) (h : i ≠ j) : (H.put i b).put j c = (H.put j c).put i b := by
  have : ((H.put i b).put j c).get = ((H.put j c).put i b).get := funext fun k => ite_swap k i j _ _ _ h
  exact congrArg (fun g => AHeap.mk g H.next) this
theorem put_alloc (H : AHeap) {i : Nat} (b c : Blk) (slot : Option Nat) (h : i ≠ H.newId slot) : (H.put i b).alloc slot c = (H.alloc slot c).put i b := by
  cases slot with
  | none =>
    have : ((H.put i b).alloc none c).get = ((H.alloc none c).put i b).get := funext fun k => ite_swap k i H.next _ _ _ h
    exact congrArg (fun g => AHeap.mk g (H.next + 1)) this
  | some j => exact put_comm H b c h

section frame
variable {H : AHeap} {id : Nat} {b : Blk}
theorem cell_put (hn : H.get id = none) {i o : Nat} {v : Value} (h : H.cell i o = some v) : (H.put id b).cell i o = some v := by
  have hi : i ≠ id := fun e => by subst e; simp [AHeap.cell, hn] at h
  simpa [AHeap.cell, put_get_ne H b hi] using h
theorem row_put (hn : H.get id = none) {i o n : Nat} {v : List Value} (h : H.row i o n = some v) : (H.put id b).row i o n = some v := by
  have hi : i ≠ id := fun e => by subst e; simp [AHeap.row, hn] at h
  simpa [AHeap.row, put_get_ne H b hi] using h
theorem wr_put (hn : H.get id = none) {i o : Nat} {vs : List Value} {H' : AHeap} (h : H.wr i o vs = some H') : (H.put id b).wr i o vs = some (H'.put id b) ∧ H'.get id = none := by
  obtain ⟨c, h1, h2, h3, rfl⟩ := wr_spec h
  have hi : i ≠ id := fun e => by subst e; rw [hn] at h1; cases h1
  refine ⟨?_, by rw [put_get_ne _ _ (Ne.symm hi)]; exact hn⟩
  unfold AHeap.wr
  rw [put_get_ne H b hi, h1]
  (try dsimp only)
  rw [if_pos ⟨h2, h3⟩, put_comm H b _ (Ne.symm hi)]
theorem loadK_put {P : Program} (hn : H.get id = none) {ty : TypeId} {i o : Nat} {v : Value} (h : loadK P ty i o H some = some v) : loadK P ty i o (H.put id b) some = some v := by
  have gen : ∀ {α : Type} (f : Value → Option α) (g : α → Option Value), ((H.cell i o).bind f).bind g = some v → (((H.put id b).cell i o).bind f).bind g = some v := by
    intro α f g hh
    cases hc : H.cell i o with
    | none => rw [hc] at hh; cases hh
    | some u => rw [hc] at hh; rw [cell_put hn hc]; exact hh
  unfold loadK at h ⊢
  split at h
  · exact gen (asI _) _ h
  · exact gen asB _ h
  · exact gen asS _ h
  · exact gen asSl _ h
  · exact gen asPt _ h
  · split at h
    · obtain ⟨l, hl, h⟩ := Option.bind_eq_some_iff.1 h
      (try dsimp only)
      rw [row_put hn hl]; exact h
    · cases h
  · split at h
    · obtain ⟨l, hl, h⟩ := Option.bind_eq_some_iff.1 h
      (try dsimp only)
      rw [row_put hn hl]; exact h
    · cases h
  · obtain ⟨u, hu, h⟩ := Option.bind_eq_some_iff.1 h
    (try dsimp only)
    rw [cell_put hn hu]; exact h
  · cases h
theorem firstC_put (hn : H.get id = none) {size n : Nat} {x : Value} {l : List Value} (h : firstC H size n x = some l) : firstC (H.put id b) size n x = some l := by
  unfold firstC at h ⊢
  split at h
  · split at h
    · rename_i hle; (try dsimp only); rw [if_pos hle]; exact row_put hn h
    · cases h
  · exact h
  · exact h
  · cases h
theorem apnd_put {P : Program} (hn : H.get id = none) (hlt : id < H.next) {elem : TypeId} {base : Option Addr} {sLen sCap n : Nat} {news : List Value} {v : Value} {H' : AHeap}
    (h : apnd P elem H base sLen sCap news n = some (v, H')) : apnd P elem (H.put id b) base sLen sCap news n = some (v, H'.put id b) ∧ H'.get id = none := by
  have hne : id ≠ H.next := by omega
  unfold apnd at h ⊢
  split at h
  · cases h
  · (try dsimp only)
    split at h
    · cases h
    · rename_i hc; rw [if_neg hc]
      split at h
      · rename_i hc; rw [if_pos hc]
        split at h
        · rename_i hc; rw [if_pos hc]; cases h; exact ⟨rfl, hn⟩
        · rename_i hc; rw [if_neg hc]
          split at h
          · cases h
          · obtain ⟨H1, hw, h⟩ := Option.bind_eq_some_iff.1 h
            cases h
            obtain ⟨k1, k2⟩ := wr_put (b := b) hn hw
            (try dsimp only)
            rw [k1]; exact ⟨rfl, k2⟩
      · rename_i hc; rw [if_neg hc]
        split at h
        · cases h
        · rename_i hc; rw [if_neg hc]
          split at h
          · cases h
            refine ⟨?_, by rw [AHeap.get_alloc, if_neg (show ¬ id = H.newId none from hne)]; exact hn⟩
            (try dsimp only)
            rw [put_alloc H b _ none hne]; rfl
          · split at h
            · cases h
            · rename_i ad _ c hc1
              have hi : ad.block ≠ id := fun e => by rw [e, hn] at hc1; cases hc1
              (try dsimp only)
              rw [put_get_ne H b hi, hc1]
              (try dsimp only)
              split at h
              · cases h
              · rename_i hc; rw [if_neg hc]
                split at h
                · rename_i hc; rw [if_pos hc]; cases h
                  refine ⟨?_, by rw [AHeap.get_alloc, if_neg (show ¬ id = H.newId none from hne)]; exact hn⟩
                  rw [put_alloc H b _ none hne]; rfl
                · rename_i hc; rw [if_neg hc]
                  split at h
                  · rename_i hc; rw [if_pos hc]; cases h
                    refine ⟨?_, ?_⟩
                    · rw [put_comm H b _ (Ne.symm hi)]
                      exact congrArg (fun X => some (Value.slice (some ⟨H.next, 0, none⟩) (sLen + n) (sLen + n), X)) (put_alloc (H.put ad.block { c with mode := .dead, ver := c.ver + 1 }) b _ none hne)
                    · rw [AHeap.get_alloc, if_neg (show ¬ id = (H.put ad.block _).newId none from hne), put_get_ne _ _ (Ne.symm hi)]; exact hn
                  · cases h
end frame

theorem apnd_ext {P : Program} {elem : TypeId} {H H' : AHeap} (hf : ∀ i, H.next ≤ i → H.get i = none) {base : Option Addr} {sLen sCap n : Nat} {news : List Value} {v : Value}
    (h : apnd P elem H base sLen sCap news n = some (v, H')) : Ext H H' := by
  unfold apnd at h
  split at h
  · cases h
  · split at h
    · cases h
    · split at h
      · split at h
        · cases h; exact Ext.refl _
        · split at h
          · cases h
          · obtain ⟨H1, hw, h⟩ := Option.bind_eq_some_iff.1 h
            cases h
            exact Ext.wr hw
      · split at h
        · cases h
        · split at h
          · cases h; exact Ext.alloc (hf _ (Nat.le_refl _)) _
          · split at h
            · cases h
            · rename_i ad _ c hc1
              split at h
              · cases h
              · split at h
                · cases h; exact Ext.alloc (hf _ (Nat.le_refl _)) _
                · split at h
                  · cases h
                    refine Ext.trans (Ext.put (b' := { c with mode := .dead, ver := c.ver + 1 }) hc1 (Nat.lt_succ_self _)) (Ext.alloc ?_ _)
                    have hne : H.next ≠ ad.block := fun e => by rw [← e, hf _ (Nat.le_refl _)] at hc1; cases hc1
                    show (H.put ad.block _).get H.next = none
                    rw [put_get_ne _ _ hne]
                    exact hf _ (Nat.le_refl _)
                  · cases h

/-- what a function's run leaves alone -/
structure CallKeeps (call : CallF) : Prop where
  next : ∀ f args H v H', call f args H = some (v, H') → H.next ≤ H'.next
  frame : ∀ f args H v H', call f args H = some (v, H') → ∀ id b, H.get id = none → id < H.next → call f args (H.put id b) = some (v, H'.put id b) ∧ H'.get id = none
  ext : ∀ f args H v H', call f args H = some (v, H') → (∀ i, H.next ≤ i → H.get i = none) → Ext H H' ∧ ∀ i, H'.next ≤ i → H'.get i = none

section
variable {P : Program} {call : CallF} {t : List Value} {H H' : AHeap} {o : Oper} {slot : Option Nat} {v : Value}

theorem callK_frame (hk : CallKeeps call) {c : Call} (h : callK P call o c t H (fun v H => some (v, H)) = some (v, H')) {id : Nat} (hn : H.get id = none) (hlt : id < H.next) (b : Blk) :
    callK P call o c t (H.put id b) (fun v H => some (v, H)) = some (v, H'.put id b) ∧ H'.get id = none := by
  unfold callK at h ⊢
  split at h
  · cases h
  · rename_i args ha
    (try dsimp only)
    split at h
    · rename_i f hb
      (try dsimp only)
      split at h
      · rename_i g first captured hf
        (try dsimp only)
        split at h
        · rename_i hbd
          rw [if_pos hbd]
          obtain ⟨p, hp, h⟩ := Option.bind_eq_some_iff.1 h
          obtain ⟨k1, k2⟩ := hk.frame _ _ _ _ _ hp id b hn hlt
          rw [k1]
          rw [normK_cps] at h
          obtain ⟨u, hu, h⟩ := Option.bind_eq_some_iff.1 h
          cases h
          refine ⟨?_, k2⟩
          simp only [Option.bind_some]
          rw [normK_cps, hu]
          rfl
        · cases h
      · cases h
    · cases h
    · rename_i bi hb
      (try dsimp only)
      split at h
      · split at h
        · rename_i hu; (try dsimp only); cases h; exact ⟨rfl, hn⟩
        · cases h
      · split at h
        · rename_i hu; (try dsimp only); cases h; exact ⟨rfl, hn⟩
        · cases h
      · obtain ⟨p, hp, h⟩ := Option.bind_eq_some_iff.1 h
        rw [normK_cps] at h
        obtain ⟨u, hu, h⟩ := Option.bind_eq_some_iff.1 h
        cases h
        have key : ∀ {tys : List TypeId} {s x : Value} {p : Value × AHeap}, apndV P tys H s x = some p → apndV P tys (H.put id b) s x = some (p.1, p.2.put id b) ∧ p.2.get id = none := by
          intro tys s x p hp
          unfold apndV at hp ⊢
          split at hp
          · (try dsimp only)
            split at hp
            · (try dsimp only)
              split at hp
              · (try dsimp only)
                split at hp
                · (try dsimp only)
                  obtain ⟨news, hf, hp⟩ := Option.bind_eq_some_iff.1 hp
                  rw [firstC_put hn hf]
                  exact apnd_put hn hlt hp
                · cases hp
              · (try dsimp only)
                split at hp
                · (try dsimp only)
                  split at hp
                  · rename_i h1; rw [if_pos h1]
                    obtain ⟨news, hf, hp⟩ := Option.bind_eq_some_iff.1 hp
                    rw [firstC_put hn hf]
                    exact apnd_put hn hlt hp
                  · cases hp
                · cases hp
              · cases hp
            · cases hp
          · cases hp
        obtain ⟨k1, k2⟩ := key hp
        (try dsimp only)
        rw [k1]
        refine ⟨?_, k2⟩
        simp only [Option.bind_some]
        rw [normK_cps, hu]
        rfl
      · obtain ⟨p, hp, h⟩ := Option.bind_eq_some_iff.1 h
        cases h
        have key : ∀ {tys : List TypeId} {s x : Value} {p : Value × AHeap}, copyV P tys H s x = some p → copyV P tys (H.put id b) s x = some (p.1, p.2.put id b) ∧ p.2.get id = none := by
          intro tys s x p hp
          unfold copyV at hp ⊢
          split at hp
          · (try dsimp only)
            split at hp
            · (try dsimp only)
              split at hp
              · (try dsimp only)
                obtain ⟨cells, hf, hp⟩ := Option.bind_eq_some_iff.1 hp
                rw [firstC_put hn hf]
                simp only [Option.bind_some]
                split at hp
                · cases hp; exact ⟨rfl, hn⟩
                · (try dsimp only)
                  split at hp
                  · rename_i h1; rw [if_pos h1]; cases hp; exact ⟨rfl, hn⟩
                  · rename_i h1; rw [if_neg h1]
                    obtain ⟨H1, hw, hp⟩ := Option.bind_eq_some_iff.1 hp
                    cases hp
                    obtain ⟨k1, k2⟩ := wr_put (b := b) hn hw
                    rw [k1]; exact ⟨rfl, k2⟩
              · cases hp
            · cases hp
          · cases hp
        obtain ⟨k1, k2⟩ := key hp
        (try dsimp only)
        rw [k1]
        exact ⟨rfl, k2⟩
      · obtain ⟨p, hp, h⟩ := Option.bind_eq_some_iff.1 h
        cases h
        have key : ∀ {tys : List TypeId} {x : Value} {p : AHeap}, clearV P tys H x = some p → clearV P tys (H.put id b) x = some (p.put id b) ∧ p.get id = none := by
          intro tys x p hp
          unfold clearV at hp ⊢
          split at hp
          · (try dsimp only)
            split at hp
            · (try dsimp only)
              split at hp
              · rename_i h1; rw [if_pos h1]; cases hp; exact ⟨rfl, hn⟩
              · rename_i h1; rw [if_neg h1]
                split at hp
                · (try dsimp only)
                  obtain ⟨z, hz, hp⟩ := Option.bind_eq_some_iff.1 hp
                  rw [hz]
                  simp only [Option.bind_some]
                  split at hp
                  · cases hp
                  · rename_i h2; rw [if_neg h2]
                    exact wr_put hn hp
                · cases hp; exact ⟨rfl, hn⟩
            · cases hp
          · cases hp
        obtain ⟨k1, k2⟩ := key hp
        (try dsimp only)
        rw [k1]
        exact ⟨rfl, k2⟩
      · obtain ⟨p, hp, h⟩ := Option.bind_eq_some_iff.1 h
        cases h
        (try dsimp only)
        rw [hp]
        exact ⟨rfl, hn⟩
      · obtain ⟨p, hp, h⟩ := Option.bind_eq_some_iff.1 h
        cases h
        (try dsimp only)
        rw [hp]
        exact ⟨rfl, hn⟩
      · cases h

end
end Go.Mx
end

section
set_option linter.unusedSimpArgs false
/- Frames of single operations; operations that may change places. -/
namespace Go.Mx
open Go Go.RowKit

section
variable {P : Program} {call : CallF} {t : List Value} {H H' : AHeap} {o : Oper} {slot : Option Nat} {v : Value}

/-- operations that neither read nor make memory -/
def isPure (o : Oper) : Bool :=
  match o.op with
  | .move _ | .assign _ | .pick _ _ _ | .build _ _ | .nilCheck _ | .binOp _ _ _ _ _ | .unOp _ _ _ | .convert _ _ _ | .slice _ _ _ _ _ | .fieldAddr _ _ _ | .field _ _ _
  | .indexAddr _ _ _ | .index _ _ _ | .extract _ _ | .makeFunc _ _ _ => true
  | .call c => match c.callee with
    | .builtin .len => true
    | .builtin .max => true
    | .builtin .min => true
    | _ => false
  | _ => false

theorem pure_spec (hp : isPure o = true) (h : opS P call slot o t H = some (v, H')) : H' = H ∧ ∀ slot2 H2, opS P call slot2 o t H2 = some (v, H2) := by
  obtain ⟨dst, op, type, pos, after, guard⟩ := o
  cases op <;> (try (cases hp; done))
  case call c =>
    simp only [opS, aopK, callK] at h ⊢
    split at h
    · cases h
    · rename_i args ha
      simp only [isPure] at hp
      split at h
      · rename_i hb; rw [hb] at hp; cases hp
      · cases h
      · rename_i bi hb
        rw [hb] at hp
        split at h
        · split at h
          · cases h; exact ⟨rfl, fun _ _ => by first | rfl | (simp [*]; done)⟩
          · cases h
        · split at h
          · cases h; exact ⟨rfl, fun _ _ => by first | rfl | (simp [*]; done)⟩
          · cases h
        · cases hp
        · cases hp
        · cases hp
        · obtain ⟨u, hu, h⟩ := Option.bind_eq_some_iff.1 h
          cases h; exact ⟨rfl, fun _ _ => by first | rfl | (simp [*]; done)⟩
        · obtain ⟨u, hu, h⟩ := Option.bind_eq_some_iff.1 h
          cases h; exact ⟨rfl, fun _ _ => by first | rfl | (simp [*]; done)⟩
        · cases h
  case makeFunc fn first captured =>
    cases fn <;> (try (cases h; done))
    simp only [opS, aopK] at h ⊢
    split at h
    · rename_i cs _ _
      cases hall : cs.all basicV with
      | false => rw [hall] at h; cases h
      | true => rw [hall] at h; cases h; exact ⟨rfl, fun _ _ => by first | rfl | (rw [hall]; rfl)⟩
    · cases h
  case binOp op ty x y u =>
    simp only [opS, aopK] at h ⊢
    split at h
    · rw [binK_cps] at h
      obtain ⟨u, hu, h⟩ := Option.bind_eq_some_iff.1 h
      cases h
      exact ⟨rfl, fun _ H2 => by rw [binK_cps, hu]; rfl⟩
    · cases h
  case unOp op ty x =>
    simp only [opS, aopK] at h ⊢
    split at h
    · rw [unK_cps] at h
      obtain ⟨u, hu, h⟩ := Option.bind_eq_some_iff.1 h
      cases h
      exact ⟨rfl, fun _ H2 => by rw [unK_cps, hu]; rfl⟩
    · cases h
  case pick c a b =>
    simp only [opS, aopK] at h ⊢
    split at h
    · rename_i s _
      cases s <;> simp only [cond] at h ⊢ <;> split at h <;> first | (cases h; exact ⟨rfl, fun _ _ => rfl⟩) | cases h
    · cases h
  case field ty x f =>
    simp only [opS, aopK] at h ⊢
    repeat' split at h
    all_goals first
      | cases h; done
      | (obtain ⟨u, hu, h⟩ := Option.bind_eq_some_iff.1 h
         rw [normK_cps] at h
         obtain ⟨u2, hu2, h⟩ := Option.bind_eq_some_iff.1 h
         cases h
         exact ⟨rfl, fun _ H2 => by rw [hu]; simp only [Option.bind_some]; rw [normK_cps, hu2]; rfl⟩)
  case index ty x ix =>
    simp only [opS, aopK] at h ⊢
    split at h
    · split at h
      · split at h
        · split at h
          · split at h
            · rename_i hb
              obtain ⟨u, hu, h⟩ := Option.bind_eq_some_iff.1 h
              rw [normK_cps] at h
              obtain ⟨u2, hu2, h⟩ := Option.bind_eq_some_iff.1 h
              cases h
              exact ⟨rfl, fun _ H2 => by rw [if_pos hb, hu]; simp only [Option.bind_some]; rw [normK_cps, hu2]; rfl⟩
            · cases h
          · cases h
        · cases h
      · split at h
        · split at h
          · rename_i hb
            obtain ⟨u, hu, h⟩ := Option.bind_eq_some_iff.1 h
            cases h
            exact ⟨rfl, fun _ H2 => by rw [if_pos hb, hu]; rfl⟩
          · cases h
        · cases h
      · cases h
    · cases h
  case extract x i =>
    simp only [opS, aopK] at h ⊢
    split at h
    · obtain ⟨u, hu, h⟩ := Option.bind_eq_some_iff.1 h
      rw [normK_cps] at h
      obtain ⟨u2, hu2, h⟩ := Option.bind_eq_some_iff.1 h
      cases h
      exact ⟨rfl, fun _ H2 => by rw [hu]; simp only [Option.bind_some]; rw [normK_cps, hu2]; rfl⟩
    · cases h
  case indexAddr ty x ix =>
    simp only [opS, aopK] at h ⊢
    split at h
    · split at h
      · split at h
        · obtain ⟨ad, had, h⟩ := Option.bind_eq_some_iff.1 h
          split at h
          · rename_i hb; cases h; subst had; exact ⟨rfl, fun _ H2 => by simp only [Option.bind_some]; rw [if_pos hb]⟩
          · cases h
        · cases h
      · cases h
    · split at h
      · split at h
        · split at h
          · rename_i hb; cases h; exact ⟨rfl, fun _ H2 => by (try dsimp only); rw [if_pos hb]⟩
          · cases h
        · cases h
      · cases h
    · cases h
  case nilCheck x =>
    simp only [opS, aopK] at h ⊢
    split at h
    · obtain ⟨ad, had, h⟩ := Option.bind_eq_some_iff.1 h
      cases h; subst had; exact ⟨rfl, fun _ H2 => rfl⟩
    · cases h; exact ⟨rfl, fun _ H2 => rfl⟩
    · cases h
  case slice ty x lo hi mx =>
    simp only [opS, aopK] at h ⊢
    split at h
    · split at h
      · split at h
        · obtain ⟨q, hq, h⟩ := Option.bind_eq_some_iff.1 h
          cases h; exact ⟨rfl, fun _ H2 => by (try dsimp only); rw [hq]; rfl⟩
        · cases h
      · cases h
    · split at h
      · obtain ⟨q, hq, h⟩ := Option.bind_eq_some_iff.1 h
        cases h; exact ⟨rfl, fun _ H2 => by (try dsimp only); rw [hq]; rfl⟩
      · cases h
    · cases h
  case fieldAddr ty x f =>
    simp only [opS, aopK] at h ⊢
    split at h
    · split at h
      · split at h
        · split at h
          · split at h
            · cases h
            · rename_i hb; cases h; exact ⟨rfl, fun _ H2 => by (try dsimp only); rw [if_neg hb]⟩
          · cases h
        · cases h
      · cases h
    · cases h
  all_goals
    simp only [opS, aopK] at h ⊢
    repeat' split at h
    all_goals first
      | cases h; done
      | (cases h; exact ⟨rfl, fun _ _ => rfl⟩)
      | (cases h; exact ⟨rfl, fun _ _ => by simp only [*]⟩)

/-- operations that make a block of their own -/
def isMake (o : Oper) : Bool :=
  match o.op with
  | .alloc _ | .box _ _ | .buildSlice _ _ _ | .makeSlice _ _ _ => true
  | _ => false

theorem make_spec (hp : isMake o = true) (h : opS P call slot o t H = some (v, H')) :
    ∃ b, H' = H.alloc slot b ∧ ∀ H2 : AHeap, H2.newId slot = H.newId slot → opS P call slot o t H2 = some (v, H2.alloc slot b) := by
  obtain ⟨dst, op, type, pos, after, guard⟩ := o
  cases op <;> (try (cases hp; done))
  case alloc e =>
    simp only [opS, aopK] at h ⊢
    split at h
    · cases h; exact ⟨_, rfl, fun H2 e => by rw [e]⟩
    · cases h
  case box e x =>
    simp only [opS, aopK] at h ⊢
    split at h
    · rename_i u _
      cases hnt : notTup u with
      | false => rw [hnt] at h; cases h
      | true => rw [hnt] at h; cases h; exact ⟨_, rfl, fun H2 e => by (try dsimp only); rw [e]; first | rfl | (rw [hnt]; rfl)⟩
    · cases h
  case buildSlice ty n parts =>
    simp only [opS, aopK] at h ⊢
    split at h
    · split at h
      · split at h
        · cases h
        · rename_i hc
          split at h
          · cases h; exact ⟨_, rfl, fun H2 e => by (try dsimp only); rw [if_neg hc, e]⟩
          · cases h
      · cases h
    · cases h
  case makeSlice ty l c =>
    simp only [opS, aopK] at h ⊢
    split at h
    · split at h
      · rename_i hnm
        split at h
        · split at h
          · split at h
            · cases h
            · rename_i h0
              split at h
              · rename_i hb; cases h; exact ⟨_, rfl, fun H2 e => by (try dsimp only); rw [if_pos hnm, if_neg h0, if_pos hb, e]⟩
              · cases h
          · cases h
        · cases h
      · cases h
    · cases h

theorem load_spec {ty : TypeId} {x : Operand} (ho : o.op = .load ty x) (h : opS P call slot o t H = some (v, H')) :
    ∃ a, aev t x = some (.pointer (some a)) ∧ H' = H ∧ loadK P ty a.block a.off H some = some v := by
  simp only [opS, aopK, ho] at h
  split at h
  · rename_i ad hx
    rw [loadK_cps] at h
    obtain ⟨u, hu, h⟩ := Option.bind_eq_some_iff.1 h
    cases h
    exact ⟨ad, hx, rfl, hu⟩
  · cases h
theorem load_intro {ty : TypeId} {x : Operand} (ho : o.op = .load ty x) {a : Addr} (hx : aev t x = some (.pointer (some a))) (h : loadK P ty a.block a.off H some = some v) :
    opS P call slot o t H = some (v, H) := by
  simp only [opS, aopK, ho, hx]
  rw [loadK_cps, h]
  rfl
theorem loadK_same {ty : TypeId} {i k : Nat} {H2 : AHeap} (he : H2.get i = H.get i) : loadK P ty i k H2 some = loadK P ty i k H some := by
  unfold loadK ldI ldB ldS ldSl ldPt AHeap.cell AHeap.row
  rw [he]

theorem store_spec {ty : TypeId} {x y : Operand} (ho : o.op = .store ty x y) (h : opS P call slot o t H = some (v, H')) :
    ∃ a u n, aev t x = some (.pointer (some a)) ∧ aev t y = some u ∧ szOf P ty = some n ∧ notTup u = true ∧ u.cells.toList.length = n ∧ H.wr a.block a.off u.cells.toList = some H' ∧ v = undef := by
  simp only [opS, aopK, ho] at h
  split at h
  · rename_i ad u hx hy
    split at h
    · rename_i n hn
      split at h
      · rename_i hlen
        obtain ⟨H1, hw, h⟩ := Option.bind_eq_some_iff.1 h
        cases h
        exact ⟨ad, u, n, hx, hy, hn, hlen.1, hlen.2, hw, rfl⟩
      · cases h
    · cases h
  · cases h

/-- the four kinds -/
theorem kinds (h : opS P call slot o t H = some (v, H')) : isPure o = true ∨ isMake o = true ∨ (∃ ty x, o.op = .load ty x) ∨ (∃ ty x y, o.op = .store ty x y) ∨ (∃ c, o.op = .call c ∧ isEff o = true) := by
  obtain ⟨dst, op, type, pos, after, guard⟩ := o
  cases op <;> first
    | exact .inl rfl
    | exact .inr (.inl rfl)
    | exact .inr (.inr (.inl ⟨_, _, rfl⟩))
    | exact .inr (.inr (.inr (.inl ⟨_, _, _, rfl⟩)))
    | (exfalso; simp only [opS, aopK] at h; cases h; done)
    | skip
  case call c =>
    cases hc : c.callee with
    | value f => exact .inr (.inr (.inr (.inr ⟨c, rfl, by simp [isEff, hc]⟩)))
    | invoke r m => exact .inr (.inr (.inr (.inr ⟨c, rfl, by simp [isEff, hc]⟩)))
    | builtin b => cases b <;> first
      | (refine .inr (.inr (.inr (.inr ⟨c, rfl, ?_⟩))); simp [isEff, hc]; done)
      | (refine .inl ?_; simp [isPure, hc]; done)

theorem op_frame (hk : CallKeeps call) (h : opS P call slot o t H = some (v, H')) {id : Nat} (hn : H.get id = none) (hlt : id < H.next) (hs : H.newId slot ≠ id) (b : Blk) :
    opS P call slot o t (H.put id b) = some (v, H'.put id b) ∧ H'.get id = none := by
  rcases kinds h with hp | hp | ⟨ty, x, ho⟩ | ⟨ty, x, y, ho⟩ | ⟨c, ho, _⟩
  · obtain ⟨rfl, h2⟩ := pure_spec hp h
    exact ⟨h2 _ _, hn⟩
  · obtain ⟨c, rfl, h2⟩ := make_spec hp h
    refine ⟨?_, ?_⟩
    · rw [h2 (H.put id b) (by cases slot <;> rfl), put_alloc H b c slot (Ne.symm hs)]
    · rw [AHeap.get_alloc, if_neg (Ne.symm hs)]; exact hn
  · obtain ⟨ad, h1, rfl, h3⟩ := load_spec ho h
    exact ⟨load_intro ho h1 (loadK_put hn h3), hn⟩
  · obtain ⟨ad, u, n, h1, h2, h3, h4, h5, h6, rfl⟩ := store_spec ho h
    obtain ⟨k1, k2⟩ := wr_put (b := b) hn h6
    refine ⟨?_, k2⟩
    simp only [opS, aopK, ho, h1, h2, h3]
    rw [if_pos ⟨h4, h5⟩, k1]
    rfl
  · have hx : callK P call o c t H (fun v H => some (v, H)) = some (v, H') := by simpa only [opS, aopK, ho] using h
    obtain ⟨k1, k2⟩ := callK_frame hk hx hn hlt b
    exact ⟨by simpa only [opS, aopK, ho] using k1, k2⟩

theorem callK_ext (hk : CallKeeps call) {c : Call} (hf : ∀ i, H.next ≤ i → H.get i = none) (h : callK P call o c t H (fun v H => some (v, H)) = some (v, H')) : Ext H H' := by
  unfold callK at h
  split at h
  · cases h
  · split at h
    · split at h
      · split at h
        · obtain ⟨p, hp, h⟩ := Option.bind_eq_some_iff.1 h
          rw [normK_cps] at h
          obtain ⟨u, hu, h⟩ := Option.bind_eq_some_iff.1 h
          cases h
          exact (hk.ext _ _ _ _ _ hp hf).1
        · cases h
      · cases h
    · cases h
    · split at h
      · split at h
        · cases h; exact Ext.refl _
        · cases h
      · split at h
        · cases h; exact Ext.refl _
        · cases h
      · obtain ⟨p, hp, h⟩ := Option.bind_eq_some_iff.1 h
        rw [normK_cps] at h
        obtain ⟨u, hu, h⟩ := Option.bind_eq_some_iff.1 h
        cases h
        unfold apndV at hp
        split at hp
        · split at hp
          · split at hp
            · split at hp
              · obtain ⟨news, _, hp⟩ := Option.bind_eq_some_iff.1 hp
                exact apnd_ext hf hp
              · cases hp
            · split at hp
              · split at hp
                · obtain ⟨news, _, hp⟩ := Option.bind_eq_some_iff.1 hp
                  exact apnd_ext hf hp
                · cases hp
              · cases hp
            · cases hp
          · cases hp
        · cases hp
      · obtain ⟨p, hp, h⟩ := Option.bind_eq_some_iff.1 h
        cases h
        unfold copyV at hp
        split at hp
        · split at hp
          · split at hp
            · obtain ⟨cells, hf', hp⟩ := Option.bind_eq_some_iff.1 hp
              split at hp
              · cases hp; exact Ext.refl _
              · split at hp
                · cases hp; exact Ext.refl _
                · obtain ⟨H1, hw, hp⟩ := Option.bind_eq_some_iff.1 hp
                  cases hp; exact Ext.wr hw
            · cases hp
          · cases hp
        · cases hp
      · obtain ⟨p, hp, h⟩ := Option.bind_eq_some_iff.1 h
        cases h
        unfold clearV at hp
        split at hp
        · split at hp
          · split at hp
            · cases hp; exact Ext.refl _
            · split at hp
              · obtain ⟨z, hz, hp⟩ := Option.bind_eq_some_iff.1 hp
                split at hp
                · cases hp
                · exact Ext.wr hp
              · cases hp; exact Ext.refl _
          · cases hp
        · cases hp
      · obtain ⟨p, hp, h⟩ := Option.bind_eq_some_iff.1 h
        cases h; exact Ext.refl _
      · obtain ⟨p, hp, h⟩ := Option.bind_eq_some_iff.1 h
        cases h; exact Ext.refl _
      · cases h

theorem fresh_wr {i k : Nat} {vs : List Value} (hf : ∀ i, H.next ≤ i → H.get i = none) (h : H.wr i k vs = some H') : ∀ i, H'.next ≤ i → H'.get i = none := by
  obtain ⟨b, h1, _, _, rfl⟩ := wr_spec h
  intro j hj
  have hj' : H.next ≤ j := hj
  rw [put_get_ne _ _ (fun e => by rw [← e, hf j hj'] at h1; cases h1)]
  exact hf j hj'
theorem fresh_alloc (hf : ∀ i, H.next ≤ i → H.get i = none) (b : Blk) : ∀ i, (H.alloc none b).next ≤ i → (H.alloc none b).get i = none := by
  intro j hj
  have hj' : H.next + 1 ≤ j := hj
  rw [AHeap.get_alloc, if_neg (show ¬ j = H.newId none from fun e => by have e' : j = H.next := e; omega)]
  exact hf j (by omega)
theorem fresh_put {i : Nat} {b c : Blk} (hf : ∀ i, H.next ≤ i → H.get i = none) (h1 : H.get i = some b) : ∀ j, (H.put i c).next ≤ j → (H.put i c).get j = none := by
  intro j hj
  have hj' : H.next ≤ j := hj
  rw [put_get_ne _ _ (fun e => by rw [← e, hf j hj'] at h1; cases h1)]
  exact hf j hj'

theorem apnd_fresh {elem : TypeId} (hf : ∀ i, H.next ≤ i → H.get i = none) {base : Option Addr} {sLen sCap n : Nat} {news : List Value}
    (h : apnd P elem H base sLen sCap news n = some (v, H')) : ∀ i, H'.next ≤ i → H'.get i = none := by
  unfold apnd at h
  split at h
  · cases h
  · split at h
    · cases h
    · split at h
      · split at h
        · cases h; exact hf
        · split at h
          · cases h
          · obtain ⟨H1, hw, h⟩ := Option.bind_eq_some_iff.1 h
            cases h
            exact fresh_wr hf hw
      · split at h
        · cases h
        · split at h
          · cases h; exact fresh_alloc hf _
          · split at h
            · cases h
            · rename_i ad _ c hc1
              split at h
              · cases h
              · split at h
                · cases h; exact fresh_alloc hf _
                · split at h
                  · cases h
                    exact fresh_alloc (fresh_put hf hc1) _
                  · cases h

theorem callK_fresh (hk : CallKeeps call) {c : Call} (hf : ∀ i, H.next ≤ i → H.get i = none) (h : callK P call o c t H (fun v H => some (v, H)) = some (v, H')) : ∀ i, H'.next ≤ i → H'.get i = none := by
  unfold callK at h
  split at h
  · cases h
  · split at h
    · split at h
      · split at h
        · obtain ⟨p, hp, h⟩ := Option.bind_eq_some_iff.1 h
          rw [normK_cps] at h
          obtain ⟨u, hu, h⟩ := Option.bind_eq_some_iff.1 h
          cases h
          exact (hk.ext _ _ _ _ _ hp hf).2
        · cases h
      · cases h
    · cases h
    · split at h
      · split at h
        · cases h; exact hf
        · cases h
      · split at h
        · cases h; exact hf
        · cases h
      · obtain ⟨p, hp, h⟩ := Option.bind_eq_some_iff.1 h
        rw [normK_cps] at h
        obtain ⟨u, hu, h⟩ := Option.bind_eq_some_iff.1 h
        cases h
        unfold apndV at hp
        split at hp
        · split at hp
          · split at hp
            · split at hp
              · obtain ⟨news, _, hp⟩ := Option.bind_eq_some_iff.1 hp
                exact apnd_fresh hf hp
              · cases hp
            · split at hp
              · split at hp
                · obtain ⟨news, _, hp⟩ := Option.bind_eq_some_iff.1 hp
                  exact apnd_fresh hf hp
                · cases hp
              · cases hp
            · cases hp
          · cases hp
        · cases hp
      · obtain ⟨p, hp, h⟩ := Option.bind_eq_some_iff.1 h
        cases h
        unfold copyV at hp
        split at hp
        · split at hp
          · split at hp
            · obtain ⟨cells, hf', hp⟩ := Option.bind_eq_some_iff.1 hp
              split at hp
              · cases hp; exact hf
              · split at hp
                · cases hp; exact hf
                · obtain ⟨H1, hw, hp⟩ := Option.bind_eq_some_iff.1 hp
                  cases hp; exact fresh_wr hf hw
            · cases hp
          · cases hp
        · cases hp
      · obtain ⟨p, hp, h⟩ := Option.bind_eq_some_iff.1 h
        cases h
        unfold clearV at hp
        split at hp
        · split at hp
          · split at hp
            · cases hp; exact hf
            · split at hp
              · obtain ⟨z, hz, hp⟩ := Option.bind_eq_some_iff.1 hp
                split at hp
                · cases hp
                · exact fresh_wr hf hp
              · cases hp; exact hf
          · cases hp
        · cases hp
      · obtain ⟨p, hp, h⟩ := Option.bind_eq_some_iff.1 h
        cases h; exact hf
      · obtain ⟨p, hp, h⟩ := Option.bind_eq_some_iff.1 h
        cases h; exact hf
      · cases h

/-- behind an operation nothing lies from 'next' on -/
theorem op_fresh (hk : CallKeeps call) (hf : ∀ i, H.next ≤ i → H.get i = none) (hs : ∀ i, slot = some i → i < H.next) (h : opS P call slot o t H = some (v, H')) :
    ∀ i, H'.next ≤ i → H'.get i = none := by
  rcases kinds h with c | c | ⟨ty, z, ho⟩ | ⟨ty, z, z', ho⟩ | ⟨c, ho, _⟩
  · obtain ⟨rfl, _⟩ := pure_spec c h; exact hf
  · obtain ⟨b, rfl, _⟩ := make_spec c h
    cases slot with
    | none => exact fresh_alloc hf b
    | some j =>
      intro k hk2
      have hk3 : H.next ≤ k := hk2
      have := hs j rfl
      rw [AHeap.get_alloc, if_neg (show ¬ k = H.newId (some j) from fun e => by have e' : k = j := e; omega)]
      exact hf k hk3
  · obtain ⟨_, _, rfl, _⟩ := load_spec ho h; exact hf
  · obtain ⟨a, u, n, _, _, _, _, _, h6, _⟩ := store_spec ho h; exact fresh_wr hf h6
  · exact callK_fresh hk hf (by simpa only [opS, aopK, ho] using h)

theorem op_ext (hk : CallKeeps call) (hf : ∀ i, H.next ≤ i → H.get i = none) (hfs : H.get (H.newId slot) = none) (h : opS P call slot o t H = some (v, H')) : Ext H H' := by
  rcases kinds h with hp | hp | ⟨ty, x, ho⟩ | ⟨ty, x, y, ho⟩ | ⟨c, ho, _⟩
  · obtain ⟨rfl, _⟩ := pure_spec hp h; exact Ext.refl _
  · obtain ⟨c, rfl, _⟩ := make_spec hp h; exact Ext.alloc hfs c
  · obtain ⟨_, _, rfl, _⟩ := load_spec ho h; exact Ext.refl _
  · obtain ⟨_, _, _, _, _, _, _, _, h6, _⟩ := store_spec ho h; exact Ext.wr h6
  · exact callK_ext hk hf (by simpa only [opS, aopK, ho] using h)

end
end Go.Mx
end

section
set_option linter.unusedSimpArgs false
/- Regions that draw their order. -/
namespace Go.Mx
open Go Go.RowKit

section
variable {P : Program} {call : CallF} {t t' : List Value} {H H' : AHeap} {o : Oper} {slot : Option Nat} {v : Value} {R : Type} {r : R}

theorem aevs_congr : ∀ {l : List Operand}, (∀ x ∈ l, aev t' x = aev t x) → aevs t' l = aevs t l := by
  intro l
  induction l with
  | nil => intro _; rfl
  | cons x xs ih =>
    intro h
    simp only [aevs, h x (by simp), ih (fun y hy => h y (by simp [hy]))]
theorem apartsev_congr : ∀ {l : List (Nat × Operand)}, (∀ x ∈ l.map (·.2), aev t' x = aev t x) → apartsev t' l = apartsev t l := by
  intro l
  induction l with
  | nil => intro _; rfl
  | cons x xs ih =>
    intro h
    obtain ⟨i, x⟩ := x
    simp only [apartsev, h x (by simp), ih (fun y hy => h y (by simp at hy ⊢; exact .inr hy))]

theorem optInt_congr {x : Option Operand} (h : ∀ y, x = some y → aev t' y = aev t y) : optInt t' x = optInt t x := by
  cases x with
  | none => rfl
  | some x => simp only [optInt, h x rfl]

theorem op_congr (h : ∀ x ∈ o.op.operands.toList, aev t' x = aev t x) : opS P call slot o t' H = opS P call slot o t H := by
  obtain ⟨dst, op, type, pos, after, guard⟩ := o
  cases op <;> simp only [Op.operands] at h <;> simp only [opS, aopK]
  case call c =>
    simp only [callK]
    rw [aevs_congr (fun x hx => h x (by simp only [Call.operands, Array.toList_append, List.mem_append]; exact .inr hx))]
    split
    · rfl
    · split
      · rename_i f hc
        rw [h f (by simp [Call.operands, hc])]
      · rfl
      · rfl
  case build ty parts => rw [apartsev_congr (fun x hx => h x (by simpa using hx))]
  case buildSlice ty n parts => rw [apartsev_congr (fun x hx => h x (by simpa using hx))]
  case makeFunc fn first captured =>
    cases fn <;> (try rfl)
    (try dsimp only)
    rw [aevs_congr (fun x hx => h x (by simp only [Array.toList_append, List.mem_append]; exact .inl hx)), aevs_congr (fun x hx => h x (by simp only [Array.toList_append, List.mem_append]; exact .inr hx))]
  case slice ty x lo hi mx =>
    rw [h x (by simp), optInt_congr (x := lo) (fun y e => h y (by subst e; simp)), optInt_congr (x := hi) (fun y e => h y (by subst e; simp)), optInt_congr (x := mx) (fun y e => h y (by subst e; simp))]
  case pick c a b => rw [h c (by simp), h a (by simp), h b (by simp)]
  all_goals first
    | rfl
    | (rw [h _ (by simp)]; done)
    | (rw [h _ (by simp), h _ (by simp)]; done)
    | (simp only [h _ (List.mem_cons_self ..)]; done)
    | skip

def wantedT (all : List Oper) (o : Oper) (t : List Value) : Bool :=
  match o.guard with
  | none => true
  | some (j, want) => match (all[j]?).bind (·.dst) with
    | none => false
    | some d => match t[d]? with
      | some (.bool s) => s == want
      | _ => false

def ldOK (g : Option AHeap) (o : Oper) (t : List Value) (H : AHeap) : Bool :=
  match g with
  | none => true
  | some H0 => match o.op with
    | .load _ x => match aev t x with
      | some (.pointer (some a)) => sameB H0 H a.block
      | _ => false
    | _ => true

def stepO (P : Program) (call : CallF) (g : Option AHeap) (all : List Oper) (x : Option Nat × Oper) (t : List Value) (H : AHeap) : Option (List Value × AHeap) :=
  bif wantedT all x.2 t then (bif ldOK g x.2 t H then (opS P call x.1 x.2 t H).bind fun p => some (putT t x.2.dst p.1, p.2) else none)
  else some (putT t x.2.dst undef, H)

theorem ldGuard_eq (g : Option AHeap) (o : Oper) (t : List Value) (H : AHeap) (X : Option R) : ldGuard g o t H X = bif ldOK g o t H then X else none := by
  cases g with
  | none => rfl
  | some H0 =>
    obtain ⟨dst, op, type, pos, after, guard⟩ := o
    cases op <;> (try rfl)
    case load ty x =>
      unfold ldGuard ldOK
      dsimp only
      cases aev t x with
      | none => rfl
      | some v =>
        cases v <;> (try rfl)
        case pointer p =>
          cases p with
          | none => rfl
          | some a =>
            rfl

theorem runOps_cons (g : Option AHeap) (all : List Oper) (x : Option Nat × Oper) (rest : List (Option Nat × Oper)) (K : List Value → AHeap → Option R) :
    runOps P call g all (x :: rest) K t H = (stepO P call g all x t H).bind fun p => runOps P call g all rest K p.1 p.2 := by
  obtain ⟨s, o⟩ := x
  have doIt : (ldGuard g o t H (aopK P call s o t H fun v H' => runOps P call g all rest K (putT t o.dst v) H')) =
      (bif ldOK g o t H then (opS P call s o t H).bind fun p => some (putT t o.dst p.1, p.2) else none).bind fun p => runOps P call g all rest K p.1 p.2 := by
    rw [ldGuard_eq]
    cases ldOK g o t H
    · rfl
    · rw [aopK_cps]
      simp only [cond_true]
      rw [Option.bind_assoc]; try rfl
  conv => lhs; unfold runOps
  unfold stepO wantedT
  cases hg : o.guard with
  | none => (try dsimp only); rw [doIt]; rfl
  | some q =>
    obtain ⟨j, want⟩ := q
    (try dsimp only)
    cases hd : (all[j]?).bind (·.dst) with
    | none => rfl
    | some d =>
      (try dsimp only)
      cases ht : t[d]? with
      | none => rfl
      | some u =>
        cases u <;> (try rfl)
        case bool s =>
          (try dsimp only)
          have hset : t.set d (.bool s) = t := set_same ht
          cases s <;> cases want <;> simp only [cond_true, cond_false, hset]
          · rw [doIt]; rfl
          · rfl
          · rfl
          · rw [doIt]; rfl

theorem putT_get {t : List Value} {d : Option Tmp} {v : Value} {i : Nat} (h : ∀ k, d = some k → k ≠ i) : (putT t d v)[i]? = t[i]? := by
  cases d with
  | none => rfl
  | some d => simp only [putT, List.getElem?_set]; rw [if_neg (h d rfl)]

theorem aev_put {t : List Value} {d : Option Tmp} {v : Value} {x : Operand} (h : ∀ k, d = some k → x ≠ .tmp k) : aev (putT t d v) x = aev t x := by
  cases x with
  | tmp i =>
    have : (putT t d v)[i]? = t[i]? := putT_get fun k hk e => h k hk (by rw [e])
    simp only [aev, List.getD, this]
  | _ => rfl

theorem putT_comm {t : List Value} {d e : Option Tmp} (v u : Value) (h : ∀ k, d = some k → e ≠ some k) : putT (putT t d v) e u = putT (putT t e u) d v := by
  cases d with
  | none => rfl
  | some d => cases e with
    | none => rfl
    | some e =>
      have hne : d ≠ e := fun x => h d rfl (by rw [x])
      exact List.set_comm _ _ hne

theorem looks_apart {all : List Oper} {o : Oper} {d : Option Tmp} (h : ∀ k, d = some k → k ∉ looks all o) (v : Value) (t : List Value) :
    (∀ x ∈ o.op.operands.toList, aev (putT t d v) x = aev t x) ∧ wantedT all o (putT t d v) = wantedT all o t := by
  refine ⟨fun x hx => aev_put fun k hk e => h k hk ?_, ?_⟩
  · subst e
    unfold looks
    refine List.mem_append.2 (.inl ?_)
    unfold tmpsOf
    exact List.mem_filterMap.2 ⟨_, hx, rfl⟩
  · unfold wantedT
    split
    · rfl
    · rename_i j want hg
      split
      · rfl
      · rename_i dd hd
        have : (putT t d v)[dd]? = t[dd]? := putT_get fun k hk e => h k hk (by
          subst e
          unfold looks
          refine List.mem_append.2 (.inr ?_)
          rw [hg]
          simp [hd])
        rw [this]

theorem ldOK_congr {g : Option AHeap} (h : ∀ x ∈ o.op.operands.toList, aev t' x = aev t x) : ldOK g o t' H = ldOK g o t H := by
  unfold ldOK
  split
  · rfl
  · split
    · rename_i ty x ho
      rw [h x (by rw [ho]; simp [Op.operands])]
    · rfl

theorem sameB_put {H0 H : AHeap} {i id : Nat} {b : Blk} (h : sameB H0 H i = true) (hn : H.get id = none) : sameB H0 (H.put id b) i = true := by
  unfold sameB at h ⊢
  have : i ≠ id := by
    intro e; subst e; rw [hn] at h
    split at h <;> first | cases h | simp_all
  rw [put_get_ne H b this]
  exact h

theorem ldOK_put {g : Option AHeap} {id : Nat} {b : Blk} (h : ldOK g o t H = true) (hn : H.get id = none) : ldOK g o t (H.put id b) = true := by
  unfold ldOK at h ⊢
  split at h
  · rfl
  · (try dsimp only)
    split at h
    · (try dsimp only)
      split at h
      · exact sameB_put h hn
      · cases h
    · rfl

/-- a load may be done earlier -/
theorem sameB_back {H0 H H1 : AHeap} {i : Nat} (h0 : Ext H0 H) (h1 : Ext H H1) (hex : H.get i ≠ none) (h : sameB H0 H1 i = true) : sameB H0 H i = true ∧ H.get i = H1.get i := by
  unfold sameB at h ⊢
  cases hb : H.get i with
  | none => exact absurd hb hex
  | some b =>
    obtain ⟨b1, hb1, l2, e2⟩ := h1.get i b hb
    cases hg0 : H0.get i with
    | none =>
      rw [hg0, hb1] at h
      simp only [beq_iff_eq] at h
      have e : b1.ver = b.ver := by omega
      refine ⟨?_, ?_⟩
      · simp only [beq_iff_eq]
        omega
      · rw [hb1, e2 e]
    | some b0 =>
      obtain ⟨b', hb', l1, _⟩ := h0.get i b0 hg0
      rw [hb] at hb'
      cases hb'
      rw [hg0, hb1] at h
      simp only [beq_iff_eq] at h
      have e : b1.ver = b.ver := by omega
      refine ⟨?_, ?_⟩
      · simp only [beq_iff_eq]
        omega
      · rw [hb1, e2 e]

theorem apart2_spec {all : List Oper} {x y : Oper} (h : apart2 all x y = true) :
    (∀ k, x.dst = some k → k ∉ looks all y) ∧ (∀ k, x.dst = some k → y.dst ≠ some k) ∧ (∀ k, y.dst = some k → k ∉ looks all x) := by
  unfold apart2 at h
  simp only [Bool.and_eq_true] at h
  obtain ⟨h1, h2⟩ := h
  refine ⟨fun k hk => ?_, fun k hk => ?_, fun k hk => ?_⟩
  · rw [hk] at h1; simp at h1; exact h1.1
  · rw [hk] at h1; simp at h1; exact h1.2
  · rw [hk] at h2; simp at h2; exact h2

theorem swap_steps (hk : CallKeeps call) {all : List Oper} {H0 : AHeap} {i j : Nat} {x y : Oper} (hap : apart2 all x y = true) (hy : isEff y = false)
    (hij : i ≠ j) (hi : H.get i = none) (hj : H.get j = none) (hjn : j < H.next) (hf : ∀ k, H.next ≤ k → H.get k = none) (h0 : Ext H0 H)
    (hex : ∀ ty z ad, y.op = .load ty z → aev t z = some (.pointer (some ad)) → H.get ad.block ≠ none)
    {t1 t2 : List Value} {H1 H2 : AHeap} (h1 : stepO P call (some H0) all (some i, x) t H = some (t1, H1)) (h2 : stepO P call (some H0) all (some j, y) t1 H1 = some (t2, H2)) :
    ∃ t1' H1', stepO P call (some H0) all (some j, y) t H = some (t1', H1') ∧ stepO P call (some H0) all (some i, x) t1' H1' = some (t2, H2) := by
  obtain ⟨a1, a2, a3⟩ := apart2_spec hap
  -- what x does
  have hx : ∃ u, t1 = putT t x.dst u ∧ Ext H H1 ∧ ∀ b v, (stepO P call (some H0) all (some i, x) (putT t y.dst v) H = some (putT (putT t y.dst v) x.dst u, H1)) ∧
      stepO P call (some H0) all (some i, x) (putT t y.dst v) (H.put j b) = some (putT (putT t y.dst v) x.dst u, H1.put j b) := by
    unfold stepO at h1
    dsimp only at h1
    cases hw : wantedT all x t with
    | true =>
      rw [hw] at h1
      cases hl : ldOK (some H0) x t H with
      | true =>
        rw [hl] at h1
        simp only [cond_true] at h1
        obtain ⟨p, hp, h1⟩ := Option.bind_eq_some_iff.1 h1
        cases h1
        refine ⟨p.1, rfl, op_ext (slot := some i) hk hf hi (v := p.1) (H' := p.2) hp, fun b v => ?_⟩
        obtain ⟨c1, c2⟩ := looks_apart (all := all) a3 v t
        obtain ⟨f1, _⟩ := op_frame hk (v := p.1) (H' := p.2) hp hj hjn hij b
        constructor
        · unfold stepO
          dsimp only
          rw [c2, hw, ldOK_congr c1, hl, op_congr c1, hp]
          rfl
        · unfold stepO
          dsimp only
          rw [c2, hw, ldOK_congr c1, ldOK_put hl hj, op_congr c1, f1]
          rfl
      | false => rw [hl] at h1; cases h1
    | false =>
      rw [hw] at h1
      cases h1
      refine ⟨undef, rfl, Ext.refl _, fun b v => ?_⟩
      obtain ⟨c1, c2⟩ := looks_apart (all := all) a3 v t
      constructor
      · unfold stepO
        dsimp only
        rw [c2, hw]
        rfl
      · unfold stepO
        dsimp only
        rw [c2, hw]
        rfl
  obtain ⟨u, rfl, hext, hx⟩ := hx
  obtain ⟨c1, c2⟩ := looks_apart (all := all) a1 u t
  have hcomm : ∀ v, putT (putT t y.dst v) x.dst u = putT (putT t x.dst u) y.dst v := fun v => putT_comm v u fun k hk e => a2 k e hk
  unfold stepO at h2
  dsimp only at h2
  rw [c2] at h2
  cases hw : wantedT all y t with
  | true =>
    rw [hw] at h2
    rw [ldOK_congr c1] at h2
    cases hl : ldOK (some H0) y t H1 with
    | true =>
      rw [hl] at h2
      simp only [cond_true] at h2
      obtain ⟨p, hp, h2⟩ := Option.bind_eq_some_iff.1 h2
      cases h2
      rw [op_congr c1] at hp
      have hp' : opS P call (some j) y t H1 = some (p.1, p.2) := hp
      rcases kinds hp' with q | q | ⟨ty, z, ho⟩ | ⟨ty, z, z', ho⟩ | ⟨c, ho, he⟩
      · obtain ⟨e1, e2⟩ := pure_spec q hp'
        rw [e1]
        have hlok : ldOK (some H0) y t H = true := by
          unfold ldOK
          dsimp only
          split
          · rename_i ho; simp [isPure, ho] at q
          · rfl
        refine ⟨putT t y.dst p.1, H, ?_, ?_⟩
        · unfold stepO
          dsimp only
          rw [hw, hlok, e2 (some j) H]
          rfl
        · rw [(hx ⟨[], 0, .rw, 0⟩ p.1).1, hcomm]
      · obtain ⟨b, e1, e2⟩ := make_spec q hp'
        have hlok : ldOK (some H0) y t H = true := by
          unfold ldOK
          dsimp only
          split
          · rename_i ho; simp [isMake, ho] at q
          · rfl
        refine ⟨putT t y.dst p.1, H.put j b, ?_, ?_⟩
        · unfold stepO
          dsimp only
          rw [hw, hlok, e2 H rfl]
          rfl
        · rw [(hx b p.1).2, hcomm, e1]
          rfl
      · obtain ⟨ad, e1, e2, e3⟩ := load_spec ho hp'
        have hsb : sameB H0 H1 ad.block = true := by
          unfold ldOK at hl
          simp only [ho, e1] at hl
          exact hl
        obtain ⟨s1, s2⟩ := sameB_back h0 hext (hex ty z ad ho e1) hsb
        have hlok : ldOK (some H0) y t H = true := by
          unfold ldOK
          simp only [ho, e1]
          exact s1
        rw [e2]
        refine ⟨putT t y.dst p.1, H, ?_, ?_⟩
        · unfold stepO
          dsimp only
          rw [hw, hlok, load_intro ho e1 (by rw [loadK_same s2]; exact e3)]
          rfl
        · rw [(hx ⟨[], 0, .rw, 0⟩ p.1).1, hcomm]
      · simp [isEff, ho] at hy
      · rw [hy] at he; cases he
    | false => rw [hl] at h2; cases h2
  | false =>
    rw [hw] at h2
    cases h2
    refine ⟨putT t y.dst undef, H, ?_, ?_⟩
    · unfold stepO
      dsimp only
      rw [hw]
      rfl
    · rw [(hx ⟨[], 0, .rw, 0⟩ undef).1, hcomm]

end
end Go.Mx
end

section
set_option linter.unusedSimpArgs false
/- Regions that draw their order: every order comes to what the machine's order comes to. -/
namespace Go.Mx
open Go Go.RowKit

theorem predMasks_length : ∀ (l : List Oper) (acc : List Nat), (predMasks l acc).length = acc.length + l.length := by
  intro l
  induction l with
  | nil => intro acc; simp [predMasks]
  | cons o l ih => intro acc; simp [predMasks, ih]; omega

theorem predMasks_old : ∀ (l : List Oper) (acc : List Nat) (i : Nat), i < acc.length → (predMasks l acc)[i]? = acc[i]? := by
  intro l
  induction l with
  | nil => intro acc i _; rfl
  | cons o l ih =>
    intro acc i hi
    rw [predMasks, ih _ _ (by simp; omega), List.getElem?_append_left hi]

theorem fold_bits (acc : List Nat) (x : Nat) : ∀ (es : List Edge) (s : Nat), Nat.testBit (es.foldl (fun s e => if Region.binds .any e then s ||| 2 ^ e.on ||| acc.getD e.on 0 else s) s) x = true ↔
    Nat.testBit s x = true ∨ ∃ e ∈ es, Region.binds .any e = true ∧ (e.on = x ∨ Nat.testBit (acc.getD e.on 0) x = true) := by
  intro es
  induction es with
  | nil => intro s; simp
  | cons e es ih =>
    intro s
    rw [List.foldl_cons, ih]
    by_cases hb : Region.binds .any e = true
    · rw [if_pos hb]
      simp only [Nat.testBit_or, Bool.or_eq_true, Nat.testBit_two_pow, decide_eq_true_eq, List.mem_cons]
      constructor
      · rintro (((h | h) | h) | ⟨e', h1, h2⟩)
        · exact .inl h
        · exact .inr ⟨e, .inl rfl, hb, .inl h⟩
        · exact .inr ⟨e, .inl rfl, hb, .inr h⟩
        · exact .inr ⟨e', .inr h1, h2⟩
      · rintro (h | ⟨e', rfl | h1, h2, h3⟩)
        · exact .inl (.inl (.inl h))
        · rcases h3 with h3 | h3
          · exact .inl (.inl (.inr h3))
          · exact .inl (.inr h3)
        · exact .inr ⟨e', h1, h2, h3⟩
    · rw [if_neg hb]
      simp only [List.mem_cons]
      constructor
      · rintro (h | ⟨e', h1, h2⟩)
        · exact .inl h
        · exact .inr ⟨e', .inr h1, h2⟩
      · rintro (h | ⟨e', rfl | h1, h2, h3⟩)
        · exact .inl h
        · exact absurd h2 hb
        · exact .inr ⟨e', h1, h2, h3⟩

theorem predMasks_spec : ∀ (l : List Oper) (acc : List Nat) (i : Nat) (o : Oper), l[i]? = some o → ∀ x, Nat.testBit ((predMasks l acc).getD (acc.length + i) 0) x = true ↔
    ∃ e ∈ o.after.toList, Region.binds .any e = true ∧ (e.on = x ∨ (e.on < acc.length + i ∧ Nat.testBit ((predMasks l acc).getD e.on 0) x = true)) := by
  intro l
  induction l with
  | nil => intro acc i o h; simp at h
  | cons o' l ih =>
    intro acc i o h x
    have hmono : ∀ e : Nat, Nat.testBit (acc.getD e 0) x = true ↔ (e < acc.length ∧ Nat.testBit ((predMasks (o' :: l) acc).getD e 0) x = true) := by
      intro e
      by_cases he : e < acc.length
      · have := predMasks_old (o' :: l) acc e he
        simp only [List.getD, this]
        simp [he]
      · simp [List.getD, he]
    cases i with
    | zero =>
      simp at h
      subst h
      have h1 : (predMasks (o' :: l) acc).getD (acc.length + 0) 0 = o'.after.toList.foldl (fun s e => if Region.binds .any e then s ||| 2 ^ e.on ||| acc.getD e.on 0 else s) 0 := by
        rw [predMasks]
        simp only [List.getD, Nat.add_zero]
        rw [predMasks_old _ _ _ (by simp)]
        simp
      rw [h1, fold_bits]
      simp only [Nat.zero_testBit, Bool.false_eq_true, false_or, Nat.add_zero]
      constructor
      · rintro ⟨e, h1, h2, h3 | h3⟩
        · exact ⟨e, h1, h2, .inl h3⟩
        · exact ⟨e, h1, h2, .inr ((hmono e.on).1 h3)⟩
      · rintro ⟨e, h1, h2, h3 | h3⟩
        · exact ⟨e, h1, h2, .inl h3⟩
        · exact ⟨e, h1, h2, .inr ((hmono e.on).2 h3)⟩
    | succ i =>
      have := ih (acc ++ [o'.after.toList.foldl (fun s e => if Region.binds .any e then s ||| 2 ^ e.on ||| acc.getD e.on 0 else s) 0]) i o (by simpa using h) x
      simp only [List.length_append, List.length_cons, List.length_nil] at this
      rw [show acc.length + (i + 1) = acc.length + (0 + 1) + i from by omega]
      exact this

section
variable {P : Program} {call : CallF} {w0 : World} {R : Type} {r : R}

/-- operation y, free to go ahead of all of L1 -/
theorem bubble (hk : CallKeeps call) {all : List Oper} {H0 : AHeap} {base : Nat} {y : Nat} {oy : Oper} (hy : isEff oy = false)
    {K : List Value → AHeap → Option R} (rest : List (Option Nat × Oper)) :
    ∀ (L1 : List Nat) (t : List Value) (H : AHeap), (∀ x ∈ L1, x ≠ y ∧ ∃ ox, all[x]? = some ox ∧ apart2 all ox oy = true) → L1.Nodup →
      (∀ x, x = y ∨ x ∈ L1 → H.get (base + x) = none ∧ base + x < H.next) → (∀ k, H.next ≤ k → H.get k = none) → Ext H0 H →
      (∀ ty z ad, oy.op = .load ty z → aev t z = some (.pointer (some ad)) → H.get ad.block ≠ none) →
      runOps P call (some H0) all (slots all base L1 ++ (some (base + y), oy) :: rest) K t H = some r →
      runOps P call (some H0) all ((some (base + y), oy) :: slots all base L1 ++ rest) K t H = some r := by
  intro L1
  induction L1 with
  | nil => intro t H _ _ _ _ _ _ h; exact h
  | cons x L1 ih =>
    intro t H hL hnd hfr hf h0 hex h
    obtain ⟨hxy, ox, hxo, hap⟩ := hL x (by simp)
    have hsl : slots all base (x :: L1) = (some (base + x), ox) :: slots all base L1 := by simp [slots, hxo]
    rw [hsl, List.cons_append, runOps_cons] at h
    obtain ⟨p, hp, h⟩ := Option.bind_eq_some_iff.1 h
    have hp' : stepO P call (some H0) all (some (base + x), ox) t H = some (p.1, p.2) := hp
    -- what the step keeps
    have hkeep : (∀ z, (z = y ∨ z ∈ L1) → p.2.get (base + z) = none ∧ base + z < p.2.next) ∧ Ext H p.2 ∧ (∀ k, p.2.next ≤ k → p.2.get k = none) ∧ ∃ u, p.1 = putT t ox.dst u := by
      have hx := hfr x (.inr (by simp))
      unfold stepO at hp'
      dsimp only at hp'
      cases hw : wantedT all ox t with
      | false =>
        rw [hw] at hp'
        have e2 : H = p.2 := congrArg Prod.snd (Option.some.inj hp')
        have e1 : putT t ox.dst undef = p.1 := congrArg Prod.fst (Option.some.inj hp')
        rw [← e2]
        exact ⟨fun z hz => hfr z (hz.elim .inl fun h => .inr (by simp [h])), Ext.refl _, hf, _, e1.symm⟩
      | true =>
        rw [hw] at hp'
        cases hl : ldOK (some H0) ox t H with
        | false => rw [hl] at hp'; cases hp'
        | true =>
          rw [hl] at hp'
          simp only [cond_true] at hp'
          obtain ⟨q, hq, hp'⟩ := Option.bind_eq_some_iff.1 hp'
          have e2 : q.2 = p.2 := congrArg Prod.snd (Option.some.inj hp')
          have e1 : putT t ox.dst q.1 = p.1 := congrArg Prod.fst (Option.some.inj hp')
          have hq' : opS P call (some (base + x)) ox t H = some (q.1, q.2) := hq
          rw [e2] at hq'
          have hext := op_ext (slot := some (base + x)) hk hf hx.1 hq'
          refine ⟨fun z hz => ?_, hext, ?_, _, e1.symm⟩
          · have hz' := hfr z (hz.elim .inl fun h => .inr (by simp [h]))
            have hne : base + x ≠ base + z := by
              intro e
              have e' : x = z := by omega
              subst e'
              rcases hz with hz | hz
              · exact hxy hz
              · exact (List.nodup_cons.1 hnd).1 hz
            exact ⟨(op_frame hk hq' hz'.1 hz'.2 hne ⟨[], 0, .rw, 0⟩).2, Nat.lt_of_lt_of_le hz'.2 hext.next⟩
          · exact op_fresh (slot := some (base + x)) hk hf (fun i e => by cases e; exact hx.2) hq'
    obtain ⟨k1, k2, k3, u, k4⟩ := hkeep
    have hex2 : ∀ ty z ad, oy.op = .load ty z → aev p.1 z = some (.pointer (some ad)) → p.2.get ad.block ≠ none := by
      intro ty z ad ho hz
      obtain ⟨c1, _⟩ := looks_apart (all := all) (apart2_spec hap).1 u t
      rw [k4, c1 z (by rw [ho]; simp [Op.operands])] at hz
      have hne := hex ty z ad ho hz
      cases hb : H.get ad.block with
      | none => exact absurd hb hne
      | some b =>
        obtain ⟨b1, hb1, _⟩ := k2.get _ b hb
        rw [hb1]; simp
    have := ih p.1 p.2 (fun z hz => hL z (by simp [hz])) (List.nodup_cons.1 hnd).2 k1 k3 (Ext.trans h0 k2) hex2 h
    rw [List.cons_append, runOps_cons] at this
    obtain ⟨q, hq, h2⟩ := Option.bind_eq_some_iff.1 this
    have hq' : stepO P call (some H0) all (some (base + y), oy) p.1 p.2 = some (q.1, q.2) := hq
    have hxf := hfr x (.inr (by simp))
    have hyf := hfr y (.inl rfl)
    obtain ⟨t1', H1', s1, s2⟩ := swap_steps hk hap hy (by omega) hxf.1 hyf.1 hyf.2 hf h0 hex hp' hq'
    rw [hsl, List.cons_append, List.cons_append, runOps_cons, s1]
    simp only [Option.bind_some]
    rw [runOps_cons, s2]
    exact h2

end
end Go.Mx
end

section
set_option linter.unusedSimpArgs false
/- Regions that draw their order: the theorem. -/
namespace Go.Mx
open Go Go.RowKit

theorem okPairs_iff {all : List Oper} {masks : List Nat} : ∀ {L : List Nat}, okPairs all masks L = true ↔ L.Pairwise (fun i j => okPair all masks i j = true) := by
  intro L
  induction L with
  | nil => simp [okPairs]
  | cons i L ih => simp [okPairs, List.pairwise_cons, ih]

theorem mem_ready {ops : Array Oper} {listed : Array Bool} {i : Nat} : i ∈ Region.ready .any ops listed ↔
    i < ops.size ∧ listed.getD i true = false ∧ ∃ o, ops[i]? = some o ∧ ∀ e ∈ o.after.toList, Region.binds .any e = true → listed.getD e.on false = true := by
  unfold Region.ready
  rw [List.mem_filter, List.mem_range]
  constructor
  · rintro ⟨h1, h2⟩
    simp only [Bool.and_eq_true, Bool.not_eq_true'] at h2
    refine ⟨h1, h2.1, ops[i], Array.getElem?_eq_getElem h1, fun e he hb => ?_⟩
    have h3 := h2.2
    rw [Array.getElem?_eq_getElem h1] at h3
    simp only [Option.map_some, Option.getD_some, Array.all_eq_true_iff_forall_mem] at h3
    have := h3 e (Array.mem_toList_iff.1 he)
    simpa [hb] using this
  · rintro ⟨h1, h2, o, h3, h4⟩
    refine ⟨h1, ?_⟩
    simp only [Bool.and_eq_true, Bool.not_eq_true']
    refine ⟨h2, ?_⟩
    rw [h3]
    simp only [Option.map_some, Option.getD_some, Array.all_eq_true_iff_forall_mem]
    intro e he
    have := h4 e (Array.mem_toList_iff.2 he)
    cases hb : Region.binds .any e with
    | true => simpa [hb] using this hb
    | false => rfl

theorem slots_append (all : List Oper) (base : Nat) (a b : List Nat) : slots all base (a ++ b) = slots all base a ++ slots all base b := by simp [slots]
theorem slots_cons {all : List Oper} {base i : Nat} {o : Oper} (h : all[i]? = some o) (b : List Nat) : slots all base (i :: b) = (some (base + i), o) :: slots all base b := by simp [slots, h]

section
variable {P : Program} {call : CallF} {w0 : World} {R : Type} {r : R}

theorem load_there {w0 w : World} {ρ : Ren} {t : List Value} {H : AHeap} {a : Act} (hR : Rel w0 ρ H w) (hT : TRel ρ t a) {z : Operand} {ad : Addr} (h : aev t z = some (.pointer (some ad))) : H.get ad.block ≠ none := by
  intro hn
  have hρ := (hR.dom _).1 hn
  rcases aev_rel hT h with h1 | ⟨cs, cs', e, _⟩
  · rcases h1 with h2 | ⟨cs, cs', e, _⟩
    · unfold SRel at h2
      rcases h2 with h3 | ⟨_, _, _, e, _⟩
      · obtain ⟨_, ad', sl, hr, _⟩ := h3
        rw [hρ] at hr; cases hr
      · cases e
    · cases e
  · cases e
theorem draw_any (hc : CallSound P call w0) (hk : CallKeeps call) {ops : Array Oper} {H0 : AHeap} {base : Nat} {K : List Value → AHeap → Option R} {Q : Exit → Act → World → Prop} {ρ0 : Ren}
    (hQ : ∀ a w, KRel w0 ρ0 K r a w → Q .normal a w)
    (hself : ∀ i, i < ops.size → Nat.testBit ((predMasks ops.toList []).getD i 0) i = false)
    (hrange : ∀ (i : Nat) (o : Oper), ops[i]? = some o → ∀ e ∈ o.after.toList, Region.binds .any e = true → e.on < ops.size) :
    ∀ (fuel : Nat) (L : List Nat) (listed : Array Bool) (ρ : Ren) (t : List Value) (H : AHeap) (a : Act) (w : World),
      L.length = fuel → L.Nodup → listed.size = ops.size → (∀ i, i ∈ L → i < ops.size) → (∀ i, i < ops.size → (i ∈ L ↔ listed[i]? = some false)) →
      L.Pairwise (fun i j => okPair ops.toList (predMasks ops.toList []) i j = true) →
      (∀ j, listed[j]? = some true → ∀ x, Nat.testBit ((predMasks ops.toList []).getD j 0) x = true → listed[x]? = some true) →
      runOps P call (some H0) ops.toList (slots ops.toList base L) K t H = some r → Rel w0 ρ H w → TRel ρ t a → ρ0.le ρ →
      (∀ i, i ∈ L → H.get (base + i) = none ∧ base + i < H.next) → Ext H0 H → wpAny P .any ops Q fuel listed a w := by
  have hlist : ∀ (listed : Array Bool) (L : List Nat), listed.size = ops.size → (∀ i, i < ops.size → (i ∈ L ↔ listed[i]? = some false)) →
      ∀ i, i < ops.size → i ∉ L → listed[i]? = some true := by
    intro listed L hz hm i hi hn
    have h1 : listed[i]? = some (listed[i]'(by omega)) := Array.getElem?_eq_getElem (by omega)
    cases hb : listed[i]'(by omega) with
    | true => rw [h1, hb]
    | false => exact absurd ((hm i hi).2 (by rw [h1, hb])) hn
  have hbits : ∀ (i : Nat) (o : Oper), ops[i]? = some o → ∀ x, Nat.testBit ((predMasks ops.toList []).getD i 0) x = true ↔
      ∃ e ∈ o.after.toList, Region.binds .any e = true ∧ (e.on = x ∨ (e.on < i ∧ Nat.testBit ((predMasks ops.toList []).getD e.on 0) x = true)) := by
    intro i o ho x
    have := predMasks_spec ops.toList [] i o (by simpa using ho) x
    simpa using this
  intro fuel
  induction fuel with
  | zero =>
    intro L listed ρ t H a w hl hnd hz hlt hm hp hcl hrun hR hT hle hfr h0
    have hL : L = [] := List.eq_nil_of_length_eq_zero hl
    subst hL
    refine ⟨?_, hQ a w ⟨ρ, t, H, hR, hT, hle, hrun⟩⟩
    rw [List.eq_nil_iff_forall_not_mem]
    intro i hi
    obtain ⟨h1, h2, _⟩ := mem_ready.1 hi
    have := hlist listed [] hz hm i h1 (by simp)
    simp [Array.getD_eq_getD_getElem?, this] at h2
  | succ fuel ih =>
    intro L listed ρ t H a w hl hnd hz hlt hm hp hcl hrun hR hT hle hfr h0
    have hready : ∀ i, i ∈ Region.ready .any ops listed → i ∈ L ∧ ∃ o, ops[i]? = some o ∧ ∀ x, Nat.testBit ((predMasks ops.toList []).getD i 0) x = true → listed[x]? = some true := by
      intro i hi
      obtain ⟨h1, h2, o, h3, h4⟩ := mem_ready.1 hi
      refine ⟨?_, o, h3, fun x hx => ?_⟩
      · refine (hm i h1).2 ?_
        have h5 : listed[i]? = some (listed[i]'(by omega)) := Array.getElem?_eq_getElem (by omega)
        rw [h5]
        simp [Array.getD_eq_getD_getElem?, h5] at h2
        rw [h2]
      · obtain ⟨e, he, hb, hx⟩ := (hbits i o h3 x).1 hx
        have h5 := h4 e he hb
        have h6 : listed[e.on]? = some true := by
          cases hg : listed[e.on]? with
          | none => simp [Array.getD_eq_getD_getElem?, hg] at h5
          | some b => simp [Array.getD_eq_getD_getElem?, hg] at h5; rw [h5]
        rcases hx with hx | ⟨_, hx⟩
        · rw [← hx]; exact h6
        · exact hcl _ h6 x hx
    refine ⟨?_, ?_⟩
    · -- some operation is ready
      intro hnil
      exfalso
      cases L with
      | nil => simp at hl
      | cons i0 L' =>
        have hi0 := hlt i0 (by simp)
        have : i0 ∈ Region.ready .any ops listed := by
          refine mem_ready.2 ⟨hi0, ?_, ops[i0], Array.getElem?_eq_getElem hi0, fun e he hb => ?_⟩
          · have := (hm i0 hi0).1 (by simp)
            simp [Array.getD_eq_getD_getElem?, this]
          · have hor := hrange i0 _ (Array.getElem?_eq_getElem hi0) e he hb
            have hbit := (hbits i0 _ (Array.getElem?_eq_getElem hi0) e.on).2 ⟨e, he, hb, .inl rfl⟩
            have hnl : e.on ∉ i0 :: L' := by
              intro hmem
              rcases List.mem_cons.1 hmem with h | h
              · rw [h, hself i0 hi0] at hbit; cases hbit
              · have := (List.pairwise_cons.1 hp).1 _ h
                unfold okPair at this
                split at this
                · simp only [hbit, Bool.not_true, Bool.false_and, Bool.false_eq_true] at this
                · cases this
            have := hlist listed _ hz hm e.on hor hnl
            simp [Array.getD_eq_getD_getElem?, this]
        rw [hnil] at this
        cases this
    · intro i hi
      obtain ⟨hiL, o, ho, hdone⟩ := hready i hi
      obtain ⟨L1, L2, rfl⟩ := List.append_of_mem hiL
      have hoL : ops.toList[i]? = some o := by simpa using ho
      have hdisj := List.nodup_append.1 hnd
      have hiL1 : i ∉ L1 := fun h => (hdisj.2.2 i h i (by simp)) rfl
      have hiL2 : i ∉ L2 := (List.nodup_cons.1 hdisj.2.1).1
      have hrun1 : runOps P call (some H0) ops.toList ((some (base + i), o) :: slots ops.toList base (L1 ++ L2)) K t H = some r := by
        rw [slots_append, slots_cons hoL] at hrun
        cases L1 with
        | nil => simpa [slots] using hrun
        | cons x0 L1' =>
          have hpair : ∀ x ∈ x0 :: L1', x ≠ i ∧ (∃ ox, ops.toList[x]? = some ox ∧ apart2 ops.toList ox o = true) ∧ isEff o = false := by
            intro x hx
            have hpw := (List.pairwise_append.1 hp).2.2 x hx i (by simp)
            have hnb : Nat.testBit ((predMasks ops.toList []).getD i 0) x = false := by
              cases hb : Nat.testBit ((predMasks ops.toList []).getD i 0) x with
              | false => rfl
              | true =>
                have := hdone x hb
                have h2 := (hm x (hlt x (by simp at hx ⊢; rcases hx with h | h <;> simp [h]))).1 (by simp at hx ⊢; rcases hx with h | h <;> simp [h])
                rw [this] at h2
                cases h2
            unfold okPair at hpw
            split at hpw
            · rename_i ox oi hox hoi
              rw [hoL] at hoi
              cases hoi
              simp only [hnb, Bool.and_eq_true, Bool.or_eq_true, Bool.false_eq_true, false_or, Bool.not_eq_true'] at hpw
              exact ⟨fun e => hiL1 (by rw [← e]; exact hx), ⟨ox, hox, hpw.2.1⟩, hpw.2.2⟩
            · cases hpw
          have := bubble hk (H0 := H0) (base := base) (y := i) (oy := o) (hpair x0 (by simp)).2.2 (K := K) (r := r) (slots ops.toList base L2) (x0 :: L1') t H
            (fun x hx => ⟨(hpair x hx).1, (hpair x hx).2.1⟩) hdisj.1
            (fun x hx => hfr x (by rcases hx with h | h <;> simp [h] ; simp at h; rcases h with h | h <;> simp [h])) hR.fresh h0 (fun ty z ad ho hz => load_there hR hT hz) hrun
          rw [slots_append]
          simpa using this
      have hfi := hfr i (by simp)
      unfold wpOp
      rw [ho]
      dsimp only
      have hstep := step_sim (Q := Q) (slot := some (base + i)) (o := o) (ops := ops) hc (rest := slots ops.toList base (L1 ++ L2)) hrun1 hR hT hfi.1
        (fun k e => by cases e; exact hfi.2) (wpAny P .any ops Q fuel (listed.setIfInBounds i true)) (by
        intro ρ' t' H' a' w' q1 q2 q3 q4 q5
        have hi' : i < ops.size := hlt i (by simp)
        have hext : Ext H H' ∧ ∀ z, z ∈ L1 ++ L2 → H'.get (base + z) = none ∧ base + z < H'.next := by
          obtain ⟨v, q4 | q4⟩ := q4
          · have he := op_ext (slot := some (base + i)) hk hR.fresh hfi.1 q4
            refine ⟨he, fun z hz => ?_⟩
            have hfz := hfr z (by simp at hz ⊢; rcases hz with h | h <;> simp [h])
            have hne : base + i ≠ base + z := by
              intro e
              have e' : i = z := by omega
              subst e'
              simp at hz
              rcases hz with h | h
              · exact hiL1 h
              · exact hiL2 h
            exact ⟨(op_frame hk q4 hfz.1 hfz.2 hne ⟨[], 0, .rw, 0⟩).2, Nat.lt_of_lt_of_le hfz.2 he.next⟩
          · rw [q4]
            exact ⟨Ext.refl _, fun z hz => hfr z (by simp at hz ⊢; rcases hz with h | h <;> simp [h])⟩
        refine ih (L1 ++ L2) (listed.setIfInBounds i true) ρ' t' H' a' w' ?_ ?_ ?_ ?_ ?_ ?_ ?_ q5 q1 q2 (Ren.le_trans hle q3) hext.2 (Ext.trans h0 hext.1)
        · simp at hl ⊢; omega
        · rw [List.nodup_append]
          exact ⟨hdisj.1, (List.nodup_cons.1 hdisj.2.1).2, fun x hx y hy => hdisj.2.2 x hx y (by simp [hy])⟩
        · simpa using hz
        · intro z hz'
          exact hlt z (by simp at hz' ⊢; rcases hz' with h | h <;> simp [h])
        · intro z hz'
          rw [Array.getElem?_setIfInBounds]
          by_cases e : i = z
          · subst e
            rw [if_pos rfl]
            constructor
            · intro h; simp at h; rcases h with h | h
              · exact absurd h hiL1
              · exact absurd h hiL2
            · intro h
              split at h
              · cases h
              · rename_i hh; rw [hz] at hh; omega
          · rw [if_neg e, ← hm z hz']
            simp only [List.mem_append, List.mem_cons]
            constructor
            · rintro (h | h)
              · exact .inl h
              · exact .inr (.inr h)
            · rintro (h | h | h)
              · exact .inl h
              · exact absurd h.symm e
              · exact .inr h
        · have hsub : List.Sublist (L1 ++ L2) (L1 ++ i :: L2) := List.Sublist.append (List.Sublist.refl _) (List.sublist_cons_self _ _)
          exact hp.sublist hsub
        · intro j hj x hx
          rw [Array.getElem?_setIfInBounds] at hj ⊢
          have hx' : listed[x]? = some true := by
            by_cases e : i = j
            · subst e; exact hdone x hx
            · rw [if_neg e] at hj; exact hcl j hj x hx
          by_cases e : i = x
          · subst e
            rw [if_pos rfl, if_pos (by omega)]
          · rw [if_neg e]; exact hx')
      by_cases hw : Region.wanted o (yielded ops a.tmps) = true
      · rw [if_pos hw] at hstep ⊢
        exact .inl hstep
      · rw [if_neg hw] at hstep ⊢
        exact hstep

theorem draw_perm {ops : List Oper} (hok : drawOk ops = true) : (drawOrder ops).Nodup ∧ ∀ i ∈ drawOrder ops, i < ops.length := by
  unfold drawOk at hok
  simp only [Bool.and_eq_true, beq_iff_eq, List.all_eq_true, List.mem_range, Bool.not_eq_true', Bool.or_eq_true, decide_eq_true_eq] at hok
  obtain ⟨⟨⟨⟨h1, h2⟩, h3⟩, h4⟩, h5⟩ := hok
  have key : ∀ (n : Nat) (l : List Nat), l.length = n → (∀ i, i < n → i ∈ l) → l.Nodup ∧ ∀ i ∈ l, i < n := by
    intro n
    induction n with
    | zero => intro l hl _; have : l = [] := List.eq_nil_of_length_eq_zero hl; subst this; simp
    | succ n ih =>
      intro l hl hall
      obtain ⟨s, t, rfl⟩ := List.append_of_mem (hall n (Nat.lt_succ_self n))
      have hl' : (s ++ t).length = n := by simp at hl ⊢; omega
      obtain ⟨k1, k2⟩ := ih (s ++ t) hl' (fun i hi => by
        have := hall i (by omega)
        simp only [List.mem_append, List.mem_cons] at this ⊢
        rcases this with h | h | h
        · exact .inl h
        · omega
        · exact .inr h)
      have hns : n ∉ s := fun h => by have := k2 n (by simp [h]); omega
      have hnt : n ∉ t := fun h => by have := k2 n (by simp [h]); omega
      obtain ⟨d1, d2, d3⟩ := List.nodup_append.1 k1
      refine ⟨List.nodup_append.2 ⟨d1, List.nodup_cons.2 ⟨hnt, d2⟩, fun x hx y hy => ?_⟩, fun i hi => ?_⟩
      · rcases List.mem_cons.1 hy with h | h
        · subst h; exact fun e => hns (by rw [← e]; exact hx)
        · exact d3 x hx y h
      · simp only [List.mem_append, List.mem_cons] at hi
        rcases hi with h | h | h
        · have := k2 i (by simp [h]); omega
        · omega
        · have := k2 i (by simp [h]); omega
  exact key ops.length (drawOrder ops) h2 fun i hi => by simpa using h3 i hi

theorem draw_sound (hm : P.follows .mixedOrders = true) (hc : CallSound P call w0) (hk : CallKeeps call) : DrawSound P call w0 := by
  intro R r id ops K ρ t H a w Q hok hrun hR hT hQ
  have hok0 := hok
  unfold drawOk at hok
  simp only [Bool.and_eq_true, beq_iff_eq, List.all_eq_true, List.mem_range, Bool.not_eq_true', Bool.or_eq_true, decide_eq_true_eq] at hok
  obtain ⟨⟨⟨⟨h1, h2⟩, h3⟩, h4⟩, h5⟩ := hok
  have hlen : ops.toList.length = ops.size := Array.length_toList
  have hmem : ∀ i, i < ops.size → i ∈ drawOrder ops.toList := fun i hi => by
    have := h3 i (by omega)
    simpa using this
  have hperm : (drawOrder ops.toList).Nodup ∧ ∀ i, i ∈ drawOrder ops.toList → i < ops.size := by
    have := draw_perm hok0
    rw [hlen] at this
    exact this
  refine wp_region_any hm ?_
  refine draw_any (ρ0 := ρ) (K := K) (r := r) hc hk (H0 := H) (base := H.next) hQ ?_ ?_ ops.size (drawOrder ops.toList) _ ρ t (H.bump ops.toList.length) a _ (by omega) hperm.1 (by simp) hperm.2 ?_ (okPairs_iff.1 h1) ?_ hrun (Rel.bump (Rel.drew hR) _) hT (Ren.le_refl _) ?_ ?_
  · intro i hi
    have := h4 i (by omega)
    simpa using this
  · intro i o ho e he hb
    have := h5 o (List.mem_of_getElem? (by simpa using ho)) e he
    rcases this with h | h
    · rw [hb] at h; cases h
    · omega
  · intro i hi
    simp [hi, hmem i hi]
  · intro j hj
    rw [Array.getElem?_replicate] at hj
    split at hj <;> simp at hj
  · intro i hi
    have := hperm.2 i hi
    exact ⟨hR.fresh _ (Nat.le_add_right _ _), by show H.next + i < H.next + ops.toList.length; omega⟩
  · exact ⟨fun i b h => ⟨b, h, Nat.le_refl _, fun _ => rfl⟩, Nat.le_add_right _ _⟩

end
end Go.Mx
end

section
set_option linter.unusedSimpArgs false
/- What a run leaves alone; the soundness of calls. -/
namespace Go.Mx
open Go Go.RowKit

section
variable {P : Program} {call : CallF} {t : List Value} {H H' : AHeap} {o : Oper} {slot : Option Nat} {v : Value}

theorem apnd_next {elem : TypeId} {base : Option Addr} {sLen sCap n : Nat} {news : List Value}
    (h : apnd P elem H base sLen sCap news n = some (v, H')) : H.next ≤ H'.next := by
  unfold apnd at h
  split at h
  · cases h
  · split at h
    · cases h
    · split at h
      · split at h
        · cases h; exact Nat.le_refl _
        · split at h
          · cases h
          · obtain ⟨H1, hw, h⟩ := Option.bind_eq_some_iff.1 h
            cases h
            exact (Ext.wr hw).next
      · split at h
        · cases h
        · split at h
          · cases h; exact Nat.le_succ _
          · split at h
            · cases h
            · split at h
              · cases h
              · split at h
                · cases h; exact Nat.le_succ _
                · split at h
                  · cases h; exact Nat.le_succ _
                  · cases h

theorem callK_next (hk : ∀ f args H v H', call f args H = some (v, H') → H.next ≤ H'.next) {c : Call} (h : callK P call o c t H (fun v H => some (v, H)) = some (v, H')) : H.next ≤ H'.next := by
  unfold callK at h
  split at h
  · cases h
  · split at h
    · split at h
      · split at h
        · obtain ⟨p, hp, h⟩ := Option.bind_eq_some_iff.1 h
          rw [normK_cps] at h
          obtain ⟨u, hu, h⟩ := Option.bind_eq_some_iff.1 h
          cases h
          exact hk _ _ _ _ _ hp
        · cases h
      · cases h
    · cases h
    · split at h
      · split at h
        · cases h; exact Nat.le_refl _
        · cases h
      · split at h
        · cases h; exact Nat.le_refl _
        · cases h
      · obtain ⟨p, hp, h⟩ := Option.bind_eq_some_iff.1 h
        rw [normK_cps] at h
        obtain ⟨u, hu, h⟩ := Option.bind_eq_some_iff.1 h
        cases h
        unfold apndV at hp
        split at hp
        · split at hp
          · split at hp
            · split at hp
              · obtain ⟨news, _, hp⟩ := Option.bind_eq_some_iff.1 hp
                exact apnd_next hp
              · cases hp
            · split at hp
              · split at hp
                · obtain ⟨news, _, hp⟩ := Option.bind_eq_some_iff.1 hp
                  exact apnd_next hp
                · cases hp
              · cases hp
            · cases hp
          · cases hp
        · cases hp
      · obtain ⟨p, hp, h⟩ := Option.bind_eq_some_iff.1 h
        cases h
        unfold copyV at hp
        split at hp
        · split at hp
          · split at hp
            · obtain ⟨cells, hf', hp⟩ := Option.bind_eq_some_iff.1 hp
              split at hp
              · cases hp; exact Nat.le_refl _
              · split at hp
                · cases hp; exact Nat.le_refl _
                · obtain ⟨H1, hw, hp⟩ := Option.bind_eq_some_iff.1 hp
                  cases hp; exact (Ext.wr hw).next
            · cases hp
          · cases hp
        · cases hp
      · obtain ⟨p, hp, h⟩ := Option.bind_eq_some_iff.1 h
        cases h
        unfold clearV at hp
        split at hp
        · split at hp
          · split at hp
            · cases hp; exact Nat.le_refl _
            · split at hp
              · obtain ⟨z, hz, hp⟩ := Option.bind_eq_some_iff.1 hp
                split at hp
                · cases hp
                · exact (Ext.wr hp).next
              · cases hp; exact Nat.le_refl _
          · cases hp
        · cases hp
      · obtain ⟨p, hp, h⟩ := Option.bind_eq_some_iff.1 h
        cases h; exact Nat.le_refl _
      · obtain ⟨p, hp, h⟩ := Option.bind_eq_some_iff.1 h
        cases h; exact Nat.le_refl _
      · cases h

theorem op_next (hk : ∀ f args H v H', call f args H = some (v, H') → H.next ≤ H'.next) (h : opS P call slot o t H = some (v, H')) : H.next ≤ H'.next := by
  rcases kinds h with hp | hp | ⟨ty, x, ho⟩ | ⟨ty, x, y, ho⟩ | ⟨c, ho, _⟩
  · obtain ⟨rfl, _⟩ := pure_spec hp h; exact Nat.le_refl _
  · obtain ⟨c, rfl, _⟩ := make_spec hp h
    cases slot
    · exact Nat.le_succ _
    · exact Nat.le_refl _
  · obtain ⟨_, _, rfl, _⟩ := load_spec ho h; exact Nat.le_refl _
  · obtain ⟨_, _, _, _, _, _, _, _, h6, _⟩ := store_spec ho h; exact (Ext.wr h6).next
  · exact callK_next hk (by simpa only [opS, aopK, ho] using h)

theorem stepO_cases {g : Option AHeap} {all : List Oper} {x : Option Nat × Oper} {p : List Value × AHeap} (h : stepO P call g all x t H = some p) :
    (wantedT all x.2 t = true ∧ ldOK g x.2 t H = true ∧ ∃ v, opS P call x.1 x.2 t H = some (v, p.2) ∧ p.1 = putT t x.2.dst v) ∨
    (wantedT all x.2 t = false ∧ p = (putT t x.2.dst undef, H)) := by
  unfold stepO at h
  cases hw : wantedT all x.2 t with
  | false => rw [hw] at h; exact .inr ⟨rfl, (Option.some.inj h).symm⟩
  | true =>
    rw [hw] at h
    cases hl : ldOK g x.2 t H with
    | false => rw [hl] at h; cases h
    | true =>
      rw [hl] at h
      simp only [cond_true] at h
      obtain ⟨q, hq, h⟩ := Option.bind_eq_some_iff.1 h
      obtain rfl := Option.some.inj h
      exact .inl ⟨rfl, rfl, q.1, hq, rfl⟩

/-! 'next' only grows -/
def KN (K : List Value → AHeap → Option (Value × AHeap)) : Prop := ∀ t H r, K t H = some r → H.next ≤ r.2.next

theorem runOps_next (hk : ∀ f args H v H', call f args H = some (v, H') → H.next ≤ H'.next) {g : Option AHeap} {all : List Oper} {K : List Value → AHeap → Option (Value × AHeap)} (hK : KN K) :
    ∀ l, KN (runOps P call g all l K) := by
  intro l
  induction l with
  | nil => exact hK
  | cons x l ih =>
    intro t H r h
    rw [runOps_cons] at h
    obtain ⟨p, hp, h⟩ := Option.bind_eq_some_iff.1 h
    have h2 := ih p.1 p.2 r h
    rcases stepO_cases hp with ⟨_, _, v, h3, _⟩ | ⟨_, h3⟩
    · exact Nat.le_trans (op_next hk h3) h2
    · rw [h3] at h2; exact h2

theorem run_next (hk : ∀ f args H v H', call f args H = some (v, H') → H.next ≤ H'.next) (n : Nat) : ∀ (c : Code) (Q : Kont (Value × AHeap)), (∀ e, KN (Q e)) → KN (run P call n c Q) := by
  intro c
  induction c with
  | skip => intro Q hQ; exact hQ _
  | exit id => intro Q hQ; exact hQ _
  | ret => intro Q hQ; exact hQ _
  | region id ops draw =>
    intro Q hQ t H r h
    simp only [run] at h
    cases draw with
    | false => exact runOps_next hk (hQ _) _ t H r h
    | true =>
      simp only [cond_true] at h
      cases hok : drawOk ops.toList with
      | false => rw [hok] at h; cases h
      | true =>
        rw [hok] at h
        exact Nat.le_trans (Nat.le_add_right _ _) (runOps_next hk (hQ _) _ t (H.bump _) r h)
  | seq x y ihx ihy =>
    intro Q hQ
    rw [run_seq]
    refine ihx _ fun e => ?_
    cases e
    · exact ihy Q hQ
    · exact hQ _
    · exact hQ _
  | cond c x y ihx ihy =>
    intro Q hQ t H r h
    simp only [run] at h
    split at h
    · rename_i s _
      cases s
      · exact ihy Q hQ t H r h
      · exact ihx Q hQ t H r h
    · cases h
  | block id c ih =>
    intro Q hQ
    refine ih _ fun e => ?_
    cases e with
    | normal => exact hQ _
    | exit i =>
      intro t H r h
      simp only [blkQ] at h
      split at h <;> exact hQ _ t H r h
    | ret => exact hQ _
  | loop c ih =>
    intro Q hQ
    have : ∀ k, KN (iter (run P call n c) Q k) := by
      intro k
      induction k with
      | zero => intro t H r h; cases h
      | succ k ihk =>
        refine ih _ fun e => ?_
        cases e
        · exact ihk
        · exact hQ _
        · exact hQ _
    exact this n
  | _ => intro Q hQ t H r h; cases h

theorem resK_heap {R : Type} {Rs : List ResultVar} : ∀ {acc : List Value} {K : List Value → Option R} {r : R}, resK P t H Rs acc K = some r → ∃ vs, K vs = some r := by
  induction Rs with
  | nil => intro acc K r h; exact ⟨acc, h⟩
  | cons x rest ih =>
    intro acc K r h
    cases x with
    | tmp i => exact ih h
    | cell c ty =>
      simp only [resK] at h
      split at h
      · rw [loadK_cps] at h
        obtain ⟨u, hu, h⟩ := Option.bind_eq_some_iff.1 h
        exact ih h
      · cases h
theorem retV_heap {vs : List Value} {r : Value × AHeap} (h : retV H vs = some r) : r.2 = H := by
  unfold retV at h
  split at h
  · cases h; rfl
  · generalize vs.all notTup = b at h
    cases b <;> cases h
    rfl
theorem retQ_heap {fn : Func} {e : Ex} {r : Value × AHeap} (h : retQ P fn e t H = some r) : r.2 = H := by
  unfold retQ at h
  split at h
  · cases h
  · obtain ⟨vs, hvs⟩ := resK_heap h
    exact retV_heap hvs

theorem acall_next {O : FuncId → Option Bool} : ∀ k f args H v H', acallO O P k f args H = some (v, H') → H.next ≤ H'.next := by
  intro k
  induction k with
  | zero => intro f args H v H' h; cases h
  | succ k ih =>
    intro f args H v H' h
    simp only [acallO] at h
    split at h
    · split at h
      · cases h; exact Nat.le_refl _
      · cases h
    · split at h
      · unfold runF at h
        split at h
        · split at h
          · exact run_next ih k _ _ (fun e t H r h => by rw [retQ_heap h]; exact Nat.le_refl _) _ _ _ h
          · cases h
        · cases h
      · cases h

/-! frames -/
def KF (id : Nat) (b : Blk) (K K2 : List Value → AHeap → Option (Value × AHeap)) : Prop :=
  ∀ t H r, H.get id = none → id < H.next → K t H = some r → K2 t (H.put id b) = some (r.1, r.2.put id b) ∧ r.2.get id = none

theorem sameB_put2 {H0 H : AHeap} {i id : Nat} {b : Blk} (h0 : H.get id = none) (h : sameB H0 H i = true) : sameB (H0.put id b) (H.put id b) i = true := by
  unfold sameB at h ⊢
  have : i ≠ id := by
    intro e; subst e; rw [h0] at h; split at h <;> first | cases h | simp_all
  rw [put_get_ne H b this, put_get_ne H0 b this]
  exact h

theorem runOps_frame (hk : CallKeeps call) {id : Nat} {b : Blk} {g : Option AHeap} (hg : ∀ H0, g = some H0 → H0.get id = none) {all : List Oper} {K K2 : List Value → AHeap → Option (Value × AHeap)} (hK : KF id b K K2) :
    ∀ l, (∀ x ∈ l, ∀ s, x.1 = some s → s ≠ id) → KF id b (runOps P call g all l K) (runOps P call (g.map (·.put id b)) all l K2) := by
  intro l
  induction l with
  | nil => intro _; exact hK
  | cons x l ih =>
    intro hs t H r hn hlt h
    rw [runOps_cons] at h ⊢
    obtain ⟨p, hp, h⟩ := Option.bind_eq_some_iff.1 h
    have key : stepO P call (g.map (·.put id b)) all x t (H.put id b) = some (p.1, p.2.put id b) ∧ p.2.get id = none ∧ id < p.2.next := by
      rcases stepO_cases hp with ⟨hw, hl, v, h3, h4⟩ | ⟨hw, h3⟩
      · have hne : H.newId x.1 ≠ id := by
          cases hx : x.1 with
          | none => exact fun e => by have e' : H.next = id := e; omega
          | some s => exact hs x (by simp) s hx
        obtain ⟨f1, f2⟩ := op_frame hk h3 hn hlt hne b
        refine ⟨?_, f2, Nat.lt_of_lt_of_le hlt (op_next hk.next h3)⟩
        have hl2 : ldOK (g.map (·.put id b)) x.2 t (H.put id b) = true := by
          cases g with
          | none => rfl
          | some H0 =>
            unfold ldOK at hl ⊢
            dsimp only [Option.map_some] at hl ⊢
            split
            · rename_i ty z ho
              rw [ho] at hl
              dsimp only at hl
              split
              · rename_i ad hz
                rw [hz] at hl
                exact sameB_put2 hn hl
              · rename_i hz
                split at hl
                · rename_i ad hz2; exact absurd hz2 (hz ad)
                · cases hl
            · rfl
        unfold stepO
        rw [hw, hl2, f1, h4]
        rfl
      · rw [h3]
        refine ⟨?_, hn, hlt⟩
        unfold stepO
        rw [hw]
        rfl
    obtain ⟨k1, k2, k3⟩ := key
    rw [k1]
    exact ih (fun x hx => hs x (by simp [hx])) p.1 p.2 r k2 k3 h

theorem slots_mem {all : List Oper} {base : Nat} {L : List Nat} {x : Option Nat × Oper} (h : x ∈ slots all base L) : ∃ i ∈ L, x.1 = some (base + i) := by
  unfold slots at h
  obtain ⟨i, hi, h⟩ := List.mem_filterMap.1 h
  split at h
  · cases h; exact ⟨i, hi, rfl⟩
  · cases h

theorem run_frame (hk : CallKeeps call) (id : Nat) (b : Blk) (n : Nat) : ∀ (c : Code) (Q Q2 : Kont (Value × AHeap)), (∀ e, KF id b (Q e) (Q2 e)) → KF id b (run P call n c Q) (run P call n c Q2) := by
  intro c
  induction c with
  | skip => intro Q Q2 hQ; exact hQ _
  | exit i => intro Q Q2 hQ; exact hQ _
  | ret => intro Q Q2 hQ; exact hQ _
  | region rid ops draw =>
    intro Q Q2 hQ t H r hn hlt h
    simp only [run] at h ⊢
    cases draw with
    | false =>
      exact runOps_frame hk (g := none) (fun H0 e => by cases e) (hQ _) _ (fun x hx s hs => by
        unfold plainOps at hx
        obtain ⟨o, _, rfl⟩ := List.mem_map.1 hx
        cases hs) t H r hn hlt h
    | true =>
      simp only [cond_true] at h ⊢
      cases hok : drawOk ops.toList with
      | false => rw [hok] at h; cases h
      | true =>
        rw [hok] at h
        simp only [cond_true] at h ⊢
        exact runOps_frame hk (g := some H) (fun H0 e => by cases e; exact hn) (hQ _) _ (fun x hx s hs => by
          obtain ⟨i, _, hi⟩ := slots_mem hx
          rw [hi] at hs
          cases hs
          show H.next + i ≠ id
          omega) t (H.bump ops.toList.length) r hn (Nat.lt_of_lt_of_le hlt (Nat.le_add_right _ _)) h
  | seq x y ihx ihy =>
    intro Q Q2 hQ
    simp only [run_seq]
    refine ihx _ _ fun e => ?_
    cases e
    · exact ihy Q Q2 hQ
    · exact hQ _
    · exact hQ _
  | cond c x y ihx ihy =>
    intro Q Q2 hQ t H r hn hlt h
    simp only [run] at h ⊢
    split at h
    · rename_i s _
      cases s
      · exact ihy Q Q2 hQ t H r hn hlt h
      · exact ihx Q Q2 hQ t H r hn hlt h
    · cases h
  | block i c ih =>
    intro Q Q2 hQ
    refine ih _ _ fun e => ?_
    cases e with
    | normal => exact hQ _
    | exit j =>
      intro t H r hn hlt h
      simp only [blkQ] at h ⊢
      split at h
      · rename_i e; rw [if_pos e]; exact hQ _ t H r hn hlt h
      · rename_i e; rw [if_neg e]; exact hQ _ t H r hn hlt h
    | ret => exact hQ _
  | loop c ih =>
    intro Q Q2 hQ
    have : ∀ k, KF id b (iter (run P call n c) Q k) (iter (run P call n c) Q2 k) := by
      intro k
      induction k with
      | zero => intro t H r _ _ h; cases h
      | succ k ihk =>
        refine ih _ _ fun e => ?_
        cases e
        · exact ihk
        · exact hQ _
        · exact hQ _
    exact this n
  | _ => intro Q Q2 hQ t H r _ _ h; cases h

theorem retQ_frame (fn : Func) (id : Nat) (b : Blk) (e : Ex) : KF id b (retQ P fn e) (retQ P fn e) := by
  intro t H r hn hlt h
  have hh := retQ_heap h
  refine ⟨?_, by rw [hh]; exact hn⟩
  have key : ∀ (Rs : List ResultVar) (acc : List Value), resK P t H Rs acc (retV H) = some r → resK P t (H.put id b) Rs acc (retV (H.put id b)) = some (r.1, r.2.put id b) := by
    intro Rs
    induction Rs with
    | nil =>
      intro acc h
      simp only [resK] at h ⊢
      unfold retV at h ⊢
      split at h
      · cases h; rfl
      · generalize acc.all notTup = bb at h ⊢
        cases bb <;> cases h
        rfl
    | cons x rest ih =>
      intro acc h
      cases x with
      | tmp i => exact ih _ h
      | cell c ty =>
        simp only [resK] at h ⊢
        split at h
        · rw [loadK_cps] at h ⊢
          obtain ⟨u, hu, h⟩ := Option.bind_eq_some_iff.1 h
          rw [loadK_put hn hu]
          exact ih _ h
        · cases h
  unfold retQ at h ⊢
  split at h
  · cases h
  · exact key _ _ h

/-! what was there stays -/
def KE (K : List Value → AHeap → Option (Value × AHeap)) : Prop :=
  ∀ t H r, (∀ i, H.next ≤ i → H.get i = none) → K t H = some r → Ext H r.2 ∧ ∀ i, r.2.next ≤ i → r.2.get i = none

theorem runOps_ext (hk : CallKeeps call) {g : Option AHeap} {all : List Oper} {K : List Value → AHeap → Option (Value × AHeap)} (hK : KE K) :
    ∀ (l : List (Option Nat × Oper)) (t : List Value) (H : AHeap) (r : Value × AHeap), (l.map (·.1)).Pairwise (fun a b => ∀ s, a = some s → b ≠ some s) → (∀ x ∈ l, ∀ s, x.1 = some s → H.get s = none ∧ s < H.next) →
      (∀ i, H.next ≤ i → H.get i = none) → runOps P call g all l K t H = some r → Ext H r.2 ∧ ∀ i, r.2.next ≤ i → r.2.get i = none := by
  intro l
  induction l with
  | nil => intro t H r _ _ hf h; exact hK t H r hf h
  | cons x l ih =>
    intro t H r hpw hs hf h
    rw [runOps_cons] at h
    obtain ⟨p, hp, h⟩ := Option.bind_eq_some_iff.1 h
    simp only [List.map_cons, List.pairwise_cons] at hpw
    rcases stepO_cases hp with ⟨hw, hl, v, h3, h4⟩ | ⟨hw, h3⟩
    · have hfree : H.get (H.newId x.1) = none := by
        cases hx : x.1 with
        | none => exact hf _ (Nat.le_refl _)
        | some s => exact (hs x (by simp) s hx).1
      have hext := op_ext hk hf hfree h3
      have hfr := op_fresh hk hf (fun i hi => (hs x (by simp) i hi).2) h3
      obtain ⟨e1, e2⟩ := ih p.1 p.2 r hpw.2 (fun z hz s hzs => by
        obtain ⟨q1, q2⟩ := hs z (by simp [hz]) s hzs
        have hne : H.newId x.1 ≠ s := by
          cases hx : x.1 with
          | none => exact fun e => by have e' : H.next = s := e; omega
          | some s' =>
            intro e
            have e' : s' = s := e
            subst e'
            exact hpw.1 z.1 (List.mem_map.2 ⟨z, hz, rfl⟩) s' hx hzs
        exact ⟨(op_frame hk h3 q1 q2 hne ⟨[], 0, .rw, 0⟩).2, Nat.lt_of_lt_of_le q2 hext.next⟩) hfr h
      exact ⟨Ext.trans hext e1, e2⟩
    · rw [h3] at h
      exact ih _ H r hpw.2 (fun z hz s hzs => hs z (by simp [hz]) s hzs) hf h

theorem run_ext (hk : CallKeeps call) (n : Nat) : ∀ (c : Code) (Q : Kont (Value × AHeap)), (∀ e, KE (Q e)) → KE (run P call n c Q) := by
  intro c
  induction c with
  | skip => intro Q hQ; exact hQ _
  | exit id => intro Q hQ; exact hQ _
  | ret => intro Q hQ; exact hQ _
  | region id ops draw =>
    intro Q hQ t H r hf h
    simp only [run] at h
    cases draw with
    | false =>
      refine runOps_ext hk (hQ _) _ t H r ?_ ?_ hf h
      · unfold plainOps
        rw [List.map_map]
        rw [List.pairwise_map]
        exact List.pairwise_of_forall fun a b s e => (by cases e)
      · intro x hx s hs
        unfold plainOps at hx
        obtain ⟨o, _, rfl⟩ := List.mem_map.1 hx
        cases hs
    | true =>
      simp only [cond_true] at h
      cases hok : drawOk ops.toList with
      | false => rw [hok] at h; cases h
      | true =>
        rw [hok] at h
        simp only [cond_true] at h
        have hord : (drawOrder ops.toList).Nodup ∧ ∀ i ∈ drawOrder ops.toList, i < ops.toList.length := draw_perm hok
        have hb : Ext H (H.bump ops.toList.length) := ⟨fun i b h => ⟨b, h, Nat.le_refl _, fun _ => rfl⟩, Nat.le_add_right _ _⟩
        have hA : ∀ (L : List Nat), L.Nodup → ((slots ops.toList H.next L).map (·.1)).Pairwise (fun a b => ∀ s, a = some s → b ≠ some s) := by
          intro L
          induction L with
          | nil => intro _; simp [slots]
          | cons i L ihL =>
            intro hnd
            obtain ⟨n1, n2⟩ := List.nodup_cons.1 hnd
            cases ho : ops.toList[i]? with
            | none =>
              have : slots ops.toList H.next (i :: L) = slots ops.toList H.next L := by unfold slots; rw [List.filterMap_cons, ho]
              rw [this]; exact ihL n2
            | some o =>
              rw [slots_cons ho, List.map_cons, List.pairwise_cons]
              refine ⟨fun a ha s hs e => ?_, ihL n2⟩
              obtain ⟨z, hz, rfl⟩ := List.mem_map.1 ha
              obtain ⟨j, hj, hzj⟩ := slots_mem hz
              rw [hzj] at e
              cases hs
              have : j = i := by have := Option.some.inj e; omega
              subst this
              exact n1 hj
        have hB : ∀ x ∈ slots ops.toList H.next (drawOrder ops.toList), ∀ s, x.1 = some s → (H.bump ops.toList.length).get s = none ∧ s < (H.bump ops.toList.length).next := by
          intro x hx s hs
          obtain ⟨i, hi, hxi⟩ := slots_mem hx
          rw [hxi] at hs
          cases hs
          exact ⟨hf _ (Nat.le_add_right _ _), Nat.add_lt_add_left (hord.2 i hi) _⟩
        obtain ⟨e1, e2⟩ := runOps_ext hk (hQ .normal) _ t (H.bump ops.toList.length) r (hA _ hord.1) hB (fun i hi => hf i (Nat.le_trans (Nat.le_add_right _ _) hi)) h
        exact ⟨Ext.trans hb e1, e2⟩
  | seq x y ihx ihy =>
    intro Q hQ
    rw [run_seq]
    refine ihx _ fun e => ?_
    cases e
    · exact ihy Q hQ
    · exact hQ _
    · exact hQ _
  | cond c x y ihx ihy =>
    intro Q hQ t H r hf h
    simp only [run] at h
    split at h
    · rename_i s _
      cases s
      · exact ihy Q hQ t H r hf h
      · exact ihx Q hQ t H r hf h
    · cases h
  | block id c ih =>
    intro Q hQ
    refine ih _ fun e => ?_
    cases e with
    | normal => exact hQ _
    | exit i =>
      intro t H r hf h
      simp only [blkQ] at h
      split at h <;> exact hQ _ t H r hf h
    | ret => exact hQ _
  | loop c ih =>
    intro Q hQ
    have : ∀ k, KE (iter (run P call n c) Q k) := by
      intro k
      induction k with
      | zero => intro t H r _ h; cases h
      | succ k ihk =>
        refine ih _ fun e => ?_
        cases e
        · exact ihk
        · exact hQ _
        · exact hQ _
    exact this n
  | _ => intro Q hQ t H r _ h; cases h

theorem acall_keeps {O : FuncId → Option Bool} : ∀ k, CallKeeps (acallO O P k) := by
  intro k
  induction k with
  | zero => exact ⟨fun f args H v H' h => (by cases h), fun f args H v H' h => (by cases h), fun f args H v H' h => (by cases h)⟩
  | succ k ih =>
    refine ⟨acall_next (k + 1), ?_, ?_⟩
    · intro f args H v H' h id b hn hlt
      simp only [acallO] at h ⊢
      split at h
      · split at h
        · cases h; exact ⟨rfl, hn⟩
        · cases h
      · split at h
        · rename_i fn _
          unfold runF at h ⊢
          split at h
          · (try dsimp only)
            split at h
            · rename_i hle
              rw [if_pos hle]
              exact run_frame ih id b k _ _ _ (retQ_frame fn id b) _ H (v, H') hn hlt h
            · cases h
          · cases h
        · cases h
    · intro f args H v H' h hf
      simp only [acallO] at h
      split at h
      · split at h
        · cases h; exact ⟨Ext.refl _, hf⟩
        · cases h
      · split at h
        · unfold runF at h
          split at h
          · split at h
            · exact run_ext ih k _ _ (fun e t H r hf h => by rw [retQ_heap h]; exact ⟨Ext.refl _, hf⟩) _ H (v, H') hf h
            · cases h
          · cases h
        · cases h

theorem Rel.grow {w0 w w' : World} {ρ : Ren} {H : AHeap} (h : Rel w0 ρ H w) (hb : Below w.heap.size w w') : Rel w0 ρ H w' := by
  have hb0 : ∀ k, k < w0.heap.size → w'.heap[k]? = w.heap[k]? := fun k hk => hb.block k (Nat.lt_of_lt_of_le hk h.below.size)
  refine ⟨⟨hb.os.trans h.below.os, hb.tape.trans h.below.tape, hb.output.trans h.below.output, Nat.le_trans h.below.size hb.size, fun k hk => (hb0 k hk).trans (h.below.block k hk)⟩, h.dom, ?_, h.inj, h.fresh⟩
  intro i b hi
  obtain ⟨ad, sl, hr, hB⟩ := h.blk i b hi
  refine ⟨ad, sl, hr, hB.below hb0 fun hm => ?_⟩
  unfold BlkRel at hB
  rw [hm] at hB
  obtain ⟨_, _, cs', e, h3, _⟩ := hB
  have hlt : ad.block < w.heap.size := by
    rcases Nat.lt_or_ge ad.block w.heap.size with h4 | h4
    · exact h4
    · rw [Array.getElem?_eq_none h4] at h3; cases h3
  exact hb.block _ hlt

/-- WHAT THE MACHINE COMES TO, THE MODEL COMES TO. -/
theorem acall_sound (hm : P.follows .mixedOrders = true) {O : FuncId → Option Bool}
    (hO : ∀ f b, O f = some b → ∀ w, Calls P f #[] w fun e w' => e = .returned (.bool b) ∧ Below w.heap.size w w') (w0 : World) : ∀ k, CallSound P (acallO O P k) w0 := by
  intro k
  induction k with
  | zero => intro f args H v H' h; cases h
  | succ k ih =>
    intro f args H v H' h ρ w args' hR hA
    simp only [acallO] at h
    split at h
    · rename_i b hb
      split at h
      · cases h
        have : args' = #[] := by
          cases args' with
          | mk l => cases l with
            | nil => rfl
            | cons _ _ => cases hA
        subst this
        exact (hO f b hb w).mono fun e w' ⟨he, hbl⟩ => ⟨_, ρ, he, .inl (.inl (.inl rfl)), hR.grow hbl, Ren.le_refl _⟩
      · cases h
    · split at h
      · rename_i fn hfn
        exact run_fn ih (draw_sound hm ih (acall_keeps k)) hfn h hR hA
      · cases h

end
end Go.Mx
end

section
set_option linter.unusedSimpArgs false
/- The arguments of a law, as data of the machine. -/
namespace Go.Mx
open Go Go.RowKit

def Keeps (H H' : AHeap) : Prop := ∀ i b, H.get i = some b → H'.get i = some b
theorem Keeps.refl (H : AHeap) : Keeps H H := fun _ _ h => h
theorem Keeps.trans {A B C : AHeap} (h : Keeps A B) (k : Keeps B C) : Keeps A C := fun i b hb => k i b (h i b hb)

def TyFields (p : TypeId → List Value → Prop) : List Field → List Value → Prop
  | [], cs => cs = []
  | f :: fs, cs => ∃ a b, cs = a ++ b ∧ p f.type a ∧ TyFields p fs b
def TyRep (p : List Value → Prop) : Nat → List Value → Prop
  | 0, cs => cs = []
  | m + 1, cs => ∃ a b, cs = a ++ b ∧ p a ∧ TyRep p m b

/-- cells that hold data of a type -/
def TyV (P : Program) (H : AHeap) : Nat → TypeId → List Value → Prop
  | 0, _, _ => False
  | n + 1, t, cs => match P.underlying t with
    | some .bool => ∃ b, cs = [.bool b]
    | some (.int k) => ∃ m, cs = [.int k m] ∧ (Lit.int k m).wf = true
    | some .string => ∃ s, cs = [.string s] ∧ s.size ≤ reachBytes
    | some (.slice e) => cs = [.slice none 0 0] ∨ ∃ i len b, cs = [.slice (some ⟨i, 0, none⟩) len len] ∧ len ≤ reachBytes ∧ H.get i = some b ∧ b.mode = .ro ∧ b.cells.length = len * P.cellsOf e ∧ TyRep (TyV P H n e) len b.cells
    | some (.struct fs) => TyFields (fun t cs => TyV P H n t cs) fs.toList cs
    | some (.array m e) => TyRep (TyV P H n e) m cs
    | _ => False

theorem TyFields.mono {p q : TypeId → List Value → Prop} (h : ∀ t cs, p t cs → q t cs) : ∀ {fs : List Field} {cs : List Value}, TyFields p fs cs → TyFields q fs cs := by
  intro fs
  induction fs with
  | nil => intro cs h; exact h
  | cons f fs ih => intro cs hh; obtain ⟨a, b, e, h1, h2⟩ := hh; exact ⟨a, b, e, h _ _ h1, ih h2⟩
theorem TyRep.mono {p q : List Value → Prop} (h : ∀ cs, p cs → q cs) : ∀ {m : Nat} {cs : List Value}, TyRep p m cs → TyRep q m cs := by
  intro m
  induction m with
  | zero => intro cs h; exact h
  | succ m ih => intro cs hh; obtain ⟨a, b, e, h1, h2⟩ := hh; exact ⟨a, b, e, h _ h1, ih h2⟩
theorem TyV.mono {P : Program} {H H' : AHeap} (hk : Keeps H H') : ∀ {n : Nat} {t : TypeId} {cs : List Value}, TyV P H n t cs → TyV P H' n t cs := by
  intro n
  induction n with
  | zero => intro t cs h; exact h
  | succ n ih =>
    intro t cs h
    simp only [TyV] at h ⊢
    split at h
    · exact h
    · exact h
    · exact h
    · rcases h with h | ⟨i, len, b, h1, h2, h3, h4, h5, h6⟩
      · exact .inl h
      · exact .inr ⟨i, len, b, h1, h2, hk _ _ h3, h4, h5, h6.mono fun _ => ih⟩
    · exact h.mono fun _ _ => ih
    · exact h.mono fun _ => ih
    · exact h

def layFields (P : Program) : List Field → Nat → Option Nat
  | [], o => some o
  | f :: fs, o => if f.offset = o then layFields P fs (o + P.cellsOf f.type) else none
def layOk (P : Program) : Nat → TypeId → Bool
  | 0, _ => false
  | n + 1, t => match P.underlying t with
    | some .bool => true
    | some (.int _) => true
    | some .string => true
    | some (.slice e) => decide (0 < P.cellsOf e) && (decide (0 < P.bytesOf e) && layOk P n e)
    | some (.struct fs) => (layFields P fs.toList 0 == some (P.cellsOf t)) && fs.toList.all fun f => layOk P n f.type
    | some (.array m e) => (P.cellsOf t == m * P.cellsOf e) && layOk P n e
    | _ => false

section
variable {H0 : Type} {enc : TypeId × Value → H0} {P : Program} {W : World} {spare : Nat → Bool} {held : Bool}

/-- a block that is only read -/
theorem Rel.addRo {ρ : Ren} {H : AHeap} (h : Rel W ρ H W) (cells : List Value) (ad : Addr) (sl : Nat)
    (hc : (cells ≠ [] → ad.block < W.heap.size) ∧ ∀ (m : Nat) v, cells[m]? = some v → ∃ v', W.cell? (ad.add m) = some v' ∧ SRel ρ v v') :
    Rel W (ρ.ext H.next (ad, sl)) (H.alloc none ⟨cells, 0, .ro, 0⟩) W ∧ ρ.le (ρ.ext H.next (ad, sl)) ∧ Keeps H (H.alloc none ⟨cells, 0, .ro, 0⟩) := by
  have hρ : ρ H.next = none := (h.dom _).1 (h.fresh _ (Nat.le_refl _))
  have hle := Ren.ext_le hρ (ad, sl)
  have hget : ∀ j, (H.alloc none ⟨cells, 0, .ro, 0⟩).get j = if j = H.next then some (⟨cells, 0, .ro, 0⟩ : Blk) else H.get j := fun j => rfl
  have hkeep : Keeps H (H.alloc none ⟨cells, 0, .ro, 0⟩) := by
    intro i b hb
    rw [hget, if_neg (fun e => by rw [e, h.fresh _ (Nat.le_refl _)] at hb; cases hb)]
    exact hb
  refine ⟨⟨h.below, ?_, ?_, ?_, ?_⟩, hle, hkeep⟩
  · intro i
    rw [hget]
    unfold Ren.ext
    split
    · simp
    · exact h.dom i
  · intro i b hb
    rw [hget] at hb
    split at hb
    · rename_i e; subst e
      cases hb
      refine ⟨_, _, Ren.ext_self _ _ _, ?_⟩
      unfold BlkRel
      exact ⟨hc.1, fun m v hv => let ⟨v', h1, h2⟩ := hc.2 m v hv; ⟨v', h1, h2.mono hle⟩⟩
    · obtain ⟨ad', sl', hr, hb'⟩ := h.blk i b hb
      exact ⟨ad', sl', hle _ _ hr, hb'.mono hle⟩
  · intro i j b1 b2 ad1 sl1 ad2 sl2 h1 m1 h2 m2 hne r1 r2
    rw [hget] at h1 h2
    unfold Ren.ext at r1 r2
    split at h1
    · cases h1; cases m1
    · rename_i e1
      rw [if_neg e1] at r1
      split at h2
      · cases h2; cases m2
      · rename_i e2
        rw [if_neg e2] at r2
        exact h.inj i j b1 b2 ad1 sl1 ad2 sl2 h1 m1 h2 m2 hne r1 r2
  · intro i hi
    have hi' : H.next + 1 ≤ i := hi
    rw [hget, if_neg (by omega)]
    exact h.fresh i (by omega)

def Imp (_P : Program) (W : World) (cs : List Value) (p : AHeap → List Value → Prop) : Prop :=
  ∀ H ρ, Rel W ρ H W → ∃ H' ρ' as, Rel W ρ' H' W ∧ ρ.le ρ' ∧ Keeps H H' ∧ All2 (SRel ρ') as cs ∧ p H' as

theorem Imp.scalar {v : Value} {p : AHeap → List Value → Prop} (hv : closedV v = true) (hp : ∀ H, p H [v]) : Imp P W [v] p :=
  fun H ρ h => ⟨H, ρ, [v], h, Ren.le_refl _, Keeps.refl _, .cons (.inl (closedV_rel ρ hv)) .nil, hp H⟩

theorem mapM_all {α β : Type} {f : α → Option β} : ∀ {l : List α} {r : List β}, l.mapM f = some r → ∀ x ∈ l, ∃ y, f x = some y := by
  intro l
  induction l with
  | nil => intro r _ x hx; cases hx
  | cons a l ih =>
    intro r h x hx
    simp only [List.mapM_cons, Option.bind_eq_bind, Option.bind_eq_some_iff] at h
    obtain ⟨y, hy, ys, hys, _⟩ := h
    rcases List.mem_cons.1 hx with e | hx
    · subst e; exact ⟨y, hy⟩
    · exact ih hys x hx

theorem mapM_weightsEach {g : Field → Option (DataW H0 × List MemPlace)} : ∀ {l : List Field} {r : List (DataW H0 × List MemPlace)}, l.mapM g = some r →
    ∀ f ∈ l, ∃ y, g f = some y ∧ ∀ w ∈ y.1.weights P f.type, w ∈ DataW.weightsEach P (l.map (·.type)) (r.map (·.1)) := by
  intro l
  induction l with
  | nil => intro r _ f hf; cases hf
  | cons x xs ih =>
    intro r h f hf
    simp only [List.mapM_cons, Option.bind_eq_bind, Option.bind_eq_some_iff] at h
    obtain ⟨y, hy, ys, hys, e⟩ := h
    cases e
    rcases List.mem_cons.1 hf with e | hf
    · subst e
      exact ⟨y, hy, fun w hw => by simp only [List.map_cons, DataW.weightsEach]; exact List.mem_append_left _ hw⟩
    · obtain ⟨z, hz, hw⟩ := ih hys f hf
      exact ⟨z, hz, fun w h => by simp only [List.map_cons, DataW.weightsEach]; exact List.mem_append_right _ (hw w h)⟩
theorem weightsAll_mem {e : TypeId} {y : DataW H0 × List MemPlace} {w : Nat} : ∀ {l : List (DataW H0 × List MemPlace)}, y ∈ l → w ∈ y.1.weights P e → w ∈ DataW.weightsAll P e (l.map (·.1)) := by
  intro l
  induction l with
  | nil => intro h; cases h
  | cons x xs ih =>
    intro h hw
    simp only [List.map_cons, DataW.weightsAll]
    rcases List.mem_cons.1 h with e | h
    · subst e; exact List.mem_append_left _ hw
    · exact List.mem_append_right _ (ih h hw)
theorem mapM_mem {α β : Type} {f : α → Option β} : ∀ {l : List α} {r : List β}, l.mapM f = some r → ∀ x ∈ l, ∃ y, f x = some y ∧ y ∈ r := by
  intro l
  induction l with
  | nil => intro r _ x hx; cases hx
  | cons a l ih =>
    intro r h x hx
    simp only [List.mapM_cons, Option.bind_eq_bind, Option.bind_eq_some_iff] at h
    obtain ⟨y, hy, ys, hys, e⟩ := h
    cases e
    rcases List.mem_cons.1 hx with e | hx
    · subst e; exact ⟨y, hy, by simp⟩
    · obtain ⟨z, hz, hm⟩ := ih hys x hx
      exact ⟨z, hz, List.mem_cons_of_mem _ hm⟩

theorem imp_rep {p : AHeap → List Value → Prop} (hmono : ∀ H H' as, Keeps H H' → p H as → p H' as) {sz : Nat} {cs : List Value} :
    ∀ (m o : Nat), o + m * sz = cs.length → (∀ i, i < m → Imp P W ((cs.drop (o + i * sz)).take sz) p) → Imp P W (cs.drop o) (fun H as => TyRep (p H) m as ∧ as.length = m * sz) := by
  intro m
  induction m with
  | zero =>
    intro o ho _ H ρ hR
    have : cs.drop o = [] := by rw [List.drop_eq_nil_iff]; simp at ho; omega
    rw [this]
    exact ⟨H, ρ, [], hR, Ren.le_refl _, Keeps.refl _, .nil, rfl, by simp⟩
  | succ m ih =>
    intro o ho hi H ρ hR
    rw [Nat.succ_mul] at ho
    obtain ⟨H1, ρ1, as1, r1, l1, k1, a1, p1⟩ := hi 0 (by omega) H ρ hR
    obtain ⟨H2, ρ2, as2, r2, l2, k2, a2, p2⟩ := ih (o + sz) (by omega) (fun i hh => by
      have := hi (i + 1) (by omega)
      rw [Nat.succ_mul] at this
      rw [show o + sz + i * sz = o + (i * sz + sz) from by omega]
      exact this) H1 ρ1 r1
    have hsplit : cs.drop o = (cs.drop (o + 0 * sz)).take sz ++ cs.drop (o + sz) := by
      simp only [Nat.zero_mul, Nat.add_zero]
      rw [← List.drop_drop, List.take_append_drop]
    refine ⟨H2, ρ2, as1 ++ as2, r2, Ren.le_trans l1 l2, Keeps.trans k1 k2, ?_, ⟨as1, as2, rfl, hmono _ _ _ k2 p1, p2.1⟩, ?_⟩
    · rw [hsplit]
      exact (a1.mono fun _ _ => SRel.mono l2).append a2
    · have := a1.length
      rw [List.length_append, p2.2, this, Nat.succ_mul]
      simp
      omega

theorem imp_fields {p : AHeap → TypeId → List Value → Prop} (hmono : ∀ H H' t as, Keeps H H' → p H t as → p H' t as) {cs : List Value} {tot : Nat} (hlen : cs.length = tot) :
    ∀ (fs : List Field) (o : Nat), layFields P fs o = some tot → (∀ f ∈ fs, Imp P W ((cs.drop f.offset).take (P.cellsOf f.type)) (fun H as => p H f.type as)) →
      Imp P W (cs.drop o) (fun H as => TyFields (p H) fs as) := by
  intro fs
  induction fs with
  | nil =>
    intro o ho _ H ρ hR
    simp only [layFields, Option.some.injEq] at ho
    have : cs.drop o = [] := by rw [List.drop_eq_nil_iff]; omega
    rw [this]
    exact ⟨H, ρ, [], hR, Ren.le_refl _, Keeps.refl _, .nil, rfl⟩
  | cons f fs ih =>
    intro o ho hi H ρ hR
    simp only [layFields] at ho
    split at ho
    · rename_i e
      obtain ⟨H1, ρ1, as1, r1, l1, k1, a1, p1⟩ := hi f (by simp) H ρ hR
      obtain ⟨H2, ρ2, as2, r2, l2, k2, a2, p2⟩ := ih _ ho (fun g hg => hi g (by simp [hg])) H1 ρ1 r1
      refine ⟨H2, ρ2, as1 ++ as2, r2, Ren.le_trans l1 l2, Keeps.trans k1 k2, ?_, ⟨as1, as2, rfl, hmono _ _ _ _ k2 p1, p2⟩⟩
      have hsplit : cs.drop o = (cs.drop f.offset).take (P.cellsOf f.type) ++ cs.drop (o + P.cellsOf f.type) := by
        rw [e, ← List.drop_drop, List.take_append_drop]
      rw [hsplit]
      exact (a1.mono fun _ _ => SRel.mono l2).append a2
    · cases ho

theorem cells?_get {base : Nat} {a : Addr} {n : Nat} {l : List Value} (h : W.cells? base a n = some l) : l.length = n ∧ ∀ i v, l[i]? = some v → W.cell? (a.add i) = some v := by
  unfold World.cells? at h
  split at h
  · have key : ∀ (xs : List Nat) (r : List Value), xs.mapM (fun i => W.cell? (a.add i)) = some r → r.length = xs.length ∧ ∀ (i : Nat) v, r[i]? = some v → ∃ x, xs[i]? = some x ∧ W.cell? (a.add x) = some v := by
      intro xs
      induction xs with
      | nil => intro r h; simp at h; subst h; simp
      | cons x xs ih =>
        intro r h
        simp only [List.mapM_cons, Option.bind_eq_bind, Option.bind_eq_some_iff] at h
        obtain ⟨y, hy, ys, hys, e⟩ := h
        cases e
        obtain ⟨h1, h2⟩ := ih ys hys
        refine ⟨by simp [h1], fun i v hv => ?_⟩
        cases i with
        | zero => simp at hv; subst hv; exact ⟨x, by simp, hy⟩
        | succ i => simpa using h2 i v (by simpa using hv)
    obtain ⟨h1, h2⟩ := key _ _ h
    refine ⟨by simpa using h1, fun i v hv => ?_⟩
    obtain ⟨x, hx, hc⟩ := h2 i v hv
    have : x = i := by
      have hlt : i < n := by
        have := (List.getElem?_eq_some_iff.1 hx).1
        simpa using this
      rw [List.getElem?_range hlt] at hx
      exact (Option.some.inj hx).symm
    rw [this] at hc
    exact hc
  · cases h

theorem imp : ∀ (n fuel : Nat) (t : TypeId) (cs : List Value) (x : DataW H0 × List MemPlace), DataW.trod enc P W 0 spare held fuel t cs = some x → layOk P n t = true → (∀ w ∈ x.1.weights P t, w ≤ reachBytes) →
    Imp P W cs (fun H as => TyV P H n t as) := by
  intro n
  induction n with
  | zero => intro fuel t cs x _ h _; cases h
  | succ n ih =>
    intro fuel t cs x h hl hz
    have hmono : ∀ H H' t as, Keeps H H' → TyV P H n t as → TyV P H' n t as := fun H H' t as hk h => h.mono hk
    cases fuel with
    | zero => simp [DataW.trod] at h
    | succ fuel =>
      simp only [layOk] at hl
      split at hl
      · rename_i ht
        unfold DataW.trod at h
        rw [ht] at h
        split at h <;> try (simp_all; done)
        rename_i b hb
        exact Imp.scalar rfl fun H => by simp only [TyV, ht]; exact ⟨_, rfl⟩
      · rename_i k ht
        unfold DataW.trod at h
        rw [ht] at h
        split at h <;> try (simp_all; done)
        rename_i k1 k2 m hb
        cases hb
        split at h
        · rename_i hc
          obtain ⟨rfl, hw⟩ := hc
          exact Imp.scalar rfl fun H => by simp only [TyV, ht]; exact ⟨_, rfl, hw⟩
        · cases h
      · rename_i ht
        unfold DataW.trod at h
        rw [ht] at h
        split at h <;> try (simp_all; done)
        rename_i s hb
        split at h
        · rename_i hs
          cases h
          have hs' : s.size ≤ reachBytes := hz _ (by simp only [DataW.weights, List.mem_singleton]; exact (Array.length_toList (xs := s.data)).symm)
          exact Imp.scalar rfl fun H => by simp only [TyV, ht]; exact ⟨_, rfl, hs'⟩
        · cases h
      · rename_i e ht
        simp only [Bool.and_eq_true, decide_eq_true_eq] at hl
        obtain ⟨hsz, hby, hle⟩ := hl
        rcases DataW.trod_slice ht h with ⟨rfl, _⟩ | ⟨a, len, cap, elems, rest, m, hm, rfl, rfl, hb, hlc, hcm, hlen, hel, _, _⟩
        · exact Imp.scalar rfl fun H => by simp [TyV, ht]
        · cases hm
          simp only [DataW.weights, ht] at hz
          have hz1 := hz _ (List.mem_cons_self ..)
          have hz2 : ∀ w ∈ DataW.weightsAll P e (elems.map (·.1)), w ≤ reachBytes := fun w hw => hz w (List.mem_cons_of_mem _ (List.mem_append_left _ hw))
          have hreach : len ≤ reachBytes := by
            simp only [List.length_map] at hz1
            rw [hlen] at hz1
            have h1 : (len + rest.length) * 1 ≤ (len + rest.length) * P.bytesOf e := Nat.mul_le_mul_left _ hby
            omega
          -- the elements' cells
          have hcells : ∀ i, i < len → ∃ l, W.cells? 0 (a.add (i * P.cellsOf e)) (P.cellsOf e) = some l ∧ ∃ y, DataW.trod enc P W 0 spare held fuel e l = some y ∧ ∀ w ∈ y.1.weights P e, w ≤ reachBytes := by
            intro i hi
            have := hel i hi
            rw [List.getElem?_eq_getElem (by omega)] at this
            obtain ⟨l, h1, h2⟩ := Option.bind_eq_some_iff.1 this
            exact ⟨l, h1, _, h2, fun w hw => hz2 w (weightsAll_mem (List.getElem_mem (by omega)) hw)⟩
          let cell (m : Nat) : Value := (W.cell? (a.add m)).getD undef
          have hcell : ∀ m, m < len * P.cellsOf e → W.cell? (a.add m) = some (cell m) := by
            intro m hm
            have hd : m / P.cellsOf e < len := by rw [Nat.div_lt_iff_lt_mul hsz]; exact hm
            obtain ⟨l, h1, _⟩ := hcells _ hd
            obtain ⟨q1, q2⟩ := cells?_get h1
            have hr : m % P.cellsOf e < l.length := by rw [q1]; exact Nat.mod_lt _ hsz
            have := q2 (m % P.cellsOf e) _ (List.getElem?_eq_getElem hr)
            rw [Addr.add_add, show m / P.cellsOf e * P.cellsOf e + m % P.cellsOf e = m from by rw [Nat.mul_comm]; exact Nat.div_add_mod m _] at this
            simp only [cell, this, Option.getD_some]
          have hbig : Imp P W ((List.range (len * P.cellsOf e)).map cell) (fun H as => TyRep (TyV P H n e) len as ∧ as.length = len * P.cellsOf e) := by
            have := imp_rep (P := P) (W := W) (p := fun H as => TyV P H n e as) (fun H H' as => hmono H H' e as) (sz := P.cellsOf e) (cs := (List.range (len * P.cellsOf e)).map cell) len 0 (by simp) (fun i hi => by
              obtain ⟨l, h1, y, h2, h3⟩ := hcells i hi
              obtain ⟨q1, q2⟩ := cells?_get h1
              have : (((List.range (len * P.cellsOf e)).map cell).drop (0 + i * P.cellsOf e)).take (P.cellsOf e) = l := by
                apply List.ext_getElem?
                intro j
                have hmul : i * P.cellsOf e + P.cellsOf e ≤ len * P.cellsOf e := by
                  rw [← Nat.succ_mul]; exact Nat.mul_le_mul_right _ hi
                rw [List.getElem?_take]
                split
                · rename_i hj
                  rw [List.getElem?_drop, List.getElem?_map, List.getElem?_range (by omega)]
                  have hj2 : j < l.length := by omega
                  rw [List.getElem?_eq_getElem hj2]
                  have := q2 j _ (List.getElem?_eq_getElem hj2)
                  rw [Addr.add_add] at this
                  simp [cell, this]
                · rw [List.getElem?_eq_none (by omega)]
              rw [this]
              exact ih fuel e l y h2 hle h3)
            simpa using this
          intro H ρ hR
          obtain ⟨H1, ρ1, as, r1, l1, k1, a1, p1, p2⟩ := hbig H ρ hR
          obtain ⟨r2, l2, k2⟩ := Rel.addRo r1 as a (cap - len) ⟨fun hne => by
              have hpos : 0 < len * P.cellsOf e := by
                rcases Nat.eq_zero_or_pos (len * P.cellsOf e) with h0 | h0
                · rw [h0] at p2; exact absurd (List.eq_nil_of_length_eq_zero p2) hne
                · exact h0
              have := World.block_lt_of_cell? W (a.add 0) (hcell 0 hpos)
              rwa [Addr.add_block] at this, fun m v hv => by
              obtain ⟨v', h1, h2⟩ := a1.get m v hv
              have hm : m < len * P.cellsOf e := by rw [← p2]; exact (List.getElem?_eq_some_iff.1 hv).1
              rw [List.getElem?_map, List.getElem?_range hm] at h1
              cases h1
              exact ⟨_, hcell m hm, h2⟩⟩
          refine ⟨_, _, [.slice (some ⟨H1.next, 0, none⟩) len len], r2, Ren.le_trans l1 l2, Keeps.trans k1 k2, .cons (.inl ⟨Nat.le_refl _, .inr ⟨a, cap - len, Ren.ext_self _ _ _, ?_⟩⟩) .nil, ?_⟩
          · simp only [Option.isSome_none, Bool.false_eq_true, if_false]
            rw [show len + (cap - len) = cap from by omega]
            rfl
          · simp only [TyV, ht]
            refine .inr ⟨H1.next, len, ⟨as, 0, .ro, 0⟩, rfl, hreach, ?_, rfl, p2, p1.mono fun _ => TyV.mono k2⟩
            show (if H1.next = H1.next then some (⟨as, 0, .ro, 0⟩ : Blk) else H1.get H1.next) = _
            rw [if_pos rfl]
      · rename_i fs ht
        simp only [Bool.and_eq_true, beq_iff_eq, List.all_eq_true] at hl
        obtain ⟨hl1, hl2⟩ := hl
        unfold DataW.trod at h
        rw [ht] at h
        have h' : (if cs.length = P.cellsOf t then ((fs.toList.mapM fun f => DataW.trod enc P W 0 spare held fuel f.type ((cs.drop f.offset).take (P.cellsOf f.type))).map fun xs => (DataW.agg (xs.map (·.1)), xs.flatMap (·.2))) else none) = some x := by
          split at h <;> first | exact h | simp_all
        split at h'
        · rename_i hlen
          obtain ⟨xs, hxs, rfl⟩ := Option.map_eq_some_iff.1 h'
          simp only [DataW.weights, ht] at hz
          have := imp_fields (P := P) (W := W) (p := fun H t as => TyV P H n t as) (fun H H' t as => hmono H H' t as) hlen fs.toList 0 hl1 (fun f hf => by
            obtain ⟨y, hy, hw⟩ := mapM_weightsEach (P := P) hxs f hf
            exact ih fuel f.type _ y hy (hl2 f hf) (fun w h => hz w (hw w h)))
          simp only [List.drop_zero] at this
          intro H ρ hR
          obtain ⟨H1, ρ1, as, r1, l1, k1, a1, p1⟩ := this H ρ hR
          exact ⟨H1, ρ1, as, r1, l1, k1, a1, by simp only [TyV, ht]; exact p1⟩
        · cases h'
      · rename_i m e ht
        simp only [Bool.and_eq_true, beq_iff_eq] at hl
        obtain ⟨hl1, hl2⟩ := hl
        unfold DataW.trod at h
        rw [ht] at h
        have h' : (if cs.length = P.cellsOf t then ((List.range m).mapM fun i => DataW.trod enc P W 0 spare held fuel e ((cs.drop (i * P.cellsOf e)).take (P.cellsOf e))).map (fun xs => (DataW.agg (xs.map (·.1)), xs.flatMap (·.2))) else none) = some x := by
          split at h <;> first | exact h | simp_all
        split at h'
        · rename_i hlen
          obtain ⟨xs, hxs, rfl⟩ := Option.map_eq_some_iff.1 h'
          simp only [DataW.weights, ht] at hz
          have := imp_rep (P := P) (W := W) (p := fun H as => TyV P H n e as) (fun H H' as => hmono H H' e as) (sz := P.cellsOf e) (cs := cs) m 0 (by omega) (fun i hi => by
            obtain ⟨y, hy, hm⟩ := mapM_mem hxs i (by simpa using hi)
            simpa using ih fuel e _ y hy hl2 (fun w h => hz w (weightsAll_mem hm h)))
          simp only [List.drop_zero] at this
          intro H ρ hR
          obtain ⟨H1, ρ1, as, r1, l1, k1, a1, p1, _⟩ := this H ρ hR
          exact ⟨H1, ρ1, as, r1, l1, k1, a1, by simp only [TyV, ht]; exact p1⟩
        · cases h'
      · cases hl
end
end Go.Mx
end

section
set_option linter.unusedSimpArgs false
/- A law is true when the machine comes to true on all data of its types. -/
namespace Go.Mx
open Go Go.RowKit

def aggT (P : Program) (t : TypeId) : Bool := match P.underlying t with
  | some d => isAggD d
  | none => false

/-- a value that holds data of a type -/
structure ArgV (P : Program) (H : AHeap) (n : Nat) (t : TypeId) (v : Value) : Prop where
  out : bif aggT P t then ∃ cs : List Value, v = .agg cs.toArray ∧ TyV P H n t cs else TyV P H n t [v]

theorem ArgV.mono {P : Program} {H H' : AHeap} {n : Nat} {t : TypeId} {v : Value} (hk : Keeps H H') (h : ArgV P H n t v) : ArgV P H' n t v := by
  have h := h.out
  refine ⟨?_⟩
  cases ha : aggT P t
  · rw [ha] at h; exact TyV.mono hk h
  · rw [ha] at h
    obtain ⟨cs, e, h⟩ := h
    exact ⟨cs, e, h.mono hk⟩

def ArgsV (P : Program) (H : AHeap) (n : Nat) (ts : List TypeId) (vs : List Value) : Prop := All2 (ArgV P H n) ts vs

section
variable {H0 : Type} {enc : TypeId × Value → H0} {P : Program} {W : World} {spare : Nat → Bool} {held : Bool}

theorem okWide_notAgg {b : Nat} {t : TypeId} {v : Value} (ha : aggT P t = false) {n : Nat} (hl : layOk P n t = true) (hv : Value.okWide P W .any b t v) : v.cells = #[v] := by
  cases n with
  | zero => cases hl
  | succ n =>
    have hne : ∀ c d, P.underlying t = some c → Value.okWide P W .any b t v → isAggD c = d → aggT P t = d := fun c d h _ e => by unfold aggT; rw [h]; exact e
    simp only [layOk] at hl
    unfold Value.okWide at hv
    unfold aggT at ha
    cases hu : P.underlying t with
    | none => simp [hu] at hl
    | some d =>
      cases d <;> simp only [hu] at hl hv ha <;> try (cases hl; done)
      all_goals first
        | (cases ha; done)
        | (cases v <;> simp [Cell.okWide, Cell.ok, hu] at hv <;> rfl)

theorem imp_arg {b n : Nat} {t : TypeId} {v : Value} {d : DataW H0} {p : List MemPlace} (hl : layOk P n t = true) (ht : DataW.Trod enc P W 0 spare held t v d p)
    (hv : Value.okWide P W .any b t v) (hz : ∀ w ∈ d.weights P t, w ≤ reachBytes) : ∀ H ρ, Rel W ρ H W → ∃ H' ρ' a, Rel W ρ' H' W ∧ ρ.le ρ' ∧ Keeps H H' ∧ VRel ρ' a v ∧ ArgV P H' n t a := by
  intro H ρ hR
  obtain ⟨fuel, hf⟩ := ht
  obtain ⟨H1, ρ1, as, r1, l1, k1, a1, p1⟩ := imp n fuel t v.cells.toList _ hf hl hz H ρ hR
  cases ha : aggT P t
  · rw [okWide_notAgg ha hl hv] at a1
    cases a1 with
    | cons hs hr =>
      cases hr
      refine ⟨H1, ρ1, _, r1, l1, k1, .inl (.inl hs), ?_⟩
      refine ⟨?_⟩
      rw [ha]
      exact p1
  · have : ∃ cs, v = .agg cs := by
      unfold Value.okWide at hv
      unfold aggT at ha
      cases hu : P.underlying t with
      | none => simp [hu] at ha
      | some d => cases d <;> simp [hu, isAggD] at ha <;> simp only [hu] at hv <;> (obtain ⟨cs, h, _⟩ := hv; exact ⟨cs, h⟩)
    obtain ⟨cs, rfl⟩ := this
    refine ⟨H1, ρ1, .agg as.toArray, r1, l1, k1, .inl (.inr ⟨as.toArray, cs, rfl, rfl, ?_⟩), ?_⟩
    · simpa [Value.cells] using a1
    · refine ⟨?_⟩
      rw [ha]
      exact ⟨as, rfl, p1⟩

/-- what is given of each argument -/
def Given (enc : TypeId × Value → H0) (P : Program) (W : World) (t : TypeId) (v : Value) : Prop :=
  (∃ d p spare held, DataW.Trod enc P W 0 spare held t v d p ∧ ∀ w ∈ d.weights P t, w ≤ reachBytes) ∧ ∃ b, Value.okWide P W .any b t v

theorem imp_args {n : Nat} : ∀ (ts : List TypeId) (vs : List Value), All2 (Given enc P W) ts vs → (∀ t ∈ ts, layOk P n t = true) →
    ∀ H ρ, Rel W ρ H W → ∃ H' ρ' as, Rel W ρ' H' W ∧ ρ.le ρ' ∧ Keeps H H' ∧ All2 (VRel ρ') as vs ∧ ArgsV P H' n ts as := by
  intro ts vs h
  induction h with
  | nil => intro _ H ρ hR; exact ⟨H, ρ, [], hR, Ren.le_refl _, Keeps.refl _, .nil, .nil⟩
  | cons hg _ ih =>
    intro hl H ρ hR
    obtain ⟨⟨d, p, spare, held, ht, hz⟩, b, hv⟩ := hg
    obtain ⟨H1, ρ1, a, r1, l1, k1, a1, p1⟩ := imp_arg (hl _ (by simp)) ht hv hz H ρ hR
    obtain ⟨H2, ρ2, as, r2, l2, k2, a2, p2⟩ := ih (fun t ht => hl t (by simp [ht])) H1 ρ1 r1
    exact ⟨H2, ρ2, a :: as, r2, Ren.le_trans l1 l2, Keeps.trans k1 k2, .cons (a1.mono l2) a2, .cons (p1.mono k2) p2⟩

/-- the empty heap -/
def emptyH : AHeap := { get := fun _ => none, next := 0 }
theorem rel_empty : Rel W (fun _ => none) emptyH W :=
  ⟨Below.refl _ _, fun _ => ⟨fun _ => rfl, fun _ => rfl⟩, (fun _ _ h => nomatch h), (fun _ _ _ _ _ _ _ _ h => nomatch h), fun _ _ => rfl⟩

/-- the machine comes to true -/
def LawOk (O : FuncId → Option Bool) (P : Program) (f n : Nat) (ts : List TypeId) : Prop :=
  ∀ H as, (∀ i, H.next ≤ i → H.get i = none) → ArgsV P H n ts as → ∃ k H', acallO O P k f as H = some (.bool true, H')

theorem true_calls (hm : P.follows .mixedOrders = true) {O : FuncId → Option Bool}
    (hO : ∀ f b, O f = some b → ∀ w, Calls P f #[] w fun e w' => e = .returned (.bool b) ∧ Below w.heap.size w w') {W : World} {f : FuncId} {args : Array Value} {as : List Value} {b : Bool} {H H' : AHeap} {ρ : Ren}
    (r : Rel W ρ H W) (a : All2 (VRel ρ) as args.toList) {k : Nat} (h : acallO O P k f as H = some (.bool b, H')) : Calls P f args W fun e w' => e = .returned (.bool b) ∧ Below W.heap.size W w' := by
  refine (acall_sound hm hO W k f as H _ H' h ρ W args r a).mono fun e w' ⟨v', ρ', he, hv, hR, _⟩ => ⟨?_, hR.below⟩
  rw [he]
  rcases hv with (hs | ⟨_, _, h, _⟩) | ⟨_, _, h, _⟩
  · rcases hs with hb | ⟨_, _, _, h, _⟩
    · have : v' = .bool b := hb
      rw [this]
    · cases h
  · cases h
  · cases h

/-- a function without parameters, as the kernel runs it -/
def Known (P : Program) (O : FuncId → Option Bool) : Prop := ∀ f b, O f = some b → ∃ k H', acall P k f [] emptyH = some (.bool b, H')
theorem known_calls (hm : P.follows .mixedOrders = true) {O : FuncId → Option Bool} (h : Known P O) : ∀ f b, O f = some b → ∀ w, Calls P f #[] w fun e w' => e = .returned (.bool b) ∧ Below w.heap.size w w' := by
  intro f b hf w
  obtain ⟨k, H', hk⟩ := h f b hf
  exact true_calls hm (fun _ _ h => by cases h) rel_empty .nil hk

theorem law_calls (hm : P.follows .mixedOrders = true) {O : FuncId → Option Bool} (hO : Known P O) {f n : Nat} {ts : List TypeId} (hl : ts.all (layOk P n) = true) (hp : LawOk O P f n ts) {args : Array Value}
    (hg : All2 (Given enc P W) ts args.toList) : Calls P f args W fun e w' => e = .returned (.bool true) ∧ Below W.heap.size W w' := by
  obtain ⟨H, ρ, as, r, _, _, a, p⟩ := imp_args ts args.toList hg (fun t ht => List.all_eq_true.1 hl t ht) emptyH _ rel_empty
  obtain ⟨k, H', h⟩ := hp H as r.fresh p
  exact true_calls hm (known_calls hm hO) r a h
end
end Go.Mx
end

section
set_option linter.unusedSimpArgs false
/- Words in which the functions of a program are printed. -/
namespace Go.Mx
open Go

/-- the code at a path -/
def Sub : Code → List Nat → Code
  | c, [] => c
  | .seq a _, 0 :: p => Sub a p
  | .seq _ b, 1 :: p => Sub b p
  | .block _ a, 0 :: p => Sub a p
  | .loop a, 0 :: p => Sub a p
  | .cond _ a _, 0 :: p => Sub a p
  | .cond _ _ b, 1 :: p => Sub b p
  | c, _ => c
def bodyOf (f : Func) : Code := match f.body with
  | some c => c
  | none => .skip

section
variable {R : Type}
def alK (slot : Option Nat) (H : AHeap) (b : Blk) (K : Nat → AHeap → Option R) : Option R := K (H.newId slot) (H.alloc slot b)
def cI (k : IntKind) (X : Option (Value × AHeap)) (K : Int → AHeap → Option R) : Option R := X.bind fun p => (asI k p.1).bind fun n => K n p.2
def cB (X : Option (Value × AHeap)) (K : Bool → AHeap → Option R) : Option R := X.bind fun p => (asB p.1).bind fun n => K n p.2
def cS (X : Option (Value × AHeap)) (K : ByteArray → AHeap → Option R) : Option R := X.bind fun p => (asS p.1).bind fun n => K n p.2
def cP (X : Option (Value × AHeap)) (K : Option Addr → AHeap → Option R) : Option R := X.bind fun p => (asPt p.1).bind fun n => K n p.2
def cG (X : Option (Value × AHeap)) (K : Array Value → AHeap → Option R) : Option R := X.bind fun p => (asAg p.1).bind fun n => K n p.2
def cT (X : Option (Value × AHeap)) (K : Array Value → AHeap → Option R) : Option R := X.bind fun p => (asTp p.1).bind fun n => K n p.2
def cV (X : Option (Value × AHeap)) (K : Value → AHeap → Option R) : Option R := X.bind fun p => K p.1 p.2
def cSl (X : Option (Value × AHeap)) (K : Option Addr → Nat → Nat → AHeap → Option R) : Option R := X.bind fun p => (asSl p.1).bind fun s => K s.1 s.2.1 s.2.2 p.2
def bSl (X : Option (Option Addr × Nat × Nat)) (K : Option Addr → Nat → Nat → Option R) : Option R := X.bind fun s => K s.1 s.2.1 s.2.2
def exI (k : IntKind) (X : Option Value) (K : Int → Option R) : Option R := X.bind fun v => (asI k v).bind K
def exB (X : Option Value) (K : Bool → Option R) : Option R := X.bind fun v => (asB v).bind K
def exS (X : Option Value) (K : ByteArray → Option R) : Option R := X.bind fun v => (asS v).bind K
def exP (X : Option Value) (K : Option Addr → Option R) : Option R := X.bind fun v => (asPt v).bind K
def exG (X : Option Value) (K : Array Value → Option R) : Option R := X.bind fun v => (asAg v).bind K
def exT (X : Option Value) (K : Array Value → Option R) : Option R := X.bind fun v => (asTp v).bind K
def exSl (X : Option Value) (K : Option Addr → Nat → Nat → Option R) : Option R := X.bind fun v => (asSl v).bind fun s => K s.1 s.2.1 s.2.2
/-- a struct or an array out of parts -/
def buildK (P : Program) (ty : TypeId) (vs : List (Nat × Value)) (K : List Value → Option R) : Option R :=
  match zeroCellsOf P ty with
  | some z =>
    match P.underlying ty with
    | some (.struct fs) => match places P fs.toList with
      | some pl => match afill (pl[·]?) z vs with
        | some cells => K cells
        | none => none
      | none => none
    | some (.array _ e) => match szOf P e with
      | some n => match afill (fun i => some (i * n, n)) z vs with
        | some cells => K cells
        | none => none
      | none => none
    | _ => none
  | none => none
end
end Go.Mx
end
