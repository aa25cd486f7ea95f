/- Simulation of calls; all operations. -/
import Derived.Test.YtcegcnopakfloaaXM8
namespace Go.Mx
open Go Go.RowKit

section
variable {P : Program} {call : CallF} {w0 w : World} {ρ : Ren} {t : List Value} {H H' : AHeap} {a : Act} {o : Oper} {slot : Option Nat} {v : Value}
  {Q : Exit → Act → World → Prop}

theorem arr_of_toList {α : Type} {x : Array α} {l : List α} (h : x.toList = l) : x = l.toArray := by subst h; simp

theorem sim_len_str {c : Call} {s : ByteArray} {t0 : TypeId} (ho : o.op = .call c) (hb : c.callee = .builtin .len) (ha : aevs t c.args.toList = some [.string s]) (hty : c.argTypes.toList.head? = some t0)
    (hu : P.underlying t0 = some .string) (hR : Rel w0 ρ H w) (hT : TRel ρ t a) : o.wp P a w (OpGoal w0 ρ o a (.int .i64 (s.size : Int)) H) Q := by
  have hr := aevs_rel hT ha
  cases hl : c.args.toList.map a.eval with
  | nil => rw [hl] at hr; cases hr
  | cons x' r =>
    rw [hl] at hr
    cases hr with
    | cons h1 h2 =>
      cases h2
      cases h1.string
      have hm : c.args.map a.eval = #[.string s] := arr_of_toList (by rw [Array.toList_map, hl])
      have ht : c.argTypes[0]? = some t0 := by
        rw [← Array.getElem?_toList, ← List.head?_eq_getElem?]; exact hty
      exact sim_same _ hR (.inl (.inl (.inl rfl))) (by simp [execOp, ho, resolve, hb, hm, invoke, builtin, Builtin.len_, ht, run_underlying hu, goInt])

theorem sim_len_slice {c : Call} {ad : Option Addr} {l cap : Nat} {t0 e : TypeId} (ho : o.op = .call c) (hb : c.callee = .builtin .len) (ha : aevs t c.args.toList = some [.slice ad l cap]) (hty : c.argTypes.toList.head? = some t0)
    (hu : P.underlying t0 = some (.slice e)) (hR : Rel w0 ρ H w) (hT : TRel ρ t a) : o.wp P a w (OpGoal w0 ρ o a (.int .i64 (l : Int)) H) Q := by
  have hr := aevs_rel hT ha
  cases hl : c.args.toList.map a.eval with
  | nil => rw [hl] at hr; cases hr
  | cons x' r =>
    rw [hl] at hr
    cases hr with
    | cons h1 h2 =>
      cases h2
      have hsh : ∃ b d, x' = .slice b l d := by
        have hz := h1.slice
        cases ad with
        | none => obtain ⟨rfl, _, rfl⟩ := hz; exact ⟨_, _, rfl⟩
        | some ad => obtain ⟨hlc, ⟨h0, _, rfl⟩ | ⟨_, _, _, rfl⟩⟩ := hz
                     · obtain rfl : l = 0 := by omega
                       exact ⟨_, _, rfl⟩
                     · exact ⟨_, _, rfl⟩
      obtain ⟨b, d, rfl⟩ := hsh
      have hm : c.args.map a.eval = #[.slice b l d] := arr_of_toList (by rw [Array.toList_map, hl])
      have ht : c.argTypes[0]? = some t0 := by
        rw [← Array.getElem?_toList, ← List.head?_eq_getElem?]; exact hty
      exact sim_same _ hR (.inl (.inl (.inl rfl))) (by simp [execOp, ho, resolve, hb, hm, invoke, builtin, Builtin.len_, ht, run_underlying hu, goInt])

theorem two_args {c : Call} {x y : Value} (ha : aevs t c.args.toList = some [x, y]) (hT : TRel ρ t a) :
    ∃ x' y', c.args.map a.eval = #[x', y'] ∧ VRel ρ x x' ∧ VRel ρ y y' := by
  have hr := aevs_rel hT ha
  cases hl : c.args.toList.map a.eval with
  | nil => rw [hl] at hr; cases hr
  | cons x' r =>
    rw [hl] at hr
    cases hr with
    | cons h1 h2 =>
      cases h2 with
      | @cons _ y' _ _ h3 h4 =>
        cases h4
        exact ⟨x', y', arr_of_toList (by rw [Array.toList_map, hl]), h1, h3⟩

theorem one_arg {c : Call} {x : Value} (ha : aevs t c.args.toList = some [x]) (hT : TRel ρ t a) :
    ∃ x', c.args.map a.eval = #[x'] ∧ VRel ρ x x' := by
  have hr := aevs_rel hT ha
  cases hl : c.args.toList.map a.eval with
  | nil => rw [hl] at hr; cases hr
  | cons x' r =>
    rw [hl] at hr
    cases hr with
    | cons h1 h2 =>
      cases h2
      exact ⟨x', arr_of_toList (by rw [Array.toList_map, hl]), h1⟩

theorem apndV_sim {tys : List TypeId} {s x s' x' : Value} {ty : TypeId} (h : apndV P tys H s x = some (v, H')) (hs : VRel ρ s s') (hx : VRel ρ x x') (hR : Rel w0 ρ H w) :
    ∃ v' w' ρ', (Builtin.append_ tys.toArray ty #[s', x']).run P w = .ok v' w' ∧ VRel ρ' v v' ∧ Rel w0 ρ' H' w' ∧ ρ.le ρ' := by
  unfold apndV at h
  split at h
  · rename_i t u
    split at h
    · rename_i elem base sLen sCap hu
      split at h
      · rename_i e2 xa xl xc hu2
        split at h
        · rename_i inf hi
          obtain ⟨news, hf, h⟩ := Option.bind_eq_some_iff.1 h
          refine apnd_sim hu hu2 (by intro k e; cases e) hi h hs hx hR hf ?_
          intro w
          obtain ⟨b, d, e⟩ : ∃ b d, x' = .slice b xl d := by
            have hz := hx.slice
            cases xa with
            | none => obtain ⟨rfl, _, rfl⟩ := hz; exact ⟨_, _, rfl⟩
            | some ad => obtain ⟨hlc, ⟨h0, _, rfl⟩ | ⟨_, _, _, rfl⟩⟩ := hz
                         · obtain rfl : xl = 0 := by omega
                           exact ⟨_, _, rfl⟩
                         · exact ⟨_, _, rfl⟩
          rw [e]
          simp [Builtin.lenOf]
        · cases h
      · rename_i s2 hu2
        split at h
        · rename_i inf hi
          split at h
          · rename_i h1
            obtain ⟨news, hf, h⟩ := Option.bind_eq_some_iff.1 h
            rw [← h1] at hf
            refine apnd_sim hu hu2 (by intro k e; cases e) hi h hs hx hR hf ?_
            intro w
            rw [hx.string]
            simp [Builtin.lenOf]
          · cases h
        · cases h
      · cases h
    · cases h
  · cases h

theorem sim_append {c : Call} {s x : Value} {ty : Option TypeDesc} (ho : o.op = .call c) (hb : c.callee = .builtin .append) (ha : aevs t c.args.toList = some [s, x])
    (h : ((apndV P c.argTypes.toList H s x).bind fun p => normK ty p.1 fun v => some (v, p.2)) = some (v, H')) (hR : Rel w0 ρ H w) (hT : TRel ρ t a) : o.wp P a w (OpGoal w0 ρ o a v H') Q := by
  obtain ⟨p, hp, h⟩ := Option.bind_eq_some_iff.1 h
  rw [normK_cps] at h
  obtain ⟨u, hu, h⟩ := Option.bind_eq_some_iff.1 h
  cases h
  cases normK_id hu
  obtain ⟨s', x', hm, h1, h2⟩ := two_args ha hT
  obtain ⟨v', w', ρ', hrun, h3, h4, h5⟩ := apndV_sim (ty := o.type) hp h1 h2 hR
  simp only [Array.toArray_toList] at hrun
  exact wp_val (by simp [execOp, ho, resolve, hb, hm, invoke, builtin, hrun]) ⟨v', ρ', rfl, h3, h4, h5⟩

theorem run_copy {tys : Array TypeId} {t0 elem ty : TypeId} {inf : TypeInfo} (ht : tys[0]? = some t0) (hu : P.underlying t0 = some (.slice elem)) (hi : P.info? elem = some inf)
    {base : Option Addr} {dLen dc xl : Nat} {x' : Value} {cells' : List Value} (hl : (Builtin.lenOf x').run P w = .ok xl w)
    (f1 : (Builtin.firstCells inf.size (Nat.min xl dLen) x').run P w = .ok cells'.toArray w) {w' : World}
    (hs : ∀ ad, base = some ad → (storeCells ad cells').run P w = .ok () w') (hn : base = none → w' = w) :
    (Builtin.copy_ tys ty #[.slice base dLen dc, x']).run P w = .ok (.int .i64 (min xl dLen : Nat)) w' := by
  have hmin : Nat.min xl dLen = min xl dLen := rfl
  rw [hmin] at f1
  cases base with
  | none => rw [hn rfl]; simp [Builtin.copy_, ht, run_underlying hu, sizeOf, typeInfo, hi, hl, hmin, f1, goInt]
  | some ad => simp [Builtin.copy_, ht, run_underlying hu, sizeOf, typeInfo, hi, hl, hmin, f1, goInt, hs ad rfl]

theorem sim_copy {c : Call} {d x : Value} (ho : o.op = .call c) (hb : c.callee = .builtin .copy) (ha : aevs t c.args.toList = some [d, x])
    (h : copyV P c.argTypes.toList H d x = some (v, H')) (hR : Rel w0 ρ H w) (hT : TRel ρ t a) : o.wp P a w (OpGoal w0 ρ o a v H') Q := by
  obtain ⟨d', x', hm, h1, h2⟩ := two_args ha hT
  unfold copyV at h
  split at h
  · rename_i t0 tl hty
    have ht : c.argTypes[0]? = some t0 := by
      rw [← Array.getElem?_toList, hty]; rfl
    split at h
    · rename_i elem base dLen dc xa xl xc hu
      split at h
      · rename_i inf hi
        obtain ⟨cells, hf, h⟩ := Option.bind_eq_some_iff.1 h
        obtain ⟨cells', f1, f2, f3⟩ := firstC_sim (P := P) (w := w) hf h2 hR
        have hl : ∀ w : World, (Builtin.lenOf x').run P w = .ok xl w := by
          intro w
          obtain ⟨b, d, e⟩ : ∃ b d, x' = .slice b xl d := by
            have hz := h2.slice
            cases xa with
            | none => obtain ⟨rfl, _, rfl⟩ := hz; exact ⟨_, _, rfl⟩
            | some ad => obtain ⟨hlc, ⟨h0, _, rfl⟩ | ⟨_, _, _, rfl⟩⟩ := hz
                         · obtain rfl : xl = 0 := by omega
                           exact ⟨_, _, rfl⟩
                         · exact ⟨_, _, rfl⟩
          rw [e]
          simp [Builtin.lenOf]
        have fin : ∀ (b' : Option Addr) (dd : Nat) (w' : World), d' = .slice b' dLen dd → (∀ ad, b' = some ad → (storeCells ad cells').run P w = .ok () w') → (b' = none → w' = w) →
            (execOp a.eval o).run P w = .ok (.value (.int .i64 (min xl dLen : Nat))) w' := by
          intro b' dd w' e1 hs hn
          subst e1
          simp [execOp, ho, resolve, hb, hm, invoke, builtin, run_copy ht hu hi (hl w) f1 hs hn]
        split at h
        · cases h
          obtain ⟨rfl, _, e⟩ := h1.slice
          exact sim_same _ hR (.inl (.inl (.inl rfl))) (fin none 0 w e (fun ad e => by cases e) (fun _ => rfl))
        · rename_i ad
          split at h
          · rename_i hn0
            cases h
            have hnil : cells' = [] := by
              rcases f3 with ⟨s, e⟩ | f3
              · cases e
              · have := f2.length; rw [f3, hn0] at this; simp at this
                exact List.eq_nil_of_length_eq_zero this.symm
            obtain ⟨b, dd, e⟩ : ∃ b dd, d' = .slice (some b) dLen dd := by
              obtain ⟨hlc, ⟨h0, _, rfl⟩ | ⟨_, _, _, rfl⟩⟩ := h1.slice
              · obtain rfl : dLen = 0 := by omega
                exact ⟨_, _, rfl⟩
              · exact ⟨_, _, rfl⟩
            exact sim_same _ hR (.inl (.inl (.inl rfl))) (fin (some b) dd w e (fun ad _ => by subst hnil; simp [storeCells]) (fun e => by cases e))
          · rename_i hn0
            obtain ⟨H1, hw, h⟩ := Option.bind_eq_some_iff.1 h
            cases h
            obtain ⟨hlc, ⟨h0, _, e⟩ | ⟨ad', sl, hr, e⟩⟩ := h1.slice
            · exact absurd (show min xl dLen = 0 by omega) hn0
            · obtain ⟨w', k1, k2⟩ := hR.wr hw f2 hr P
              exact wp_val (fin _ _ w' e (fun ad2 e2 => by cases e2; exact k1) (fun e => by cases e)) ⟨_, ρ, rfl, .inl (.inl (.inl rfl)), k2, Ren.le_refl _⟩
      · cases h
    · cases h
  · cases h

theorem sim_clear {c : Call} {x : Value} (ho : o.op = .call c) (hb : c.callee = .builtin .clear) (ha : aevs t c.args.toList = some [x])
    (h : clearV P c.argTypes.toList H x = some H') (hR : Rel w0 ρ H w) (hT : TRel ρ t a) : o.wp P a w (OpGoal w0 ρ o a (.tuple #[]) H') Q := by
  obtain ⟨x', hm, h1⟩ := one_arg ha hT
  unfold clearV at h
  split at h
  · rename_i t0 hty
    have ht : c.argTypes[0]? = some t0 := by
      rw [← Array.getElem?_toList, hty]; rfl
    split at h
    · rename_i elem ad n cap hu
      split at h
      · rename_i hn
        cases h
        subst hn
        obtain ⟨b, d, e⟩ : ∃ b d, x' = .slice b 0 d := by
          have hz := h1.slice
          cases ad with
          | none => obtain ⟨_, _, rfl⟩ := hz; exact ⟨_, _, rfl⟩
          | some ad => obtain ⟨hlc, ⟨h0, _, rfl⟩ | ⟨_, _, _, rfl⟩⟩ := hz <;> exact ⟨_, _, rfl⟩
        subst e
        refine sim_same (.tuple #[]) hR (VRel.undef ρ) ?_
        cases b <;> simp [execOp, ho, resolve, hb, hm, invoke, builtin, Builtin.clear_, ht, run_underlying hu]
      · rename_i hn
        split at h
        · rename_i ad
          obtain ⟨z, hz, h⟩ := Option.bind_eq_some_iff.1 h
          split at h
          · cases h
          · rename_i hz0
            obtain ⟨inf, zv, k1, k2, k3, k4, k5⟩ := zeroCellsOf_spec (ρ := ρ) hz
            obtain ⟨hlc, ⟨h0, _, rfl⟩ | ⟨ad', sl, hr, rfl⟩⟩ := h1.slice
            · omega
            · obtain ⟨w', q1, q2⟩ := hR.wr h (rep_rel k5 n) hr P
              have hzc : (Builtin.zeroCells zv.cells n).toList = rep z n := by
                rw [← k3]; exact zeros_rep zv.cells (by rw [← Array.length_toList, k3]; omega) n
              refine wp_val (v' := .tuple #[]) (w' := w') ?_ ⟨_, ρ, rfl, VRel.undef ρ, q2, Ren.le_refl _⟩
              cases n with
              | zero => exact absurd rfl hn
              | succ n => simp [execOp, ho, resolve, hb, hm, invoke, builtin, Builtin.clear_, ht, run_underlying hu, zeroValue, typeInfo, k1, k2, hzc, q1]
        · cases h
          obtain ⟨rfl, _, _⟩ := h1.slice
          exact absurd rfl hn
    · cases h
  · cases h

theorem foldInt_sim (big : Bool) : ∀ {l l' : List Value} {x x' v : Value}, foldInt big x l = some v → VRel ρ x x' → All2 (VRel ρ) l l' →
    ∃ v', (l'.foldlM (if big then Builtin.max2 else Builtin.min2) x').run P w = .ok v' w ∧ VRel ρ v v' := by
  intro l
  induction l with
  | nil =>
    intro l' x x' v h hx hl
    cases hl
    have e : x = v := by cases x <;> simpa [foldInt] using h
    subst e
    exact ⟨x', by simp, hx⟩
  | cons y rest ih =>
    intro l' x x' v h hx hl
    cases hl with
    | cons h1 h2 =>
      cases x with
      | int k n =>
        cases y with
        | int k' m =>
          simp only [foldInt] at h
          split at h
          · rename_i e
            subst e
            rw [hx.int, h1.int]
            obtain ⟨v', q1, q2⟩ := ih h (.inl (.inl (.inl rfl))) h2
            refine ⟨v', ?_, q2⟩
            simp only [List.foldlM_cons, Sem.run_bind]
            cases big
            · simpa [Builtin.min2] using q1
            · simpa [Builtin.max2] using q1
          · cases h
        | _ => simp [foldInt] at h
      | _ => simp [foldInt] at h

theorem sim_maxmin (big : Bool) {c : Call} {x : Value} {rest : List Value} (ho : o.op = .call c) (hb : c.callee = .builtin (if big then .max else .min)) (ha : aevs t c.args.toList = some (x :: rest))
    (h : foldInt big x rest = some v) (hR : Rel w0 ρ H w) (hT : TRel ρ t a) : o.wp P a w (OpGoal w0 ρ o a v H) Q := by
  have hr := aevs_rel hT ha
  cases hl : c.args.toList.map a.eval with
  | nil => rw [hl] at hr; cases hr
  | cons x' r =>
    rw [hl] at hr
    cases hr with
    | cons h1 h2 =>
      have hm : c.args.map a.eval = (x' :: r).toArray := arr_of_toList (by rw [Array.toList_map, hl])
      obtain ⟨v', q1, q2⟩ := foldInt_sim (P := P) (w := w) big h h1 h2
      refine sim_same v' hR q2 ?_
      cases big
      · simp only [Bool.false_eq_true, if_false] at q1 hb
        simp [execOp, ho, resolve, hb, hm, invoke, builtin, Builtin.min_, q1]
      · simp only [if_true] at q1 hb
        simp [execOp, ho, resolve, hb, hm, invoke, builtin, Builtin.max_, q1]

theorem sim_func {c : Call} {f : Operand} {g : FuncId} {first captured : Array Value} {args : List Value} {ty : Option TypeDesc} (hc : CallSound P call w0) (ho : o.op = .call c) (hb : c.callee = .value f)
    (hf : aev t f = some (.func (.func g) first captured)) (ha : aevs t c.args.toList = some args) (hbody : hasBody P g = true)
    (h : ((call g (first.toList ++ args ++ captured.toList) H).bind fun p => normK ty p.1 fun v => some (v, p.2)) = some (v, H')) (hR : Rel w0 ρ H w) (hT : TRel ρ t a) : o.wp P a w (OpGoal w0 ρ o a v H') Q := by
  obtain ⟨p, hp, h⟩ := Option.bind_eq_some_iff.1 h
  rw [normK_cps] at h
  obtain ⟨u, hu, h⟩ := Option.bind_eq_some_iff.1 h
  cases h
  cases normK_id hu
  obtain ⟨rfl, cs', he, hcs⟩ := (aev_rel hT hf).fn
  have hargs : All2 (VRel ρ) args (c.args.map a.eval).toList := by rw [Array.toList_map]; exact aevs_rel hT ha
  have hall : All2 (VRel ρ) (#[].toList ++ args ++ captured.toList) (#[] ++ c.args.map a.eval ++ cs').toList := by
    simp only [Array.toList_append, List.nil_append]
    exact hargs.append (hcs.mono fun _ _ h => h.v)
  have hcall := hc g _ H p.1 p.2 hp ρ w (#[] ++ c.args.map a.eval ++ cs') hR hall
  have hexec : (execOp a.eval o).run P w = .ok (.enter g (#[] ++ c.args.map a.eval ++ cs')) w := by
    unfold hasBody at hbody
    split at hbody
    · rename_i fn hfn
      simp only [Bool.and_eq_true, bne_iff_ne, ne_eq] at hbody
      obtain ⟨h1, h2⟩ := hbody
      have h1' : fn.body ≠ none := by intro e; rw [e] at h1; cases h1
      simp [execOp, ho, resolve, hb, Deferred.ofValue, he, invoke, callFunc, hfn, h1', h2]
    · cases hbody
  unfold Oper.wp
  rw [hexec]
  refine hcall.mono fun e w' hh => ?_
  obtain ⟨v', ρ', rfl, h1, h2, h3⟩ := hh
  exact ⟨v', ρ', rfl, h1, h2, h3⟩

/-- every operation -/
theorem op_sim (hc : CallSound P call w0) (h : opS P call slot o t H = some (v, H')) (hR : Rel w0 ρ H w) (hT : TRel ρ t a)
    (hf : H.get (H.newId slot) = none) (hs : ∀ i, slot = some i → i < H.next) : o.wp P a w (OpGoal w0 ρ o a v H') Q := by
  cases ho : o.op with
  | move x => exact sim_move ho h hR hT
  | assign x => exact sim_assign ho h hR hT
  | pick c x y => exact sim_pick ho h hR hT
  | alloc e => exact sim_alloc ho h hR hf hs
  | box e x => exact sim_box ho h hR hT hf hs
  | build ty parts => exact sim_build ho h hR hT
  | buildSlice ty n parts => exact sim_buildSlice ho h hR hT hf hs
  | load ty x => exact sim_load ho h hR hT
  | store ty x y => exact sim_store ho h hR hT
  | nilCheck x => exact sim_nilCheck ho h hR hT
  | binOp op ty x y u => exact sim_binOp ho h hR hT
  | unOp op ty x => exact sim_unOp ho h hR hT
  | convert s d x => exact sim_convert ho h hR hT
  | makeSlice ty l c => exact sim_makeSlice ho h hR hT hf hs
  | slice ty x lo hi mx => exact sim_slice ho h hR hT
  | fieldAddr ty x f => exact sim_fieldAddr ho h hR hT
  | field ty x f => exact sim_field ho h hR hT
  | indexAddr ty x ix => exact sim_indexAddr ho h hR hT
  | index ty x ix => exact sim_index ho h hR hT
  | extract x i => exact sim_extract ho h hR hT
  | makeFunc fn first captured => exact sim_makeFunc ho h hR hT
  | call c =>
    simp only [opS, aopK, ho, callK] at h
    split at h
    · cases h
    · rename_i args ha
      split at h
      · rename_i f hb
        split at h
        · rename_i g first captured hf'
          split at h
          · rename_i hbody
            exact sim_func hc ho hb hf' ha hbody h hR hT
          · cases h
        · cases h
      · cases h
      · rename_i b hb
        split at h
        · split at h
          · rename_i hu
            obtain ⟨t0, h1, h2⟩ := Option.bind_eq_some_iff.1 hu
            cases h
            exact sim_len_str ho hb ha h1 h2 hR hT
          · cases h
        · split at h
          · rename_i hu
            obtain ⟨t0, h1, h2⟩ := Option.bind_eq_some_iff.1 hu
            cases h
            exact sim_len_slice ho hb ha h1 h2 hR hT
          · cases h
        · exact sim_append ho hb ha h hR hT
        · obtain ⟨p, hp, h⟩ := Option.bind_eq_some_iff.1 h
          cases h
          exact sim_copy ho hb ha hp hR hT
        · obtain ⟨p, hp, h⟩ := Option.bind_eq_some_iff.1 h
          cases h
          exact sim_clear ho hb ha hp hR hT
        · obtain ⟨p, hp, h⟩ := Option.bind_eq_some_iff.1 h
          cases h
          exact sim_maxmin true ho hb ha hp hR hT
        · obtain ⟨p, hp, h⟩ := Option.bind_eq_some_iff.1 h
          cases h
          exact sim_maxmin false ho hb ha hp hR hT
        · cases h
  | _ => simp [opS, aopK, ho] at h

end
end Go.Mx
