/- Simulation of single operations, part 1. -/
import Derived.Test.YtcegcnopakfloaaXM3
namespace Go.Mx
open Go Go.RowKit

def CallSound (P : Program) (call : CallF) (w0 : World) : Prop :=
  ∀ f args H v H', call f args H = some (v, H') → ∀ ρ w (args' : Array Value), Rel w0 ρ H w → All2 (VRel ρ) args args'.toList →
    Calls P f args' w fun e w' => ∃ v' ρ', e = .returned v' ∧ VRel ρ' v v' ∧ Rel w0 ρ' H' w' ∧ Ren.le ρ ρ'

def OpGoal (w0 : World) (ρ : Ren) (o : Oper) (a : Act) (v : Value) (H' : AHeap) : Act → World → Prop := fun a' w' =>
  ∃ v' ρ', a' = a.put o.dst v' ∧ VRel ρ' v v' ∧ Rel w0 ρ' H' w' ∧ Ren.le ρ ρ'

section
variable {P : Program} {call : CallF} {w0 w : World} {ρ : Ren} {t : List Value} {H H' : AHeap} {a : Act} {o : Oper} {slot : Option Nat} {v : Value}
  {Q : Exit → Act → World → Prop}

theorem wp_val {v' : Value} {w' : World} {next : Act → World → Prop} (h : (execOp a.eval o).run P w = .ok (.value v') w') (k : next (a.put o.dst v') w') : o.wp P a w next Q := by
  unfold Oper.wp
  rw [h]
  exact k

theorem aev_rel (hT : TRel ρ t a) {x : Operand} (h : aev t x = some v) : VRel ρ v (a.eval x) := by
  cases x with
  | tmp i =>
    simp only [aev, Option.some.injEq] at h
    subst h
    have := hT.1.getD (VRel.undef ρ) i
    simpa [Act.eval, List.getD, Array.getD_eq_getD_getElem?] using this
  | const u =>
    simp only [aev] at h
    split at h
    · rename_i hc; obtain rfl := Option.some.inj h; exact (closedV_rel ρ hc).v
    · cases h
  | func f =>
    simp only [aev, Option.some.injEq] at h
    subst h
    exact .inl (.inl (.inr ⟨f, #[], #[], rfl, rfl, .nil⟩))
  | global g => cases h

theorem aevs_rel (hT : TRel ρ t a) : ∀ {l : List Operand} {vs : List Value}, aevs t l = some vs → All2 (VRel ρ) vs (l.map a.eval) := by
  intro l
  induction l with
  | nil => intro vs h; simp only [aevs, Option.some.injEq] at h; subst h; exact .nil
  | cons x xs ih =>
    intro vs h
    simp only [aevs] at h
    split at h
    · rename_i v1 vs1 h1 h2
      obtain rfl := Option.some.inj h
      exact .cons (aev_rel hT h1) (ih h2)
    · cases h

theorem sim_same (v' : Value) (hR : Rel w0 ρ H w) (hv : VRel ρ v v') (h : (execOp a.eval o).run P w = .ok (.value v') w) : o.wp P a w (OpGoal w0 ρ o a v H) Q :=
  wp_val h ⟨v', ρ, rfl, hv, hR, Ren.le_refl _⟩

theorem sim_move {x : Operand} (ho : o.op = .move x) (h : opS P call slot o t H = some (v, H')) (hR : Rel w0 ρ H w) (hT : TRel ρ t a) : o.wp P a w (OpGoal w0 ρ o a v H') Q := by
  simp only [opS, aopK, ho] at h
  split at h
  · rename_i u hx
    simp only [Option.some.injEq, Prod.mk.injEq] at h
    obtain ⟨rfl, rfl⟩ := h
    exact sim_same _ hR (aev_rel hT hx) (by simp [execOp, ho])
  · cases h
theorem sim_assign {x : Operand} (ho : o.op = .assign x) (h : opS P call slot o t H = some (v, H')) (hR : Rel w0 ρ H w) (hT : TRel ρ t a) : o.wp P a w (OpGoal w0 ρ o a v H') Q := by
  simp only [opS, aopK, ho] at h
  split at h
  · rename_i u hx
    simp only [Option.some.injEq, Prod.mk.injEq] at h
    obtain ⟨rfl, rfl⟩ := h
    exact sim_same _ hR (aev_rel hT hx) (by simp [execOp, ho])
  · cases h
theorem sim_pick {c x y : Operand} (ho : o.op = .pick c x y) (h : opS P call slot o t H = some (v, H')) (hR : Rel w0 ρ H w) (hT : TRel ρ t a) : o.wp P a w (OpGoal w0 ρ o a v H') Q := by
  simp only [opS, aopK, ho] at h
  split at h
  · rename_i s hc
    have hcv := (aev_rel hT hc).bool
    cases s
    · simp only [cond] at h
      split at h
      · rename_i u hx
        simp only [Option.some.injEq, Prod.mk.injEq] at h
        obtain ⟨rfl, rfl⟩ := h
        exact sim_same _ hR (aev_rel hT hx) (by simp [execOp, ho, hcv, asBool])
      · cases h
    · simp only [cond] at h
      split at h
      · rename_i u hx
        simp only [Option.some.injEq, Prod.mk.injEq] at h
        obtain ⟨rfl, rfl⟩ := h
        exact sim_same _ hR (aev_rel hT hx) (by simp [execOp, ho, hcv, asBool])
      · cases h
  · cases h

theorem loadK_val {ty : TypeId} {i k : Nat} (h : loadK P ty i k H some = some v) :
    ∃ d, P.underlying ty = some d ∧ ((isAggD d = false ∧ H.cell i k = some v) ∨ (isAggD d = true ∧ ∃ inf l, P.info? ty = some inf ∧ H.row i k inf.size = some l ∧ v = .agg l.toArray)) := by
  have gen : ∀ {α : Type} (f : Value → Option α) (g : α → Value) (_ : ∀ u z, f u = some z → u = g z), ((H.cell i k).bind f).bind (fun z => some (g z)) = some v → H.cell i k = some v := by
    intro α f g hfg hh
    cases hc : H.cell i k with
    | none => rw [hc] at hh; cases hh
    | some u =>
      rw [hc] at hh
      simp only [Option.bind_some] at hh
      cases hf : f u with
      | none => rw [hf] at hh; cases hh
      | some z => rw [hf] at hh; rw [hfg u z hf]; simpa using hh
  have isI : ∀ k u z, asI k u = some z → u = .int k z := by
    intro k u z hu
    cases u with
    | int k' n => simp only [asI] at hu; split at hu
                  · rename_i e; subst e; simpa using hu
                  · cases hu
    | _ => cases hu
  unfold loadK at h
  split at h
  · rename_i kk hd; exact ⟨_, hd, .inl ⟨rfl, gen (asI kk) _ (isI kk) h⟩⟩
  · rename_i hd; exact ⟨_, hd, .inl ⟨rfl, gen asB _ (by intro u z hu; cases u <;> simp [asB] at hu; rw [hu]) h⟩⟩
  · rename_i hd; exact ⟨_, hd, .inl ⟨rfl, gen asS _ (by intro u z hu; cases u <;> simp [asS] at hu; rw [hu]) h⟩⟩
  · rename_i hd; exact ⟨_, hd, .inl ⟨rfl, gen asSl (fun s => .slice s.1 s.2.1 s.2.2) (by intro u z hu; cases u <;> simp [asSl] at hu; subst hu; rfl) h⟩⟩
  · rename_i hd; exact ⟨_, hd, .inl ⟨rfl, gen asPt _ (by intro u z hu; cases u <;> simp [asPt] at hu; rw [hu]) h⟩⟩
  · rename_i hd
    split at h
    · rename_i inf hi
      cases hr : H.row i k inf.size with
      | none => rw [hr] at h; cases h
      | some l => rw [hr] at h; exact ⟨_, hd, .inr ⟨rfl, inf, l, hi, hr, by simpa using h.symm⟩⟩
    · cases h
  · rename_i hd
    split at h
    · rename_i inf hi
      cases hr : H.row i k inf.size with
      | none => rw [hr] at h; cases h
      | some l => rw [hr] at h; exact ⟨_, hd, .inr ⟨rfl, inf, l, hi, hr, by simpa using h.symm⟩⟩
    · cases h
  · rename_i d _ _ _ _ _ h6 h7 hd
    refine ⟨_, hd, .inl ⟨?_, ?_⟩⟩
    · cases d <;> first | rfl | exact absurd rfl (h6 _) | exact absurd rfl (h7 _ _)
    · cases hc : H.cell i k with
      | none => rw [hc] at h; cases h
      | some u => rw [hc] at h; exact h
  · cases h

/-- a variable's load -/
theorem load_sim {ty : TypeId} {i k : Nat} (h : loadK P ty i k H some = some v) (hR : Rel w0 ρ H w) {ad : Addr} {sl : Nat} (hr : ρ i = some (ad, sl)) :
    ∃ v', (loadVar ty (ad.add k)).run P w = .ok v' w ∧ VR1 ρ v v' := by
  obtain ⟨d, hd, ⟨hg, hc⟩ | ⟨hg, inf, l, hi, hrow, rfl⟩⟩ := loadK_val h
  · obtain ⟨v', h1, h2⟩ := hR.cell hc hr
    refine ⟨v', ?_, .inl h2⟩
    have hag : (isAgg ty).run P w = .ok false w := by
      simp only [isAgg, run_underlying hd, Sem.run_bind]
      cases d <;> first | rfl | cases hg
    simp [loadVar, hag, load, Sem.run, h1]
  · obtain ⟨l', h1, h2, h3⟩ := hR.row hrow hr
    refine ⟨.agg l'.toArray, ?_, .inr ⟨_, _, rfl, rfl, by simpa using h1⟩⟩
    have hag : (isAgg ty).run P w = .ok true w := by
      simp only [isAgg, run_underlying hd, Sem.run_bind]
      cases d <;> first | rfl | cases hg
    have hl := run_loadCells_list (P := P) w (ad.add k) l' h3
    have hlen : l'.length = inf.size := by rw [← h1.length, h2]
    rw [hlen] at hl
    simp [loadVar, hag, sizeOf, typeInfo, hi, hl]

theorem sim_load {ty : TypeId} {x : Operand} (ho : o.op = .load ty x) (h : opS P call slot o t H = some (v, H')) (hR : Rel w0 ρ H w) (hT : TRel ρ t a) : o.wp P a w (OpGoal w0 ρ o a v H') Q := by
  simp only [opS, aopK, ho] at h
  split at h
  · rename_i ad hx
    rw [loadK_cps] at h
    obtain ⟨u, hu, h⟩ := Option.bind_eq_some_iff.1 h
    simp only [Option.some.injEq, Prod.mk.injEq] at h
    obtain ⟨rfl, rfl⟩ := h
    have hp := (aev_rel hT hx).ptr
    obtain ⟨hs, ad', sl, hr, he⟩ := hp
    obtain ⟨v', h1, h2⟩ := load_sim hu hR hr
    exact sim_same v' hR h2.v (by simp [execOp, ho, he, Instr.loadAt, Instr.sureAddr, h1])
  · cases h

end
end Go.Mx
