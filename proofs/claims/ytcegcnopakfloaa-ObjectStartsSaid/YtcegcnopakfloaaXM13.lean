/- Regions that draw their order. -/
import Derived.Test.YtcegcnopakfloaaXM12
namespace Go.Mx
open Go Go.RowKit

section
variable {P : Program} {call : CallF} {t t' : List Value} {H H' : AHeap} {o : Oper} {slot : Option Nat} {v : Value} {R : Type} {r : R}

theorem aevs_congr : ∀ {l : List Operand}, (∀ x ∈ l, aev t' x = aev t x) → aevs t' l = aevs t l := by
  intro l
  induction l with
  | nil => intro _; rfl
  | cons x xs ih =>
    intro h
    simp only [aevs, h x (by simp), ih (fun y hy => h y (by simp [hy]))]
theorem apartsev_congr : ∀ {l : List (Nat × Operand)}, (∀ x ∈ l.map (·.2), aev t' x = aev t x) → apartsev t' l = apartsev t l := by
  intro l
  induction l with
  | nil => intro _; rfl
  | cons x xs ih =>
    intro h
    obtain ⟨i, x⟩ := x
    simp only [apartsev, h x (by simp), ih (fun y hy => h y (by simp at hy ⊢; exact .inr hy))]

theorem optInt_congr {x : Option Operand} (h : ∀ y, x = some y → aev t' y = aev t y) : optInt t' x = optInt t x := by
  cases x with
  | none => rfl
  | some x => simp only [optInt, h x rfl]

theorem op_congr (h : ∀ x ∈ o.op.operands.toList, aev t' x = aev t x) : opS P call slot o t' H = opS P call slot o t H := by
  obtain ⟨dst, op, type, pos, after, guard⟩ := o
  cases op <;> simp only [Op.operands] at h <;> simp only [opS, aopK]
  case call c =>
    simp only [callK]
    rw [aevs_congr (fun x hx => h x (by simp only [Call.operands, Array.toList_append, List.mem_append]; exact .inr hx))]
    split
    · rfl
    · split
      · rename_i f hc
        rw [h f (by simp [Call.operands, hc])]
      · rfl
      · rfl
  case build ty parts => rw [apartsev_congr (fun x hx => h x (by simpa using hx))]
  case buildSlice ty n parts => rw [apartsev_congr (fun x hx => h x (by simpa using hx))]
  case makeFunc fn first captured =>
    cases fn <;> (try rfl)
    (try dsimp only)
    rw [aevs_congr (fun x hx => h x (by simp only [Array.toList_append, List.mem_append]; exact .inl hx)), aevs_congr (fun x hx => h x (by simp only [Array.toList_append, List.mem_append]; exact .inr hx))]
  case slice ty x lo hi mx =>
    rw [h x (by simp), optInt_congr (x := lo) (fun y e => h y (by subst e; simp)), optInt_congr (x := hi) (fun y e => h y (by subst e; simp)), optInt_congr (x := mx) (fun y e => h y (by subst e; simp))]
  case pick c a b => rw [h c (by simp), h a (by simp), h b (by simp)]
  all_goals first
    | rfl
    | (rw [h _ (by simp)]; done)
    | (rw [h _ (by simp), h _ (by simp)]; done)
    | (simp only [h _ (List.mem_cons_self ..)]; done)
    | skip

def wantedT (all : List Oper) (o : Oper) (t : List Value) : Bool :=
  match o.guard with
  | none => true
  | some (j, want) => match (all[j]?).bind (·.dst) with
    | none => false
    | some d => match t[d]? with
      | some (.bool s) => s == want
      | _ => false

def ldOK (g : Option AHeap) (o : Oper) (t : List Value) (H : AHeap) : Bool :=
  match g with
  | none => true
  | some H0 => match o.op with
    | .load _ x => match aev t x with
      | some (.pointer (some a)) => sameB H0 H a.block
      | _ => false
    | _ => true

def stepO (P : Program) (call : CallF) (g : Option AHeap) (all : List Oper) (x : Option Nat × Oper) (t : List Value) (H : AHeap) : Option (List Value × AHeap) :=
  bif wantedT all x.2 t then (bif ldOK g x.2 t H then (opS P call x.1 x.2 t H).bind fun p => some (putT t x.2.dst p.1, p.2) else none)
  else some (putT t x.2.dst undef, H)

theorem ldGuard_eq (g : Option AHeap) (o : Oper) (t : List Value) (H : AHeap) (X : Option R) : ldGuard g o t H X = bif ldOK g o t H then X else none := by
  cases g with
  | none => rfl
  | some H0 =>
    obtain ⟨dst, op, type, pos, after, guard⟩ := o
    cases op <;> (try rfl)
    case load ty x =>
      unfold ldGuard ldOK
      dsimp only
      cases aev t x with
      | none => rfl
      | some v =>
        cases v <;> (try rfl)
        case pointer p =>
          cases p with
          | none => rfl
          | some a =>
            rfl

theorem runOps_cons (g : Option AHeap) (all : List Oper) (x : Option Nat × Oper) (rest : List (Option Nat × Oper)) (K : List Value → AHeap → Option R) :
    runOps P call g all (x :: rest) K t H = (stepO P call g all x t H).bind fun p => runOps P call g all rest K p.1 p.2 := by
  obtain ⟨s, o⟩ := x
  have doIt : (ldGuard g o t H (aopK P call s o t H fun v H' => runOps P call g all rest K (putT t o.dst v) H')) =
      (bif ldOK g o t H then (opS P call s o t H).bind fun p => some (putT t o.dst p.1, p.2) else none).bind fun p => runOps P call g all rest K p.1 p.2 := by
    rw [ldGuard_eq]
    cases ldOK g o t H
    · rfl
    · rw [aopK_cps]
      simp only [cond_true]
      rw [Option.bind_assoc]; try rfl
  conv => lhs; unfold runOps
  unfold stepO wantedT
  cases hg : o.guard with
  | none => (try dsimp only); rw [doIt]; rfl
  | some q =>
    obtain ⟨j, want⟩ := q
    (try dsimp only)
    cases hd : (all[j]?).bind (·.dst) with
    | none => rfl
    | some d =>
      (try dsimp only)
      cases ht : t[d]? with
      | none => rfl
      | some u =>
        cases u <;> (try rfl)
        case bool s =>
          (try dsimp only)
          have hset : t.set d (.bool s) = t := set_same ht
          cases s <;> cases want <;> simp only [cond_true, cond_false, hset]
          · rw [doIt]; rfl
          · rfl
          · rfl
          · rw [doIt]; rfl

theorem putT_get {t : List Value} {d : Option Tmp} {v : Value} {i : Nat} (h : ∀ k, d = some k → k ≠ i) : (putT t d v)[i]? = t[i]? := by
  cases d with
  | none => rfl
  | some d => simp only [putT, List.getElem?_set]; rw [if_neg (h d rfl)]

theorem aev_put {t : List Value} {d : Option Tmp} {v : Value} {x : Operand} (h : ∀ k, d = some k → x ≠ .tmp k) : aev (putT t d v) x = aev t x := by
  cases x with
  | tmp i =>
    have : (putT t d v)[i]? = t[i]? := putT_get fun k hk e => h k hk (by rw [e])
    simp only [aev, List.getD, this]
  | _ => rfl

theorem putT_comm {t : List Value} {d e : Option Tmp} (v u : Value) (h : ∀ k, d = some k → e ≠ some k) : putT (putT t d v) e u = putT (putT t e u) d v := by
  cases d with
  | none => rfl
  | some d => cases e with
    | none => rfl
    | some e =>
      have hne : d ≠ e := fun x => h d rfl (by rw [x])
      exact List.set_comm _ _ hne

theorem looks_apart {all : List Oper} {o : Oper} {d : Option Tmp} (h : ∀ k, d = some k → k ∉ looks all o) (v : Value) (t : List Value) :
    (∀ x ∈ o.op.operands.toList, aev (putT t d v) x = aev t x) ∧ wantedT all o (putT t d v) = wantedT all o t := by
  refine ⟨fun x hx => aev_put fun k hk e => h k hk ?_, ?_⟩
  · subst e
    unfold looks
    refine List.mem_append.2 (.inl ?_)
    unfold tmpsOf
    exact List.mem_filterMap.2 ⟨_, hx, rfl⟩
  · unfold wantedT
    split
    · rfl
    · rename_i j want hg
      split
      · rfl
      · rename_i dd hd
        have : (putT t d v)[dd]? = t[dd]? := putT_get fun k hk e => h k hk (by
          subst e
          unfold looks
          refine List.mem_append.2 (.inr ?_)
          rw [hg]
          simp [hd])
        rw [this]

theorem ldOK_congr {g : Option AHeap} (h : ∀ x ∈ o.op.operands.toList, aev t' x = aev t x) : ldOK g o t' H = ldOK g o t H := by
  unfold ldOK
  split
  · rfl
  · split
    · rename_i ty x ho
      rw [h x (by rw [ho]; simp [Op.operands])]
    · rfl

theorem sameB_put {H0 H : AHeap} {i id : Nat} {b : Blk} (h : sameB H0 H i = true) (hn : H.get id = none) : sameB H0 (H.put id b) i = true := by
  unfold sameB at h ⊢
  have : i ≠ id := by
    intro e; subst e; rw [hn] at h
    split at h <;> first | cases h | simp_all
  rw [put_get_ne H b this]
  exact h

theorem ldOK_put {g : Option AHeap} {id : Nat} {b : Blk} (h : ldOK g o t H = true) (hn : H.get id = none) : ldOK g o t (H.put id b) = true := by
  unfold ldOK at h ⊢
  split at h
  · rfl
  · (try dsimp only)
    split at h
    · (try dsimp only)
      split at h
      · exact sameB_put h hn
      · cases h
    · rfl

/-- a load may be done earlier -/
theorem sameB_back {H0 H H1 : AHeap} {i : Nat} (h0 : Ext H0 H) (h1 : Ext H H1) (h : sameB H0 H1 i = true) : sameB H0 H i = true ∧ H.get i = H1.get i := by
  unfold sameB at h ⊢
  cases hg0 : H0.get i with
  | none => rw [hg0] at h; cases h
  | some b0 =>
    obtain ⟨b, hb, l1, _⟩ := h0.get i b0 hg0
    obtain ⟨b1, hb1, l2, e2⟩ := h1.get i b hb
    rw [hg0, hb1] at h
    simp only [beq_iff_eq] at h
    have e : b1.ver = b.ver := by omega
    refine ⟨?_, ?_⟩
    · rw [hb]
      simp only [beq_iff_eq]
      omega
    · rw [hb, hb1, e2 e]

theorem apart2_spec {all : List Oper} {x y : Oper} (h : apart2 all x y = true) :
    (∀ k, x.dst = some k → k ∉ looks all y) ∧ (∀ k, x.dst = some k → y.dst ≠ some k) ∧ (∀ k, y.dst = some k → k ∉ looks all x) := by
  unfold apart2 at h
  simp only [Bool.and_eq_true] at h
  obtain ⟨h1, h2⟩ := h
  refine ⟨fun k hk => ?_, fun k hk => ?_, fun k hk => ?_⟩
  · rw [hk] at h1; simp at h1; exact h1.1
  · rw [hk] at h1; simp at h1; exact h1.2
  · rw [hk] at h2; simp at h2; exact h2

theorem swap_steps (hk : CallKeeps call) {all : List Oper} {H0 : AHeap} {i j : Nat} {x y : Oper} (hap : apart2 all x y = true) (hy : isEff y = false)
    (hij : i ≠ j) (hi : H.get i = none) (hj : H.get j = none) (hjn : j < H.next) (hf : ∀ k, H.next ≤ k → H.get k = none) (h0 : Ext H0 H)
    {t1 t2 : List Value} {H1 H2 : AHeap} (h1 : stepO P call (some H0) all (some i, x) t H = some (t1, H1)) (h2 : stepO P call (some H0) all (some j, y) t1 H1 = some (t2, H2)) :
    ∃ t1' H1', stepO P call (some H0) all (some j, y) t H = some (t1', H1') ∧ stepO P call (some H0) all (some i, x) t1' H1' = some (t2, H2) := by
  obtain ⟨a1, a2, a3⟩ := apart2_spec hap
  -- what x does
  have hx : ∃ u, t1 = putT t x.dst u ∧ Ext H H1 ∧ ∀ b v, (stepO P call (some H0) all (some i, x) (putT t y.dst v) H = some (putT (putT t y.dst v) x.dst u, H1)) ∧
      stepO P call (some H0) all (some i, x) (putT t y.dst v) (H.put j b) = some (putT (putT t y.dst v) x.dst u, H1.put j b) := by
    unfold stepO at h1
    dsimp only at h1
    cases hw : wantedT all x t with
    | true =>
      rw [hw] at h1
      cases hl : ldOK (some H0) x t H with
      | true =>
        rw [hl] at h1
        simp only [cond_true] at h1
        obtain ⟨p, hp, h1⟩ := Option.bind_eq_some_iff.1 h1
        cases h1
        refine ⟨p.1, rfl, op_ext (slot := some i) hk hf hi (v := p.1) (H' := p.2) hp, fun b v => ?_⟩
        obtain ⟨c1, c2⟩ := looks_apart (all := all) a3 v t
        obtain ⟨f1, _⟩ := op_frame hk (v := p.1) (H' := p.2) hp hj hjn hij b
        constructor
        · unfold stepO
          dsimp only
          rw [c2, hw, ldOK_congr c1, hl, op_congr c1, hp]
          rfl
        · unfold stepO
          dsimp only
          rw [c2, hw, ldOK_congr c1, ldOK_put hl hj, op_congr c1, f1]
          rfl
      | false => rw [hl] at h1; cases h1
    | false =>
      rw [hw] at h1
      cases h1
      refine ⟨undef, rfl, Ext.refl _, fun b v => ?_⟩
      obtain ⟨c1, c2⟩ := looks_apart (all := all) a3 v t
      constructor
      · unfold stepO
        dsimp only
        rw [c2, hw]
        rfl
      · unfold stepO
        dsimp only
        rw [c2, hw]
        rfl
  obtain ⟨u, rfl, hext, hx⟩ := hx
  obtain ⟨c1, c2⟩ := looks_apart (all := all) a1 u t
  have hcomm : ∀ v, putT (putT t y.dst v) x.dst u = putT (putT t x.dst u) y.dst v := fun v => putT_comm v u fun k hk e => a2 k e hk
  unfold stepO at h2
  dsimp only at h2
  rw [c2] at h2
  cases hw : wantedT all y t with
  | true =>
    rw [hw] at h2
    rw [ldOK_congr c1] at h2
    cases hl : ldOK (some H0) y t H1 with
    | true =>
      rw [hl] at h2
      simp only [cond_true] at h2
      obtain ⟨p, hp, h2⟩ := Option.bind_eq_some_iff.1 h2
      cases h2
      rw [op_congr c1] at hp
      have hp' : opS P call (some j) y t H1 = some (p.1, p.2) := hp
      rcases kinds hp' with q | q | ⟨ty, z, ho⟩ | ⟨ty, z, z', ho⟩ | ⟨c, ho, he⟩
      · obtain ⟨e1, e2⟩ := pure_spec q hp'
        rw [e1]
        have hlok : ldOK (some H0) y t H = true := by
          unfold ldOK
          dsimp only
          split
          · rename_i ho; simp [isPure, ho] at q
          · rfl
        refine ⟨putT t y.dst p.1, H, ?_, ?_⟩
        · unfold stepO
          dsimp only
          rw [hw, hlok, e2 (some j) H]
          rfl
        · rw [(hx ⟨[], 0, .rw, 0⟩ p.1).1, hcomm]
      · obtain ⟨b, e1, e2⟩ := make_spec q hp'
        have hlok : ldOK (some H0) y t H = true := by
          unfold ldOK
          dsimp only
          split
          · rename_i ho; simp [isMake, ho] at q
          · rfl
        refine ⟨putT t y.dst p.1, H.put j b, ?_, ?_⟩
        · unfold stepO
          dsimp only
          rw [hw, hlok, e2 H rfl]
          rfl
        · rw [(hx b p.1).2, hcomm, e1]
          rfl
      · obtain ⟨ad, e1, e2, e3⟩ := load_spec ho hp'
        have hsb : sameB H0 H1 ad.block = true := by
          unfold ldOK at hl
          simp only [ho, e1] at hl
          exact hl
        obtain ⟨s1, s2⟩ := sameB_back h0 hext hsb
        have hlok : ldOK (some H0) y t H = true := by
          unfold ldOK
          simp only [ho, e1]
          exact s1
        rw [e2]
        refine ⟨putT t y.dst p.1, H, ?_, ?_⟩
        · unfold stepO
          dsimp only
          rw [hw, hlok, load_intro ho e1 (by rw [loadK_same s2]; exact e3)]
          rfl
        · rw [(hx ⟨[], 0, .rw, 0⟩ p.1).1, hcomm]
      · simp [isEff, ho] at hy
      · rw [hy] at he; cases he
    | false => rw [hl] at h2; cases h2
  | false =>
    rw [hw] at h2
    cases h2
    refine ⟨putT t y.dst undef, H, ?_, ?_⟩
    · unfold stepO
      dsimp only
      rw [hw]
      rfl
    · rw [(hx ⟨[], 0, .rw, 0⟩ undef).1, hcomm]

end
end Go.Mx
