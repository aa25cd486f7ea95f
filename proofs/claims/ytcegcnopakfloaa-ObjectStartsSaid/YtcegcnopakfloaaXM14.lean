/- Regions that draw their order: every order comes to what the machine's order comes to. -/
import Derived.Test.YtcegcnopakfloaaXM13
namespace Go.Mx
open Go Go.RowKit

theorem predMasks_length : ∀ (l : List Oper) (acc : List Nat), (predMasks l acc).length = acc.length + l.length := by
  intro l
  induction l with
  | nil => intro acc; simp [predMasks]
  | cons o l ih => intro acc; simp [predMasks, ih]; omega

theorem predMasks_old : ∀ (l : List Oper) (acc : List Nat) (i : Nat), i < acc.length → (predMasks l acc)[i]? = acc[i]? := by
  intro l
  induction l with
  | nil => intro acc i _; rfl
  | cons o l ih =>
    intro acc i hi
    rw [predMasks, ih _ _ (by simp; omega), List.getElem?_append_left hi]

theorem fold_bits (acc : List Nat) (x : Nat) : ∀ (es : List Edge) (s : Nat), Nat.testBit (es.foldl (fun s e => if Region.binds .any e then s ||| 2 ^ e.on ||| acc.getD e.on 0 else s) s) x = true ↔
    Nat.testBit s x = true ∨ ∃ e ∈ es, Region.binds .any e = true ∧ (e.on = x ∨ Nat.testBit (acc.getD e.on 0) x = true) := by
  intro es
  induction es with
  | nil => intro s; simp
  | cons e es ih =>
    intro s
    rw [List.foldl_cons, ih]
    by_cases hb : Region.binds .any e = true
    · rw [if_pos hb]
      simp only [Nat.testBit_or, Bool.or_eq_true, Nat.testBit_two_pow, decide_eq_true_eq, List.mem_cons]
      constructor
      · rintro (((h | h) | h) | ⟨e', h1, h2⟩)
        · exact .inl h
        · exact .inr ⟨e, .inl rfl, hb, .inl h⟩
        · exact .inr ⟨e, .inl rfl, hb, .inr h⟩
        · exact .inr ⟨e', .inr h1, h2⟩
      · rintro (h | ⟨e', rfl | h1, h2, h3⟩)
        · exact .inl (.inl (.inl h))
        · rcases h3 with h3 | h3
          · exact .inl (.inl (.inr h3))
          · exact .inl (.inr h3)
        · exact .inr ⟨e', h1, h2, h3⟩
    · rw [if_neg hb]
      simp only [List.mem_cons]
      constructor
      · rintro (h | ⟨e', h1, h2⟩)
        · exact .inl h
        · exact .inr ⟨e', .inr h1, h2⟩
      · rintro (h | ⟨e', rfl | h1, h2, h3⟩)
        · exact .inl h
        · exact absurd h2 hb
        · exact .inr ⟨e', h1, h2, h3⟩

theorem predMasks_spec : ∀ (l : List Oper) (acc : List Nat) (i : Nat) (o : Oper), l[i]? = some o → ∀ x, Nat.testBit ((predMasks l acc).getD (acc.length + i) 0) x = true ↔
    ∃ e ∈ o.after.toList, Region.binds .any e = true ∧ (e.on = x ∨ (e.on < acc.length + i ∧ Nat.testBit ((predMasks l acc).getD e.on 0) x = true)) := by
  intro l
  induction l with
  | nil => intro acc i o h; simp at h
  | cons o' l ih =>
    intro acc i o h x
    have hmono : ∀ e : Nat, Nat.testBit (acc.getD e 0) x = true ↔ (e < acc.length ∧ Nat.testBit ((predMasks (o' :: l) acc).getD e 0) x = true) := by
      intro e
      by_cases he : e < acc.length
      · have := predMasks_old (o' :: l) acc e he
        simp only [List.getD, this]
        simp [he]
      · simp [List.getD, he]
    cases i with
    | zero =>
      simp at h
      subst h
      have h1 : (predMasks (o' :: l) acc).getD (acc.length + 0) 0 = o'.after.toList.foldl (fun s e => if Region.binds .any e then s ||| 2 ^ e.on ||| acc.getD e.on 0 else s) 0 := by
        rw [predMasks]
        simp only [List.getD, Nat.add_zero]
        rw [predMasks_old _ _ _ (by simp)]
        simp
      rw [h1, fold_bits]
      simp only [Nat.zero_testBit, Bool.false_eq_true, false_or, Nat.add_zero]
      constructor
      · rintro ⟨e, h1, h2, h3 | h3⟩
        · exact ⟨e, h1, h2, .inl h3⟩
        · exact ⟨e, h1, h2, .inr ((hmono e.on).1 h3)⟩
      · rintro ⟨e, h1, h2, h3 | h3⟩
        · exact ⟨e, h1, h2, .inl h3⟩
        · exact ⟨e, h1, h2, .inr ((hmono e.on).2 h3)⟩
    | succ i =>
      have := ih (acc ++ [o'.after.toList.foldl (fun s e => if Region.binds .any e then s ||| 2 ^ e.on ||| acc.getD e.on 0 else s) 0]) i o (by simpa using h) x
      simp only [List.length_append, List.length_cons, List.length_nil] at this
      rw [show acc.length + (i + 1) = acc.length + (0 + 1) + i from by omega]
      exact this

section
variable {P : Program} {call : CallF} {w0 : World} {R : Type} {r : R}

/-- operation y, free to go ahead of all of L1 -/
theorem bubble (hk : CallKeeps call) {all : List Oper} {H0 : AHeap} {base : Nat} {y : Nat} {oy : Oper} (hy : isEff oy = false)
    {K : List Value → AHeap → Option R} (rest : List (Option Nat × Oper)) :
    ∀ (L1 : List Nat) (t : List Value) (H : AHeap), (∀ x ∈ L1, x ≠ y ∧ ∃ ox, all[x]? = some ox ∧ apart2 all ox oy = true) → L1.Nodup →
      (∀ x, x = y ∨ x ∈ L1 → H.get (base + x) = none ∧ base + x < H.next) → (∀ k, H.next ≤ k → H.get k = none) → Ext H0 H →
      runOps P call (some H0) all (slots all base L1 ++ (some (base + y), oy) :: rest) K t H = some r →
      runOps P call (some H0) all ((some (base + y), oy) :: slots all base L1 ++ rest) K t H = some r := by
  intro L1
  induction L1 with
  | nil => intro t H _ _ _ _ _ h; exact h
  | cons x L1 ih =>
    intro t H hL hnd hfr hf h0 h
    obtain ⟨hxy, ox, hxo, hap⟩ := hL x (by simp)
    have hsl : slots all base (x :: L1) = (some (base + x), ox) :: slots all base L1 := by simp [slots, hxo]
    rw [hsl, List.cons_append, runOps_cons] at h
    obtain ⟨p, hp, h⟩ := Option.bind_eq_some_iff.1 h
    have hp' : stepO P call (some H0) all (some (base + x), ox) t H = some (p.1, p.2) := hp
    -- what the step keeps
    have hkeep : (∀ z, (z = y ∨ z ∈ L1) → p.2.get (base + z) = none ∧ base + z < p.2.next) ∧ Ext H p.2 ∧ (∀ k, p.2.next ≤ k → p.2.get k = none) := by
      have hx := hfr x (.inr (by simp))
      unfold stepO at hp'
      dsimp only at hp'
      cases hw : wantedT all ox t with
      | false =>
        rw [hw] at hp'
        have e2 : H = p.2 := congrArg Prod.snd (Option.some.inj hp')
        rw [← e2]
        exact ⟨fun z hz => hfr z (hz.elim .inl fun h => .inr (by simp [h])), Ext.refl _, hf⟩
      | true =>
        rw [hw] at hp'
        cases hl : ldOK (some H0) ox t H with
        | false => rw [hl] at hp'; cases hp'
        | true =>
          rw [hl] at hp'
          simp only [cond_true] at hp'
          obtain ⟨q, hq, hp'⟩ := Option.bind_eq_some_iff.1 hp'
          have e2 : q.2 = p.2 := congrArg Prod.snd (Option.some.inj hp')
          have hq' : opS P call (some (base + x)) ox t H = some (q.1, q.2) := hq
          rw [e2] at hq'
          have hext := op_ext (slot := some (base + x)) hk hf hx.1 hq'
          refine ⟨fun z hz => ?_, hext, ?_⟩
          · have hz' := hfr z (hz.elim .inl fun h => .inr (by simp [h]))
            have hne : base + x ≠ base + z := by
              intro e
              have e' : x = z := by omega
              subst e'
              rcases hz with hz | hz
              · exact hxy hz
              · exact (List.nodup_cons.1 hnd).1 hz
            exact ⟨(op_frame hk hq' hz'.1 hz'.2 hne ⟨[], 0, .rw, 0⟩).2, Nat.lt_of_lt_of_le hz'.2 hext.next⟩
          · exact op_fresh (slot := some (base + x)) hk hf (fun i e => by cases e; exact hx.2) hq'
    obtain ⟨k1, k2, k3⟩ := hkeep
    have := ih p.1 p.2 (fun z hz => hL z (by simp [hz])) (List.nodup_cons.1 hnd).2 k1 k3 (Ext.trans h0 k2) h
    rw [List.cons_append, runOps_cons] at this
    obtain ⟨q, hq, h2⟩ := Option.bind_eq_some_iff.1 this
    have hq' : stepO P call (some H0) all (some (base + y), oy) p.1 p.2 = some (q.1, q.2) := hq
    have hxf := hfr x (.inr (by simp))
    have hyf := hfr y (.inl rfl)
    obtain ⟨t1', H1', s1, s2⟩ := swap_steps hk hap hy (by omega) hxf.1 hyf.1 hyf.2 hf h0 hp' hq'
    rw [hsl, List.cons_append, List.cons_append, runOps_cons, s1]
    simp only [Option.bind_some]
    rw [runOps_cons, s2]
    exact h2

end
end Go.Mx
