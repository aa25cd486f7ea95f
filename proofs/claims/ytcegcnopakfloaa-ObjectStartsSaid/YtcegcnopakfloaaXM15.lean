/- Regions that draw their order: the theorem. -/
import Derived.Test.YtcegcnopakfloaaXM14
namespace Go.Mx
open Go Go.RowKit

theorem okPairs_iff {all : List Oper} {masks : List Nat} : ∀ {L : List Nat}, okPairs all masks L = true ↔ L.Pairwise (fun i j => okPair all masks i j = true) := by
  intro L
  induction L with
  | nil => simp [okPairs]
  | cons i L ih => simp [okPairs, List.pairwise_cons, ih]

theorem mem_ready {ops : Array Oper} {listed : Array Bool} {i : Nat} : i ∈ Region.ready .any ops listed ↔
    i < ops.size ∧ listed.getD i true = false ∧ ∃ o, ops[i]? = some o ∧ ∀ e ∈ o.after.toList, Region.binds .any e = true → listed.getD e.on false = true := by
  unfold Region.ready
  rw [List.mem_filter, List.mem_range]
  constructor
  · rintro ⟨h1, h2⟩
    simp only [Bool.and_eq_true, Bool.not_eq_true'] at h2
    refine ⟨h1, h2.1, ops[i], Array.getElem?_eq_getElem h1, fun e he hb => ?_⟩
    have h3 := h2.2
    rw [Array.getElem?_eq_getElem h1] at h3
    simp only [Option.map_some, Option.getD_some, Array.all_eq_true_iff_forall_mem] at h3
    have := h3 e (Array.mem_toList_iff.1 he)
    simpa [hb] using this
  · rintro ⟨h1, h2, o, h3, h4⟩
    refine ⟨h1, ?_⟩
    simp only [Bool.and_eq_true, Bool.not_eq_true']
    refine ⟨h2, ?_⟩
    rw [h3]
    simp only [Option.map_some, Option.getD_some, Array.all_eq_true_iff_forall_mem]
    intro e he
    have := h4 e (Array.mem_toList_iff.2 he)
    cases hb : Region.binds .any e with
    | true => simpa [hb] using this hb
    | false => rfl

theorem slots_append (all : List Oper) (base : Nat) (a b : List Nat) : slots all base (a ++ b) = slots all base a ++ slots all base b := by simp [slots]
theorem slots_cons {all : List Oper} {base i : Nat} {o : Oper} (h : all[i]? = some o) (b : List Nat) : slots all base (i :: b) = (some (base + i), o) :: slots all base b := by simp [slots, h]

section
variable {P : Program} {call : CallF} {w0 : World} {R : Type} {r : R}

theorem draw_any (hc : CallSound P call w0) (hk : CallKeeps call) {ops : Array Oper} {H0 : AHeap} {base : Nat} {K : List Value → AHeap → Option R} {Q : Exit → Act → World → Prop} {ρ0 : Ren}
    (hQ : ∀ a w, KRel w0 ρ0 K r a w → Q .normal a w)
    (hself : ∀ i, i < ops.size → Nat.testBit ((predMasks ops.toList []).getD i 0) i = false)
    (hrange : ∀ (i : Nat) (o : Oper), ops[i]? = some o → ∀ e ∈ o.after.toList, Region.binds .any e = true → e.on < ops.size) :
    ∀ (fuel : Nat) (L : List Nat) (listed : Array Bool) (ρ : Ren) (t : List Value) (H : AHeap) (a : Act) (w : World),
      L.length = fuel → L.Nodup → listed.size = ops.size → (∀ i, i ∈ L → i < ops.size) → (∀ i, i < ops.size → (i ∈ L ↔ listed[i]? = some false)) →
      L.Pairwise (fun i j => okPair ops.toList (predMasks ops.toList []) i j = true) →
      (∀ j, listed[j]? = some true → ∀ x, Nat.testBit ((predMasks ops.toList []).getD j 0) x = true → listed[x]? = some true) →
      runOps P call (some H0) ops.toList (slots ops.toList base L) K t H = some r → Rel w0 ρ H w → TRel ρ t a → ρ0.le ρ →
      (∀ i, i ∈ L → H.get (base + i) = none ∧ base + i < H.next) → Ext H0 H → wpAny P .any ops Q fuel listed a w := by
  have hlist : ∀ (listed : Array Bool) (L : List Nat), listed.size = ops.size → (∀ i, i < ops.size → (i ∈ L ↔ listed[i]? = some false)) →
      ∀ i, i < ops.size → i ∉ L → listed[i]? = some true := by
    intro listed L hz hm i hi hn
    have h1 : listed[i]? = some (listed[i]'(by omega)) := Array.getElem?_eq_getElem (by omega)
    cases hb : listed[i]'(by omega) with
    | true => rw [h1, hb]
    | false => exact absurd ((hm i hi).2 (by rw [h1, hb])) hn
  have hbits : ∀ (i : Nat) (o : Oper), ops[i]? = some o → ∀ x, Nat.testBit ((predMasks ops.toList []).getD i 0) x = true ↔
      ∃ e ∈ o.after.toList, Region.binds .any e = true ∧ (e.on = x ∨ (e.on < i ∧ Nat.testBit ((predMasks ops.toList []).getD e.on 0) x = true)) := by
    intro i o ho x
    have := predMasks_spec ops.toList [] i o (by simpa using ho) x
    simpa using this
  intro fuel
  induction fuel with
  | zero =>
    intro L listed ρ t H a w hl hnd hz hlt hm hp hcl hrun hR hT hle hfr h0
    have hL : L = [] := List.eq_nil_of_length_eq_zero hl
    subst hL
    refine ⟨?_, hQ a w ⟨ρ, t, H, hR, hT, hle, hrun⟩⟩
    rw [List.eq_nil_iff_forall_not_mem]
    intro i hi
    obtain ⟨h1, h2, _⟩ := mem_ready.1 hi
    have := hlist listed [] hz hm i h1 (by simp)
    simp [Array.getD_eq_getD_getElem?, this] at h2
  | succ fuel ih =>
    intro L listed ρ t H a w hl hnd hz hlt hm hp hcl hrun hR hT hle hfr h0
    have hready : ∀ i, i ∈ Region.ready .any ops listed → i ∈ L ∧ ∃ o, ops[i]? = some o ∧ ∀ x, Nat.testBit ((predMasks ops.toList []).getD i 0) x = true → listed[x]? = some true := by
      intro i hi
      obtain ⟨h1, h2, o, h3, h4⟩ := mem_ready.1 hi
      refine ⟨?_, o, h3, fun x hx => ?_⟩
      · refine (hm i h1).2 ?_
        have h5 : listed[i]? = some (listed[i]'(by omega)) := Array.getElem?_eq_getElem (by omega)
        rw [h5]
        simp [Array.getD_eq_getD_getElem?, h5] at h2
        rw [h2]
      · obtain ⟨e, he, hb, hx⟩ := (hbits i o h3 x).1 hx
        have h5 := h4 e he hb
        have h6 : listed[e.on]? = some true := by
          cases hg : listed[e.on]? with
          | none => simp [Array.getD_eq_getD_getElem?, hg] at h5
          | some b => simp [Array.getD_eq_getD_getElem?, hg] at h5; rw [h5]
        rcases hx with hx | ⟨_, hx⟩
        · rw [← hx]; exact h6
        · exact hcl _ h6 x hx
    refine ⟨?_, ?_⟩
    · -- some operation is ready
      intro hnil
      exfalso
      cases L with
      | nil => simp at hl
      | cons i0 L' =>
        have hi0 := hlt i0 (by simp)
        have : i0 ∈ Region.ready .any ops listed := by
          refine mem_ready.2 ⟨hi0, ?_, ops[i0], Array.getElem?_eq_getElem hi0, fun e he hb => ?_⟩
          · have := (hm i0 hi0).1 (by simp)
            simp [Array.getD_eq_getD_getElem?, this]
          · have hor := hrange i0 _ (Array.getElem?_eq_getElem hi0) e he hb
            have hbit := (hbits i0 _ (Array.getElem?_eq_getElem hi0) e.on).2 ⟨e, he, hb, .inl rfl⟩
            have hnl : e.on ∉ i0 :: L' := by
              intro hmem
              rcases List.mem_cons.1 hmem with h | h
              · rw [h, hself i0 hi0] at hbit; cases hbit
              · have := (List.pairwise_cons.1 hp).1 _ h
                unfold okPair at this
                split at this
                · simp only [hbit, Bool.not_true, Bool.false_and, Bool.false_eq_true] at this
                · cases this
            have := hlist listed _ hz hm e.on hor hnl
            simp [Array.getD_eq_getD_getElem?, this]
        rw [hnil] at this
        cases this
    · intro i hi
      obtain ⟨hiL, o, ho, hdone⟩ := hready i hi
      obtain ⟨L1, L2, rfl⟩ := List.append_of_mem hiL
      have hoL : ops.toList[i]? = some o := by simpa using ho
      have hdisj := List.nodup_append.1 hnd
      have hiL1 : i ∉ L1 := fun h => (hdisj.2.2 i h i (by simp)) rfl
      have hiL2 : i ∉ L2 := (List.nodup_cons.1 hdisj.2.1).1
      have hrun1 : runOps P call (some H0) ops.toList ((some (base + i), o) :: slots ops.toList base (L1 ++ L2)) K t H = some r := by
        rw [slots_append, slots_cons hoL] at hrun
        cases L1 with
        | nil => simpa [slots] using hrun
        | cons x0 L1' =>
          have hpair : ∀ x ∈ x0 :: L1', x ≠ i ∧ (∃ ox, ops.toList[x]? = some ox ∧ apart2 ops.toList ox o = true) ∧ isEff o = false := by
            intro x hx
            have hpw := (List.pairwise_append.1 hp).2.2 x hx i (by simp)
            have hnb : Nat.testBit ((predMasks ops.toList []).getD i 0) x = false := by
              cases hb : Nat.testBit ((predMasks ops.toList []).getD i 0) x with
              | false => rfl
              | true =>
                have := hdone x hb
                have h2 := (hm x (hlt x (by simp at hx ⊢; rcases hx with h | h <;> simp [h]))).1 (by simp at hx ⊢; rcases hx with h | h <;> simp [h])
                rw [this] at h2
                cases h2
            unfold okPair at hpw
            split at hpw
            · rename_i ox oi hox hoi
              rw [hoL] at hoi
              cases hoi
              simp only [hnb, Bool.and_eq_true, Bool.or_eq_true, Bool.false_eq_true, false_or, Bool.not_eq_true'] at hpw
              exact ⟨fun e => hiL1 (by rw [← e]; exact hx), ⟨ox, hox, hpw.2.1⟩, hpw.2.2⟩
            · cases hpw
          have := bubble hk (H0 := H0) (base := base) (y := i) (oy := o) (hpair x0 (by simp)).2.2 (K := K) (r := r) (slots ops.toList base L2) (x0 :: L1') t H
            (fun x hx => ⟨(hpair x hx).1, (hpair x hx).2.1⟩) hdisj.1
            (fun x hx => hfr x (by rcases hx with h | h <;> simp [h] ; simp at h; rcases h with h | h <;> simp [h])) hR.fresh h0 hrun
          rw [slots_append]
          simpa using this
      have hfi := hfr i (by simp)
      unfold wpOp
      rw [ho]
      dsimp only
      have hstep := step_sim (Q := Q) (slot := some (base + i)) (o := o) (ops := ops) hc (rest := slots ops.toList base (L1 ++ L2)) hrun1 hR hT hfi.1
        (fun k e => by cases e; exact hfi.2) (wpAny P .any ops Q fuel (listed.setIfInBounds i true)) (by
        intro ρ' t' H' a' w' q1 q2 q3 q4 q5
        have hi' : i < ops.size := hlt i (by simp)
        have hext : Ext H H' ∧ ∀ z, z ∈ L1 ++ L2 → H'.get (base + z) = none ∧ base + z < H'.next := by
          obtain ⟨v, q4 | q4⟩ := q4
          · have he := op_ext (slot := some (base + i)) hk hR.fresh hfi.1 q4
            refine ⟨he, fun z hz => ?_⟩
            have hfz := hfr z (by simp at hz ⊢; rcases hz with h | h <;> simp [h])
            have hne : base + i ≠ base + z := by
              intro e
              have e' : i = z := by omega
              subst e'
              simp at hz
              rcases hz with h | h
              · exact hiL1 h
              · exact hiL2 h
            exact ⟨(op_frame hk q4 hfz.1 hfz.2 hne ⟨[], 0, .rw, 0⟩).2, Nat.lt_of_lt_of_le hfz.2 he.next⟩
          · rw [q4]
            exact ⟨Ext.refl _, fun z hz => hfr z (by simp at hz ⊢; rcases hz with h | h <;> simp [h])⟩
        refine ih (L1 ++ L2) (listed.setIfInBounds i true) ρ' t' H' a' w' ?_ ?_ ?_ ?_ ?_ ?_ ?_ q5 q1 q2 (Ren.le_trans hle q3) hext.2 (Ext.trans h0 hext.1)
        · simp at hl ⊢; omega
        · rw [List.nodup_append]
          exact ⟨hdisj.1, (List.nodup_cons.1 hdisj.2.1).2, fun x hx y hy => hdisj.2.2 x hx y (by simp [hy])⟩
        · simpa using hz
        · intro z hz'
          exact hlt z (by simp at hz' ⊢; rcases hz' with h | h <;> simp [h])
        · intro z hz'
          rw [Array.getElem?_setIfInBounds]
          by_cases e : i = z
          · subst e
            rw [if_pos rfl]
            constructor
            · intro h; simp at h; rcases h with h | h
              · exact absurd h hiL1
              · exact absurd h hiL2
            · intro h
              split at h
              · cases h
              · rename_i hh; rw [hz] at hh; omega
          · rw [if_neg e, ← hm z hz']
            simp only [List.mem_append, List.mem_cons]
            constructor
            · rintro (h | h)
              · exact .inl h
              · exact .inr (.inr h)
            · rintro (h | h | h)
              · exact .inl h
              · exact absurd h.symm e
              · exact .inr h
        · have hsub : List.Sublist (L1 ++ L2) (L1 ++ i :: L2) := List.Sublist.append (List.Sublist.refl _) (List.sublist_cons_self _ _)
          exact hp.sublist hsub
        · intro j hj x hx
          rw [Array.getElem?_setIfInBounds] at hj ⊢
          have hx' : listed[x]? = some true := by
            by_cases e : i = j
            · subst e; exact hdone x hx
            · rw [if_neg e] at hj; exact hcl j hj x hx
          by_cases e : i = x
          · subst e
            rw [if_pos rfl, if_pos (by omega)]
          · rw [if_neg e]; exact hx')
      by_cases hw : Region.wanted o (yielded ops a.tmps) = true
      · rw [if_pos hw] at hstep ⊢
        exact .inl hstep
      · rw [if_neg hw] at hstep ⊢
        exact hstep

theorem draw_perm {ops : List Oper} (hok : drawOk ops = true) : (drawOrder ops).Nodup ∧ ∀ i ∈ drawOrder ops, i < ops.length := by
  unfold drawOk at hok
  simp only [Bool.and_eq_true, beq_iff_eq, List.all_eq_true, List.mem_range, Bool.not_eq_true', Bool.or_eq_true, decide_eq_true_eq] at hok
  obtain ⟨⟨⟨⟨h1, h2⟩, h3⟩, h4⟩, h5⟩ := hok
  have key : ∀ (n : Nat) (l : List Nat), l.length = n → (∀ i, i < n → i ∈ l) → l.Nodup ∧ ∀ i ∈ l, i < n := by
    intro n
    induction n with
    | zero => intro l hl _; have : l = [] := List.eq_nil_of_length_eq_zero hl; subst this; simp
    | succ n ih =>
      intro l hl hall
      obtain ⟨s, t, rfl⟩ := List.append_of_mem (hall n (Nat.lt_succ_self n))
      have hl' : (s ++ t).length = n := by simp at hl ⊢; omega
      obtain ⟨k1, k2⟩ := ih (s ++ t) hl' (fun i hi => by
        have := hall i (by omega)
        simp only [List.mem_append, List.mem_cons] at this ⊢
        rcases this with h | h | h
        · exact .inl h
        · omega
        · exact .inr h)
      have hns : n ∉ s := fun h => by have := k2 n (by simp [h]); omega
      have hnt : n ∉ t := fun h => by have := k2 n (by simp [h]); omega
      obtain ⟨d1, d2, d3⟩ := List.nodup_append.1 k1
      refine ⟨List.nodup_append.2 ⟨d1, List.nodup_cons.2 ⟨hnt, d2⟩, fun x hx y hy => ?_⟩, fun i hi => ?_⟩
      · rcases List.mem_cons.1 hy with h | h
        · subst h; exact fun e => hns (by rw [← e]; exact hx)
        · exact d3 x hx y h
      · simp only [List.mem_append, List.mem_cons] at hi
        rcases hi with h | h | h
        · have := k2 i (by simp [h]); omega
        · omega
        · have := k2 i (by simp [h]); omega
  exact key ops.length (drawOrder ops) h2 fun i hi => by simpa using h3 i hi

theorem draw_sound (hm : P.follows .mixedOrders = true) (hc : CallSound P call w0) (hk : CallKeeps call) : DrawSound P call w0 := by
  intro R r id ops K ρ t H a w Q hok hrun hR hT hQ
  have hok0 := hok
  unfold drawOk at hok
  simp only [Bool.and_eq_true, beq_iff_eq, List.all_eq_true, List.mem_range, Bool.not_eq_true', Bool.or_eq_true, decide_eq_true_eq] at hok
  obtain ⟨⟨⟨⟨h1, h2⟩, h3⟩, h4⟩, h5⟩ := hok
  have hlen : ops.toList.length = ops.size := Array.length_toList
  have hmem : ∀ i, i < ops.size → i ∈ drawOrder ops.toList := fun i hi => by
    have := h3 i (by omega)
    simpa using this
  have hperm : (drawOrder ops.toList).Nodup ∧ ∀ i, i ∈ drawOrder ops.toList → i < ops.size := by
    have := draw_perm hok0
    rw [hlen] at this
    exact this
  refine wp_region_any hm ?_
  refine draw_any (ρ0 := ρ) (K := K) (r := r) hc hk (H0 := H) (base := H.next) hQ ?_ ?_ ops.size (drawOrder ops.toList) _ ρ t (H.bump ops.toList.length) a _ (by omega) hperm.1 (by simp) hperm.2 ?_ (okPairs_iff.1 h1) ?_ hrun (Rel.bump (Rel.drew hR) _) hT (Ren.le_refl _) ?_ ?_
  · intro i hi
    have := h4 i (by omega)
    simpa using this
  · intro i o ho e he hb
    have := h5 o (List.mem_of_getElem? (by simpa using ho)) e he
    rcases this with h | h
    · rw [hb] at h; cases h
    · omega
  · intro i hi
    simp [hi, hmem i hi]
  · intro j hj
    rw [Array.getElem?_replicate] at hj
    split at hj <;> simp at hj
  · intro i hi
    have := hperm.2 i hi
    exact ⟨hR.fresh _ (Nat.le_add_right _ _), by show H.next + i < H.next + ops.toList.length; omega⟩
  · exact ⟨fun i b h => ⟨b, h, Nat.le_refl _, fun _ => rfl⟩, Nat.le_add_right _ _⟩

end
end Go.Mx
