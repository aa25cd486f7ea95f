/- What a run leaves alone; the soundness of calls. -/
import Derived.Test.YtcegcnopakfloaaXM15
namespace Go.Mx
open Go Go.RowKit

section
variable {P : Program} {call : CallF} {t : List Value} {H H' : AHeap} {o : Oper} {slot : Option Nat} {v : Value}

theorem apnd_next {elem : TypeId} {base : Option Addr} {sLen sCap n : Nat} {news : List Value}
    (h : apnd P elem H base sLen sCap news n = some (v, H')) : H.next ≤ H'.next := by
  unfold apnd at h
  split at h
  · cases h
  · split at h
    · cases h
    · split at h
      · split at h
        · cases h; exact Nat.le_refl _
        · split at h
          · cases h
          · obtain ⟨H1, hw, h⟩ := Option.bind_eq_some_iff.1 h
            cases h
            exact (Ext.wr hw).next
      · split at h
        · cases h
        · split at h
          · cases h; exact Nat.le_succ _
          · split at h
            · cases h
            · split at h
              · cases h
              · split at h
                · cases h; exact Nat.le_succ _
                · split at h
                  · cases h; exact Nat.le_succ _
                  · cases h

theorem callK_next (hk : ∀ f args H v H', call f args H = some (v, H') → H.next ≤ H'.next) {c : Call} (h : callK P call o c t H (fun v H => some (v, H)) = some (v, H')) : H.next ≤ H'.next := by
  unfold callK at h
  split at h
  · cases h
  · split at h
    · split at h
      · split at h
        · obtain ⟨p, hp, h⟩ := Option.bind_eq_some_iff.1 h
          rw [normK_cps] at h
          obtain ⟨u, hu, h⟩ := Option.bind_eq_some_iff.1 h
          cases h
          exact hk _ _ _ _ _ hp
        · cases h
      · cases h
    · cases h
    · split at h
      · split at h
        · cases h; exact Nat.le_refl _
        · cases h
      · split at h
        · cases h; exact Nat.le_refl _
        · cases h
      · obtain ⟨p, hp, h⟩ := Option.bind_eq_some_iff.1 h
        rw [normK_cps] at h
        obtain ⟨u, hu, h⟩ := Option.bind_eq_some_iff.1 h
        cases h
        unfold apndV at hp
        split at hp
        · split at hp
          · split at hp
            · split at hp
              · obtain ⟨news, _, hp⟩ := Option.bind_eq_some_iff.1 hp
                exact apnd_next hp
              · cases hp
            · split at hp
              · split at hp
                · obtain ⟨news, _, hp⟩ := Option.bind_eq_some_iff.1 hp
                  exact apnd_next hp
                · cases hp
              · cases hp
            · cases hp
          · cases hp
        · cases hp
      · obtain ⟨p, hp, h⟩ := Option.bind_eq_some_iff.1 h
        cases h
        unfold copyV at hp
        split at hp
        · split at hp
          · split at hp
            · obtain ⟨cells, hf', hp⟩ := Option.bind_eq_some_iff.1 hp
              split at hp
              · cases hp; exact Nat.le_refl _
              · split at hp
                · cases hp; exact Nat.le_refl _
                · obtain ⟨H1, hw, hp⟩ := Option.bind_eq_some_iff.1 hp
                  cases hp; exact (Ext.wr hw).next
            · cases hp
          · cases hp
        · cases hp
      · obtain ⟨p, hp, h⟩ := Option.bind_eq_some_iff.1 h
        cases h
        unfold clearV at hp
        split at hp
        · split at hp
          · split at hp
            · cases hp; exact Nat.le_refl _
            · split at hp
              · obtain ⟨z, hz, hp⟩ := Option.bind_eq_some_iff.1 hp
                split at hp
                · cases hp
                · exact (Ext.wr hp).next
              · cases hp; exact Nat.le_refl _
          · cases hp
        · cases hp
      · obtain ⟨p, hp, h⟩ := Option.bind_eq_some_iff.1 h
        cases h; exact Nat.le_refl _
      · obtain ⟨p, hp, h⟩ := Option.bind_eq_some_iff.1 h
        cases h; exact Nat.le_refl _
      · cases h

theorem op_next (hk : ∀ f args H v H', call f args H = some (v, H') → H.next ≤ H'.next) (h : opS P call slot o t H = some (v, H')) : H.next ≤ H'.next := by
  rcases kinds h with hp | hp | ⟨ty, x, ho⟩ | ⟨ty, x, y, ho⟩ | ⟨c, ho, _⟩
  · obtain ⟨rfl, _⟩ := pure_spec hp h; exact Nat.le_refl _
  · obtain ⟨c, rfl, _⟩ := make_spec hp h
    cases slot
    · exact Nat.le_succ _
    · exact Nat.le_refl _
  · obtain ⟨_, _, rfl, _⟩ := load_spec ho h; exact Nat.le_refl _
  · obtain ⟨_, _, _, _, _, _, _, _, h6, _⟩ := store_spec ho h; exact (Ext.wr h6).next
  · exact callK_next hk (by simpa only [opS, aopK, ho] using h)

theorem stepO_cases {g : Option AHeap} {all : List Oper} {x : Option Nat × Oper} {p : List Value × AHeap} (h : stepO P call g all x t H = some p) :
    (wantedT all x.2 t = true ∧ ldOK g x.2 t H = true ∧ ∃ v, opS P call x.1 x.2 t H = some (v, p.2) ∧ p.1 = putT t x.2.dst v) ∨
    (wantedT all x.2 t = false ∧ p = (putT t x.2.dst undef, H)) := by
  unfold stepO at h
  cases hw : wantedT all x.2 t with
  | false => rw [hw] at h; exact .inr ⟨rfl, (Option.some.inj h).symm⟩
  | true =>
    rw [hw] at h
    cases hl : ldOK g x.2 t H with
    | false => rw [hl] at h; cases h
    | true =>
      rw [hl] at h
      simp only [cond_true] at h
      obtain ⟨q, hq, h⟩ := Option.bind_eq_some_iff.1 h
      obtain rfl := Option.some.inj h
      exact .inl ⟨rfl, rfl, q.1, hq, rfl⟩

/-! 'next' only grows -/
def KN (K : List Value → AHeap → Option (Value × AHeap)) : Prop := ∀ t H r, K t H = some r → H.next ≤ r.2.next

theorem runOps_next (hk : ∀ f args H v H', call f args H = some (v, H') → H.next ≤ H'.next) {g : Option AHeap} {all : List Oper} {K : List Value → AHeap → Option (Value × AHeap)} (hK : KN K) :
    ∀ l, KN (runOps P call g all l K) := by
  intro l
  induction l with
  | nil => exact hK
  | cons x l ih =>
    intro t H r h
    rw [runOps_cons] at h
    obtain ⟨p, hp, h⟩ := Option.bind_eq_some_iff.1 h
    have h2 := ih p.1 p.2 r h
    rcases stepO_cases hp with ⟨_, _, v, h3, _⟩ | ⟨_, h3⟩
    · exact Nat.le_trans (op_next hk h3) h2
    · rw [h3] at h2; exact h2

theorem run_next (hk : ∀ f args H v H', call f args H = some (v, H') → H.next ≤ H'.next) (n : Nat) : ∀ (c : Code) (Q : Kont (Value × AHeap)), (∀ e, KN (Q e)) → KN (run P call n c Q) := by
  intro c
  induction c with
  | skip => intro Q hQ; exact hQ _
  | exit id => intro Q hQ; exact hQ _
  | ret => intro Q hQ; exact hQ _
  | region id ops draw =>
    intro Q hQ t H r h
    simp only [run] at h
    cases draw with
    | false => exact runOps_next hk (hQ _) _ t H r h
    | true =>
      simp only [cond_true] at h
      cases hok : drawOk ops.toList with
      | false => rw [hok] at h; cases h
      | true =>
        rw [hok] at h
        exact Nat.le_trans (Nat.le_add_right _ _) (runOps_next hk (hQ _) _ t (H.bump _) r h)
  | seq x y ihx ihy =>
    intro Q hQ
    rw [run_seq]
    refine ihx _ fun e => ?_
    cases e
    · exact ihy Q hQ
    · exact hQ _
    · exact hQ _
  | cond c x y ihx ihy =>
    intro Q hQ t H r h
    simp only [run] at h
    split at h
    · rename_i s _
      cases s
      · exact ihy Q hQ t H r h
      · exact ihx Q hQ t H r h
    · cases h
  | block id c ih =>
    intro Q hQ
    refine ih _ fun e => ?_
    cases e with
    | normal => exact hQ _
    | exit i =>
      intro t H r h
      simp only [blkQ] at h
      split at h <;> exact hQ _ t H r h
    | ret => exact hQ _
  | loop c ih =>
    intro Q hQ
    have : ∀ k, KN (iter (run P call n c) Q k) := by
      intro k
      induction k with
      | zero => intro t H r h; cases h
      | succ k ihk =>
        refine ih _ fun e => ?_
        cases e
        · exact ihk
        · exact hQ _
        · exact hQ _
    exact this n
  | _ => intro Q hQ t H r h; cases h

theorem resK_heap {R : Type} {Rs : List ResultVar} : ∀ {acc : List Value} {K : List Value → Option R} {r : R}, resK P t H Rs acc K = some r → ∃ vs, K vs = some r := by
  induction Rs with
  | nil => intro acc K r h; exact ⟨acc, h⟩
  | cons x rest ih =>
    intro acc K r h
    cases x with
    | tmp i => exact ih h
    | cell c ty =>
      simp only [resK] at h
      split at h
      · rw [loadK_cps] at h
        obtain ⟨u, hu, h⟩ := Option.bind_eq_some_iff.1 h
        exact ih h
      · cases h
theorem retV_heap {vs : List Value} {r : Value × AHeap} (h : retV H vs = some r) : r.2 = H := by
  unfold retV at h
  split at h
  · cases h; rfl
  · generalize vs.all notTup = b at h
    cases b <;> cases h
    rfl
theorem retQ_heap {fn : Func} {e : Ex} {r : Value × AHeap} (h : retQ P fn e t H = some r) : r.2 = H := by
  unfold retQ at h
  split at h
  · cases h
  · obtain ⟨vs, hvs⟩ := resK_heap h
    exact retV_heap hvs

theorem acall_next {O : FuncId → Option Bool} : ∀ k f args H v H', acallO O P k f args H = some (v, H') → H.next ≤ H'.next := by
  intro k
  induction k with
  | zero => intro f args H v H' h; cases h
  | succ k ih =>
    intro f args H v H' h
    simp only [acallO] at h
    split at h
    · split at h
      · cases h; exact Nat.le_refl _
      · cases h
    · split at h
      · unfold runF at h
        split at h
        · split at h
          · exact run_next ih k _ _ (fun e t H r h => by rw [retQ_heap h]; exact Nat.le_refl _) _ _ _ h
          · cases h
        · cases h
      · cases h

/-! frames -/
def KF (id : Nat) (b : Blk) (K K2 : List Value → AHeap → Option (Value × AHeap)) : Prop :=
  ∀ t H r, H.get id = none → id < H.next → K t H = some r → K2 t (H.put id b) = some (r.1, r.2.put id b) ∧ r.2.get id = none

theorem sameB_put2 {H0 H : AHeap} {i id : Nat} {b : Blk} (h0 : H0.get id = none) (h : sameB H0 H i = true) : sameB (H0.put id b) (H.put id b) i = true := by
  unfold sameB at h ⊢
  have : i ≠ id := by
    intro e; subst e; rw [h0] at h; cases h
  rw [put_get_ne H b this, put_get_ne H0 b this]
  exact h

theorem runOps_frame (hk : CallKeeps call) {id : Nat} {b : Blk} {g : Option AHeap} (hg : ∀ H0, g = some H0 → H0.get id = none) {all : List Oper} {K K2 : List Value → AHeap → Option (Value × AHeap)} (hK : KF id b K K2) :
    ∀ l, (∀ x ∈ l, ∀ s, x.1 = some s → s ≠ id) → KF id b (runOps P call g all l K) (runOps P call (g.map (·.put id b)) all l K2) := by
  intro l
  induction l with
  | nil => intro _; exact hK
  | cons x l ih =>
    intro hs t H r hn hlt h
    rw [runOps_cons] at h ⊢
    obtain ⟨p, hp, h⟩ := Option.bind_eq_some_iff.1 h
    have key : stepO P call (g.map (·.put id b)) all x t (H.put id b) = some (p.1, p.2.put id b) ∧ p.2.get id = none ∧ id < p.2.next := by
      rcases stepO_cases hp with ⟨hw, hl, v, h3, h4⟩ | ⟨hw, h3⟩
      · have hne : H.newId x.1 ≠ id := by
          cases hx : x.1 with
          | none => exact fun e => by have e' : H.next = id := e; omega
          | some s => exact hs x (by simp) s hx
        obtain ⟨f1, f2⟩ := op_frame hk h3 hn hlt hne b
        refine ⟨?_, f2, Nat.lt_of_lt_of_le hlt (op_next hk.next h3)⟩
        have hl2 : ldOK (g.map (·.put id b)) x.2 t (H.put id b) = true := by
          cases g with
          | none => rfl
          | some H0 =>
            unfold ldOK at hl ⊢
            dsimp only [Option.map_some] at hl ⊢
            split
            · rename_i ty z ho
              rw [ho] at hl
              dsimp only at hl
              split
              · rename_i ad hz
                rw [hz] at hl
                exact sameB_put2 (hg H0 rfl) hl
              · rename_i hz
                split at hl
                · rename_i ad hz2; exact absurd hz2 (hz ad)
                · cases hl
            · rfl
        unfold stepO
        rw [hw, hl2, f1, h4]
        rfl
      · rw [h3]
        refine ⟨?_, hn, hlt⟩
        unfold stepO
        rw [hw]
        rfl
    obtain ⟨k1, k2, k3⟩ := key
    rw [k1]
    exact ih (fun x hx => hs x (by simp [hx])) p.1 p.2 r k2 k3 h

theorem slots_mem {all : List Oper} {base : Nat} {L : List Nat} {x : Option Nat × Oper} (h : x ∈ slots all base L) : ∃ i ∈ L, x.1 = some (base + i) := by
  unfold slots at h
  obtain ⟨i, hi, h⟩ := List.mem_filterMap.1 h
  split at h
  · cases h; exact ⟨i, hi, rfl⟩
  · cases h

theorem run_frame (hk : CallKeeps call) (id : Nat) (b : Blk) (n : Nat) : ∀ (c : Code) (Q Q2 : Kont (Value × AHeap)), (∀ e, KF id b (Q e) (Q2 e)) → KF id b (run P call n c Q) (run P call n c Q2) := by
  intro c
  induction c with
  | skip => intro Q Q2 hQ; exact hQ _
  | exit i => intro Q Q2 hQ; exact hQ _
  | ret => intro Q Q2 hQ; exact hQ _
  | region rid ops draw =>
    intro Q Q2 hQ t H r hn hlt h
    simp only [run] at h ⊢
    cases draw with
    | false =>
      exact runOps_frame hk (g := none) (fun H0 e => by cases e) (hQ _) _ (fun x hx s hs => by
        unfold plainOps at hx
        obtain ⟨o, _, rfl⟩ := List.mem_map.1 hx
        cases hs) t H r hn hlt h
    | true =>
      simp only [cond_true] at h ⊢
      cases hok : drawOk ops.toList with
      | false => rw [hok] at h; cases h
      | true =>
        rw [hok] at h
        simp only [cond_true] at h ⊢
        exact runOps_frame hk (g := some H) (fun H0 e => by cases e; exact hn) (hQ _) _ (fun x hx s hs => by
          obtain ⟨i, _, hi⟩ := slots_mem hx
          rw [hi] at hs
          cases hs
          show H.next + i ≠ id
          omega) t (H.bump ops.toList.length) r hn (Nat.lt_of_lt_of_le hlt (Nat.le_add_right _ _)) h
  | seq x y ihx ihy =>
    intro Q Q2 hQ
    simp only [run_seq]
    refine ihx _ _ fun e => ?_
    cases e
    · exact ihy Q Q2 hQ
    · exact hQ _
    · exact hQ _
  | cond c x y ihx ihy =>
    intro Q Q2 hQ t H r hn hlt h
    simp only [run] at h ⊢
    split at h
    · rename_i s _
      cases s
      · exact ihy Q Q2 hQ t H r hn hlt h
      · exact ihx Q Q2 hQ t H r hn hlt h
    · cases h
  | block i c ih =>
    intro Q Q2 hQ
    refine ih _ _ fun e => ?_
    cases e with
    | normal => exact hQ _
    | exit j =>
      intro t H r hn hlt h
      simp only [blkQ] at h ⊢
      split at h
      · rename_i e; rw [if_pos e]; exact hQ _ t H r hn hlt h
      · rename_i e; rw [if_neg e]; exact hQ _ t H r hn hlt h
    | ret => exact hQ _
  | loop c ih =>
    intro Q Q2 hQ
    have : ∀ k, KF id b (iter (run P call n c) Q k) (iter (run P call n c) Q2 k) := by
      intro k
      induction k with
      | zero => intro t H r _ _ h; cases h
      | succ k ihk =>
        refine ih _ _ fun e => ?_
        cases e
        · exact ihk
        · exact hQ _
        · exact hQ _
    exact this n
  | _ => intro Q Q2 hQ t H r _ _ h; cases h

theorem retQ_frame (fn : Func) (id : Nat) (b : Blk) (e : Ex) : KF id b (retQ P fn e) (retQ P fn e) := by
  intro t H r hn hlt h
  have hh := retQ_heap h
  refine ⟨?_, by rw [hh]; exact hn⟩
  have key : ∀ (Rs : List ResultVar) (acc : List Value), resK P t H Rs acc (retV H) = some r → resK P t (H.put id b) Rs acc (retV (H.put id b)) = some (r.1, r.2.put id b) := by
    intro Rs
    induction Rs with
    | nil =>
      intro acc h
      simp only [resK] at h ⊢
      unfold retV at h ⊢
      split at h
      · cases h; rfl
      · generalize acc.all notTup = bb at h ⊢
        cases bb <;> cases h
        rfl
    | cons x rest ih =>
      intro acc h
      cases x with
      | tmp i => exact ih _ h
      | cell c ty =>
        simp only [resK] at h ⊢
        split at h
        · rw [loadK_cps] at h ⊢
          obtain ⟨u, hu, h⟩ := Option.bind_eq_some_iff.1 h
          rw [loadK_put hn hu]
          exact ih _ h
        · cases h
  unfold retQ at h ⊢
  split at h
  · cases h
  · exact key _ _ h

/-! what was there stays -/
def KE (K : List Value → AHeap → Option (Value × AHeap)) : Prop :=
  ∀ t H r, (∀ i, H.next ≤ i → H.get i = none) → K t H = some r → Ext H r.2 ∧ ∀ i, r.2.next ≤ i → r.2.get i = none

theorem runOps_ext (hk : CallKeeps call) {g : Option AHeap} {all : List Oper} {K : List Value → AHeap → Option (Value × AHeap)} (hK : KE K) :
    ∀ (l : List (Option Nat × Oper)) (t : List Value) (H : AHeap) (r : Value × AHeap), (l.map (·.1)).Pairwise (fun a b => ∀ s, a = some s → b ≠ some s) → (∀ x ∈ l, ∀ s, x.1 = some s → H.get s = none ∧ s < H.next) →
      (∀ i, H.next ≤ i → H.get i = none) → runOps P call g all l K t H = some r → Ext H r.2 ∧ ∀ i, r.2.next ≤ i → r.2.get i = none := by
  intro l
  induction l with
  | nil => intro t H r _ _ hf h; exact hK t H r hf h
  | cons x l ih =>
    intro t H r hpw hs hf h
    rw [runOps_cons] at h
    obtain ⟨p, hp, h⟩ := Option.bind_eq_some_iff.1 h
    simp only [List.map_cons, List.pairwise_cons] at hpw
    rcases stepO_cases hp with ⟨hw, hl, v, h3, h4⟩ | ⟨hw, h3⟩
    · have hfree : H.get (H.newId x.1) = none := by
        cases hx : x.1 with
        | none => exact hf _ (Nat.le_refl _)
        | some s => exact (hs x (by simp) s hx).1
      have hext := op_ext hk hf hfree h3
      have hfr := op_fresh hk hf (fun i hi => (hs x (by simp) i hi).2) h3
      obtain ⟨e1, e2⟩ := ih p.1 p.2 r hpw.2 (fun z hz s hzs => by
        obtain ⟨q1, q2⟩ := hs z (by simp [hz]) s hzs
        have hne : H.newId x.1 ≠ s := by
          cases hx : x.1 with
          | none => exact fun e => by have e' : H.next = s := e; omega
          | some s' =>
            intro e
            have e' : s' = s := e
            subst e'
            exact hpw.1 z.1 (List.mem_map.2 ⟨z, hz, rfl⟩) s' hx hzs
        exact ⟨(op_frame hk h3 q1 q2 hne ⟨[], 0, .rw, 0⟩).2, Nat.lt_of_lt_of_le q2 hext.next⟩) hfr h
      exact ⟨Ext.trans hext e1, e2⟩
    · rw [h3] at h
      exact ih _ H r hpw.2 (fun z hz s hzs => hs z (by simp [hz]) s hzs) hf h

theorem run_ext (hk : CallKeeps call) (n : Nat) : ∀ (c : Code) (Q : Kont (Value × AHeap)), (∀ e, KE (Q e)) → KE (run P call n c Q) := by
  intro c
  induction c with
  | skip => intro Q hQ; exact hQ _
  | exit id => intro Q hQ; exact hQ _
  | ret => intro Q hQ; exact hQ _
  | region id ops draw =>
    intro Q hQ t H r hf h
    simp only [run] at h
    cases draw with
    | false =>
      refine runOps_ext hk (hQ _) _ t H r ?_ ?_ hf h
      · unfold plainOps
        rw [List.map_map]
        rw [List.pairwise_map]
        exact List.pairwise_of_forall fun a b s e => (by cases e)
      · intro x hx s hs
        unfold plainOps at hx
        obtain ⟨o, _, rfl⟩ := List.mem_map.1 hx
        cases hs
    | true =>
      simp only [cond_true] at h
      cases hok : drawOk ops.toList with
      | false => rw [hok] at h; cases h
      | true =>
        rw [hok] at h
        simp only [cond_true] at h
        have hord : (drawOrder ops.toList).Nodup ∧ ∀ i ∈ drawOrder ops.toList, i < ops.toList.length := draw_perm hok
        have hb : Ext H (H.bump ops.toList.length) := ⟨fun i b h => ⟨b, h, Nat.le_refl _, fun _ => rfl⟩, Nat.le_add_right _ _⟩
        have hA : ∀ (L : List Nat), L.Nodup → ((slots ops.toList H.next L).map (·.1)).Pairwise (fun a b => ∀ s, a = some s → b ≠ some s) := by
          intro L
          induction L with
          | nil => intro _; simp [slots]
          | cons i L ihL =>
            intro hnd
            obtain ⟨n1, n2⟩ := List.nodup_cons.1 hnd
            cases ho : ops.toList[i]? with
            | none =>
              have : slots ops.toList H.next (i :: L) = slots ops.toList H.next L := by unfold slots; rw [List.filterMap_cons, ho]
              rw [this]; exact ihL n2
            | some o =>
              rw [slots_cons ho, List.map_cons, List.pairwise_cons]
              refine ⟨fun a ha s hs e => ?_, ihL n2⟩
              obtain ⟨z, hz, rfl⟩ := List.mem_map.1 ha
              obtain ⟨j, hj, hzj⟩ := slots_mem hz
              rw [hzj] at e
              cases hs
              have : j = i := by have := Option.some.inj e; omega
              subst this
              exact n1 hj
        have hB : ∀ x ∈ slots ops.toList H.next (drawOrder ops.toList), ∀ s, x.1 = some s → (H.bump ops.toList.length).get s = none ∧ s < (H.bump ops.toList.length).next := by
          intro x hx s hs
          obtain ⟨i, hi, hxi⟩ := slots_mem hx
          rw [hxi] at hs
          cases hs
          exact ⟨hf _ (Nat.le_add_right _ _), Nat.add_lt_add_left (hord.2 i hi) _⟩
        obtain ⟨e1, e2⟩ := runOps_ext hk (hQ .normal) _ t (H.bump ops.toList.length) r (hA _ hord.1) hB (fun i hi => hf i (Nat.le_trans (Nat.le_add_right _ _) hi)) h
        exact ⟨Ext.trans hb e1, e2⟩
  | seq x y ihx ihy =>
    intro Q hQ
    rw [run_seq]
    refine ihx _ fun e => ?_
    cases e
    · exact ihy Q hQ
    · exact hQ _
    · exact hQ _
  | cond c x y ihx ihy =>
    intro Q hQ t H r hf h
    simp only [run] at h
    split at h
    · rename_i s _
      cases s
      · exact ihy Q hQ t H r hf h
      · exact ihx Q hQ t H r hf h
    · cases h
  | block id c ih =>
    intro Q hQ
    refine ih _ fun e => ?_
    cases e with
    | normal => exact hQ _
    | exit i =>
      intro t H r hf h
      simp only [blkQ] at h
      split at h <;> exact hQ _ t H r hf h
    | ret => exact hQ _
  | loop c ih =>
    intro Q hQ
    have : ∀ k, KE (iter (run P call n c) Q k) := by
      intro k
      induction k with
      | zero => intro t H r _ h; cases h
      | succ k ihk =>
        refine ih _ fun e => ?_
        cases e
        · exact ihk
        · exact hQ _
        · exact hQ _
    exact this n
  | _ => intro Q hQ t H r _ h; cases h

theorem acall_keeps {O : FuncId → Option Bool} : ∀ k, CallKeeps (acallO O P k) := by
  intro k
  induction k with
  | zero => exact ⟨fun f args H v H' h => (by cases h), fun f args H v H' h => (by cases h), fun f args H v H' h => (by cases h)⟩
  | succ k ih =>
    refine ⟨acall_next (k + 1), ?_, ?_⟩
    · intro f args H v H' h id b hn hlt
      simp only [acallO] at h ⊢
      split at h
      · split at h
        · cases h; exact ⟨rfl, hn⟩
        · cases h
      · split at h
        · rename_i fn _
          unfold runF at h ⊢
          split at h
          · (try dsimp only)
            split at h
            · rename_i hle
              rw [if_pos hle]
              exact run_frame ih id b k _ _ _ (retQ_frame fn id b) _ H (v, H') hn hlt h
            · cases h
          · cases h
        · cases h
    · intro f args H v H' h hf
      simp only [acallO] at h
      split at h
      · split at h
        · cases h; exact ⟨Ext.refl _, hf⟩
        · cases h
      · split at h
        · unfold runF at h
          split at h
          · split at h
            · exact run_ext ih k _ _ (fun e t H r hf h => by rw [retQ_heap h]; exact ⟨Ext.refl _, hf⟩) _ H (v, H') hf h
            · cases h
          · cases h
        · cases h

theorem Rel.grow {w0 w w' : World} {ρ : Ren} {H : AHeap} (h : Rel w0 ρ H w) (hb : Below w.heap.size w w') : Rel w0 ρ H w' := by
  have hb0 : ∀ k, k < w0.heap.size → w'.heap[k]? = w.heap[k]? := fun k hk => hb.block k (Nat.lt_of_lt_of_le hk h.below.size)
  refine ⟨⟨hb.os.trans h.below.os, hb.tape.trans h.below.tape, hb.output.trans h.below.output, Nat.le_trans h.below.size hb.size, fun k hk => (hb0 k hk).trans (h.below.block k hk)⟩, h.dom, ?_, h.inj, h.fresh⟩
  intro i b hi
  obtain ⟨ad, sl, hr, hB⟩ := h.blk i b hi
  refine ⟨ad, sl, hr, hB.below hb0 fun hm => ?_⟩
  unfold BlkRel at hB
  rw [hm] at hB
  obtain ⟨_, _, cs', e, h3, _⟩ := hB
  have hlt : ad.block < w.heap.size := by
    rcases Nat.lt_or_ge ad.block w.heap.size with h4 | h4
    · exact h4
    · rw [Array.getElem?_eq_none h4] at h3; cases h3
  exact hb.block _ hlt

/-- WHAT THE MACHINE COMES TO, THE MODEL COMES TO. -/
theorem acall_sound (hm : P.follows .mixedOrders = true) {O : FuncId → Option Bool}
    (hO : ∀ f b, O f = some b → ∀ w, Calls P f #[] w fun e w' => e = .returned (.bool b) ∧ Below w.heap.size w w') (w0 : World) : ∀ k, CallSound P (acallO O P k) w0 := by
  intro k
  induction k with
  | zero => intro f args H v H' h; cases h
  | succ k ih =>
    intro f args H v H' h ρ w args' hR hA
    simp only [acallO] at h
    split at h
    · rename_i b hb
      split at h
      · cases h
        have : args' = #[] := by
          cases args' with
          | mk l => cases l with
            | nil => rfl
            | cons _ _ => cases hA
        subst this
        exact (hO f b hb w).mono fun e w' ⟨he, hbl⟩ => ⟨_, ρ, he, .inl (.inl (.inl rfl)), hR.grow hbl, Ren.le_refl _⟩
      · cases h
    · split at h
      · rename_i fn hfn
        exact run_fn ih (draw_sound hm ih (acall_keeps k)) hfn h hR hA
      · cases h

end
end Go.Mx
