/- The machine's steps keep what they do not touch. -/
import Derived.Test.YtcegcnopakfloaaXM10
namespace Go.Mx
open Go Go.RowKit

/-- nothing is lost, and what was written bears a later number -/
structure Ext (H H' : AHeap) : Prop where
  get : ∀ i b, H.get i = some b → ∃ b', H'.get i = some b' ∧ b.ver ≤ b'.ver ∧ (b'.ver = b.ver → b' = b)
  next : H.next ≤ H'.next

theorem Ext.refl (H : AHeap) : Ext H H := ⟨fun _ b h => ⟨b, h, Nat.le_refl _, fun _ => rfl⟩, Nat.le_refl _⟩
theorem Ext.trans {A B C : AHeap} (h : Ext A B) (k : Ext B C) : Ext A C :=
  ⟨fun i b hb => by
    obtain ⟨b1, h1, h2, h3⟩ := h.get i b hb
    obtain ⟨b2, k1, k2, k3⟩ := k.get i b1 h1
    refine ⟨b2, k1, Nat.le_trans h2 k2, fun e => ?_⟩
    have e1 : b1.ver = b.ver := by omega
    have e2 : b2.ver = b1.ver := by omega
    rw [k3 e2, h3 e1], Nat.le_trans h.next k.next⟩

theorem Ext.alloc {H : AHeap} {slot : Option Nat} (hf : H.get (H.newId slot) = none) (b : Blk) : Ext H (H.alloc slot b) := by
  refine ⟨fun i b' hb => ⟨b', ?_, Nat.le_refl _, fun _ => rfl⟩, ?_⟩
  · rw [AHeap.get_alloc, if_neg (fun e => by rw [e, hf] at hb; cases hb)]; exact hb
  · cases slot <;> simp [AHeap.alloc]

theorem wr_spec {H H' : AHeap} {i o : Nat} {vs : List Value} (h : H.wr i o vs = some H') :
    ∃ b, H.get i = some b ∧ b.mode = .rw ∧ o + vs.length ≤ b.cells.length ∧ H' = H.put i { b with cells := splice b.cells o vs, ver := b.ver + 1 } := by
  unfold AHeap.wr at h
  split at h
  · rename_i b hb
    split at h
    · rename_i hc; exact ⟨b, hb, hc.1, hc.2, (Option.some.inj h).symm⟩
    · cases h
  · cases h

theorem Ext.put {H : AHeap} {i : Nat} {b b' : Blk} (hb : H.get i = some b) (hv : b.ver < b'.ver) : Ext H (H.put i b') := by
  refine ⟨fun j c hc => ?_, Nat.le_refl _⟩
  by_cases e : j = i
  · subst e
    rw [hb] at hc; cases hc
    exact ⟨b', by simp [AHeap.put], by omega, fun e => by omega⟩
  · exact ⟨c, by simp [AHeap.put, e, hc], Nat.le_refl _, fun _ => rfl⟩

theorem Ext.wr {H H' : AHeap} {i o : Nat} {vs : List Value} (h : H.wr i o vs = some H') : Ext H H' := by
  obtain ⟨b, h1, _, _, rfl⟩ := wr_spec h
  exact Ext.put h1 (Nat.lt_succ_self _)

theorem put_get_ne (H : AHeap) {i j : Nat} (b : Blk) (h : j ≠ i) : (H.put i b).get j = H.get j := by simp [AHeap.put, h]
theorem ite_swap {α : Type} (k i j : Nat) (x y z : α) (h : i ≠ j) : (if k = j then x else if k = i then y else z) = (if k = i then y else if k = j then x else z) := by
  by_cases e1 : k = j
  · subst e1; rw [if_pos rfl, if_neg (fun e => h e.symm), if_pos rfl]
  · by_cases e2 : k = i
    · rw [if_neg e1, if_pos e2, if_pos e2]
    · rw [if_neg e1, if_neg e2, if_neg e2, if_neg e1]
theorem put_comm (H : AHeap) {i j : Nat} (b c : Blk) (h : i ≠ j) : (H.put i b).put j c = (H.put j c).put i b := by
  have : ((H.put i b).put j c).get = ((H.put j c).put i b).get := funext fun k => ite_swap k i j _ _ _ h
  exact congrArg (fun g => AHeap.mk g H.next) this
theorem put_alloc (H : AHeap) {i : Nat} (b c : Blk) (slot : Option Nat) (h : i ≠ H.newId slot) : (H.put i b).alloc slot c = (H.alloc slot c).put i b := by
  cases slot with
  | none =>
    have : ((H.put i b).alloc none c).get = ((H.alloc none c).put i b).get := funext fun k => ite_swap k i H.next _ _ _ h
    exact congrArg (fun g => AHeap.mk g (H.next + 1)) this
  | some j => exact put_comm H b c h

section frame
variable {H : AHeap} {id : Nat} {b : Blk}
theorem cell_put (hn : H.get id = none) {i o : Nat} {v : Value} (h : H.cell i o = some v) : (H.put id b).cell i o = some v := by
  have hi : i ≠ id := fun e => by subst e; simp [AHeap.cell, hn] at h
  simpa [AHeap.cell, put_get_ne H b hi] using h
theorem row_put (hn : H.get id = none) {i o n : Nat} {v : List Value} (h : H.row i o n = some v) : (H.put id b).row i o n = some v := by
  have hi : i ≠ id := fun e => by subst e; simp [AHeap.row, hn] at h
  simpa [AHeap.row, put_get_ne H b hi] using h
theorem wr_put (hn : H.get id = none) {i o : Nat} {vs : List Value} {H' : AHeap} (h : H.wr i o vs = some H') : (H.put id b).wr i o vs = some (H'.put id b) ∧ H'.get id = none := by
  obtain ⟨c, h1, h2, h3, rfl⟩ := wr_spec h
  have hi : i ≠ id := fun e => by subst e; rw [hn] at h1; cases h1
  refine ⟨?_, by rw [put_get_ne _ _ (Ne.symm hi)]; exact hn⟩
  unfold AHeap.wr
  rw [put_get_ne H b hi, h1]
  (try dsimp only)
  rw [if_pos ⟨h2, h3⟩, put_comm H b _ (Ne.symm hi)]
theorem loadK_put {P : Program} (hn : H.get id = none) {ty : TypeId} {i o : Nat} {v : Value} (h : loadK P ty i o H some = some v) : loadK P ty i o (H.put id b) some = some v := by
  have gen : ∀ {α : Type} (f : Value → Option α) (g : α → Option Value), ((H.cell i o).bind f).bind g = some v → (((H.put id b).cell i o).bind f).bind g = some v := by
    intro α f g hh
    cases hc : H.cell i o with
    | none => rw [hc] at hh; cases hh
    | some u => rw [hc] at hh; rw [cell_put hn hc]; exact hh
  unfold loadK at h ⊢
  split at h
  · exact gen (asI _) _ h
  · exact gen asB _ h
  · exact gen asS _ h
  · exact gen asSl _ h
  · exact gen asPt _ h
  · split at h
    · obtain ⟨l, hl, h⟩ := Option.bind_eq_some_iff.1 h
      (try dsimp only)
      rw [row_put hn hl]; exact h
    · cases h
  · split at h
    · obtain ⟨l, hl, h⟩ := Option.bind_eq_some_iff.1 h
      (try dsimp only)
      rw [row_put hn hl]; exact h
    · cases h
  · obtain ⟨u, hu, h⟩ := Option.bind_eq_some_iff.1 h
    (try dsimp only)
    rw [cell_put hn hu]; exact h
  · cases h
theorem firstC_put (hn : H.get id = none) {size n : Nat} {x : Value} {l : List Value} (h : firstC H size n x = some l) : firstC (H.put id b) size n x = some l := by
  unfold firstC at h ⊢
  split at h
  · split at h
    · rename_i hle; (try dsimp only); rw [if_pos hle]; exact row_put hn h
    · cases h
  · exact h
  · exact h
  · cases h
theorem apnd_put {P : Program} (hn : H.get id = none) (hlt : id < H.next) {elem : TypeId} {base : Option Addr} {sLen sCap n : Nat} {news : List Value} {v : Value} {H' : AHeap}
    (h : apnd P elem H base sLen sCap news n = some (v, H')) : apnd P elem (H.put id b) base sLen sCap news n = some (v, H'.put id b) ∧ H'.get id = none := by
  have hne : id ≠ H.next := by omega
  unfold apnd at h ⊢
  split at h
  · cases h
  · (try dsimp only)
    split at h
    · cases h
    · rename_i hc; rw [if_neg hc]
      split at h
      · rename_i hc; rw [if_pos hc]
        split at h
        · rename_i hc; rw [if_pos hc]; cases h; exact ⟨rfl, hn⟩
        · rename_i hc; rw [if_neg hc]
          split at h
          · cases h
          · obtain ⟨H1, hw, h⟩ := Option.bind_eq_some_iff.1 h
            cases h
            obtain ⟨k1, k2⟩ := wr_put (b := b) hn hw
            (try dsimp only)
            rw [k1]; exact ⟨rfl, k2⟩
      · rename_i hc; rw [if_neg hc]
        split at h
        · cases h
        · rename_i hc; rw [if_neg hc]
          split at h
          · cases h
            refine ⟨?_, by rw [AHeap.get_alloc, if_neg (show ¬ id = H.newId none from hne)]; exact hn⟩
            (try dsimp only)
            rw [put_alloc H b _ none hne]; rfl
          · split at h
            · cases h
            · rename_i ad _ c hc1
              have hi : ad.block ≠ id := fun e => by rw [e, hn] at hc1; cases hc1
              (try dsimp only)
              rw [put_get_ne H b hi, hc1]
              (try dsimp only)
              split at h
              · cases h
              · rename_i hc; rw [if_neg hc]
                split at h
                · rename_i hc; rw [if_pos hc]; cases h
                  refine ⟨?_, by rw [AHeap.get_alloc, if_neg (show ¬ id = H.newId none from hne)]; exact hn⟩
                  rw [put_alloc H b _ none hne]; rfl
                · rename_i hc; rw [if_neg hc]
                  split at h
                  · rename_i hc; rw [if_pos hc]; cases h
                    refine ⟨?_, ?_⟩
                    · rw [put_comm H b _ (Ne.symm hi)]
                      exact congrArg (fun X => some (Value.slice (some ⟨H.next, 0, none⟩) (sLen + n) (sLen + n), X)) (put_alloc (H.put ad.block { c with mode := .dead, ver := c.ver + 1 }) b _ none hne)
                    · rw [AHeap.get_alloc, if_neg (show ¬ id = (H.put ad.block _).newId none from hne), put_get_ne _ _ (Ne.symm hi)]; exact hn
                  · cases h
end frame

theorem apnd_ext {P : Program} {elem : TypeId} {H H' : AHeap} (hf : ∀ i, H.next ≤ i → H.get i = none) {base : Option Addr} {sLen sCap n : Nat} {news : List Value} {v : Value}
    (h : apnd P elem H base sLen sCap news n = some (v, H')) : Ext H H' := by
  unfold apnd at h
  split at h
  · cases h
  · split at h
    · cases h
    · split at h
      · split at h
        · cases h; exact Ext.refl _
        · split at h
          · cases h
          · obtain ⟨H1, hw, h⟩ := Option.bind_eq_some_iff.1 h
            cases h
            exact Ext.wr hw
      · split at h
        · cases h
        · split at h
          · cases h; exact Ext.alloc (hf _ (Nat.le_refl _)) _
          · split at h
            · cases h
            · rename_i ad _ c hc1
              split at h
              · cases h
              · split at h
                · cases h; exact Ext.alloc (hf _ (Nat.le_refl _)) _
                · split at h
                  · cases h
                    refine Ext.trans (Ext.put (b' := { c with mode := .dead, ver := c.ver + 1 }) hc1 (Nat.lt_succ_self _)) (Ext.alloc ?_ _)
                    have hne : H.next ≠ ad.block := fun e => by rw [← e, hf _ (Nat.le_refl _)] at hc1; cases hc1
                    show (H.put ad.block _).get H.next = none
                    rw [put_get_ne _ _ hne]
                    exact hf _ (Nat.le_refl _)
                  · cases h

/-- what a function's run leaves alone -/
structure CallKeeps (call : CallF) : Prop where
  next : ∀ f args H v H', call f args H = some (v, H') → H.next ≤ H'.next
  frame : ∀ f args H v H', call f args H = some (v, H') → ∀ id b, H.get id = none → id < H.next → call f args (H.put id b) = some (v, H'.put id b) ∧ H'.get id = none
  ext : ∀ f args H v H', call f args H = some (v, H') → (∀ i, H.next ≤ i → H.get i = none) → Ext H H' ∧ ∀ i, H'.next ≤ i → H'.get i = none

section
variable {P : Program} {call : CallF} {t : List Value} {H H' : AHeap} {o : Oper} {slot : Option Nat} {v : Value}

theorem callK_frame (hk : CallKeeps call) {c : Call} (h : callK P call o c t H (fun v H => some (v, H)) = some (v, H')) {id : Nat} (hn : H.get id = none) (hlt : id < H.next) (b : Blk) :
    callK P call o c t (H.put id b) (fun v H => some (v, H)) = some (v, H'.put id b) ∧ H'.get id = none := by
  unfold callK at h ⊢
  split at h
  · cases h
  · rename_i args ha
    (try dsimp only)
    split at h
    · rename_i f hb
      (try dsimp only)
      split at h
      · rename_i g first captured hf
        (try dsimp only)
        split at h
        · rename_i hbd
          rw [if_pos hbd]
          obtain ⟨p, hp, h⟩ := Option.bind_eq_some_iff.1 h
          obtain ⟨k1, k2⟩ := hk.frame _ _ _ _ _ hp id b hn hlt
          rw [k1]
          rw [normK_cps] at h
          obtain ⟨u, hu, h⟩ := Option.bind_eq_some_iff.1 h
          cases h
          refine ⟨?_, k2⟩
          simp only [Option.bind_some]
          rw [normK_cps, hu]
          rfl
        · cases h
      · cases h
    · cases h
    · rename_i bi hb
      (try dsimp only)
      split at h
      · split at h
        · rename_i hu; (try dsimp only); cases h; exact ⟨rfl, hn⟩
        · cases h
      · split at h
        · rename_i hu; (try dsimp only); cases h; exact ⟨rfl, hn⟩
        · cases h
      · obtain ⟨p, hp, h⟩ := Option.bind_eq_some_iff.1 h
        rw [normK_cps] at h
        obtain ⟨u, hu, h⟩ := Option.bind_eq_some_iff.1 h
        cases h
        have key : ∀ {tys : List TypeId} {s x : Value} {p : Value × AHeap}, apndV P tys H s x = some p → apndV P tys (H.put id b) s x = some (p.1, p.2.put id b) ∧ p.2.get id = none := by
          intro tys s x p hp
          unfold apndV at hp ⊢
          split at hp
          · (try dsimp only)
            split at hp
            · (try dsimp only)
              split at hp
              · (try dsimp only)
                split at hp
                · (try dsimp only)
                  obtain ⟨news, hf, hp⟩ := Option.bind_eq_some_iff.1 hp
                  rw [firstC_put hn hf]
                  exact apnd_put hn hlt hp
                · cases hp
              · (try dsimp only)
                split at hp
                · (try dsimp only)
                  split at hp
                  · rename_i h1; rw [if_pos h1]
                    obtain ⟨news, hf, hp⟩ := Option.bind_eq_some_iff.1 hp
                    rw [firstC_put hn hf]
                    exact apnd_put hn hlt hp
                  · cases hp
                · cases hp
              · cases hp
            · cases hp
          · cases hp
        obtain ⟨k1, k2⟩ := key hp
        (try dsimp only)
        rw [k1]
        refine ⟨?_, k2⟩
        simp only [Option.bind_some]
        rw [normK_cps, hu]
        rfl
      · obtain ⟨p, hp, h⟩ := Option.bind_eq_some_iff.1 h
        cases h
        have key : ∀ {tys : List TypeId} {s x : Value} {p : Value × AHeap}, copyV P tys H s x = some p → copyV P tys (H.put id b) s x = some (p.1, p.2.put id b) ∧ p.2.get id = none := by
          intro tys s x p hp
          unfold copyV at hp ⊢
          split at hp
          · (try dsimp only)
            split at hp
            · (try dsimp only)
              split at hp
              · (try dsimp only)
                obtain ⟨cells, hf, hp⟩ := Option.bind_eq_some_iff.1 hp
                rw [firstC_put hn hf]
                simp only [Option.bind_some]
                split at hp
                · cases hp; exact ⟨rfl, hn⟩
                · (try dsimp only)
                  split at hp
                  · rename_i h1; rw [if_pos h1]; cases hp; exact ⟨rfl, hn⟩
                  · rename_i h1; rw [if_neg h1]
                    obtain ⟨H1, hw, hp⟩ := Option.bind_eq_some_iff.1 hp
                    cases hp
                    obtain ⟨k1, k2⟩ := wr_put (b := b) hn hw
                    rw [k1]; exact ⟨rfl, k2⟩
              · cases hp
            · cases hp
          · cases hp
        obtain ⟨k1, k2⟩ := key hp
        (try dsimp only)
        rw [k1]
        exact ⟨rfl, k2⟩
      · obtain ⟨p, hp, h⟩ := Option.bind_eq_some_iff.1 h
        cases h
        have key : ∀ {tys : List TypeId} {x : Value} {p : AHeap}, clearV P tys H x = some p → clearV P tys (H.put id b) x = some (p.put id b) ∧ p.get id = none := by
          intro tys x p hp
          unfold clearV at hp ⊢
          split at hp
          · (try dsimp only)
            split at hp
            · (try dsimp only)
              split at hp
              · rename_i h1; rw [if_pos h1]; cases hp; exact ⟨rfl, hn⟩
              · rename_i h1; rw [if_neg h1]
                split at hp
                · (try dsimp only)
                  obtain ⟨z, hz, hp⟩ := Option.bind_eq_some_iff.1 hp
                  rw [hz]
                  simp only [Option.bind_some]
                  split at hp
                  · cases hp
                  · rename_i h2; rw [if_neg h2]
                    exact wr_put hn hp
                · cases hp; exact ⟨rfl, hn⟩
            · cases hp
          · cases hp
        obtain ⟨k1, k2⟩ := key hp
        (try dsimp only)
        rw [k1]
        exact ⟨rfl, k2⟩
      · obtain ⟨p, hp, h⟩ := Option.bind_eq_some_iff.1 h
        cases h
        (try dsimp only)
        rw [hp]
        exact ⟨rfl, hn⟩
      · obtain ⟨p, hp, h⟩ := Option.bind_eq_some_iff.1 h
        cases h
        (try dsimp only)
        rw [hp]
        exact ⟨rfl, hn⟩
      · cases h

end
end Go.Mx
