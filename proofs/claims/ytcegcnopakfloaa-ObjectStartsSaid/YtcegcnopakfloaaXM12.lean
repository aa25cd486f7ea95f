/- Frames of single operations; operations that may change places. -/
import Derived.Test.YtcegcnopakfloaaXM11
namespace Go.Mx
open Go Go.RowKit

section
variable {P : Program} {call : CallF} {t : List Value} {H H' : AHeap} {o : Oper} {slot : Option Nat} {v : Value}

/-- operations that neither read nor make memory -/
def isPure (o : Oper) : Bool :=
  match o.op with
  | .move _ | .assign _ | .pick _ _ _ | .build _ _ | .nilCheck _ | .binOp _ _ _ _ _ | .unOp _ _ _ | .convert _ _ _ | .slice _ _ _ _ _ | .fieldAddr _ _ _ | .field _ _ _
  | .indexAddr _ _ _ | .index _ _ _ | .extract _ _ | .makeFunc _ _ _ => true
  | .call c => match c.callee with
    | .builtin .len => true
    | .builtin .max => true
    | .builtin .min => true
    | _ => false
  | _ => false

theorem pure_spec (hp : isPure o = true) (h : opS P call slot o t H = some (v, H')) : H' = H ∧ ∀ slot2 H2, opS P call slot2 o t H2 = some (v, H2) := by
  obtain ⟨dst, op, type, pos, after, guard⟩ := o
  cases op <;> (try (cases hp; done))
  case call c =>
    simp only [opS, aopK, callK] at h ⊢
    split at h
    · cases h
    · rename_i args ha
      simp only [isPure] at hp
      split at h
      · rename_i hb; rw [hb] at hp; cases hp
      · cases h
      · rename_i bi hb
        rw [hb] at hp
        split at h
        · split at h
          · cases h; exact ⟨rfl, fun _ _ => by first | rfl | (simp [*]; done)⟩
          · cases h
        · split at h
          · cases h; exact ⟨rfl, fun _ _ => by first | rfl | (simp [*]; done)⟩
          · cases h
        · cases hp
        · cases hp
        · cases hp
        · obtain ⟨u, hu, h⟩ := Option.bind_eq_some_iff.1 h
          cases h; exact ⟨rfl, fun _ _ => by first | rfl | (simp [*]; done)⟩
        · obtain ⟨u, hu, h⟩ := Option.bind_eq_some_iff.1 h
          cases h; exact ⟨rfl, fun _ _ => by first | rfl | (simp [*]; done)⟩
        · cases h
  case makeFunc fn first captured =>
    cases fn <;> (try (cases h; done))
    simp only [opS, aopK] at h ⊢
    split at h
    · rename_i cs _ _
      cases hall : cs.all basicV with
      | false => rw [hall] at h; cases h
      | true => rw [hall] at h; cases h; exact ⟨rfl, fun _ _ => by first | rfl | (rw [hall]; rfl)⟩
    · cases h
  case binOp op ty x y u =>
    simp only [opS, aopK] at h ⊢
    split at h
    · rw [binK_cps] at h
      obtain ⟨u, hu, h⟩ := Option.bind_eq_some_iff.1 h
      cases h
      exact ⟨rfl, fun _ H2 => by rw [binK_cps, hu]; rfl⟩
    · cases h
  case unOp op ty x =>
    simp only [opS, aopK] at h ⊢
    split at h
    · rw [unK_cps] at h
      obtain ⟨u, hu, h⟩ := Option.bind_eq_some_iff.1 h
      cases h
      exact ⟨rfl, fun _ H2 => by rw [unK_cps, hu]; rfl⟩
    · cases h
  case pick c a b =>
    simp only [opS, aopK] at h ⊢
    split at h
    · rename_i s _
      cases s <;> simp only [cond] at h ⊢ <;> split at h <;> first | (cases h; exact ⟨rfl, fun _ _ => rfl⟩) | cases h
    · cases h
  case field ty x f =>
    simp only [opS, aopK] at h ⊢
    repeat' split at h
    all_goals first
      | cases h; done
      | (obtain ⟨u, hu, h⟩ := Option.bind_eq_some_iff.1 h
         rw [normK_cps] at h
         obtain ⟨u2, hu2, h⟩ := Option.bind_eq_some_iff.1 h
         cases h
         exact ⟨rfl, fun _ H2 => by rw [hu]; simp only [Option.bind_some]; rw [normK_cps, hu2]; rfl⟩)
  case index ty x ix =>
    simp only [opS, aopK] at h ⊢
    split at h
    · split at h
      · split at h
        · split at h
          · split at h
            · rename_i hb
              obtain ⟨u, hu, h⟩ := Option.bind_eq_some_iff.1 h
              rw [normK_cps] at h
              obtain ⟨u2, hu2, h⟩ := Option.bind_eq_some_iff.1 h
              cases h
              exact ⟨rfl, fun _ H2 => by rw [if_pos hb, hu]; simp only [Option.bind_some]; rw [normK_cps, hu2]; rfl⟩
            · cases h
          · cases h
        · cases h
      · split at h
        · split at h
          · rename_i hb
            obtain ⟨u, hu, h⟩ := Option.bind_eq_some_iff.1 h
            cases h
            exact ⟨rfl, fun _ H2 => by rw [if_pos hb, hu]; rfl⟩
          · cases h
        · cases h
      · cases h
    · cases h
  case extract x i =>
    simp only [opS, aopK] at h ⊢
    split at h
    · obtain ⟨u, hu, h⟩ := Option.bind_eq_some_iff.1 h
      rw [normK_cps] at h
      obtain ⟨u2, hu2, h⟩ := Option.bind_eq_some_iff.1 h
      cases h
      exact ⟨rfl, fun _ H2 => by rw [hu]; simp only [Option.bind_some]; rw [normK_cps, hu2]; rfl⟩
    · cases h
  case indexAddr ty x ix =>
    simp only [opS, aopK] at h ⊢
    split at h
    · split at h
      · split at h
        · obtain ⟨ad, had, h⟩ := Option.bind_eq_some_iff.1 h
          split at h
          · rename_i hb; cases h; subst had; exact ⟨rfl, fun _ H2 => by simp only [Option.bind_some]; rw [if_pos hb]⟩
          · cases h
        · cases h
      · cases h
    · split at h
      · split at h
        · split at h
          · rename_i hb; cases h; exact ⟨rfl, fun _ H2 => by (try dsimp only); rw [if_pos hb]⟩
          · cases h
        · cases h
      · cases h
    · cases h
  case nilCheck x =>
    simp only [opS, aopK] at h ⊢
    split at h
    · obtain ⟨ad, had, h⟩ := Option.bind_eq_some_iff.1 h
      cases h; subst had; exact ⟨rfl, fun _ H2 => rfl⟩
    · cases h; exact ⟨rfl, fun _ H2 => rfl⟩
    · cases h
  case slice ty x lo hi mx =>
    simp only [opS, aopK] at h ⊢
    split at h
    · split at h
      · split at h
        · obtain ⟨q, hq, h⟩ := Option.bind_eq_some_iff.1 h
          cases h; exact ⟨rfl, fun _ H2 => by (try dsimp only); rw [hq]; rfl⟩
        · cases h
      · cases h
    · split at h
      · obtain ⟨q, hq, h⟩ := Option.bind_eq_some_iff.1 h
        cases h; exact ⟨rfl, fun _ H2 => by (try dsimp only); rw [hq]; rfl⟩
      · cases h
    · cases h
  case fieldAddr ty x f =>
    simp only [opS, aopK] at h ⊢
    split at h
    · split at h
      · split at h
        · split at h
          · split at h
            · cases h
            · rename_i hb; cases h; exact ⟨rfl, fun _ H2 => by (try dsimp only); rw [if_neg hb]⟩
          · cases h
        · cases h
      · cases h
    · cases h
  all_goals
    simp only [opS, aopK] at h ⊢
    repeat' split at h
    all_goals first
      | cases h; done
      | (cases h; exact ⟨rfl, fun _ _ => rfl⟩)
      | (cases h; exact ⟨rfl, fun _ _ => by simp only [*]⟩)

/-- operations that make a block of their own -/
def isMake (o : Oper) : Bool :=
  match o.op with
  | .alloc _ | .box _ _ | .buildSlice _ _ _ | .makeSlice _ _ _ => true
  | _ => false

theorem make_spec (hp : isMake o = true) (h : opS P call slot o t H = some (v, H')) :
    ∃ b, H' = H.alloc slot b ∧ ∀ H2 : AHeap, H2.newId slot = H.newId slot → opS P call slot o t H2 = some (v, H2.alloc slot b) := by
  obtain ⟨dst, op, type, pos, after, guard⟩ := o
  cases op <;> (try (cases hp; done))
  case alloc e =>
    simp only [opS, aopK] at h ⊢
    split at h
    · cases h; exact ⟨_, rfl, fun H2 e => by rw [e]⟩
    · cases h
  case box e x =>
    simp only [opS, aopK] at h ⊢
    split at h
    · rename_i u _
      cases hnt : notTup u with
      | false => rw [hnt] at h; cases h
      | true => rw [hnt] at h; cases h; exact ⟨_, rfl, fun H2 e => by (try dsimp only); rw [e]; first | rfl | (rw [hnt]; rfl)⟩
    · cases h
  case buildSlice ty n parts =>
    simp only [opS, aopK] at h ⊢
    split at h
    · split at h
      · split at h
        · cases h
        · rename_i hc
          split at h
          · cases h; exact ⟨_, rfl, fun H2 e => by (try dsimp only); rw [if_neg hc, e]⟩
          · cases h
      · cases h
    · cases h
  case makeSlice ty l c =>
    simp only [opS, aopK] at h ⊢
    split at h
    · split at h
      · rename_i hnm
        split at h
        · split at h
          · split at h
            · cases h
            · rename_i h0
              split at h
              · rename_i hb; cases h; exact ⟨_, rfl, fun H2 e => by (try dsimp only); rw [if_pos hnm, if_neg h0, if_pos hb, e]⟩
              · cases h
          · cases h
        · cases h
      · cases h
    · cases h

theorem load_spec {ty : TypeId} {x : Operand} (ho : o.op = .load ty x) (h : opS P call slot o t H = some (v, H')) :
    ∃ a, aev t x = some (.pointer (some a)) ∧ H' = H ∧ loadK P ty a.block a.off H some = some v := by
  simp only [opS, aopK, ho] at h
  split at h
  · rename_i ad hx
    rw [loadK_cps] at h
    obtain ⟨u, hu, h⟩ := Option.bind_eq_some_iff.1 h
    cases h
    exact ⟨ad, hx, rfl, hu⟩
  · cases h
theorem load_intro {ty : TypeId} {x : Operand} (ho : o.op = .load ty x) {a : Addr} (hx : aev t x = some (.pointer (some a))) (h : loadK P ty a.block a.off H some = some v) :
    opS P call slot o t H = some (v, H) := by
  simp only [opS, aopK, ho, hx]
  rw [loadK_cps, h]
  rfl
theorem loadK_same {ty : TypeId} {i k : Nat} {H2 : AHeap} (he : H2.get i = H.get i) : loadK P ty i k H2 some = loadK P ty i k H some := by
  unfold loadK ldI ldB ldS ldSl ldPt AHeap.cell AHeap.row
  rw [he]

theorem store_spec {ty : TypeId} {x y : Operand} (ho : o.op = .store ty x y) (h : opS P call slot o t H = some (v, H')) :
    ∃ a u n, aev t x = some (.pointer (some a)) ∧ aev t y = some u ∧ szOf P ty = some n ∧ notTup u = true ∧ u.cells.toList.length = n ∧ H.wr a.block a.off u.cells.toList = some H' ∧ v = undef := by
  simp only [opS, aopK, ho] at h
  split at h
  · rename_i ad u hx hy
    split at h
    · rename_i n hn
      split at h
      · rename_i hlen
        obtain ⟨H1, hw, h⟩ := Option.bind_eq_some_iff.1 h
        cases h
        exact ⟨ad, u, n, hx, hy, hn, hlen.1, hlen.2, hw, rfl⟩
      · cases h
    · cases h
  · cases h

/-- the four kinds -/
theorem kinds (h : opS P call slot o t H = some (v, H')) : isPure o = true ∨ isMake o = true ∨ (∃ ty x, o.op = .load ty x) ∨ (∃ ty x y, o.op = .store ty x y) ∨ (∃ c, o.op = .call c ∧ isEff o = true) := by
  obtain ⟨dst, op, type, pos, after, guard⟩ := o
  cases op <;> first
    | exact .inl rfl
    | exact .inr (.inl rfl)
    | exact .inr (.inr (.inl ⟨_, _, rfl⟩))
    | exact .inr (.inr (.inr (.inl ⟨_, _, _, rfl⟩)))
    | (exfalso; simp only [opS, aopK] at h; cases h; done)
    | skip
  case call c =>
    cases hc : c.callee with
    | value f => exact .inr (.inr (.inr (.inr ⟨c, rfl, by simp [isEff, hc]⟩)))
    | invoke r m => exact .inr (.inr (.inr (.inr ⟨c, rfl, by simp [isEff, hc]⟩)))
    | builtin b => cases b <;> first
      | (refine .inr (.inr (.inr (.inr ⟨c, rfl, ?_⟩))); simp [isEff, hc]; done)
      | (refine .inl ?_; simp [isPure, hc]; done)

theorem op_frame (hk : CallKeeps call) (h : opS P call slot o t H = some (v, H')) {id : Nat} (hn : H.get id = none) (hlt : id < H.next) (hs : H.newId slot ≠ id) (b : Blk) :
    opS P call slot o t (H.put id b) = some (v, H'.put id b) ∧ H'.get id = none := by
  rcases kinds h with hp | hp | ⟨ty, x, ho⟩ | ⟨ty, x, y, ho⟩ | ⟨c, ho, _⟩
  · obtain ⟨rfl, h2⟩ := pure_spec hp h
    exact ⟨h2 _ _, hn⟩
  · obtain ⟨c, rfl, h2⟩ := make_spec hp h
    refine ⟨?_, ?_⟩
    · rw [h2 (H.put id b) (by cases slot <;> rfl), put_alloc H b c slot (Ne.symm hs)]
    · rw [AHeap.get_alloc, if_neg (Ne.symm hs)]; exact hn
  · obtain ⟨ad, h1, rfl, h3⟩ := load_spec ho h
    exact ⟨load_intro ho h1 (loadK_put hn h3), hn⟩
  · obtain ⟨ad, u, n, h1, h2, h3, h4, h5, h6, rfl⟩ := store_spec ho h
    obtain ⟨k1, k2⟩ := wr_put (b := b) hn h6
    refine ⟨?_, k2⟩
    simp only [opS, aopK, ho, h1, h2, h3]
    rw [if_pos ⟨h4, h5⟩, k1]
    rfl
  · have hx : callK P call o c t H (fun v H => some (v, H)) = some (v, H') := by simpa only [opS, aopK, ho] using h
    obtain ⟨k1, k2⟩ := callK_frame hk hx hn hlt b
    exact ⟨by simpa only [opS, aopK, ho] using k1, k2⟩

theorem callK_ext (hk : CallKeeps call) {c : Call} (hf : ∀ i, H.next ≤ i → H.get i = none) (h : callK P call o c t H (fun v H => some (v, H)) = some (v, H')) : Ext H H' := by
  unfold callK at h
  split at h
  · cases h
  · split at h
    · split at h
      · split at h
        · obtain ⟨p, hp, h⟩ := Option.bind_eq_some_iff.1 h
          rw [normK_cps] at h
          obtain ⟨u, hu, h⟩ := Option.bind_eq_some_iff.1 h
          cases h
          exact (hk.ext _ _ _ _ _ hp hf).1
        · cases h
      · cases h
    · cases h
    · split at h
      · split at h
        · cases h; exact Ext.refl _
        · cases h
      · split at h
        · cases h; exact Ext.refl _
        · cases h
      · obtain ⟨p, hp, h⟩ := Option.bind_eq_some_iff.1 h
        rw [normK_cps] at h
        obtain ⟨u, hu, h⟩ := Option.bind_eq_some_iff.1 h
        cases h
        unfold apndV at hp
        split at hp
        · split at hp
          · split at hp
            · split at hp
              · obtain ⟨news, _, hp⟩ := Option.bind_eq_some_iff.1 hp
                exact apnd_ext hf hp
              · cases hp
            · split at hp
              · split at hp
                · obtain ⟨news, _, hp⟩ := Option.bind_eq_some_iff.1 hp
                  exact apnd_ext hf hp
                · cases hp
              · cases hp
            · cases hp
          · cases hp
        · cases hp
      · obtain ⟨p, hp, h⟩ := Option.bind_eq_some_iff.1 h
        cases h
        unfold copyV at hp
        split at hp
        · split at hp
          · split at hp
            · obtain ⟨cells, hf', hp⟩ := Option.bind_eq_some_iff.1 hp
              split at hp
              · cases hp; exact Ext.refl _
              · split at hp
                · cases hp; exact Ext.refl _
                · obtain ⟨H1, hw, hp⟩ := Option.bind_eq_some_iff.1 hp
                  cases hp; exact Ext.wr hw
            · cases hp
          · cases hp
        · cases hp
      · obtain ⟨p, hp, h⟩ := Option.bind_eq_some_iff.1 h
        cases h
        unfold clearV at hp
        split at hp
        · split at hp
          · split at hp
            · cases hp; exact Ext.refl _
            · split at hp
              · obtain ⟨z, hz, hp⟩ := Option.bind_eq_some_iff.1 hp
                split at hp
                · cases hp
                · exact Ext.wr hp
              · cases hp; exact Ext.refl _
          · cases hp
        · cases hp
      · obtain ⟨p, hp, h⟩ := Option.bind_eq_some_iff.1 h
        cases h; exact Ext.refl _
      · obtain ⟨p, hp, h⟩ := Option.bind_eq_some_iff.1 h
        cases h; exact Ext.refl _
      · cases h

theorem fresh_wr {i k : Nat} {vs : List Value} (hf : ∀ i, H.next ≤ i → H.get i = none) (h : H.wr i k vs = some H') : ∀ i, H'.next ≤ i → H'.get i = none := by
  obtain ⟨b, h1, _, _, rfl⟩ := wr_spec h
  intro j hj
  have hj' : H.next ≤ j := hj
  rw [put_get_ne _ _ (fun e => by rw [← e, hf j hj'] at h1; cases h1)]
  exact hf j hj'
theorem fresh_alloc (hf : ∀ i, H.next ≤ i → H.get i = none) (b : Blk) : ∀ i, (H.alloc none b).next ≤ i → (H.alloc none b).get i = none := by
  intro j hj
  have hj' : H.next + 1 ≤ j := hj
  rw [AHeap.get_alloc, if_neg (show ¬ j = H.newId none from fun e => by have e' : j = H.next := e; omega)]
  exact hf j (by omega)
theorem fresh_put {i : Nat} {b c : Blk} (hf : ∀ i, H.next ≤ i → H.get i = none) (h1 : H.get i = some b) : ∀ j, (H.put i c).next ≤ j → (H.put i c).get j = none := by
  intro j hj
  have hj' : H.next ≤ j := hj
  rw [put_get_ne _ _ (fun e => by rw [← e, hf j hj'] at h1; cases h1)]
  exact hf j hj'

theorem apnd_fresh {elem : TypeId} (hf : ∀ i, H.next ≤ i → H.get i = none) {base : Option Addr} {sLen sCap n : Nat} {news : List Value}
    (h : apnd P elem H base sLen sCap news n = some (v, H')) : ∀ i, H'.next ≤ i → H'.get i = none := by
  unfold apnd at h
  split at h
  · cases h
  · split at h
    · cases h
    · split at h
      · split at h
        · cases h; exact hf
        · split at h
          · cases h
          · obtain ⟨H1, hw, h⟩ := Option.bind_eq_some_iff.1 h
            cases h
            exact fresh_wr hf hw
      · split at h
        · cases h
        · split at h
          · cases h; exact fresh_alloc hf _
          · split at h
            · cases h
            · rename_i ad _ c hc1
              split at h
              · cases h
              · split at h
                · cases h; exact fresh_alloc hf _
                · split at h
                  · cases h
                    exact fresh_alloc (fresh_put hf hc1) _
                  · cases h

theorem callK_fresh (hk : CallKeeps call) {c : Call} (hf : ∀ i, H.next ≤ i → H.get i = none) (h : callK P call o c t H (fun v H => some (v, H)) = some (v, H')) : ∀ i, H'.next ≤ i → H'.get i = none := by
  unfold callK at h
  split at h
  · cases h
  · split at h
    · split at h
      · split at h
        · obtain ⟨p, hp, h⟩ := Option.bind_eq_some_iff.1 h
          rw [normK_cps] at h
          obtain ⟨u, hu, h⟩ := Option.bind_eq_some_iff.1 h
          cases h
          exact (hk.ext _ _ _ _ _ hp hf).2
        · cases h
      · cases h
    · cases h
    · split at h
      · split at h
        · cases h; exact hf
        · cases h
      · split at h
        · cases h; exact hf
        · cases h
      · obtain ⟨p, hp, h⟩ := Option.bind_eq_some_iff.1 h
        rw [normK_cps] at h
        obtain ⟨u, hu, h⟩ := Option.bind_eq_some_iff.1 h
        cases h
        unfold apndV at hp
        split at hp
        · split at hp
          · split at hp
            · split at hp
              · obtain ⟨news, _, hp⟩ := Option.bind_eq_some_iff.1 hp
                exact apnd_fresh hf hp
              · cases hp
            · split at hp
              · split at hp
                · obtain ⟨news, _, hp⟩ := Option.bind_eq_some_iff.1 hp
                  exact apnd_fresh hf hp
                · cases hp
              · cases hp
            · cases hp
          · cases hp
        · cases hp
      · obtain ⟨p, hp, h⟩ := Option.bind_eq_some_iff.1 h
        cases h
        unfold copyV at hp
        split at hp
        · split at hp
          · split at hp
            · obtain ⟨cells, hf', hp⟩ := Option.bind_eq_some_iff.1 hp
              split at hp
              · cases hp; exact hf
              · split at hp
                · cases hp; exact hf
                · obtain ⟨H1, hw, hp⟩ := Option.bind_eq_some_iff.1 hp
                  cases hp; exact fresh_wr hf hw
            · cases hp
          · cases hp
        · cases hp
      · obtain ⟨p, hp, h⟩ := Option.bind_eq_some_iff.1 h
        cases h
        unfold clearV at hp
        split at hp
        · split at hp
          · split at hp
            · cases hp; exact hf
            · split at hp
              · obtain ⟨z, hz, hp⟩ := Option.bind_eq_some_iff.1 hp
                split at hp
                · cases hp
                · exact fresh_wr hf hp
              · cases hp; exact hf
          · cases hp
        · cases hp
      · obtain ⟨p, hp, h⟩ := Option.bind_eq_some_iff.1 h
        cases h; exact hf
      · obtain ⟨p, hp, h⟩ := Option.bind_eq_some_iff.1 h
        cases h; exact hf
      · cases h

/-- behind an operation nothing lies from 'next' on -/
theorem op_fresh (hk : CallKeeps call) (hf : ∀ i, H.next ≤ i → H.get i = none) (hs : ∀ i, slot = some i → i < H.next) (h : opS P call slot o t H = some (v, H')) :
    ∀ i, H'.next ≤ i → H'.get i = none := by
  rcases kinds h with c | c | ⟨ty, z, ho⟩ | ⟨ty, z, z', ho⟩ | ⟨c, ho, _⟩
  · obtain ⟨rfl, _⟩ := pure_spec c h; exact hf
  · obtain ⟨b, rfl, _⟩ := make_spec c h
    cases slot with
    | none => exact fresh_alloc hf b
    | some j =>
      intro k hk2
      have hk3 : H.next ≤ k := hk2
      have := hs j rfl
      rw [AHeap.get_alloc, if_neg (show ¬ k = H.newId (some j) from fun e => by have e' : k = j := e; omega)]
      exact hf k hk3
  · obtain ⟨_, _, rfl, _⟩ := load_spec ho h; exact hf
  · obtain ⟨a, u, n, _, _, _, _, _, h6, _⟩ := store_spec ho h; exact fresh_wr hf h6
  · exact callK_fresh hk hf (by simpa only [opS, aopK, ho] using h)

theorem op_ext (hk : CallKeeps call) (hf : ∀ i, H.next ≤ i → H.get i = none) (hfs : H.get (H.newId slot) = none) (h : opS P call slot o t H = some (v, H')) : Ext H H' := by
  rcases kinds h with hp | hp | ⟨ty, x, ho⟩ | ⟨ty, x, y, ho⟩ | ⟨c, ho, _⟩
  · obtain ⟨rfl, _⟩ := pure_spec hp h; exact Ext.refl _
  · obtain ⟨c, rfl, _⟩ := make_spec hp h; exact Ext.alloc hfs c
  · obtain ⟨_, _, rfl, _⟩ := load_spec ho h; exact Ext.refl _
  · obtain ⟨_, _, _, _, _, _, _, _, h6, _⟩ := store_spec ho h; exact Ext.wr h6
  · exact callK_ext hk hf (by simpa only [opS, aopK, ho] using h)

end
end Go.Mx
