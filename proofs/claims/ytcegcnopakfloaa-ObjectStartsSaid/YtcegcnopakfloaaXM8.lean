/- Simulation of calls of built-in functions. -/
import Derived.Test.YtcegcnopakfloaaXM7
namespace Go.Mx
open Go Go.RowKit

section
variable {P : Program} {call : CallF} {w0 w : World} {ρ : Ren} {t : List Value} {H H' : AHeap} {a : Act} {o : Oper} {slot : Option Nat} {v : Value}
  {Q : Exit → Act → World → Prop}

theorem append_room {t u elem : TypeId} {ty : TypeId} {inf : TypeInfo} {d : TypeDesc} (hu : P.underlying t = some (.slice elem)) (hi : P.info? elem = some inf)
    (hx : P.underlying u = some d) (hd : ∀ k, d ≠ .int k) {base : Option Addr} {sLen sCap n : Nat} {x : Value} {news : List Value}
    (hl : (Builtin.lenOf x).run P w = .ok n w) (hf : (Builtin.firstCells inf.size n x).run P w = .ok news.toArray w) (hroom : sLen + n ≤ sCap) {w' : World}
    (hs : ∀ ad, base = some ad → (storeCells (ad.add (sLen * inf.size)) news).run P w = .ok () w') (hn : base = none → w' = w) :
    (Builtin.append_ #[t, u] ty #[.slice base sLen sCap, x]).run P w = .ok (.slice base (sLen + n) sCap) w' := by
  cases base with
  | none =>
    rw [hn rfl]
    simp [Builtin.append_, run_underlying hu, run_underlying hx, sizeOf, typeInfo, hi, hl, hf, hroom]
  | some ad =>
    simp [Builtin.append_, run_underlying hu, run_underlying hx, sizeOf, typeInfo, hi, hl, hf, hroom, hs ad rfl]

theorem append_grow {t u elem : TypeId} {ty : TypeId} {inf : TypeInfo} {z : Value} {d : TypeDesc} (hu : P.underlying t = some (.slice elem)) (hi : P.info? elem = some inf) (hz : inf.zero = some z)
    (hx : P.underlying u = some d) (hd : ∀ k, d ≠ .int k) {base : Option Addr} {sLen sCap n : Nat} {x : Value} {news olds : List Value}
    (hl : (Builtin.lenOf x).run P w = .ok n w) (hf : (Builtin.firstCells inf.size n x).run P w.drew = .ok news.toArray w.drew)
    (ho : (Builtin.firstCells inf.size sLen (.slice base sLen sCap)).run P w.drew = .ok olds.toArray w.drew)
    (hroom : sCap < sLen + n) (h63 : sLen + n ≤ 70368744177664) (hb : (sLen + n) * inf.bytes ≤ 70368744177664) :
    (Builtin.append_ #[t, u] ty #[.slice base sLen sCap, x]).run P w =
      .ok (.slice (some ⟨w.heap.size, 0, none⟩) (sLen + n) (grownCap w (sLen + n) sCap elem))
        (w.drew.alloc (.cells (olds.toArray ++ news.toArray ++ Builtin.zeroCells z.cells (grownCap w (sLen + n) sCap elem - (sLen + n))) elem)) := by
  have hn : ¬ (sLen + n ≤ sCap) := by omega
  have h63' : ¬ (9223372036854775807 < ((sLen : Int) + (n : Int))) := by omega
  have h48' : ¬ (281474976710656 < Builtin.nextslicecap (sLen + n) sCap * inf.bytes) := by
    have := growslice_fits (bytes := inf.bytes) hroom (by omega)
    omega
  simp [Builtin.append_, run_underlying hu, run_underlying hx, sizeOf, typeInfo, zeroValue, hi, hz, hl, hn, h63', h48', Question.forced, hf, ho, newRow, grownCap]
  congr 2
  apply Array.ext'
  simp [List.append_assoc]

theorem firstC_sim {size n : Nat} {x x' : Value} {news : List Value} (h : firstC H size n x = some news) (hx : VRel ρ x x') (hR : Rel w0 ρ H w) :
    ∃ news', (Builtin.firstCells size n x').run P w = .ok news'.toArray w ∧ All2 (SRel ρ) news news' ∧ ((∃ s, x = .string s) ∨ news.length = n * size) := by
  unfold firstC at h
  split at h
  · rename_i ad l c
    split at h
    · rename_i hnl
      obtain ⟨hlc, ⟨rfl, a', he⟩ | ⟨ad', sl, hr, he⟩⟩ := hx.slice
      · obtain rfl : n = 0 := by omega
        have hnil : news = [] := by
          unfold AHeap.row at h
          split at h
          · split at h
            · cases h; simp
            · cases h
          · cases h
        subst hnil
        exact ⟨[], by rw [he]; simp [Builtin.firstCells, loadCells, loadCellsFrom], .nil, .inr (by simp)⟩
      · obtain ⟨l', h1, h2, h3⟩ := hR.row h hr
        refine ⟨l', ?_, h1, .inr h2⟩
        rw [he]
        exact run_firstCells_some (P := P) w size n _ _ _ l' (by rw [← h1.length, h2]) h3
    · cases h
  · split at h
    · rename_i hn
      subst hn
      cases h
      obtain ⟨_, _, he⟩ := hx.slice
      exact ⟨[], by rw [he]; simp [Builtin.firstCells], .nil, .inr (by simp)⟩
    · cases h
  · rename_i s
    split at h
    · rename_i hn
      subst hn
      cases h
      rw [hx.string]
      refine ⟨s.data.toList.map fun b => .int .u8 b.toNat, ?_, ?_, .inl ⟨s, rfl⟩⟩
      · have hx : (Array.map (fun b : UInt8 => Value.int IntKind.u8 (b.toNat : Int)) (s.extract 0 s.size).data) = (s.data.toList.map fun b => Value.int .u8 b.toNat).toArray := by
          have : s.extract 0 s.size = s := ByteArray.extract_zero_size
          rw [this]
          apply Array.ext'
          simp
        simp only [Builtin.firstCells]
        rw [hx]
        simp
      · exact All2.of_get rfl fun i x y hx hy => by
          rw [hx] at hy; cases hy
          simp only [List.getElem?_map, Option.map_eq_some_iff] at hx
          obtain ⟨b, _, rfl⟩ := hx
          exact .inl rfl
    · cases h
  · cases h

theorem Rel.kill {w0 : World} {ρ : Ren} {H : AHeap} {w : World} (h : Rel w0 ρ H w) {i : Nat} {b : Blk} (hg : H.get i = some b) (n : Nat) : Rel w0 ρ (H.put i { b with mode := .dead, ver := n }) w := by
  refine ⟨h.below, ?_, ?_, ?_, ?_⟩
  · intro j
    simp only [AHeap.put]
    split
    · rename_i e1; subst e1
      obtain ⟨x, hx⟩ := h.rho_some hg
      simp [hx]
    · exact h.dom j
  · intro j b' hb'
    simp only [AHeap.put] at hb'
    split at hb'
    · rename_i e1; subst e1
      cases hb'
      obtain ⟨ad, sl, hr, _⟩ := h.blk j b hg
      exact ⟨ad, sl, hr, by unfold BlkRel; trivial⟩
    · exact h.blk j b' hb'
  · intro j1 j2 b1 b2 ad1 sl1 ad2 sl2 h1 m1 h2 m2 hne r1 r2
    simp only [AHeap.put] at h1 h2
    split at h1
    · cases h1; cases m1
    · split at h2
      · cases h2; cases m2
      · exact h.inj j1 j2 b1 b2 ad1 sl1 ad2 sl2 h1 m1 h2 m2 hne r1 r2
  · intro j hj
    simp only [AHeap.put]
    split
    · rename_i e1; subst e1; rw [h.fresh _ hj] at hg; cases hg
    · exact h.fresh j hj

theorem get_grow (H : AHeap) (i : Nat) (b b2 : Blk) (j : Nat) : ((H.put i b).alloc none b2).get j = if j = H.next then some b2 else (H.put i b).get j := rfl

theorem zeroCells_size (z : Array Value) (n : Nat) : (Builtin.zeroCells z n).size = n * z.size := by simp [Builtin.zeroCells]

/-- a new block behind an append -/
theorem Rel.grown {w0 : World} {ρ : Ren} {H : AHeap} {w : World} (h : Rel w0 ρ H w) {cells : List Value} {cells' : Array Value} (hc : All2 (SRel ρ) cells cells'.toList) {z : Array Value} {elem : TypeId} {esz n cap : Nat}
    (hz : z.size = esz) (hn : n ≤ cap) :
    Rel w0 (ρ.ext H.next (⟨w.heap.size, 0, none⟩, cap - n)) (H.alloc none ⟨cells, esz, .rw, 0⟩) (w.drew.alloc (.cells (cells' ++ Builtin.zeroCells z (cap - n)) elem)) ∧
      ρ.le (ρ.ext H.next (⟨w.heap.size, 0, none⟩, cap - n)) ∧
      VRel (ρ.ext H.next (⟨w.heap.size, 0, none⟩, cap - n)) (.slice (some ⟨H.next, 0, none⟩) n n) (.slice (some ⟨w.heap.size, 0, none⟩) n cap) := by
  have hl := hc.length
  simp only [Array.length_toList] at hl
  obtain ⟨h1, h2⟩ := (Rel.drew h).alloc none (h.fresh _ (Nat.le_refl _)) (by intro i hi; cases hi) ⟨cells, esz, .rw, 0⟩ rfl (cells' ++ Builtin.zeroCells z (cap - n)) elem (cap - n)
    (by simp only [Array.size_append, zeroCells_size, hz, hl]) (by
      have : (cells' ++ Builtin.zeroCells z (cap - n)).toList.take cells.length = cells'.toList := by
        rw [Array.toList_append, List.take_append_of_le_length (by simp [hl])]
        rw [List.take_of_length_le (by simp [hl])]
      rw [this]; exact hc)
  refine ⟨h1, h2, ?_⟩
  have := slice_new ρ H.next w.heap.size (cap - n) n
  rwa [show n + (cap - n) = cap from by omega] at this

theorem apnd_sim {t u elem : TypeId} {ty : TypeId} {d : TypeDesc} (hu : P.underlying t = some (.slice elem)) (hx : P.underlying u = some d) (hd : ∀ k, d ≠ .int k)
    {base : Option Addr} {sLen sCap n : Nat} {s' x x' : Value} {news : List Value} {inf : TypeInfo} (hi : P.info? elem = some inf)
    (h : apnd P elem H base sLen sCap news n = some (v, H')) (hs : VRel ρ (.slice base sLen sCap) s') (hxr : VRel ρ x x') (hR : Rel w0 ρ H w)
    (hf : firstC H inf.size n x = some news) (hl : ∀ w : World, (Builtin.lenOf x').run P w = .ok n w) :
    ∃ v' w' ρ', (Builtin.append_ #[t, u] ty #[s', x']).run P w = .ok v' w' ∧ VRel ρ' v v' ∧ Rel w0 ρ' H' w' ∧ ρ.le ρ' := by
  obtain ⟨news', f1, f2, f3⟩ := firstC_sim (P := P) (w := w) hf hxr hR
  obtain ⟨newsD, g1, g2, g3⟩ := firstC_sim (P := P) (w := w.drew) hf hxr (Rel.drew hR)
  unfold apnd at h
  rw [hi] at h
  simp only [] at h
  split at h
  · cases h
  · rename_i hc0
    have hsz : inf.size ≠ 0 := fun e => hc0 (.inl e)
    have hnl : news.length = n * inf.size := Decidable.byContradiction fun e => hc0 (.inr (.inl e))
    have hlc : sLen ≤ sCap := Decidable.byContradiction fun e => hc0 (.inr (.inr e))
    split at h
    · rename_i hroom
      split at h
      · rename_i hn0
        subst hn0
        cases h
        have hnil : news' = [] := by
          have := f2.length; rw [hnl] at this; simp at this
          exact List.eq_nil_of_length_eq_zero this.symm
        subst hnil
        cases base with
        | none =>
          obtain ⟨rfl, rfl, he⟩ := hs.slice
          subst he
          exact ⟨_, w, ρ, append_room hu hi hx hd (hl w) f1 (by simp) (fun ad e => by cases e) (fun _ => rfl), hs, hR, Ren.le_refl _⟩
        | some ad =>
          obtain ⟨_, ⟨rfl, a', he⟩ | ⟨ad', sl, hr, he⟩⟩ := hs.slice
          · obtain rfl : sLen = 0 := by omega
            subst he
            exact ⟨_, w, ρ, append_room hu hi hx hd (hl w) f1 (by simp) (w' := w) (fun ad e => by simp [storeCells]) (fun e => by cases e), hs, hR, Ren.le_refl _⟩
          · subst he
            exact ⟨_, w, ρ, append_room hu hi hx hd (hl w) f1 (by omega) (w' := w) (fun ad e => by simp [storeCells]) (fun e => by cases e), hs, hR, Ren.le_refl _⟩
      · rename_i hn0
        split at h
        · cases h
        · rename_i ad
          obtain ⟨H1, hw, h⟩ := Option.bind_eq_some_iff.1 h
          cases h
          obtain ⟨_, ⟨rfl, a', he⟩ | ⟨ad', sl, hr, he⟩⟩ := hs.slice
          · omega
          · subst he
            obtain ⟨w', h1, h2⟩ := hR.wr hw f2 hr P
            refine ⟨_, w', ρ, append_room hu hi hx hd (hl w) f1 (by omega) (w' := w') (fun ad2 e => ?_) (fun e => by cases e), ?_, h2, Ren.le_refl _⟩
            · cases e
              rw [Addr.add_add]
              exact h1
            · exact .inl (.inl (.inl ⟨hroom, .inr ⟨ad', sl, hr, rfl⟩⟩))
    · rename_i hroom
      split at h
      · cases h
      · rename_i hc1
        have hzs : (zeroCellsOf P elem).isSome := by
          cases hzz : zeroCellsOf P elem with
          | some _ => rfl
          | none => exact absurd (.inl (by rw [hzz]; rfl)) hc1
        have hb1 : (sLen + n) * inf.bytes ≤ 70368744177664 := Decidable.byContradiction fun e => hc1 (.inr (.inl e))
        have hb2 : sLen + n ≤ 70368744177664 := Decidable.byContradiction fun e => hc1 (.inr (.inr e))
        obtain ⟨zc, hzc⟩ := Option.isSome_iff_exists.1 hzs
        obtain ⟨inf2, zv, k1, k2, k3, k4, k5⟩ := zeroCellsOf_spec (ρ := ρ) hzc
        rw [hi] at k1
        cases k1
        have hzsz : zv.cells.size = inf.size := by rw [← k4, ← k3]; simp
        split at h
        · -- nil
          cases h
          obtain ⟨rfl, rfl, he⟩ := hs.slice
          subst he
          have hrun := append_grow (ty := ty) hu hi k2 hx hd (base := none) (sLen := 0) (sCap := 0) (n := n) (news := newsD) (olds := []) (hl w) g1 (by simp [Builtin.firstCells]) (by omega) hb2 hb1
          have hg := grownCap_ge w (0 + n) 0 elem
          obtain ⟨r1, r2, r3⟩ := Rel.grown hR (cells := news) (cells' := newsD.toArray) (by simpa using g2) (z := zv.cells) (elem := elem) (n := 0 + n) (cap := grownCap w (0 + n) 0 elem) hzsz hg
          refine ⟨_, _, _, hrun, r3, ?_, r2⟩
          simpa using r1
        · rename_i ad
          split at h
          · cases h
          · rename_i b hgb
            split at h
            · cases h
            · rename_i hc2
              have hlive : b.mode ≠ .dead := fun e => hc2 (.inl e)
              have hfit : ad.off + sCap * inf.size ≤ b.cells.length := Decidable.byContradiction fun e => hc2 (.inr e)
              have hmul : sLen * inf.size ≤ sCap * inf.size := Nat.mul_le_mul_right _ hlc
              have hrow : H.row ad.block ad.off (sLen * inf.size) = some ((b.cells.drop ad.off).take (sLen * inf.size)) := by
                unfold AHeap.row
                rw [hgb]
                simp only []
                rw [if_pos ⟨hlive, by omega⟩]
              -- the old cells, in a world behind a draw
              have hold : ∀ b0 c0, s' = .slice (some b0) sLen c0 → ∃ olds', (Builtin.firstCells inf.size sLen (.slice (some b0) sLen c0)).run P w.drew = .ok olds'.toArray w.drew ∧ All2 (SRel ρ) ((b.cells.drop ad.off).take (sLen * inf.size)) olds' := by
                intro b0 c0 e0
                obtain ⟨_, ⟨h0, a', he⟩ | ⟨ad', sl, hr, he⟩⟩ := hs.slice
                · obtain rfl : sLen = 0 := by omega
                  exact ⟨[], by simp [Builtin.firstCells, loadCells, loadCellsFrom], by simp; exact .nil⟩
                · rw [e0] at he
                  cases he
                  obtain ⟨l', h1, h2, h3⟩ := (Rel.drew hR).row hrow hr
                  exact ⟨l', run_firstCells_some (P := P) w.drew inf.size sLen _ _ _ l' (by rw [← h1.length, h2]) h3, h1⟩
              -- the case of a new block
              have hnew : ∀ (H1 : AHeap) b0 c0, s' = .slice (some b0) sLen c0 → c0 < sLen + n → Rel w0 ρ H1 w → H1.next = H.next →
                  ∃ v' w' ρ', (Builtin.append_ #[t, u] ty #[s', x']).run P w = .ok v' w' ∧ VRel ρ' (.slice (some ⟨H.next, 0, none⟩) (sLen + n) (sLen + n)) v' ∧
                    Rel w0 ρ' (H1.alloc none ⟨(b.cells.drop ad.off).take (sLen * inf.size) ++ news, inf.size, .rw, 0⟩) w' ∧ ρ.le ρ' := by
                intro H1 b0 c0 e0 hc hR1 hnx
                obtain ⟨olds', q1, q2⟩ := hold b0 c0 e0
                have hrun := append_grow (ty := ty) hu hi k2 hx hd (base := some b0) (sLen := sLen) (sCap := c0) (n := n) (news := newsD) (olds := olds') (hl w) g1 q1 hc hb2 hb1
                have hg := grownCap_ge w (sLen + n) c0 elem
                obtain ⟨r1, r2, r3⟩ := Rel.grown hR1 (cells := (b.cells.drop ad.off).take (sLen * inf.size) ++ news) (cells' := olds'.toArray ++ newsD.toArray) (by simpa using q2.append g2) (z := zv.cells) (elem := elem) (n := sLen + n) (cap := grownCap w (sLen + n) c0 elem) hzsz hg
                rw [hnx] at r3
                refine ⟨_, _, _, by rw [e0]; exact hrun, r3, ?_, ?_⟩
                · rw [hnx] at r1; exact r1
                · rw [hnx] at r2; exact r2
              split at h
              · -- a slice whose capacity is its own
                rename_i hsp
                cases h
                obtain ⟨_, ⟨h0, a', he⟩ | ⟨ad', sl, hr, he⟩⟩ := hs.slice
                · obtain rfl : sLen = 0 := by omega
                  exact hnew H a' 0 he (by omega) hR rfl
                · rw [if_pos hsp] at he
                  exact hnew H _ _ he (by omega) hR rfl
              · rename_i hsp
                split at h
                · rename_i hcond
                  obtain ⟨hm, hesz, hend⟩ := hcond
                  cases h
                  have hRk := Rel.kill hR hgb (b.ver + 1)
                  obtain ⟨_, ⟨h0, a', he⟩ | ⟨ad', sl, hr, he⟩⟩ := hs.slice
                  · obtain rfl : sLen = 0 := by omega
                    exact hnew _ a' 0 he (by omega) hRk rfl
                  · rw [if_neg hsp] at he
                    by_cases hfits : sLen + n ≤ sCap + sl
                    · -- in place
                      subst he
                      obtain ⟨adb, slb, hrb, hbb⟩ := hR.blk _ _ hgb
                      rw [hr] at hrb
                      cases hrb
                      unfold BlkRel at hbb
                      rw [hm] at hbb
                      obtain ⟨hs0, hB, cs', e, hh, hzz, ha⟩ := hbb
                      obtain ⟨g, off, spot⟩ := ad'
                      simp only at hs0 hB hh hzz ha
                      subst hs0
                      have hlen2 := f2.length
                      have hmn : (sLen + n) * inf.size ≤ (sCap + sl) * inf.size := Nat.mul_le_mul_right _ hfits
                      rw [Nat.add_mul, Nat.add_mul] at hmn
                      rw [hesz] at hzz
                      have hst := run_storeCells_at P g (off + ad.off + sLen * inf.size) e news' 0 cs' w hh (by omega) (fun v hvm => by
                        obtain ⟨k, hk, rfl⟩ := List.getElem_of_mem hvm
                        have hk2 : k < news.length := by omega
                        obtain ⟨y, hy, hRy⟩ := f2.get k news[k] (List.getElem?_eq_getElem hk2)
                        rw [List.getElem?_eq_getElem hk] at hy
                        obtain rfl := Option.some.inj hy
                        exact hRy.one)
                      simp only [Nat.add_zero] at hst
                      have hcl : cs'.toList.length = cs'.size := Array.length_toList
                      refine ⟨_, w.setRow g (cs'.toList.take (off + ad.off + sLen * inf.size) ++ news' ++ cs'.toList.drop (off + ad.off + sLen * inf.size + news'.length)).toArray, ρ.ext H.next (⟨g, off + ad.off, none⟩, sCap + sl - (sLen + n)), append_room hu hi hx hd (hl w) f1 hfits (fun ad2 e2 => ?_) (fun e => by cases e), ?_, ?_, ?_⟩
                      · cases e2
                        rw [Addr.add_lit, Addr.add_lit]
                        exact hst
                      · refine .inl (.inl (.inl ⟨Nat.le_refl _, .inr ⟨_, _, Ren.ext_self _ _ _, ?_⟩⟩))
                        rw [Addr.add_lit, Addr.add_lit]
                        simp only [Nat.add_zero, Option.isSome_none, Bool.false_eq_true, if_false]
                        rw [show sLen + n + (sCap + sl - (sLen + n)) = sCap + sl from by omega]
                      · have hρ : ρ H.next = none := (hR.dom _).1 (hR.fresh _ (Nat.le_refl _))
                        have hle := Ren.ext_le hρ (⟨g, off + ad.off, none⟩, sCap + sl - (sLen + n))
                        have hne : ad.block ≠ H.next := fun e => by rw [e, hR.fresh _ (Nat.le_refl _)] at hgb; cases hgb
                        have hsp2 : (cs'.toList.take (off + ad.off + sLen * inf.size) ++ news' ++ cs'.toList.drop (off + ad.off + sLen * inf.size + news'.length)) = splice cs'.toList (off + ad.off + sLen * inf.size) news' := rfl
                        refine ⟨?_, ?_, ?_, ?_, ?_⟩
                        · exact hR.below.trans ⟨rfl, rfl, rfl, by simp [World.setRow], fun k hk => setRow_other w g k _ (by omega)⟩
                        · intro j
                          have := hRk.dom j
                          rw [get_grow]
                          unfold Ren.ext
                          by_cases e1 : j = H.next
                          · subst e1
                            rw [if_pos rfl]
                            simp
                          · rw [if_neg e1, if_neg e1]
                            exact this
                        · intro j b' hb'
                          rw [get_grow] at hb'
                          by_cases e1 : j = H.next
                          · subst e1
                            rw [if_pos rfl] at hb'
                            cases hb'
                            refine ⟨_, _, Ren.ext_self _ _ _, ?_⟩
                            unfold BlkRel
                            refine ⟨rfl, hB, _, e, setRow_heap w g cs' _ e (0, 0) hh, ?_, ?_⟩
                            · simp only [List.size_toArray, hsp2]
                              rw [splice_length (by omega)]
                              simp only [List.length_append, List.length_take, List.length_drop, hnl]
                              rw [Nat.sub_mul, Nat.add_mul, Nat.add_mul]
                              have : min (sLen * inf.size) (b.cells.length - ad.off) = sLen * inf.size := by omega
                              omega
                            · have hlo : ((b.cells.drop ad.off).take (sLen * inf.size)).length = sLen * inf.size := by simp; omega
                              have heq : (List.take (((b.cells.drop ad.off).take (sLen * inf.size)) ++ news).length (List.drop (off + ad.off) (splice cs'.toList (off + ad.off + sLen * inf.size) news'))) =
                                  ((cs'.toList.drop off).take b.cells.length |>.drop ad.off |>.take (sLen * inf.size)) ++ news' := by
                                apply List.ext_getElem?
                                intro m
                                unfold splice
                                simp only [List.getElem?_append, List.length_append, List.length_take, List.length_drop, List.getElem?_take, List.getElem?_drop, hnl]
                                repeat' split
                                all_goals first | omega | (congr 1; done) | (congr 1; omega) | (rw [List.getElem?_eq_none]; omega) | (symm; rw [List.getElem?_eq_none]; omega) | skip
                              have hfin : All2 (SRel ρ) (((b.cells.drop ad.off).take (sLen * inf.size)) ++ news) (((cs'.toList.drop off).take b.cells.length |>.drop ad.off |>.take (sLen * inf.size)) ++ news') :=
                                ((ha.drop ad.off).take _).append f2
                              rw [← heq] at hfin
                              exact hfin.mono fun _ _ => SRel.mono hle
                          · rw [if_neg e1] at hb'
                            obtain ⟨ad2, sl2, hr2, hb2⟩ := hRk.blk j b' hb'
                            refine ⟨ad2, sl2, hle _ _ hr2, (hb2.mono hle).below (fun k hk => setRow_other w g k _ (by omega)) ?_⟩
                            intro hm2
                            refine setRow_other w g _ _ ?_
                            have hjb : j ≠ ad.block := by
                              intro e2; subst e2
                              simp only [AHeap.put, if_true] at hb'
                              cases hb'
                              cases hm2
                            have hb3 : H.get j = some b' := by
                              simp only [AHeap.put] at hb'
                              rwa [if_neg hjb] at hb'
                            exact hR.inj j ad.block b' b ad2 sl2 _ _ hb3 hm2 hgb hm hjb hr2 hr
                        · intro j1 j2 b1 b2 ad1 sl1 ad2 sl2 h1 m1 h2 m2 hne12 r1 r2
                          rw [get_grow] at h1 h2
                          unfold Ren.ext at r1 r2
                          have oldne : ∀ j b1 ad1 sl1, j ≠ H.next → (H.put ad.block { b with mode := .dead, ver := b.ver + 1 }).get j = some b1 → b1.mode = .rw → ρ j = some (ad1, sl1) → ad1.block ≠ g := by
                            intro j b1 ad1 sl1 hj hb1 hm1 hr1
                            have hjb : j ≠ ad.block := by
                              intro e2; subst e2
                              simp only [AHeap.put, if_true] at hb1
                              cases hb1
                              cases hm1
                            have hb3 : H.get j = some b1 := by
                              simp only [AHeap.put] at hb1
                              rwa [if_neg hjb] at hb1
                            exact hR.inj j ad.block b1 b ad1 sl1 _ _ hb3 hm1 hgb hm hjb hr1 hr
                          by_cases e1 : j1 = H.next
                          · subst e1
                            have e2 : ¬ j2 = H.next := fun e => hne12 e.symm
                            rw [if_pos rfl] at r1
                            rw [if_neg e2] at r2
                            rw [if_neg e2] at h2
                            cases r1
                            exact (oldne j2 b2 ad2 sl2 e2 h2 m2 r2).symm
                          · rw [if_neg e1] at r1
                            rw [if_neg e1] at h1
                            by_cases e2 : j2 = H.next
                            · subst e2
                              rw [if_pos rfl] at r2
                              cases r2
                              exact oldne j1 b1 ad1 sl1 e1 h1 m1 r1
                            · rw [if_neg e2] at r2
                              rw [if_neg e2] at h2
                              exact hRk.inj j1 j2 b1 b2 ad1 sl1 ad2 sl2 h1 m1 h2 m2 hne12 r1 r2
                        · intro j hj
                          have hj' : H.next + 1 ≤ j := hj
                          rw [get_grow, if_neg (by omega)]
                          exact hRk.fresh j (by show H.next ≤ j; omega)
                      · have hρ : ρ H.next = none := (hR.dom _).1 (hR.fresh _ (Nat.le_refl _))
                        exact Ren.ext_le hρ _
                    · exact hnew _ _ _ he (by omega) hRk rfl
                · cases h

end
end Go.Mx
