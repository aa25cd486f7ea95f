/- Simulation of single operations, part 3. -/
import Derived.Test.YtcegcnopakfloaaXM5
import Derived.Laws.Tables
namespace Go.Mx
open Go Go.RowKit

theorem fold_splice (off : Nat) : ∀ (l : List Value) (k : Nat) (cells : Array Value), off + k + l.length ≤ cells.size →
    ((l.zipIdx k).foldl (fun (cs : Array Value) (p : Value × Nat) => cs.setIfInBounds (off + p.2) p.1) cells).toList = splice cells.toList (off + k) l := by
  intro l
  induction l with
  | nil => intro k cells _; simp [splice]
  | cons c l ih =>
    intro k cells h
    simp only [List.length_cons] at h
    simp only [List.zipIdx_cons, List.foldl_cons]
    rw [ih (k + 1) _ (by simp; omega)]
    simp only [splice, Array.toList_setIfInBounds, List.length_cons]
    apply List.ext_getElem?
    intro m
    have hlen : cells.toList.length = cells.size := Array.length_toList
    simp only [List.getElem?_append, List.length_append, List.length_take, List.getElem?_take, List.getElem?_drop, List.length_set, List.getElem?_set, List.length_cons, hlen]
    by_cases h1 : m < off + k
    · rw [if_pos (by omega), if_pos (by omega), if_pos (by omega), if_neg (by omega), if_pos (by omega), if_pos (by omega), if_pos (by omega)]
    · by_cases h2 : m = off + k
      · subst h2
        rw [if_pos (by omega), if_pos (by omega), if_pos (by omega), if_pos rfl, if_pos (by omega), if_pos (by omega), if_neg (by omega)]
        rw [show off + k - min (off + k) cells.size = 0 from by omega]
        rfl
      · by_cases h3 : m < off + k + 1 + l.length
        · rw [if_pos (by omega), if_neg (by omega), if_pos (by omega), if_neg (by omega)]
          have e : m - min (off + k) cells.size = (m - min (off + k + 1) cells.size) + 1 := by omega
          rw [show off + (k + 1) = off + k + 1 from by omega, e]
          simp
        · rw [if_neg (by omega), if_neg (by omega), if_neg (by omega)]
          congr 1
          omega

theorem foldl_splice (off : Nat) (v cells : Array Value) (h : off + v.size ≤ cells.size) :
    (v.zipIdx.foldl (fun cs (x : Value × Nat) => match x with | (c, j) => cs.setIfInBounds (off + j) c) cells).toList = splice cells.toList off v.toList := by
  rw [← Array.foldl_toList]
  have := fold_splice off v.toList 0 cells (by simpa using h)
  simpa using this

section
variable {P : Program} {call : CallF} {w0 w : World} {ρ : Ren} {t : List Value} {H H' : AHeap} {a : Act} {o : Oper} {slot : Option Nat} {v : Value}
  {Q : Exit → Act → World → Prop}

theorem afill_sim {place : Nat → Option (Nat × Nat)} : ∀ {parts : List (Nat × Value)} {parts' : List (Nat × Value)} {cells r : List Value} {cells' : Array Value},
    afill place cells parts = some r → All2 (SRel ρ) cells cells'.toList → All2 (fun p p' => p.1 = p'.1 ∧ VRel ρ p.2 p'.2) parts parts' →
    ∃ r', Instr.fill place cells' parts' = some r' ∧ All2 (SRel ρ) r r'.toList := by
  intro parts
  induction parts with
  | nil =>
    intro parts' cells r cells' h hc hp
    cases hp
    simp only [afill, Option.some.injEq] at h
    subst h
    exact ⟨cells', rfl, hc⟩
  | cons x rest ih =>
    intro parts' cells r cells' h hc hp
    cases hp with
    | @cons _ y _ rest' h1 h2 =>
      obtain ⟨i, v⟩ := x
      obtain ⟨i', v'⟩ := y
      obtain ⟨rfl, hv⟩ := h1
      simp only [afill] at h
      split at h
      · cases h
      · rename_i off size hpl
        split at h
        · rename_i hcond
          obtain ⟨hnt, hl, hle⟩ := hcond
          have hcells := hv.cells (fun b e => by subst e; cases hnt)
          have hl' := hcells.length
          have hcl := hc.length
          simp only [Array.length_toList] at hl hl' hcl
          have hvz : v'.cells.size = size := by omega
          have hcz : off + v'.cells.size ≤ cells'.size := by omega
          have hsp : All2 (SRel ρ) (splice cells off v.cells.toList) (v'.cells.zipIdx.foldl (fun cs (x : Value × Nat) => match x with | (c, j) => cs.setIfInBounds (off + j) c) cells').toList := by
            rw [foldl_splice off _ _ hcz]
            exact hc.splice hcells off
          obtain ⟨r', h3, h4⟩ := ih h hsp h2
          refine ⟨r', ?_, h4⟩
          simp only [Instr.fill, hpl]
          rw [if_neg (by simp; omega)]
          exact h3
        · cases h

theorem apartsev_rel (hT : TRel ρ t a) : ∀ {l : List (Nat × Operand)} {vs : List (Nat × Value)}, apartsev t l = some vs →
    All2 (fun p p' => p.1 = p'.1 ∧ VRel ρ p.2 p'.2) vs (l.map fun (i, x) => (i, a.eval x)) := by
  intro l
  induction l with
  | nil => intro vs h; simp only [apartsev, Option.some.injEq] at h; subst h; exact .nil
  | cons x xs ih =>
    intro vs h
    obtain ⟨i, x⟩ := x
    simp only [apartsev] at h
    split at h
    · rename_i v1 vs1 h1 h2
      obtain rfl := Option.some.inj h
      exact .cons ⟨rfl, aev_rel hT h1⟩ (ih h2)
    · cases h

theorem places_spec : ∀ {fs : List Field} {pl : List (Nat × Nat)}, places P fs = some pl → fs.mapM (fun f => (P.info? f.type).map fun i => (f.offset, i.size)) = some pl := by
  intro fs
  induction fs with
  | nil => intro pl h; simp only [places, Option.some.injEq] at h; subst h; rfl
  | cons f fs ih =>
    intro pl h
    simp only [places] at h
    split at h
    · rename_i n l h1 h2
      obtain rfl := Option.some.inj h
      obtain ⟨inf, hi, rfl⟩ := szOf_spec h1
      simp [List.mapM_cons, hi, ih h2]
    · cases h

theorem sim_build {ty : TypeId} {parts : Array (Nat × Operand)} (ho : o.op = .build ty parts) (h : opS P call slot o t H = some (v, H')) (hR : Rel w0 ρ H w) (hT : TRel ρ t a) : o.wp P a w (OpGoal w0 ρ o a v H') Q := by
  simp only [opS, aopK, ho] at h
  split at h
  · rename_i z vs hz hvs
    obtain ⟨inf, zv, h1, h2, h3, h4, h5⟩ := zeroCellsOf_spec (ρ := ρ) hz
    have hp := apartsev_rel hT hvs
    have hzr : All2 (SRel ρ) z zv.cells.toList := by rw [h3]; exact h5
    have key : ∀ (r : Array Value), P.built ty (parts.map fun (i, x) => (i, a.eval x)).toList = some r →
        (execOp a.eval o).run P w = .ok (.value (.agg r)) w := by
      intro r hb
      simp [execOp, ho, run_build w ty _ r hb]
    have hmap : (parts.map fun (i, x) => (i, a.eval x)).toList = parts.toList.map fun (i, x) => (i, a.eval x) := Array.toList_map
    split at h
    · rename_i fs hu
      split at h
      · rename_i pl hpl
        split at h
        · rename_i cells hc
          simp only [Option.some.injEq, Prod.mk.injEq] at h
          obtain ⟨rfl, rfl⟩ := h
          obtain ⟨r', h6, h7⟩ := afill_sim hc hzr hp
          refine sim_same (.agg r') hR (.inl (.inr ⟨_, _, rfl, rfl, by simpa using h7⟩)) (key r' ?_)
          have hfn : (fun x : Nat => pl[x]?) = fun x : Nat => pl.toArray[x]? := by funext x; simp
          rw [hfn] at h6
          simp only [Program.built, h1, hu, h2, places_spec hpl, hmap]
          exact h6
        · cases h
      · cases h
    · rename_i n e hu
      split at h
      · rename_i sz hsz
        obtain ⟨ie, hie, rfl⟩ := szOf_spec hsz
        split at h
        · rename_i cells hc
          simp only [Option.some.injEq, Prod.mk.injEq] at h
          obtain ⟨rfl, rfl⟩ := h
          obtain ⟨r', h6, h7⟩ := afill_sim hc hzr hp
          refine sim_same (.agg r') hR (.inl (.inr ⟨_, _, rfl, rfl, by simpa using h7⟩)) (key r' ?_)
          simp only [Program.built, h1, hu, h2, hie, hmap]
          exact h6
        · cases h
      · cases h
    · cases h
  · cases h

theorem rep_length (z : List Value) : ∀ n, (rep z n).length = n * z.length
  | 0 => by simp [rep]
  | n + 1 => by simp [rep, rep_length z n, Nat.succ_mul]; omega

theorem rep_get (z : List Value) (hz : 0 < z.length) : ∀ n i, i < n * z.length → (rep z n)[i]? = z[i % z.length]?
  | 0, i, h => by simp at h
  | n + 1, i, h => by
    simp only [rep, List.getElem?_append]
    rw [Nat.succ_mul] at h
    split
    · rename_i hi; rw [Nat.mod_eq_of_lt hi]
    · rename_i hi
      rw [rep_get z hz n (i - z.length) (by omega)]
      have : i % z.length = (i - z.length) % z.length := Nat.mod_eq_sub_mod (by omega)
      rw [this]

theorem zeros_rep (z : Array Value) (hz : 0 < z.size) (n : Nat) : ((Array.range (n * z.size)).map (z[· % z.size]!)).toList = rep z.toList n := by
  apply List.ext_getElem?
  intro i
  simp only [Array.toList_map, Array.toList_range, List.getElem?_map]
  by_cases h : i < n * z.size
  · rw [List.getElem?_range h, rep_get z.toList (by simpa using hz) n i (by simpa using h)]
    have hm : i % z.size < z.size := Nat.mod_lt _ hz
    simp [hm]
  · rw [List.getElem?_eq_none (by simp; omega), List.getElem?_eq_none (by rw [rep_length]; simp; omega)]
    rfl

theorem rep_rel {z : List Value} (h : All2 (SRel ρ) z z) : ∀ n, All2 (SRel ρ) (rep z n) (rep z n)
  | 0 => .nil
  | n + 1 => h.append (rep_rel h n)

theorem run_bs (w : World) (t e : TypeId) (len : Nat) (parts : Array (Nat × Value)) (cells : Array Value) (ie : TypeInfo) (z : Value)
    (hu : P.underlying t = some (.slice e)) (hie : P.info? e = some ie) (hz : ie.zero = some z) (hsmall : ¬ len * ie.size > 2 ^ 24) (hpos : ¬ len * ie.size = 0)
    (h : Instr.fill (fun i => some (i * ie.size, ie.size)) ((Array.range (len * ie.size)).map (z.cells[· % z.cells.size]!)) parts.toList = some cells) :
    (Instr.buildSlice t len parts).run P w = .ok (.slice (some ⟨w.heap.size, 0, none⟩) len len) (w.alloc (.cells cells e)) := by
  simp [Instr.buildSlice, run_underlying hu, sizeOf, typeInfo, zeroValue, hie, hz, hsmall, hpos, h, newRow]

theorem sim_buildSlice {ty : TypeId} {len : Nat} {parts : Array (Nat × Operand)} (ho : o.op = .buildSlice ty len parts) (h : opS P call slot o t H = some (v, H')) (hR : Rel w0 ρ H w) (hT : TRel ρ t a)
    (hf : H.get (H.newId slot) = none) (hs : ∀ i, slot = some i → i < H.next) : o.wp P a w (OpGoal w0 ρ o a v H') Q := by
  simp only [opS, aopK, ho] at h
  split at h
  · rename_i e hu
    split at h
    · rename_i z vs hz hvs
      obtain ⟨inf, zv, h1, h2, h3, h4, h5⟩ := zeroCellsOf_spec (ρ := ρ) hz
      split at h
      · cases h
      · rename_i hcond
        split at h
        · rename_i cells hc
          simp only [Option.some.injEq, Prod.mk.injEq] at h
          obtain ⟨rfl, rfl⟩ := h
          have hzs : zv.cells.size = z.length := by rw [← h3]; simp
          have hpos : 0 < z.length := by omega
          have hp := apartsev_rel hT hvs
          have hzr : All2 (SRel ρ) (rep z len) ((Array.range (len * inf.size)).map (zv.cells[· % zv.cells.size]!)).toList := by
            rw [← h4, ← hzs, zeros_rep _ (by omega), h3]
            exact rep_rel h5 len
          obtain ⟨r', h6, h7⟩ := afill_sim hc hzr hp
          have hmap : (parts.map fun (i, x) => (i, a.eval x)).toList = parts.toList.map fun (i, x) => (i, a.eval x) := Array.toList_map
          have hl7 := h7.length
          refine sim_new (sl := 0) hR hf hs rfl (cs' := r') (e := e) ?_ ?_ (slice_new _ _ _ _ _) ?_
          · simp only [Array.length_toList] at hl7
            show r'.size = cells.length + 0 * _
            omega
          · show All2 (SRel ρ) cells (r'.toList.take cells.length)
            rw [hl7, List.take_length]; exact h7
          · have hb : (Instr.buildSlice ty len (parts.map fun (i, x) => (i, a.eval x))).run P w = .ok (.slice (some ⟨w.heap.size, 0, none⟩) len len) (w.alloc (.cells r' e)) := by
              by_cases h0 : len * inf.size = 0
              · have hl0 : len = 0 := by
                  rcases Nat.mul_eq_zero.1 h0 with h | h
                  · exact h
                  · omega
                subst hl0
                have e0 : Array.range 0 = #[] := rfl
                simp only [Nat.zero_mul, h4, e0, Array.map_empty] at h6
                simp [Instr.buildSlice, run_underlying hu, sizeOf, typeInfo, h1, h6, newRow, e0]
              · have hsmall : ¬ len * inf.size > 2 ^ 24 := by rw [← h4]; omega
                refine run_bs w ty e len _ r' inf zv hu h1 h2 hsmall h0 ?_
                rw [hmap]
                simp only [h4] at h6
                exact h6
            simp [execOp, ho, hb]
        · cases h
    · cases h
  · cases h

theorem run_ms (w : World) (t e : TypeId) (n : Int) (ie : TypeInfo) (z : Value) (hu : P.underlying t = some (.slice e)) (hi : P.info? e = some ie) (hz : ie.zero = some z)
    (h0 : 0 ≤ n) (hb : n * ie.bytes ≤ 70368744177664) (hn : n ≤ 70368744177664) :
    (Instr.makeSlice t (.int .i64 n) (.int .i64 n)).run P w =
      .ok (.slice (some ⟨w.heap.size, 0, none⟩) n.toNat n.toNat) (w.alloc (.cells ((Array.range (n.toNat * ie.size)).map (z.cells[· % z.cells.size]!)) e)) := by
  have hwrap : IntKind.i64.wrap n = n := by simp [IntKind.wrap, IntKind.bits, IntKind.signed]; omega
  have hmul : ((ie.bytes : Int) * n) = n * ie.bytes := Int.mul_comm _ _
  have hroom : n.toNat * ie.bytes ≤ 140737488355328 := by
    have : ((n.toNat * ie.bytes : Nat) : Int) ≤ 70368744177664 := by
      rw [Int.natCast_mul, Int.toNat_of_nonneg h0]; omega
    omega
  have hg : ¬ (281474976710656 < (ie.bytes : Int) * n) := by rw [hmul]; omega
  have hn0 : ¬ n < 0 := by omega
  have hroom' : ¬ (140737488355328 < n.toNat * ie.bytes) := by omega
  have e0 : Array.range 0 = #[] := rfl
  by_cases hc : n.toNat * ie.size = 0
  · simp [Instr.makeSlice, run_underlying hu, asInt, asIntOf, typeInfo, hi, hwrap, hn0, hg, askRoom, roomBytes, sizeOf, hc, newRow, e0]
  · simp [Instr.makeSlice, run_underlying hu, asInt, asIntOf, typeInfo, hi, hwrap, hn0, hg, askRoom, roomBytes, sizeOf, hc, zeroValue, hz, newRow]

theorem sim_makeSlice {ty : TypeId} {l c : Operand} (ho : o.op = .makeSlice ty l c) (h : opS P call slot o t H = some (v, H')) (hR : Rel w0 ρ H w) (hT : TRel ρ t a)
    (hf : H.get (H.newId slot) = none) (hs : ∀ i, slot = some i → i < H.next) : o.wp P a w (OpGoal w0 ρ o a v H') Q := by
  simp only [opS, aopK, ho] at h
  split at h
  · rename_i n m hn hm
    split at h
    · rename_i hnm
      subst hnm
      split at h
      · rename_i e hu
        split at h
        · rename_i z inf' hz hi'
          obtain ⟨inf, zv, h1, h2, h3, h4, h5⟩ := zeroCellsOf_spec (ρ := ρ) hz
          rw [hi'] at h1
          obtain rfl := Option.some.inj h1
          split at h
          · cases h
          · rename_i hz0
            split at h
            · rename_i hb
              simp only [Option.some.injEq, Prod.mk.injEq] at h
              obtain ⟨rfl, rfl⟩ := h
              obtain ⟨hn0, hnb, hnm⟩ := hb
              have hzs : zv.cells.size = z.length := by rw [← h3]; simp
              have e1 := (aev_rel hT hn).int
              have e2 := (aev_rel hT hm).int
              refine sim_new (sl := 0) hR hf hs rfl (cs' := ((Array.range (n.toNat * inf'.size)).map (zv.cells[· % zv.cells.size]!))) (e := e) ?_ ?_ (slice_new _ _ _ _ _) ?_
              · simp [rep_length, h4]
              · have : ((Array.range (n.toNat * inf'.size)).map (zv.cells[· % zv.cells.size]!)).toList = rep z n.toNat := by
                  rw [← h4, ← hzs, zeros_rep _ (by omega), h3]
                simp only [this, List.take_length]
                exact rep_rel h5 _
              · simp [execOp, ho, e1, e2, run_ms w ty e n inf' zv hu hi' h2 hn0 hnb hnm]
            · cases h
        · cases h
      · cases h
    · cases h
  · cases h

end
end Go.Mx
