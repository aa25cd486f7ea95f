/- The arguments of a law, as data of the machine. -/
import Derived.Test.YtcegcnopakfloaaXM16
import Derived.ProofKit
namespace Go.Mx
open Go Go.RowKit

def Keeps (H H' : AHeap) : Prop := ∀ i b, H.get i = some b → H'.get i = some b
theorem Keeps.refl (H : AHeap) : Keeps H H := fun _ _ h => h
theorem Keeps.trans {A B C : AHeap} (h : Keeps A B) (k : Keeps B C) : Keeps A C := fun i b hb => k i b (h i b hb)

def TyFields (p : TypeId → List Value → Prop) : List Field → List Value → Prop
  | [], cs => cs = []
  | f :: fs, cs => ∃ a b, cs = a ++ b ∧ p f.type a ∧ TyFields p fs b
def TyRep (p : List Value → Prop) : Nat → List Value → Prop
  | 0, cs => cs = []
  | m + 1, cs => ∃ a b, cs = a ++ b ∧ p a ∧ TyRep p m b

/-- cells that hold data of a type -/
def TyV (P : Program) (H : AHeap) : Nat → TypeId → List Value → Prop
  | 0, _, _ => False
  | n + 1, t, cs => match P.underlying t with
    | some .bool => ∃ b, cs = [.bool b]
    | some (.int k) => ∃ m, cs = [.int k m] ∧ (Lit.int k m).wf = true
    | some .string => ∃ s, cs = [.string s] ∧ s.size ≤ reachBytes
    | some (.slice e) => cs = [.slice none 0 0] ∨ ∃ i len b, cs = [.slice (some ⟨i, 0, none⟩) len len] ∧ len ≤ reachBytes ∧ H.get i = some b ∧ b.mode = .ro ∧ b.cells.length = len * P.cellsOf e ∧ TyRep (TyV P H n e) len b.cells
    | some (.struct fs) => TyFields (fun t cs => TyV P H n t cs) fs.toList cs
    | some (.array m e) => TyRep (TyV P H n e) m cs
    | _ => False

theorem TyFields.mono {p q : TypeId → List Value → Prop} (h : ∀ t cs, p t cs → q t cs) : ∀ {fs : List Field} {cs : List Value}, TyFields p fs cs → TyFields q fs cs := by
  intro fs
  induction fs with
  | nil => intro cs h; exact h
  | cons f fs ih => intro cs hh; obtain ⟨a, b, e, h1, h2⟩ := hh; exact ⟨a, b, e, h _ _ h1, ih h2⟩
theorem TyRep.mono {p q : List Value → Prop} (h : ∀ cs, p cs → q cs) : ∀ {m : Nat} {cs : List Value}, TyRep p m cs → TyRep q m cs := by
  intro m
  induction m with
  | zero => intro cs h; exact h
  | succ m ih => intro cs hh; obtain ⟨a, b, e, h1, h2⟩ := hh; exact ⟨a, b, e, h _ h1, ih h2⟩
theorem TyV.mono {P : Program} {H H' : AHeap} (hk : Keeps H H') : ∀ {n : Nat} {t : TypeId} {cs : List Value}, TyV P H n t cs → TyV P H' n t cs := by
  intro n
  induction n with
  | zero => intro t cs h; exact h
  | succ n ih =>
    intro t cs h
    simp only [TyV] at h ⊢
    split at h
    · exact h
    · exact h
    · exact h
    · rcases h with h | ⟨i, len, b, h1, h2, h3, h4, h5, h6⟩
      · exact .inl h
      · exact .inr ⟨i, len, b, h1, h2, hk _ _ h3, h4, h5, h6.mono fun _ => ih⟩
    · exact h.mono fun _ _ => ih
    · exact h.mono fun _ => ih
    · exact h

def layFields (P : Program) : List Field → Nat → Option Nat
  | [], o => some o
  | f :: fs, o => if f.offset = o then layFields P fs (o + P.cellsOf f.type) else none
def layOk (P : Program) : Nat → TypeId → Bool
  | 0, _ => false
  | n + 1, t => match P.underlying t with
    | some .bool => true
    | some (.int _) => true
    | some .string => true
    | some (.slice e) => decide (0 < P.cellsOf e) && (decide (0 < P.bytesOf e) && layOk P n e)
    | some (.struct fs) => (layFields P fs.toList 0 == some (P.cellsOf t)) && fs.toList.all fun f => layOk P n f.type
    | some (.array m e) => (P.cellsOf t == m * P.cellsOf e) && layOk P n e
    | _ => false

section
variable {H0 : Type} {enc : TypeId × Value → H0} {P : Program} {W : World} {spare : Nat → Bool} {held : Bool}

/-- a block that is only read -/
theorem Rel.addRo {ρ : Ren} {H : AHeap} (h : Rel W ρ H W) (cells : List Value) (ad : Addr) (sl : Nat)
    (hc : (cells ≠ [] → ad.block < W.heap.size) ∧ ∀ (m : Nat) v, cells[m]? = some v → ∃ v', W.cell? (ad.add m) = some v' ∧ SRel ρ v v') :
    Rel W (ρ.ext H.next (ad, sl)) (H.alloc none ⟨cells, 0, .ro, 0⟩) W ∧ ρ.le (ρ.ext H.next (ad, sl)) ∧ Keeps H (H.alloc none ⟨cells, 0, .ro, 0⟩) := by
  have hρ : ρ H.next = none := (h.dom _).1 (h.fresh _ (Nat.le_refl _))
  have hle := Ren.ext_le hρ (ad, sl)
  have hget : ∀ j, (H.alloc none ⟨cells, 0, .ro, 0⟩).get j = if j = H.next then some (⟨cells, 0, .ro, 0⟩ : Blk) else H.get j := fun j => rfl
  have hkeep : Keeps H (H.alloc none ⟨cells, 0, .ro, 0⟩) := by
    intro i b hb
    rw [hget, if_neg (fun e => by rw [e, h.fresh _ (Nat.le_refl _)] at hb; cases hb)]
    exact hb
  refine ⟨⟨h.below, ?_, ?_, ?_, ?_⟩, hle, hkeep⟩
  · intro i
    rw [hget]
    unfold Ren.ext
    split
    · simp
    · exact h.dom i
  · intro i b hb
    rw [hget] at hb
    split at hb
    · rename_i e; subst e
      cases hb
      refine ⟨_, _, Ren.ext_self _ _ _, ?_⟩
      unfold BlkRel
      exact ⟨hc.1, fun m v hv => let ⟨v', h1, h2⟩ := hc.2 m v hv; ⟨v', h1, h2.mono hle⟩⟩
    · obtain ⟨ad', sl', hr, hb'⟩ := h.blk i b hb
      exact ⟨ad', sl', hle _ _ hr, hb'.mono hle⟩
  · intro i j b1 b2 ad1 sl1 ad2 sl2 h1 m1 h2 m2 hne r1 r2
    rw [hget] at h1 h2
    unfold Ren.ext at r1 r2
    split at h1
    · cases h1; cases m1
    · rename_i e1
      rw [if_neg e1] at r1
      split at h2
      · cases h2; cases m2
      · rename_i e2
        rw [if_neg e2] at r2
        exact h.inj i j b1 b2 ad1 sl1 ad2 sl2 h1 m1 h2 m2 hne r1 r2
  · intro i hi
    have hi' : H.next + 1 ≤ i := hi
    rw [hget, if_neg (by omega)]
    exact h.fresh i (by omega)

def Imp (_P : Program) (W : World) (cs : List Value) (p : AHeap → List Value → Prop) : Prop :=
  ∀ H ρ, Rel W ρ H W → ∃ H' ρ' as, Rel W ρ' H' W ∧ ρ.le ρ' ∧ Keeps H H' ∧ All2 (SRel ρ') as cs ∧ p H' as

theorem Imp.scalar {v : Value} {p : AHeap → List Value → Prop} (hv : closedV v = true) (hp : ∀ H, p H [v]) : Imp P W [v] p :=
  fun H ρ h => ⟨H, ρ, [v], h, Ren.le_refl _, Keeps.refl _, .cons (.inl (closedV_rel ρ hv)) .nil, hp H⟩

theorem mapM_all {α β : Type} {f : α → Option β} : ∀ {l : List α} {r : List β}, l.mapM f = some r → ∀ x ∈ l, ∃ y, f x = some y := by
  intro l
  induction l with
  | nil => intro r _ x hx; cases hx
  | cons a l ih =>
    intro r h x hx
    simp only [List.mapM_cons, Option.bind_eq_bind, Option.bind_eq_some_iff] at h
    obtain ⟨y, hy, ys, hys, _⟩ := h
    rcases List.mem_cons.1 hx with e | hx
    · subst e; exact ⟨y, hy⟩
    · exact ih hys x hx

theorem mapM_weightsEach {g : Field → Option (DataW H0 × List MemPlace)} : ∀ {l : List Field} {r : List (DataW H0 × List MemPlace)}, l.mapM g = some r →
    ∀ f ∈ l, ∃ y, g f = some y ∧ ∀ w ∈ y.1.weights P f.type, w ∈ DataW.weightsEach P (l.map (·.type)) (r.map (·.1)) := by
  intro l
  induction l with
  | nil => intro r _ f hf; cases hf
  | cons x xs ih =>
    intro r h f hf
    simp only [List.mapM_cons, Option.bind_eq_bind, Option.bind_eq_some_iff] at h
    obtain ⟨y, hy, ys, hys, e⟩ := h
    cases e
    rcases List.mem_cons.1 hf with e | hf
    · subst e
      exact ⟨y, hy, fun w hw => by simp only [List.map_cons, DataW.weightsEach]; exact List.mem_append_left _ hw⟩
    · obtain ⟨z, hz, hw⟩ := ih hys f hf
      exact ⟨z, hz, fun w h => by simp only [List.map_cons, DataW.weightsEach]; exact List.mem_append_right _ (hw w h)⟩
theorem weightsAll_mem {e : TypeId} {y : DataW H0 × List MemPlace} {w : Nat} : ∀ {l : List (DataW H0 × List MemPlace)}, y ∈ l → w ∈ y.1.weights P e → w ∈ DataW.weightsAll P e (l.map (·.1)) := by
  intro l
  induction l with
  | nil => intro h; cases h
  | cons x xs ih =>
    intro h hw
    simp only [List.map_cons, DataW.weightsAll]
    rcases List.mem_cons.1 h with e | h
    · subst e; exact List.mem_append_left _ hw
    · exact List.mem_append_right _ (ih h hw)
theorem mapM_mem {α β : Type} {f : α → Option β} : ∀ {l : List α} {r : List β}, l.mapM f = some r → ∀ x ∈ l, ∃ y, f x = some y ∧ y ∈ r := by
  intro l
  induction l with
  | nil => intro r _ x hx; cases hx
  | cons a l ih =>
    intro r h x hx
    simp only [List.mapM_cons, Option.bind_eq_bind, Option.bind_eq_some_iff] at h
    obtain ⟨y, hy, ys, hys, e⟩ := h
    cases e
    rcases List.mem_cons.1 hx with e | hx
    · subst e; exact ⟨y, hy, by simp⟩
    · obtain ⟨z, hz, hm⟩ := ih hys x hx
      exact ⟨z, hz, List.mem_cons_of_mem _ hm⟩

theorem imp_rep {p : AHeap → List Value → Prop} (hmono : ∀ H H' as, Keeps H H' → p H as → p H' as) {sz : Nat} {cs : List Value} :
    ∀ (m o : Nat), o + m * sz = cs.length → (∀ i, i < m → Imp P W ((cs.drop (o + i * sz)).take sz) p) → Imp P W (cs.drop o) (fun H as => TyRep (p H) m as ∧ as.length = m * sz) := by
  intro m
  induction m with
  | zero =>
    intro o ho _ H ρ hR
    have : cs.drop o = [] := by rw [List.drop_eq_nil_iff]; simp at ho; omega
    rw [this]
    exact ⟨H, ρ, [], hR, Ren.le_refl _, Keeps.refl _, .nil, rfl, by simp⟩
  | succ m ih =>
    intro o ho hi H ρ hR
    rw [Nat.succ_mul] at ho
    obtain ⟨H1, ρ1, as1, r1, l1, k1, a1, p1⟩ := hi 0 (by omega) H ρ hR
    obtain ⟨H2, ρ2, as2, r2, l2, k2, a2, p2⟩ := ih (o + sz) (by omega) (fun i hh => by
      have := hi (i + 1) (by omega)
      rw [Nat.succ_mul] at this
      rw [show o + sz + i * sz = o + (i * sz + sz) from by omega]
      exact this) H1 ρ1 r1
    have hsplit : cs.drop o = (cs.drop (o + 0 * sz)).take sz ++ cs.drop (o + sz) := by
      simp only [Nat.zero_mul, Nat.add_zero]
      rw [← List.drop_drop, List.take_append_drop]
    refine ⟨H2, ρ2, as1 ++ as2, r2, Ren.le_trans l1 l2, Keeps.trans k1 k2, ?_, ⟨as1, as2, rfl, hmono _ _ _ k2 p1, p2.1⟩, ?_⟩
    · rw [hsplit]
      exact (a1.mono fun _ _ => SRel.mono l2).append a2
    · have := a1.length
      rw [List.length_append, p2.2, this, Nat.succ_mul]
      simp
      omega

theorem imp_fields {p : AHeap → TypeId → List Value → Prop} (hmono : ∀ H H' t as, Keeps H H' → p H t as → p H' t as) {cs : List Value} {tot : Nat} (hlen : cs.length = tot) :
    ∀ (fs : List Field) (o : Nat), layFields P fs o = some tot → (∀ f ∈ fs, Imp P W ((cs.drop f.offset).take (P.cellsOf f.type)) (fun H as => p H f.type as)) →
      Imp P W (cs.drop o) (fun H as => TyFields (p H) fs as) := by
  intro fs
  induction fs with
  | nil =>
    intro o ho _ H ρ hR
    simp only [layFields, Option.some.injEq] at ho
    have : cs.drop o = [] := by rw [List.drop_eq_nil_iff]; omega
    rw [this]
    exact ⟨H, ρ, [], hR, Ren.le_refl _, Keeps.refl _, .nil, rfl⟩
  | cons f fs ih =>
    intro o ho hi H ρ hR
    simp only [layFields] at ho
    split at ho
    · rename_i e
      obtain ⟨H1, ρ1, as1, r1, l1, k1, a1, p1⟩ := hi f (by simp) H ρ hR
      obtain ⟨H2, ρ2, as2, r2, l2, k2, a2, p2⟩ := ih _ ho (fun g hg => hi g (by simp [hg])) H1 ρ1 r1
      refine ⟨H2, ρ2, as1 ++ as2, r2, Ren.le_trans l1 l2, Keeps.trans k1 k2, ?_, ⟨as1, as2, rfl, hmono _ _ _ _ k2 p1, p2⟩⟩
      have hsplit : cs.drop o = (cs.drop f.offset).take (P.cellsOf f.type) ++ cs.drop (o + P.cellsOf f.type) := by
        rw [e, ← List.drop_drop, List.take_append_drop]
      rw [hsplit]
      exact (a1.mono fun _ _ => SRel.mono l2).append a2
    · cases ho

theorem cells?_get {base : Nat} {a : Addr} {n : Nat} {l : List Value} (h : W.cells? base a n = some l) : l.length = n ∧ ∀ i v, l[i]? = some v → W.cell? (a.add i) = some v := by
  unfold World.cells? at h
  split at h
  · have key : ∀ (xs : List Nat) (r : List Value), xs.mapM (fun i => W.cell? (a.add i)) = some r → r.length = xs.length ∧ ∀ (i : Nat) v, r[i]? = some v → ∃ x, xs[i]? = some x ∧ W.cell? (a.add x) = some v := by
      intro xs
      induction xs with
      | nil => intro r h; simp at h; subst h; simp
      | cons x xs ih =>
        intro r h
        simp only [List.mapM_cons, Option.bind_eq_bind, Option.bind_eq_some_iff] at h
        obtain ⟨y, hy, ys, hys, e⟩ := h
        cases e
        obtain ⟨h1, h2⟩ := ih ys hys
        refine ⟨by simp [h1], fun i v hv => ?_⟩
        cases i with
        | zero => simp at hv; subst hv; exact ⟨x, by simp, hy⟩
        | succ i => simpa using h2 i v (by simpa using hv)
    obtain ⟨h1, h2⟩ := key _ _ h
    refine ⟨by simpa using h1, fun i v hv => ?_⟩
    obtain ⟨x, hx, hc⟩ := h2 i v hv
    have : x = i := by
      have hlt : i < n := by
        have := (List.getElem?_eq_some_iff.1 hx).1
        simpa using this
      rw [List.getElem?_range hlt] at hx
      exact (Option.some.inj hx).symm
    rw [this] at hc
    exact hc
  · cases h

theorem imp : ∀ (n fuel : Nat) (t : TypeId) (cs : List Value) (x : DataW H0 × List MemPlace), DataW.trod enc P W 0 spare held fuel t cs = some x → layOk P n t = true → (∀ w ∈ x.1.weights P t, w ≤ reachBytes) →
    Imp P W cs (fun H as => TyV P H n t as) := by
  intro n
  induction n with
  | zero => intro fuel t cs x _ h _; cases h
  | succ n ih =>
    intro fuel t cs x h hl hz
    have hmono : ∀ H H' t as, Keeps H H' → TyV P H n t as → TyV P H' n t as := fun H H' t as hk h => h.mono hk
    cases fuel with
    | zero => simp [DataW.trod] at h
    | succ fuel =>
      simp only [layOk] at hl
      split at hl
      · rename_i ht
        unfold DataW.trod at h
        rw [ht] at h
        split at h <;> try (simp_all; done)
        rename_i b hb
        exact Imp.scalar rfl fun H => by simp only [TyV, ht]; exact ⟨_, rfl⟩
      · rename_i k ht
        unfold DataW.trod at h
        rw [ht] at h
        split at h <;> try (simp_all; done)
        rename_i k1 k2 m hb
        cases hb
        split at h
        · rename_i hc
          obtain ⟨rfl, hw⟩ := hc
          exact Imp.scalar rfl fun H => by simp only [TyV, ht]; exact ⟨_, rfl, hw⟩
        · cases h
      · rename_i ht
        unfold DataW.trod at h
        rw [ht] at h
        split at h <;> try (simp_all; done)
        rename_i s hb
        split at h
        · rename_i hs
          cases h
          have hs' : s.size ≤ reachBytes := hz _ (by simp only [DataW.weights, List.mem_singleton]; exact (Array.length_toList (xs := s.data)).symm)
          exact Imp.scalar rfl fun H => by simp only [TyV, ht]; exact ⟨_, rfl, hs'⟩
        · cases h
      · rename_i e ht
        simp only [Bool.and_eq_true, decide_eq_true_eq] at hl
        obtain ⟨hsz, hby, hle⟩ := hl
        rcases DataW.trod_slice ht h with ⟨rfl, _⟩ | ⟨a, len, cap, elems, rest, m, hm, rfl, rfl, hb, hlc, hcm, hlen, hel, _, _⟩
        · exact Imp.scalar rfl fun H => by simp [TyV, ht]
        · cases hm
          simp only [DataW.weights, ht] at hz
          have hz1 := hz _ (List.mem_cons_self ..)
          have hz2 : ∀ w ∈ DataW.weightsAll P e (elems.map (·.1)), w ≤ reachBytes := fun w hw => hz w (List.mem_cons_of_mem _ (List.mem_append_left _ hw))
          have hreach : len ≤ reachBytes := by
            simp only [List.length_map] at hz1
            rw [hlen] at hz1
            have h1 : (len + rest.length) * 1 ≤ (len + rest.length) * P.bytesOf e := Nat.mul_le_mul_left _ hby
            omega
          -- the elements' cells
          have hcells : ∀ i, i < len → ∃ l, W.cells? 0 (a.add (i * P.cellsOf e)) (P.cellsOf e) = some l ∧ ∃ y, DataW.trod enc P W 0 spare held fuel e l = some y ∧ ∀ w ∈ y.1.weights P e, w ≤ reachBytes := by
            intro i hi
            have := hel i hi
            rw [List.getElem?_eq_getElem (by omega)] at this
            obtain ⟨l, h1, h2⟩ := Option.bind_eq_some_iff.1 this
            exact ⟨l, h1, _, h2, fun w hw => hz2 w (weightsAll_mem (List.getElem_mem (by omega)) hw)⟩
          let cell (m : Nat) : Value := (W.cell? (a.add m)).getD undef
          have hcell : ∀ m, m < len * P.cellsOf e → W.cell? (a.add m) = some (cell m) := by
            intro m hm
            have hd : m / P.cellsOf e < len := by rw [Nat.div_lt_iff_lt_mul hsz]; exact hm
            obtain ⟨l, h1, _⟩ := hcells _ hd
            obtain ⟨q1, q2⟩ := cells?_get h1
            have hr : m % P.cellsOf e < l.length := by rw [q1]; exact Nat.mod_lt _ hsz
            have := q2 (m % P.cellsOf e) _ (List.getElem?_eq_getElem hr)
            rw [Addr.add_add, show m / P.cellsOf e * P.cellsOf e + m % P.cellsOf e = m from by rw [Nat.mul_comm]; exact Nat.div_add_mod m _] at this
            simp only [cell, this, Option.getD_some]
          have hbig : Imp P W ((List.range (len * P.cellsOf e)).map cell) (fun H as => TyRep (TyV P H n e) len as ∧ as.length = len * P.cellsOf e) := by
            have := imp_rep (P := P) (W := W) (p := fun H as => TyV P H n e as) (fun H H' as => hmono H H' e as) (sz := P.cellsOf e) (cs := (List.range (len * P.cellsOf e)).map cell) len 0 (by simp) (fun i hi => by
              obtain ⟨l, h1, y, h2, h3⟩ := hcells i hi
              obtain ⟨q1, q2⟩ := cells?_get h1
              have : (((List.range (len * P.cellsOf e)).map cell).drop (0 + i * P.cellsOf e)).take (P.cellsOf e) = l := by
                apply List.ext_getElem?
                intro j
                have hmul : i * P.cellsOf e + P.cellsOf e ≤ len * P.cellsOf e := by
                  rw [← Nat.succ_mul]; exact Nat.mul_le_mul_right _ hi
                rw [List.getElem?_take]
                split
                · rename_i hj
                  rw [List.getElem?_drop, List.getElem?_map, List.getElem?_range (by omega)]
                  have hj2 : j < l.length := by omega
                  rw [List.getElem?_eq_getElem hj2]
                  have := q2 j _ (List.getElem?_eq_getElem hj2)
                  rw [Addr.add_add] at this
                  simp [cell, this]
                · rw [List.getElem?_eq_none (by omega)]
              rw [this]
              exact ih fuel e l y h2 hle h3)
            simpa using this
          intro H ρ hR
          obtain ⟨H1, ρ1, as, r1, l1, k1, a1, p1, p2⟩ := hbig H ρ hR
          obtain ⟨r2, l2, k2⟩ := Rel.addRo r1 as a (cap - len) ⟨fun hne => by
              have hpos : 0 < len * P.cellsOf e := by
                rcases Nat.eq_zero_or_pos (len * P.cellsOf e) with h0 | h0
                · rw [h0] at p2; exact absurd (List.eq_nil_of_length_eq_zero p2) hne
                · exact h0
              have := World.block_lt_of_cell? W (a.add 0) (hcell 0 hpos)
              rwa [Addr.add_block] at this, fun m v hv => by
              obtain ⟨v', h1, h2⟩ := a1.get m v hv
              have hm : m < len * P.cellsOf e := by rw [← p2]; exact (List.getElem?_eq_some_iff.1 hv).1
              rw [List.getElem?_map, List.getElem?_range hm] at h1
              cases h1
              exact ⟨_, hcell m hm, h2⟩⟩
          refine ⟨_, _, [.slice (some ⟨H1.next, 0, none⟩) len len], r2, Ren.le_trans l1 l2, Keeps.trans k1 k2, .cons (.inl ⟨Nat.le_refl _, .inr ⟨a, cap - len, Ren.ext_self _ _ _, ?_⟩⟩) .nil, ?_⟩
          · simp only [Option.isSome_none, Bool.false_eq_true, if_false]
            rw [show len + (cap - len) = cap from by omega]
            rfl
          · simp only [TyV, ht]
            refine .inr ⟨H1.next, len, ⟨as, 0, .ro, 0⟩, rfl, hreach, ?_, rfl, p2, p1.mono fun _ => TyV.mono k2⟩
            show (if H1.next = H1.next then some (⟨as, 0, .ro, 0⟩ : Blk) else H1.get H1.next) = _
            rw [if_pos rfl]
      · rename_i fs ht
        simp only [Bool.and_eq_true, beq_iff_eq, List.all_eq_true] at hl
        obtain ⟨hl1, hl2⟩ := hl
        unfold DataW.trod at h
        rw [ht] at h
        have h' : (if cs.length = P.cellsOf t then ((fs.toList.mapM fun f => DataW.trod enc P W 0 spare held fuel f.type ((cs.drop f.offset).take (P.cellsOf f.type))).map fun xs => (DataW.agg (xs.map (·.1)), xs.flatMap (·.2))) else none) = some x := by
          split at h <;> first | exact h | simp_all
        split at h'
        · rename_i hlen
          obtain ⟨xs, hxs, rfl⟩ := Option.map_eq_some_iff.1 h'
          simp only [DataW.weights, ht] at hz
          have := imp_fields (P := P) (W := W) (p := fun H t as => TyV P H n t as) (fun H H' t as => hmono H H' t as) hlen fs.toList 0 hl1 (fun f hf => by
            obtain ⟨y, hy, hw⟩ := mapM_weightsEach (P := P) hxs f hf
            exact ih fuel f.type _ y hy (hl2 f hf) (fun w h => hz w (hw w h)))
          simp only [List.drop_zero] at this
          intro H ρ hR
          obtain ⟨H1, ρ1, as, r1, l1, k1, a1, p1⟩ := this H ρ hR
          exact ⟨H1, ρ1, as, r1, l1, k1, a1, by simp only [TyV, ht]; exact p1⟩
        · cases h'
      · rename_i m e ht
        simp only [Bool.and_eq_true, beq_iff_eq] at hl
        obtain ⟨hl1, hl2⟩ := hl
        unfold DataW.trod at h
        rw [ht] at h
        have h' : (if cs.length = P.cellsOf t then ((List.range m).mapM fun i => DataW.trod enc P W 0 spare held fuel e ((cs.drop (i * P.cellsOf e)).take (P.cellsOf e))).map (fun xs => (DataW.agg (xs.map (·.1)), xs.flatMap (·.2))) else none) = some x := by
          split at h <;> first | exact h | simp_all
        split at h'
        · rename_i hlen
          obtain ⟨xs, hxs, rfl⟩ := Option.map_eq_some_iff.1 h'
          simp only [DataW.weights, ht] at hz
          have := imp_rep (P := P) (W := W) (p := fun H as => TyV P H n e as) (fun H H' as => hmono H H' e as) (sz := P.cellsOf e) (cs := cs) m 0 (by omega) (fun i hi => by
            obtain ⟨y, hy, hm⟩ := mapM_mem hxs i (by simpa using hi)
            simpa using ih fuel e _ y hy hl2 (fun w h => hz w (weightsAll_mem hm h)))
          simp only [List.drop_zero] at this
          intro H ρ hR
          obtain ⟨H1, ρ1, as, r1, l1, k1, a1, p1, _⟩ := this H ρ hR
          exact ⟨H1, ρ1, as, r1, l1, k1, a1, by simp only [TyV, ht]; exact p1⟩
        · cases h'
      · cases hl
end
end Go.Mx
