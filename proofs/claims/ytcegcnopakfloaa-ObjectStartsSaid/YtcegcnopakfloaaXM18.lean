/- A law is true when the machine comes to true on all data of its types. -/
import Derived.Test.YtcegcnopakfloaaXM17
import Derived.ChangeShapes
namespace Go.Mx
open Go Go.RowKit

def aggT (P : Program) (t : TypeId) : Bool := match P.underlying t with
  | some d => isAggD d
  | none => false

/-- a value that holds data of a type -/
structure ArgV (P : Program) (H : AHeap) (n : Nat) (t : TypeId) (v : Value) : Prop where
  out : bif aggT P t then ∃ cs : List Value, v = .agg cs.toArray ∧ TyV P H n t cs else TyV P H n t [v]

theorem ArgV.mono {P : Program} {H H' : AHeap} {n : Nat} {t : TypeId} {v : Value} (hk : Keeps H H') (h : ArgV P H n t v) : ArgV P H' n t v := by
  have h := h.out
  refine ⟨?_⟩
  cases ha : aggT P t
  · rw [ha] at h; exact TyV.mono hk h
  · rw [ha] at h
    obtain ⟨cs, e, h⟩ := h
    exact ⟨cs, e, h.mono hk⟩

def ArgsV (P : Program) (H : AHeap) (n : Nat) (ts : List TypeId) (vs : List Value) : Prop := All2 (ArgV P H n) ts vs

section
variable {H0 : Type} {enc : TypeId × Value → H0} {P : Program} {W : World} {spare : Nat → Bool} {held : Bool}

theorem okWide_notAgg {b : Nat} {t : TypeId} {v : Value} (ha : aggT P t = false) {n : Nat} (hl : layOk P n t = true) (hv : Value.okWide P W .any b t v) : v.cells = #[v] := by
  cases n with
  | zero => cases hl
  | succ n =>
    have hne : ∀ c d, P.underlying t = some c → Value.okWide P W .any b t v → isAggD c = d → aggT P t = d := fun c d h _ e => by unfold aggT; rw [h]; exact e
    simp only [layOk] at hl
    unfold Value.okWide at hv
    unfold aggT at ha
    cases hu : P.underlying t with
    | none => simp [hu] at hl
    | some d =>
      cases d <;> simp only [hu] at hl hv ha <;> try (cases hl; done)
      all_goals first
        | (cases ha; done)
        | (cases v <;> simp [Cell.okWide, Cell.ok, hu] at hv <;> rfl)

theorem imp_arg {b n : Nat} {t : TypeId} {v : Value} {d : DataW H0} {p : List MemPlace} (hl : layOk P n t = true) (ht : DataW.Trod enc P W 0 spare held t v d p)
    (hv : Value.okWide P W .any b t v) (hz : ∀ w ∈ d.weights P t, w ≤ reachBytes) : ∀ H ρ, Rel W ρ H W → ∃ H' ρ' a, Rel W ρ' H' W ∧ ρ.le ρ' ∧ Keeps H H' ∧ VRel ρ' a v ∧ ArgV P H' n t a := by
  intro H ρ hR
  obtain ⟨fuel, hf⟩ := ht
  obtain ⟨H1, ρ1, as, r1, l1, k1, a1, p1⟩ := imp n fuel t v.cells.toList _ hf hl hz H ρ hR
  cases ha : aggT P t
  · rw [okWide_notAgg ha hl hv] at a1
    cases a1 with
    | cons hs hr =>
      cases hr
      refine ⟨H1, ρ1, _, r1, l1, k1, .inl (.inl hs), ?_⟩
      refine ⟨?_⟩
      rw [ha]
      exact p1
  · have : ∃ cs, v = .agg cs := by
      unfold Value.okWide at hv
      unfold aggT at ha
      cases hu : P.underlying t with
      | none => simp [hu] at ha
      | some d => cases d <;> simp [hu, isAggD] at ha <;> simp only [hu] at hv <;> (obtain ⟨cs, h, _⟩ := hv; exact ⟨cs, h⟩)
    obtain ⟨cs, rfl⟩ := this
    refine ⟨H1, ρ1, .agg as.toArray, r1, l1, k1, .inl (.inr ⟨as.toArray, cs, rfl, rfl, ?_⟩), ?_⟩
    · simpa [Value.cells] using a1
    · refine ⟨?_⟩
      rw [ha]
      exact ⟨as, rfl, p1⟩

/-- what is given of each argument -/
def Given (enc : TypeId × Value → H0) (P : Program) (W : World) (t : TypeId) (v : Value) : Prop :=
  (∃ d p spare held, DataW.Trod enc P W 0 spare held t v d p ∧ ∀ w ∈ d.weights P t, w ≤ reachBytes) ∧ ∃ b, Value.okWide P W .any b t v

theorem imp_args {n : Nat} : ∀ (ts : List TypeId) (vs : List Value), All2 (Given enc P W) ts vs → (∀ t ∈ ts, layOk P n t = true) →
    ∀ H ρ, Rel W ρ H W → ∃ H' ρ' as, Rel W ρ' H' W ∧ ρ.le ρ' ∧ Keeps H H' ∧ All2 (VRel ρ') as vs ∧ ArgsV P H' n ts as := by
  intro ts vs h
  induction h with
  | nil => intro _ H ρ hR; exact ⟨H, ρ, [], hR, Ren.le_refl _, Keeps.refl _, .nil, .nil⟩
  | cons hg _ ih =>
    intro hl H ρ hR
    obtain ⟨⟨d, p, spare, held, ht, hz⟩, b, hv⟩ := hg
    obtain ⟨H1, ρ1, a, r1, l1, k1, a1, p1⟩ := imp_arg (hl _ (by simp)) ht hv hz H ρ hR
    obtain ⟨H2, ρ2, as, r2, l2, k2, a2, p2⟩ := ih (fun t ht => hl t (by simp [ht])) H1 ρ1 r1
    exact ⟨H2, ρ2, a :: as, r2, Ren.le_trans l1 l2, Keeps.trans k1 k2, .cons (a1.mono l2) a2, .cons (p1.mono k2) p2⟩

/-- the empty heap -/
def emptyH : AHeap := { get := fun _ => none, next := 0 }
theorem rel_empty : Rel W (fun _ => none) emptyH W :=
  ⟨Below.refl _ _, fun _ => ⟨fun _ => rfl, fun _ => rfl⟩, (fun _ _ h => nomatch h), (fun _ _ _ _ _ _ _ _ h => nomatch h), fun _ _ => rfl⟩

/-- the machine comes to true -/
def LawOk (O : FuncId → Option Bool) (P : Program) (f n : Nat) (ts : List TypeId) : Prop :=
  ∀ H as, (∀ i, H.next ≤ i → H.get i = none) → ArgsV P H n ts as → ∃ k H', acallO O P k f as H = some (.bool true, H')

theorem true_calls (hm : P.follows .mixedOrders = true) {O : FuncId → Option Bool}
    (hO : ∀ f b, O f = some b → ∀ w, Calls P f #[] w fun e w' => e = .returned (.bool b) ∧ Below w.heap.size w w') {W : World} {f : FuncId} {args : Array Value} {as : List Value} {b : Bool} {H H' : AHeap} {ρ : Ren}
    (r : Rel W ρ H W) (a : All2 (VRel ρ) as args.toList) {k : Nat} (h : acallO O P k f as H = some (.bool b, H')) : Calls P f args W fun e w' => e = .returned (.bool b) ∧ Below W.heap.size W w' := by
  refine (acall_sound hm hO W k f as H _ H' h ρ W args r a).mono fun e w' ⟨v', ρ', he, hv, hR, _⟩ => ⟨?_, hR.below⟩
  rw [he]
  rcases hv with (hs | ⟨_, _, h, _⟩) | ⟨_, _, h, _⟩
  · rcases hs with hb | ⟨_, _, _, h, _⟩
    · have : v' = .bool b := hb
      rw [this]
    · cases h
  · cases h
  · cases h

/-- a function without parameters, as the kernel runs it -/
def Known (P : Program) (O : FuncId → Option Bool) : Prop := ∀ f b, O f = some b → ∃ k H', acall P k f [] emptyH = some (.bool b, H')
theorem known_calls (hm : P.follows .mixedOrders = true) {O : FuncId → Option Bool} (h : Known P O) : ∀ f b, O f = some b → ∀ w, Calls P f #[] w fun e w' => e = .returned (.bool b) ∧ Below w.heap.size w w' := by
  intro f b hf w
  obtain ⟨k, H', hk⟩ := h f b hf
  exact true_calls hm (fun _ _ h => by cases h) rel_empty .nil hk

theorem law_calls (hm : P.follows .mixedOrders = true) {O : FuncId → Option Bool} (hO : Known P O) {f n : Nat} {ts : List TypeId} (hl : ts.all (layOk P n) = true) (hp : LawOk O P f n ts) {args : Array Value}
    (hg : All2 (Given enc P W) ts args.toList) : Calls P f args W fun e w' => e = .returned (.bool true) ∧ Below W.heap.size W w' := by
  obtain ⟨H, ρ, as, r, _, _, a, p⟩ := imp_args ts args.toList hg (fun t ht => List.all_eq_true.1 hl t ht) emptyH _ rel_empty
  obtain ⟨k, H', h⟩ := hp H as r.fresh p
  exact true_calls hm (known_calls hm hO) r a h
end
end Go.Mx
