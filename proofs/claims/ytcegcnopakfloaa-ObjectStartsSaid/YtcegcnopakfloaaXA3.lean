/- Arguments: structs of slices. -/
import Derived.Test.YtcegcnopakfloaaXA1
set_option linter.unusedVariables false
namespace Go.Mx
open Go
def TyTs (p : TypeId → List Value → Prop) : List TypeId → List Value → Prop
  | [], cs => cs = []
  | t :: ts, cs => ∃ a b, cs = a ++ b ∧ p t a ∧ TyTs p ts b
theorem tyTs_of {p : TypeId → List Value → Prop} : ∀ {fs : List Field} {cs : List Value}, TyFields p fs cs → TyTs p (fs.map (·.type)) cs := by
  intro fs
  induction fs with
  | nil => intro cs h; exact h
  | cons f fs ih => intro cs h; obtain ⟨a, b, e, h1, h2⟩ := h; exact ⟨a, b, e, h1, ih h2⟩
theorem tyV_structT {P : Program} {H : AHeap} {n : Nat} {t : TypeId} {fs : Array Field} {ts : List TypeId} {cs : List Value} (hu : P.underlying t = some (.struct fs)) (hts : fs.toList.map (·.type) = ts) (h : TyV P H (n + 1) t cs) : TyTs (TyV P H n) ts cs := by
  subst hts
  exact tyTs_of (tyV_struct hu h)
theorem tyV_sl {P : Program} {H : AHeap} {n : Nat} {t e : TypeId} {cs : List Value} (hu : P.underlying t = some (.slice e)) (h : TyV P H (n + 1) t cs) : ∃ a l c, cs = [.slice a l c] := by
  unfold TyV at h
  simp only [hu] at h
  rcases h with rfl | ⟨i, len, b, rfl, _⟩
  · exact ⟨_, _, _, rfl⟩
  · exact ⟨_, _, _, rfl⟩
theorem arg_slices6 {P : Program} {H : AHeap} {n : Nat} {t t0 t1 t2 t3 t4 t5 e0 e1 e2 e3 e4 e5 : TypeId} {fs : Array Field} {v : Value} (ha : aggT P t = true) (hu : P.underlying t = some (.struct fs)) (hts : fs.toList.map (·.type) = [t0, t1, t2, t3, t4, t5])
    (u0 : P.underlying t0 = some (.slice e0)) (u1 : P.underlying t1 = some (.slice e1)) (u2 : P.underlying t2 = some (.slice e2)) (u3 : P.underlying t3 = some (.slice e3)) (u4 : P.underlying t4 = some (.slice e4)) (u5 : P.underlying t5 = some (.slice e5))
    (h : ArgV P H (n + 1 + 1) t v) : ∃ a0 l0 c0 a1 l1 c1 a2 l2 c2 a3 l3 c3 a4 l4 c4 a5 l5 c5, v = .agg #[.slice a0 l0 c0, .slice a1 l1 c1, .slice a2 l2 c2, .slice a3 l3 c3, .slice a4 l4 c4, .slice a5 l5 c5] := by
  obtain ⟨cs, rfl, hc⟩ := argV_agg ha h
  obtain ⟨_, _, rfl, k0, _, _, rfl, k1, _, _, rfl, k2, _, _, rfl, k3, _, _, rfl, k4, _, _, rfl, k5, rfl⟩ := tyV_structT hu hts hc
  obtain ⟨a0, l0, c0, rfl⟩ := tyV_sl u0 k0
  obtain ⟨a1, l1, c1, rfl⟩ := tyV_sl u1 k1
  obtain ⟨a2, l2, c2, rfl⟩ := tyV_sl u2 k2
  obtain ⟨a3, l3, c3, rfl⟩ := tyV_sl u3 k3
  obtain ⟨a4, l4, c4, rfl⟩ := tyV_sl u4 k4
  obtain ⟨a5, l5, c5, rfl⟩ := tyV_sl u5 k5
  exact ⟨a0, l0, c0, a1, l1, c1, a2, l2, c2, a3, l3, c3, a4, l4, c4, a5, l5, c5, rfl⟩
theorem ok_cGs {R : Type} {Q : R → Prop} {X : Option (Value × AHeap)} {K : Array Value → AHeap → Option R} {P : List Value → Value × AHeap → Prop} (h : Ok X fun r => ∃ cs, r.1 = .agg (cs : List Value).toArray ∧ P cs r) (k : ∀ cs v H', P cs (v, H') → Ok (K cs.toArray H') Q) : Ok (cG X K) Q := by
  obtain ⟨⟨v, H'⟩, e, cs, hv, hp⟩ := h
  have hv' : v = .agg cs.toArray := hv
  unfold cG
  rw [e, hv']
  exact k cs _ H' hp
end Go.Mx
