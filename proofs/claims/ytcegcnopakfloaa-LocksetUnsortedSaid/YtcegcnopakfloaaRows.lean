/-
  No cell of these rows narrows 'for every input' (looked for: loops, veiled, ifaces, maps, wideKeys, modest, calm, conditions, laid).
  DERIVED. THE GIVEN ROWS OF THIS SEAT. 12 by the template 'for every input the law returns true; each argument reads behind the call as it read before'; 0 by the template 'total and deterministic' (their statements: YtcegcnopakfloaaTotals.lean).
  GIVEN WITH THE SEED: the statements are not yours to turn. If you find one false, say at which input.
  Laid BY PROGRAM, IN A SANDBOX (cutbox-rows.mjs): the forced cells as the released guide's own fill.sh prints them over the translation a64dde16ef8ed7e7… (all of the seat's roots in one cut). By AI agents, Wed Nov 11 2026. No macro, syntax, notation, axiom, sorry.
-/
import Derived.Test.YtcegcnopakfloaaChecked
import GoSem.Claim
import GoSem.ClaimJoined
import GoSem.ClaimMapViews
import Derived.JoinedTies
import Derived.KernelRfl
namespace Go.Proofs.Ytcegcnopakfloaa
/- THE CELL 'sum', in the pinned program and in every row, IS THE sha256 OF THE DUMP (.gsa) THAT YtcegcnopakfloaaProg.lean LOADS. Nothing in Lean hashes anything: it is a label: what it is worth is what the hold of that sum in a sandbox is worth. -/
noncomputable def Try.pinned : Pinned := { name := "ytcegcnopakfloaa", sum := "a64dde16ef8ed7e7a39aa77238137b18d002236e4ee1abc3d527b8b6c745040a", checked := Try.checked }
namespace Rows
def none {H : Type} : Left H := { results := [], args := [] }

/-- 'interleavelaw24.EpochSequences': WHATEVER THE INPUT: true; the input reads as it did. -/
def epochSequencesSpec : ChangeSpec := { name := "epochSequences", fn := fun _ => fun
  | [d] => { results := [.lit (.bool true)], args := [d] }
  | _ => none }
def epochSequencesRow : OpenClaim := { program := "ytcegcnopakfloaa", sum := "a64dde16ef8ed7e7a39aa77238137b18d002236e4ee1abc3d527b8b6c745040a", func := "interleave/interleavelaw24.EpochSequences", spec := "epochSequences", apart := false }
def EpochSequencesSaid : Prop := epochSequencesRow.holds Try.pinned (OpenSpec.ofChange epochSequencesSpec)

/-- ITS FALSE NEIGHBOUR: 'it returns false'. Refute it at one input. -/
def epochSequencesWrong : ChangeSpec := { name := "epochSequences", fn := fun _ => fun
  | [d] => { results := [.lit (.bool false)], args := [d] }
  | _ => none }
def EpochSequencesWrongFalsely : Prop := epochSequencesRow.holds Try.pinned (OpenSpec.ofChange epochSequencesWrong)

/-- 'interleavelaw24.EpochCompact': WHATEVER THE INPUT: true; the input reads as it did. -/
def epochCompactSpec : ChangeSpec := { name := "epochCompact", fn := fun _ => fun
  | [d1, d2] => { results := [.lit (.bool true)], args := [d1, d2] }
  | _ => none }
def epochCompactRow : OpenClaim := { program := "ytcegcnopakfloaa", sum := "a64dde16ef8ed7e7a39aa77238137b18d002236e4ee1abc3d527b8b6c745040a", func := "interleave/interleavelaw24.EpochCompact", spec := "epochCompact", apart := false }
def EpochCompactSaid : Prop := epochCompactRow.holds Try.pinned (OpenSpec.ofChange epochCompactSpec)

/-- ITS FALSE NEIGHBOUR: 'it returns false'. Refute it at one input. -/
def epochCompactWrong : ChangeSpec := { name := "epochCompact", fn := fun _ => fun
  | [d1, d2] => { results := [.lit (.bool false)], args := [d1, d2] }
  | _ => none }
def EpochCompactWrongFalsely : Prop := epochCompactRow.holds Try.pinned (OpenSpec.ofChange epochCompactWrong)

/-- 'interleavelaw28.LocksetSteps': WHATEVER THE INPUT: true; the input reads as it did. -/
def locksetStepsSpec : ChangeSpec := { name := "locksetSteps", fn := fun _ => fun
  | [d] => { results := [.lit (.bool true)], args := [d] }
  | _ => none }
def locksetStepsRow : OpenClaim := { program := "ytcegcnopakfloaa", sum := "a64dde16ef8ed7e7a39aa77238137b18d002236e4ee1abc3d527b8b6c745040a", func := "interleave/interleavelaw28.LocksetSteps", spec := "locksetSteps", unfollowed := true, recurses := true, apart := false }
def LocksetStepsSaid : Prop := locksetStepsRow.holds Try.pinned (OpenSpec.ofChange locksetStepsSpec)

/-- ITS FALSE NEIGHBOUR: 'it returns false'. Refute it at one input. -/
def locksetStepsWrong : ChangeSpec := { name := "locksetSteps", fn := fun _ => fun
  | [d] => { results := [.lit (.bool false)], args := [d] }
  | _ => none }
def LocksetStepsWrongFalsely : Prop := locksetStepsRow.holds Try.pinned (OpenSpec.ofChange locksetStepsWrong)

/-- 'interleavelaw28.LocksetUnsorted': WHATEVER THE INPUT: true; the input reads as it did. -/
def locksetUnsortedSpec : ChangeSpec := { name := "locksetUnsorted", fn := fun _ => fun
  | [d1, d2, d3, d4, d5] => { results := [.lit (.bool true)], args := [d1, d2, d3, d4, d5] }
  | _ => none }
def locksetUnsortedRow : OpenClaim := { program := "ytcegcnopakfloaa", sum := "a64dde16ef8ed7e7a39aa77238137b18d002236e4ee1abc3d527b8b6c745040a", func := "interleave/interleavelaw28.LocksetUnsorted", spec := "locksetUnsorted", unfollowed := true, recurses := true, apart := false }
def LocksetUnsortedSaid : Prop := locksetUnsortedRow.holds Try.pinned (OpenSpec.ofChange locksetUnsortedSpec)

/-- ITS FALSE NEIGHBOUR: 'it returns false'. Refute it at one input. -/
def locksetUnsortedWrong : ChangeSpec := { name := "locksetUnsorted", fn := fun _ => fun
  | [d1, d2, d3, d4, d5] => { results := [.lit (.bool false)], args := [d1, d2, d3, d4, d5] }
  | _ => none }
def LocksetUnsortedWrongFalsely : Prop := locksetUnsortedRow.holds Try.pinned (OpenSpec.ofChange locksetUnsortedWrong)

/-- 'interleavelaw28.LocksetShrinks': WHATEVER THE INPUT: true; the input reads as it did. -/
def locksetShrinksSpec : ChangeSpec := { name := "locksetShrinks", fn := fun _ => fun
  | [d] => { results := [.lit (.bool true)], args := [d] }
  | _ => none }
def locksetShrinksRow : OpenClaim := { program := "ytcegcnopakfloaa", sum := "a64dde16ef8ed7e7a39aa77238137b18d002236e4ee1abc3d527b8b6c745040a", func := "interleave/interleavelaw28.LocksetShrinks", spec := "locksetShrinks", unfollowed := true, recurses := true, apart := false }
def LocksetShrinksSaid : Prop := locksetShrinksRow.holds Try.pinned (OpenSpec.ofChange locksetShrinksSpec)

/-- ITS FALSE NEIGHBOUR: 'it returns false'. Refute it at one input. -/
def locksetShrinksWrong : ChangeSpec := { name := "locksetShrinks", fn := fun _ => fun
  | [d] => { results := [.lit (.bool false)], args := [d] }
  | _ => none }
def LocksetShrinksWrongFalsely : Prop := locksetShrinksRow.holds Try.pinned (OpenSpec.ofChange locksetShrinksWrong)

/-- 'interleavelaw28.LocksetExcludes': WHATEVER THE INPUT: true; the input reads as it did. -/
def locksetExcludesSpec : ChangeSpec := { name := "locksetExcludes", fn := fun _ => fun
  | [d1, d2] => { results := [.lit (.bool true)], args := [d1, d2] }
  | _ => none }
def locksetExcludesRow : OpenClaim := { program := "ytcegcnopakfloaa", sum := "a64dde16ef8ed7e7a39aa77238137b18d002236e4ee1abc3d527b8b6c745040a", func := "interleave/interleavelaw28.LocksetExcludes", spec := "locksetExcludes", unfollowed := true, recurses := true, apart := false }
def LocksetExcludesSaid : Prop := locksetExcludesRow.holds Try.pinned (OpenSpec.ofChange locksetExcludesSpec)

/-- ITS FALSE NEIGHBOUR: 'it returns false'. Refute it at one input. -/
def locksetExcludesWrong : ChangeSpec := { name := "locksetExcludes", fn := fun _ => fun
  | [d1, d2] => { results := [.lit (.bool false)], args := [d1, d2] }
  | _ => none }
def LocksetExcludesWrongFalsely : Prop := locksetExcludesRow.holds Try.pinned (OpenSpec.ofChange locksetExcludesWrong)

/-- 'interleavelaw08.ObjectStarts': WHATEVER THE INPUT: true; the input reads as it did. -/
def objectStartsSpec : ChangeSpec := { name := "objectStarts", fn := fun _ => fun
  | [d] => { results := [.lit (.bool true)], args := [d] }
  | _ => none }
def objectStartsRow : OpenClaim := { program := "ytcegcnopakfloaa", sum := "a64dde16ef8ed7e7a39aa77238137b18d002236e4ee1abc3d527b8b6c745040a", func := "interleave/interleavelaw08.ObjectStarts", spec := "objectStarts", unfollowed := true, recurses := true, apart := false }
def ObjectStartsSaid : Prop := objectStartsRow.holds Try.pinned (OpenSpec.ofChange objectStartsSpec)

/-- ITS FALSE NEIGHBOUR: 'it returns false'. Refute it at one input. -/
def objectStartsWrong : ChangeSpec := { name := "objectStarts", fn := fun _ => fun
  | [d] => { results := [.lit (.bool false)], args := [d] }
  | _ => none }
def ObjectStartsWrongFalsely : Prop := objectStartsRow.holds Try.pinned (OpenSpec.ofChange objectStartsWrong)

/-- 'interleavelaw08.ObjectReleases': WHATEVER THE INPUT: true; the input reads as it did. -/
def objectReleasesSpec : ChangeSpec := { name := "objectReleases", fn := fun _ => fun
  | [d1, d2, d3] => { results := [.lit (.bool true)], args := [d1, d2, d3] }
  | _ => none }
def objectReleasesRow : OpenClaim := { program := "ytcegcnopakfloaa", sum := "a64dde16ef8ed7e7a39aa77238137b18d002236e4ee1abc3d527b8b6c745040a", func := "interleave/interleavelaw08.ObjectReleases", spec := "objectReleases", unfollowed := true, recurses := true, apart := false }
def ObjectReleasesSaid : Prop := objectReleasesRow.holds Try.pinned (OpenSpec.ofChange objectReleasesSpec)

/-- ITS FALSE NEIGHBOUR: 'it returns false'. Refute it at one input. -/
def objectReleasesWrong : ChangeSpec := { name := "objectReleases", fn := fun _ => fun
  | [d1, d2, d3] => { results := [.lit (.bool false)], args := [d1, d2, d3] }
  | _ => none }
def ObjectReleasesWrongFalsely : Prop := objectReleasesRow.holds Try.pinned (OpenSpec.ofChange objectReleasesWrong)

/-- 'interleavelaw08.ObjectNotifies': WHATEVER THE INPUT: true; the input reads as it did. -/
def objectNotifiesSpec : ChangeSpec := { name := "objectNotifies", fn := fun _ => fun
  | [d1, d2, d3] => { results := [.lit (.bool true)], args := [d1, d2, d3] }
  | _ => none }
def objectNotifiesRow : OpenClaim := { program := "ytcegcnopakfloaa", sum := "a64dde16ef8ed7e7a39aa77238137b18d002236e4ee1abc3d527b8b6c745040a", func := "interleave/interleavelaw08.ObjectNotifies", spec := "objectNotifies", unfollowed := true, recurses := true, apart := false }
def ObjectNotifiesSaid : Prop := objectNotifiesRow.holds Try.pinned (OpenSpec.ofChange objectNotifiesSpec)

/-- ITS FALSE NEIGHBOUR: 'it returns false'. Refute it at one input. -/
def objectNotifiesWrong : ChangeSpec := { name := "objectNotifies", fn := fun _ => fun
  | [d1, d2, d3] => { results := [.lit (.bool false)], args := [d1, d2, d3] }
  | _ => none }
def ObjectNotifiesWrongFalsely : Prop := objectNotifiesRow.holds Try.pinned (OpenSpec.ofChange objectNotifiesWrong)

/-- 'interleavelaw08.ObjectIndependent': WHATEVER THE INPUT: true; the input reads as it did. -/
def objectIndependentSpec : ChangeSpec := { name := "objectIndependent", fn := fun _ => fun
  | [d1, d2, d3] => { results := [.lit (.bool true)], args := [d1, d2, d3] }
  | _ => none }
def objectIndependentRow : OpenClaim := { program := "ytcegcnopakfloaa", sum := "a64dde16ef8ed7e7a39aa77238137b18d002236e4ee1abc3d527b8b6c745040a", func := "interleave/interleavelaw08.ObjectIndependent", spec := "objectIndependent", unfollowed := true, recurses := true, apart := false }
def ObjectIndependentSaid : Prop := objectIndependentRow.holds Try.pinned (OpenSpec.ofChange objectIndependentSpec)

/-- ITS FALSE NEIGHBOUR: 'it returns false'. Refute it at one input. -/
def objectIndependentWrong : ChangeSpec := { name := "objectIndependent", fn := fun _ => fun
  | [d1, d2, d3] => { results := [.lit (.bool false)], args := [d1, d2, d3] }
  | _ => none }
def ObjectIndependentWrongFalsely : Prop := objectIndependentRow.holds Try.pinned (OpenSpec.ofChange objectIndependentWrong)

/-- 'interleavelaw08.ObjectPlays': WHATEVER THE INPUT: true; the input reads as it did. -/
def objectPlaysSpec : ChangeSpec := { name := "objectPlays", fn := fun _ => fun
  | [d] => { results := [.lit (.bool true)], args := [d] }
  | _ => none }
def objectPlaysRow : OpenClaim := { program := "ytcegcnopakfloaa", sum := "a64dde16ef8ed7e7a39aa77238137b18d002236e4ee1abc3d527b8b6c745040a", func := "interleave/interleavelaw08.ObjectPlays", spec := "objectPlays", unfollowed := true, recurses := true, apart := false }
def ObjectPlaysSaid : Prop := objectPlaysRow.holds Try.pinned (OpenSpec.ofChange objectPlaysSpec)

/-- ITS FALSE NEIGHBOUR: 'it returns false'. Refute it at one input. -/
def objectPlaysWrong : ChangeSpec := { name := "objectPlays", fn := fun _ => fun
  | [d] => { results := [.lit (.bool false)], args := [d] }
  | _ => none }
def ObjectPlaysWrongFalsely : Prop := objectPlaysRow.holds Try.pinned (OpenSpec.ofChange objectPlaysWrong)

/-- 'interleavelaw08.ObjectBlocks': WHATEVER THE INPUT: true; the input reads as it did. -/
def objectBlocksSpec : ChangeSpec := { name := "objectBlocks", fn := fun _ => fun
  | [d1, d2, d3] => { results := [.lit (.bool true)], args := [d1, d2, d3] }
  | _ => none }
def objectBlocksRow : OpenClaim := { program := "ytcegcnopakfloaa", sum := "a64dde16ef8ed7e7a39aa77238137b18d002236e4ee1abc3d527b8b6c745040a", func := "interleave/interleavelaw08.ObjectBlocks", spec := "objectBlocks", unfollowed := true, recurses := true, apart := false }
def ObjectBlocksSaid : Prop := objectBlocksRow.holds Try.pinned (OpenSpec.ofChange objectBlocksSpec)

/-- ITS FALSE NEIGHBOUR: 'it returns false'. Refute it at one input. -/
def objectBlocksWrong : ChangeSpec := { name := "objectBlocks", fn := fun _ => fun
  | [d1, d2, d3] => { results := [.lit (.bool false)], args := [d1, d2, d3] }
  | _ => none }
def ObjectBlocksWrongFalsely : Prop := objectBlocksRow.holds Try.pinned (OpenSpec.ofChange objectBlocksWrong)

/- THE SECOND FORM. 'bulk': how many values and letters a reading holds, each counted each time it is reached (what is shared counts as often as it is met; a slice's spare places count too). A statement '..UptoSaid' is the law's where the arguments, and the package variables that the reading takes, are together of bulk at most 1048576: NARROWER than '..Said'. Prove '..Said' where nothing that the law and all that it calls make is longer than what came in: it says more and counts as full. Else prove '..UptoSaid'. A law counts once. -/
mutual
def uptoBulk {H : Type} : DataW H → Nat
  | .lit (.string bytes) => bytes.length + 1
  | .lit _ => 1
  | .nil => 1
  | .ptr d => uptoBulk d + 1
  | .slice elems spare => uptoBulkAll elems + uptoBulkAll spare + 1
  | .agg parts => uptoBulkAll parts + 1
  | .iface _ d => uptoBulk d + 1
  | .map entries => uptoBulkEntries entries + 1
  | .held _ => 1
def uptoBulkAll {H : Type} : List (DataW H) → Nat
  | [] => 0
  | d :: r => uptoBulk d + uptoBulkAll r
def uptoBulkEntries {H : Type} : List (Lit × DataW H) → Nat
  | [] => 0
  | x :: r => uptoBulkEntry x + uptoBulkEntries r
def uptoBulkEntry {H : Type} : Lit × DataW H → Nat
  | (.string bytes, d) => bytes.length + uptoBulk d + 1
  | (_, d) => uptoBulk d + 1
 end
def uptoSmall : (H : Type) → List (DataW H) → Bool := fun _ ds => decide (uptoBulkAll ds ≤ 1048576)
def OpenSpec.upto (s : _root_.Go.ChangeSpec) : _root_.Go.OpenSpec := { _root_.Go.OpenSpec.ofChange s with cond := some uptoSmall }

/-- 'interleavelaw24.EpochSequences', WHERE WHAT IT READS IS OF BULK AT MOST 1048576: true; the input reads as it did. -/
def epochSequencesUptoRow : OpenClaim := { program := "ytcegcnopakfloaa", sum := "a64dde16ef8ed7e7a39aa77238137b18d002236e4ee1abc3d527b8b6c745040a", func := "interleave/interleavelaw24.EpochSequences", spec := "epochSequences", apart := false, narrowed := true }
def EpochSequencesUptoSaid : Prop := epochSequencesUptoRow.holds Try.pinned (OpenSpec.upto epochSequencesSpec)

/-- 'interleavelaw24.EpochCompact', WHERE WHAT IT READS IS OF BULK AT MOST 1048576: true; the input reads as it did. -/
def epochCompactUptoRow : OpenClaim := { program := "ytcegcnopakfloaa", sum := "a64dde16ef8ed7e7a39aa77238137b18d002236e4ee1abc3d527b8b6c745040a", func := "interleave/interleavelaw24.EpochCompact", spec := "epochCompact", apart := false, narrowed := true }
def EpochCompactUptoSaid : Prop := epochCompactUptoRow.holds Try.pinned (OpenSpec.upto epochCompactSpec)

/-- 'interleavelaw28.LocksetSteps', WHERE WHAT IT READS IS OF BULK AT MOST 1048576: true; the input reads as it did. -/
def locksetStepsUptoRow : OpenClaim := { program := "ytcegcnopakfloaa", sum := "a64dde16ef8ed7e7a39aa77238137b18d002236e4ee1abc3d527b8b6c745040a", func := "interleave/interleavelaw28.LocksetSteps", spec := "locksetSteps", unfollowed := true, recurses := true, apart := false, narrowed := true }
def LocksetStepsUptoSaid : Prop := locksetStepsUptoRow.holds Try.pinned (OpenSpec.upto locksetStepsSpec)

/-- 'interleavelaw28.LocksetUnsorted', WHERE WHAT IT READS IS OF BULK AT MOST 1048576: true; the input reads as it did. -/
def locksetUnsortedUptoRow : OpenClaim := { program := "ytcegcnopakfloaa", sum := "a64dde16ef8ed7e7a39aa77238137b18d002236e4ee1abc3d527b8b6c745040a", func := "interleave/interleavelaw28.LocksetUnsorted", spec := "locksetUnsorted", unfollowed := true, recurses := true, apart := false, narrowed := true }
def LocksetUnsortedUptoSaid : Prop := locksetUnsortedUptoRow.holds Try.pinned (OpenSpec.upto locksetUnsortedSpec)

/-- 'interleavelaw28.LocksetShrinks', WHERE WHAT IT READS IS OF BULK AT MOST 1048576: true; the input reads as it did. -/
def locksetShrinksUptoRow : OpenClaim := { program := "ytcegcnopakfloaa", sum := "a64dde16ef8ed7e7a39aa77238137b18d002236e4ee1abc3d527b8b6c745040a", func := "interleave/interleavelaw28.LocksetShrinks", spec := "locksetShrinks", unfollowed := true, recurses := true, apart := false, narrowed := true }
def LocksetShrinksUptoSaid : Prop := locksetShrinksUptoRow.holds Try.pinned (OpenSpec.upto locksetShrinksSpec)

/-- 'interleavelaw28.LocksetExcludes', WHERE WHAT IT READS IS OF BULK AT MOST 1048576: true; the input reads as it did. -/
def locksetExcludesUptoRow : OpenClaim := { program := "ytcegcnopakfloaa", sum := "a64dde16ef8ed7e7a39aa77238137b18d002236e4ee1abc3d527b8b6c745040a", func := "interleave/interleavelaw28.LocksetExcludes", spec := "locksetExcludes", unfollowed := true, recurses := true, apart := false, narrowed := true }
def LocksetExcludesUptoSaid : Prop := locksetExcludesUptoRow.holds Try.pinned (OpenSpec.upto locksetExcludesSpec)

/-- 'interleavelaw08.ObjectStarts', WHERE WHAT IT READS IS OF BULK AT MOST 1048576: true; the input reads as it did. -/
def objectStartsUptoRow : OpenClaim := { program := "ytcegcnopakfloaa", sum := "a64dde16ef8ed7e7a39aa77238137b18d002236e4ee1abc3d527b8b6c745040a", func := "interleave/interleavelaw08.ObjectStarts", spec := "objectStarts", unfollowed := true, recurses := true, apart := false, narrowed := true }
def ObjectStartsUptoSaid : Prop := objectStartsUptoRow.holds Try.pinned (OpenSpec.upto objectStartsSpec)

/-- 'interleavelaw08.ObjectReleases', WHERE WHAT IT READS IS OF BULK AT MOST 1048576: true; the input reads as it did. -/
def objectReleasesUptoRow : OpenClaim := { program := "ytcegcnopakfloaa", sum := "a64dde16ef8ed7e7a39aa77238137b18d002236e4ee1abc3d527b8b6c745040a", func := "interleave/interleavelaw08.ObjectReleases", spec := "objectReleases", unfollowed := true, recurses := true, apart := false, narrowed := true }
def ObjectReleasesUptoSaid : Prop := objectReleasesUptoRow.holds Try.pinned (OpenSpec.upto objectReleasesSpec)

/-- 'interleavelaw08.ObjectNotifies', WHERE WHAT IT READS IS OF BULK AT MOST 1048576: true; the input reads as it did. -/
def objectNotifiesUptoRow : OpenClaim := { program := "ytcegcnopakfloaa", sum := "a64dde16ef8ed7e7a39aa77238137b18d002236e4ee1abc3d527b8b6c745040a", func := "interleave/interleavelaw08.ObjectNotifies", spec := "objectNotifies", unfollowed := true, recurses := true, apart := false, narrowed := true }
def ObjectNotifiesUptoSaid : Prop := objectNotifiesUptoRow.holds Try.pinned (OpenSpec.upto objectNotifiesSpec)

/-- 'interleavelaw08.ObjectIndependent', WHERE WHAT IT READS IS OF BULK AT MOST 1048576: true; the input reads as it did. -/
def objectIndependentUptoRow : OpenClaim := { program := "ytcegcnopakfloaa", sum := "a64dde16ef8ed7e7a39aa77238137b18d002236e4ee1abc3d527b8b6c745040a", func := "interleave/interleavelaw08.ObjectIndependent", spec := "objectIndependent", unfollowed := true, recurses := true, apart := false, narrowed := true }
def ObjectIndependentUptoSaid : Prop := objectIndependentUptoRow.holds Try.pinned (OpenSpec.upto objectIndependentSpec)

/-- 'interleavelaw08.ObjectPlays', WHERE WHAT IT READS IS OF BULK AT MOST 1048576: true; the input reads as it did. -/
def objectPlaysUptoRow : OpenClaim := { program := "ytcegcnopakfloaa", sum := "a64dde16ef8ed7e7a39aa77238137b18d002236e4ee1abc3d527b8b6c745040a", func := "interleave/interleavelaw08.ObjectPlays", spec := "objectPlays", unfollowed := true, recurses := true, apart := false, narrowed := true }
def ObjectPlaysUptoSaid : Prop := objectPlaysUptoRow.holds Try.pinned (OpenSpec.upto objectPlaysSpec)

/-- 'interleavelaw08.ObjectBlocks', WHERE WHAT IT READS IS OF BULK AT MOST 1048576: true; the input reads as it did. -/
def objectBlocksUptoRow : OpenClaim := { program := "ytcegcnopakfloaa", sum := "a64dde16ef8ed7e7a39aa77238137b18d002236e4ee1abc3d527b8b6c745040a", func := "interleave/interleavelaw08.ObjectBlocks", spec := "objectBlocks", unfollowed := true, recurses := true, apart := false, narrowed := true }
def ObjectBlocksUptoSaid : Prop := objectBlocksUptoRow.holds Try.pinned (OpenSpec.upto objectBlocksSpec)

end Rows
end Go.Proofs.Ytcegcnopakfloaa
