/-
  No cell of these rows narrows 'for every input' (looked for: loops, veiled, ifaces, maps, wideKeys, modest, calm, conditions, laid).
  DERIVED. THE GIVEN ROWS OF THIS SEAT. 15 by the template 'for every input the law returns true; each argument reads behind the call as it read before'; 0 by the template 'total and deterministic' (their statements: YthgppaccdlcaiaaTotals.lean).
  GIVEN WITH THE SEED: the statements are not yours to turn. If you find one false, say at which input.
  Laid BY PROGRAM, IN A SANDBOX (cutbox-rows.mjs): the forced cells as the released guide's own fill.sh prints them over the translation 1359e5f23e2cff5e… (all of the seat's roots in one cut). By AI agents, Wed Nov 11 2026. No macro, syntax, notation, axiom, sorry.
-/
import Derived.Test.YthgppaccdlcaiaaChecked
import GoSem.Claim
import GoSem.ClaimJoined
import GoSem.ClaimMapViews
import Derived.JoinedTies
import Derived.KernelRfl
namespace Go.Proofs.Ythgppaccdlcaiaa
/- THE CELL 'sum', in the pinned program and in every row, IS THE sha256 OF THE DUMP (.gsa) THAT YthgppaccdlcaiaaProg.lean LOADS. Nothing in Lean hashes anything: it is a label: what it is worth is what the hold of that sum in a sandbox is worth. -/
noncomputable def Try.pinned : Pinned := { name := "ythgppaccdlcaiaa", sum := "1359e5f23e2cff5ed88eae68852f1cd3d612ceea1ea0dd0d8e17f6788a8f4b6b", checked := Try.checked }
namespace Rows
def none {H : Type} : Left H := { results := [], args := [] }

/-- 'osierlaw18.PastOrder': WHATEVER THE INPUT: true; the input reads as it did. -/
def pastOrderSpec : ChangeSpec := { name := "pastOrder", fn := fun _ => fun
  | [d1, d2, d3, d4] => { results := [.lit (.bool true)], args := [d1, d2, d3, d4] }
  | _ => none }
def pastOrderRow : OpenClaim := { program := "ythgppaccdlcaiaa", sum := "1359e5f23e2cff5ed88eae68852f1cd3d612ceea1ea0dd0d8e17f6788a8f4b6b", func := "osier/osierlaw18.PastOrder", spec := "pastOrder", apart := false }
def PastOrderSaid : Prop := pastOrderRow.holds Try.pinned (OpenSpec.ofChange pastOrderSpec)

/-- ITS FALSE NEIGHBOUR: 'it returns false'. Refute it at one input. -/
def pastOrderWrong : ChangeSpec := { name := "pastOrder", fn := fun _ => fun
  | [d1, d2, d3, d4] => { results := [.lit (.bool false)], args := [d1, d2, d3, d4] }
  | _ => none }
def PastOrderWrongFalsely : Prop := pastOrderRow.holds Try.pinned (OpenSpec.ofChange pastOrderWrong)

/-- 'osierlaw18.PastCut': WHATEVER THE INPUT: true; the input reads as it did. -/
def pastCutSpec : ChangeSpec := { name := "pastCut", fn := fun _ => fun
  | [d1, d2] => { results := [.lit (.bool true)], args := [d1, d2] }
  | _ => none }
def pastCutRow : OpenClaim := { program := "ythgppaccdlcaiaa", sum := "1359e5f23e2cff5ed88eae68852f1cd3d612ceea1ea0dd0d8e17f6788a8f4b6b", func := "osier/osierlaw18.PastCut", spec := "pastCut", apart := false }
def PastCutSaid : Prop := pastCutRow.holds Try.pinned (OpenSpec.ofChange pastCutSpec)

/-- ITS FALSE NEIGHBOUR: 'it returns false'. Refute it at one input. -/
def pastCutWrong : ChangeSpec := { name := "pastCut", fn := fun _ => fun
  | [d1, d2] => { results := [.lit (.bool false)], args := [d1, d2] }
  | _ => none }
def PastCutWrongFalsely : Prop := pastCutRow.holds Try.pinned (OpenSpec.ofChange pastCutWrong)

/-- 'osierlaw18.PastTurns': WHATEVER THE INPUT: true; the input reads as it did. -/
def pastTurnsSpec : ChangeSpec := { name := "pastTurns", fn := fun _ => fun
  | [d1, d2, d3, d4] => { results := [.lit (.bool true)], args := [d1, d2, d3, d4] }
  | _ => none }
def pastTurnsRow : OpenClaim := { program := "ythgppaccdlcaiaa", sum := "1359e5f23e2cff5ed88eae68852f1cd3d612ceea1ea0dd0d8e17f6788a8f4b6b", func := "osier/osierlaw18.PastTurns", spec := "pastTurns", apart := false }
def PastTurnsSaid : Prop := pastTurnsRow.holds Try.pinned (OpenSpec.ofChange pastTurnsSpec)

/-- ITS FALSE NEIGHBOUR: 'it returns false'. Refute it at one input. -/
def pastTurnsWrong : ChangeSpec := { name := "pastTurns", fn := fun _ => fun
  | [d1, d2, d3, d4] => { results := [.lit (.bool false)], args := [d1, d2, d3, d4] }
  | _ => none }
def PastTurnsWrongFalsely : Prop := pastTurnsRow.holds Try.pinned (OpenSpec.ofChange pastTurnsWrong)

/-- 'osierlaw18.PastCounts': WHATEVER THE INPUT: true; the input reads as it did. -/
def pastCountsSpec : ChangeSpec := { name := "pastCounts", fn := fun _ => fun
  | [d] => { results := [.lit (.bool true)], args := [d] }
  | _ => none }
def pastCountsRow : OpenClaim := { program := "ythgppaccdlcaiaa", sum := "1359e5f23e2cff5ed88eae68852f1cd3d612ceea1ea0dd0d8e17f6788a8f4b6b", func := "osier/osierlaw18.PastCounts", spec := "pastCounts", apart := false }
def PastCountsSaid : Prop := pastCountsRow.holds Try.pinned (OpenSpec.ofChange pastCountsSpec)

/-- ITS FALSE NEIGHBOUR: 'it returns false'. Refute it at one input. -/
def pastCountsWrong : ChangeSpec := { name := "pastCounts", fn := fun _ => fun
  | [d] => { results := [.lit (.bool false)], args := [d] }
  | _ => none }
def PastCountsWrongFalsely : Prop := pastCountsRow.holds Try.pinned (OpenSpec.ofChange pastCountsWrong)

/-- 'osierlaw13.LeafGets': WHATEVER THE INPUT: true; the input reads as it did. -/
def leafGetsSpec : ChangeSpec := { name := "leafGets", fn := fun _ => fun
  | [d1, d2] => { results := [.lit (.bool true)], args := [d1, d2] }
  | _ => none }
def leafGetsRow : OpenClaim := { program := "ythgppaccdlcaiaa", sum := "1359e5f23e2cff5ed88eae68852f1cd3d612ceea1ea0dd0d8e17f6788a8f4b6b", func := "osier/osierlaw13.LeafGets", spec := "leafGets", unfollowed := true, recurses := true, apart := false }
def LeafGetsSaid : Prop := leafGetsRow.holds Try.pinned (OpenSpec.ofChange leafGetsSpec)

/-- ITS FALSE NEIGHBOUR: 'it returns false'. Refute it at one input. -/
def leafGetsWrong : ChangeSpec := { name := "leafGets", fn := fun _ => fun
  | [d1, d2] => { results := [.lit (.bool false)], args := [d1, d2] }
  | _ => none }
def LeafGetsWrongFalsely : Prop := leafGetsRow.holds Try.pinned (OpenSpec.ofChange leafGetsWrong)

/-- 'osierlaw13.LeafRanges': WHATEVER THE INPUT: true; the input reads as it did. -/
def leafRangesSpec : ChangeSpec := { name := "leafRanges", fn := fun _ => fun
  | [d1, d2, d3, d4] => { results := [.lit (.bool true)], args := [d1, d2, d3, d4] }
  | _ => none }
def leafRangesRow : OpenClaim := { program := "ythgppaccdlcaiaa", sum := "1359e5f23e2cff5ed88eae68852f1cd3d612ceea1ea0dd0d8e17f6788a8f4b6b", func := "osier/osierlaw13.LeafRanges", spec := "leafRanges", unfollowed := true, recurses := true, apart := false }
def LeafRangesSaid : Prop := leafRangesRow.holds Try.pinned (OpenSpec.ofChange leafRangesSpec)

/-- ITS FALSE NEIGHBOUR: 'it returns false'. Refute it at one input. -/
def leafRangesWrong : ChangeSpec := { name := "leafRanges", fn := fun _ => fun
  | [d1, d2, d3, d4] => { results := [.lit (.bool false)], args := [d1, d2, d3, d4] }
  | _ => none }
def LeafRangesWrongFalsely : Prop := leafRangesRow.holds Try.pinned (OpenSpec.ofChange leafRangesWrong)

/-- 'osierlaw13.LeafEnds': WHATEVER THE INPUT: true; the input reads as it did. -/
def leafEndsSpec : ChangeSpec := { name := "leafEnds", fn := fun _ => fun
  | [d] => { results := [.lit (.bool true)], args := [d] }
  | _ => none }
def leafEndsRow : OpenClaim := { program := "ythgppaccdlcaiaa", sum := "1359e5f23e2cff5ed88eae68852f1cd3d612ceea1ea0dd0d8e17f6788a8f4b6b", func := "osier/osierlaw13.LeafEnds", spec := "leafEnds", unfollowed := true, recurses := true, apart := false }
def LeafEndsSaid : Prop := leafEndsRow.holds Try.pinned (OpenSpec.ofChange leafEndsSpec)

/-- ITS FALSE NEIGHBOUR: 'it returns false'. Refute it at one input. -/
def leafEndsWrong : ChangeSpec := { name := "leafEnds", fn := fun _ => fun
  | [d] => { results := [.lit (.bool false)], args := [d] }
  | _ => none }
def LeafEndsWrongFalsely : Prop := leafEndsRow.holds Try.pinned (OpenSpec.ofChange leafEndsWrong)

/-- 'osierlaw13.LeafReads': WHATEVER THE INPUT: true; the input reads as it did. -/
def leafReadsSpec : ChangeSpec := { name := "leafReads", fn := fun _ => fun
  | [d1, d2] => { results := [.lit (.bool true)], args := [d1, d2] }
  | _ => none }
def leafReadsRow : OpenClaim := { program := "ythgppaccdlcaiaa", sum := "1359e5f23e2cff5ed88eae68852f1cd3d612ceea1ea0dd0d8e17f6788a8f4b6b", func := "osier/osierlaw13.LeafReads", spec := "leafReads", unfollowed := true, recurses := true, apart := false }
def LeafReadsSaid : Prop := leafReadsRow.holds Try.pinned (OpenSpec.ofChange leafReadsSpec)

/-- ITS FALSE NEIGHBOUR: 'it returns false'. Refute it at one input. -/
def leafReadsWrong : ChangeSpec := { name := "leafReads", fn := fun _ => fun
  | [d1, d2] => { results := [.lit (.bool false)], args := [d1, d2] }
  | _ => none }
def LeafReadsWrongFalsely : Prop := leafReadsRow.holds Try.pinned (OpenSpec.ofChange leafReadsWrong)

/-- 'osierlaw13.LeafForms': WHATEVER THE INPUT: true; the input reads as it did. -/
def leafFormsSpec : ChangeSpec := { name := "leafForms", fn := fun _ => fun
  | [d1, d2, d3, d4, d5, d6] => { results := [.lit (.bool true)], args := [d1, d2, d3, d4, d5, d6] }
  | _ => none }
def leafFormsRow : OpenClaim := { program := "ythgppaccdlcaiaa", sum := "1359e5f23e2cff5ed88eae68852f1cd3d612ceea1ea0dd0d8e17f6788a8f4b6b", func := "osier/osierlaw13.LeafForms", spec := "leafForms", unfollowed := true, recurses := true, apart := false }
def LeafFormsSaid : Prop := leafFormsRow.holds Try.pinned (OpenSpec.ofChange leafFormsSpec)

/-- ITS FALSE NEIGHBOUR: 'it returns false'. Refute it at one input. -/
def leafFormsWrong : ChangeSpec := { name := "leafForms", fn := fun _ => fun
  | [d1, d2, d3, d4, d5, d6] => { results := [.lit (.bool false)], args := [d1, d2, d3, d4, d5, d6] }
  | _ => none }
def LeafFormsWrongFalsely : Prop := leafFormsRow.holds Try.pinned (OpenSpec.ofChange leafFormsWrong)

/-- 'osierlaw16.ModelKeys': WHATEVER THE INPUT: true; the input reads as it did. -/
def modelKeysSpec : ChangeSpec := { name := "modelKeys", fn := fun _ => fun
  | [d1, d2, d3] => { results := [.lit (.bool true)], args := [d1, d2, d3] }
  | _ => none }
def modelKeysRow : OpenClaim := { program := "ythgppaccdlcaiaa", sum := "1359e5f23e2cff5ed88eae68852f1cd3d612ceea1ea0dd0d8e17f6788a8f4b6b", func := "osier/osierlaw16.ModelKeys", spec := "modelKeys", unfollowed := true, recurses := true, apart := false }
def ModelKeysSaid : Prop := modelKeysRow.holds Try.pinned (OpenSpec.ofChange modelKeysSpec)

/-- ITS FALSE NEIGHBOUR: 'it returns false'. Refute it at one input. -/
def modelKeysWrong : ChangeSpec := { name := "modelKeys", fn := fun _ => fun
  | [d1, d2, d3] => { results := [.lit (.bool false)], args := [d1, d2, d3] }
  | _ => none }
def ModelKeysWrongFalsely : Prop := modelKeysRow.holds Try.pinned (OpenSpec.ofChange modelKeysWrong)

/-- 'osierlaw16.ModelLasts': WHATEVER THE INPUT: true; the input reads as it did. -/
def modelLastsSpec : ChangeSpec := { name := "modelLasts", fn := fun _ => fun
  | [d] => { results := [.lit (.bool true)], args := [d] }
  | _ => none }
def modelLastsRow : OpenClaim := { program := "ythgppaccdlcaiaa", sum := "1359e5f23e2cff5ed88eae68852f1cd3d612ceea1ea0dd0d8e17f6788a8f4b6b", func := "osier/osierlaw16.ModelLasts", spec := "modelLasts", unfollowed := true, recurses := true, apart := false }
def ModelLastsSaid : Prop := modelLastsRow.holds Try.pinned (OpenSpec.ofChange modelLastsSpec)

/-- ITS FALSE NEIGHBOUR: 'it returns false'. Refute it at one input. -/
def modelLastsWrong : ChangeSpec := { name := "modelLasts", fn := fun _ => fun
  | [d] => { results := [.lit (.bool false)], args := [d] }
  | _ => none }
def ModelLastsWrongFalsely : Prop := modelLastsRow.holds Try.pinned (OpenSpec.ofChange modelLastsWrong)

/-- 'osierlaw16.ModelReads': WHATEVER THE INPUT: true; the input reads as it did. -/
def modelReadsSpec : ChangeSpec := { name := "modelReads", fn := fun _ => fun
  | [d] => { results := [.lit (.bool true)], args := [d] }
  | _ => none }
def modelReadsRow : OpenClaim := { program := "ythgppaccdlcaiaa", sum := "1359e5f23e2cff5ed88eae68852f1cd3d612ceea1ea0dd0d8e17f6788a8f4b6b", func := "osier/osierlaw16.ModelReads", spec := "modelReads", unfollowed := true, recurses := true, apart := false }
def ModelReadsSaid : Prop := modelReadsRow.holds Try.pinned (OpenSpec.ofChange modelReadsSpec)

/-- ITS FALSE NEIGHBOUR: 'it returns false'. Refute it at one input. -/
def modelReadsWrong : ChangeSpec := { name := "modelReads", fn := fun _ => fun
  | [d] => { results := [.lit (.bool false)], args := [d] }
  | _ => none }
def ModelReadsWrongFalsely : Prop := modelReadsRow.holds Try.pinned (OpenSpec.ofChange modelReadsWrong)

/-- 'osierlaw16.ModelCuts': WHATEVER THE INPUT: true; the input reads as it did. -/
def modelCutsSpec : ChangeSpec := { name := "modelCuts", fn := fun _ => fun
  | [d1, d2] => { results := [.lit (.bool true)], args := [d1, d2] }
  | _ => none }
def modelCutsRow : OpenClaim := { program := "ythgppaccdlcaiaa", sum := "1359e5f23e2cff5ed88eae68852f1cd3d612ceea1ea0dd0d8e17f6788a8f4b6b", func := "osier/osierlaw16.ModelCuts", spec := "modelCuts", unfollowed := true, recurses := true, apart := false }
def ModelCutsSaid : Prop := modelCutsRow.holds Try.pinned (OpenSpec.ofChange modelCutsSpec)

/-- ITS FALSE NEIGHBOUR: 'it returns false'. Refute it at one input. -/
def modelCutsWrong : ChangeSpec := { name := "modelCuts", fn := fun _ => fun
  | [d1, d2] => { results := [.lit (.bool false)], args := [d1, d2] }
  | _ => none }
def ModelCutsWrongFalsely : Prop := modelCutsRow.holds Try.pinned (OpenSpec.ofChange modelCutsWrong)

/-- 'osierlaw16.ModelRuns': WHATEVER THE INPUT: true; the input reads as it did. -/
def modelRunsSpec : ChangeSpec := { name := "modelRuns", fn := fun _ => fun
  | [d1, d2, d3] => { results := [.lit (.bool true)], args := [d1, d2, d3] }
  | _ => none }
def modelRunsRow : OpenClaim := { program := "ythgppaccdlcaiaa", sum := "1359e5f23e2cff5ed88eae68852f1cd3d612ceea1ea0dd0d8e17f6788a8f4b6b", func := "osier/osierlaw16.ModelRuns", spec := "modelRuns", unfollowed := true, recurses := true, apart := false }
def ModelRunsSaid : Prop := modelRunsRow.holds Try.pinned (OpenSpec.ofChange modelRunsSpec)

/-- ITS FALSE NEIGHBOUR: 'it returns false'. Refute it at one input. -/
def modelRunsWrong : ChangeSpec := { name := "modelRuns", fn := fun _ => fun
  | [d1, d2, d3] => { results := [.lit (.bool false)], args := [d1, d2, d3] }
  | _ => none }
def ModelRunsWrongFalsely : Prop := modelRunsRow.holds Try.pinned (OpenSpec.ofChange modelRunsWrong)

/-- 'osierlaw16.ModelNil': WHATEVER THE INPUT: true; the input reads as it did. -/
def modelNilSpec : ChangeSpec := { name := "modelNil", fn := fun _ => fun
  | [d] => { results := [.lit (.bool true)], args := [d] }
  | _ => none }
def modelNilRow : OpenClaim := { program := "ythgppaccdlcaiaa", sum := "1359e5f23e2cff5ed88eae68852f1cd3d612ceea1ea0dd0d8e17f6788a8f4b6b", func := "osier/osierlaw16.ModelNil", spec := "modelNil", unfollowed := true, recurses := true, apart := false }
def ModelNilSaid : Prop := modelNilRow.holds Try.pinned (OpenSpec.ofChange modelNilSpec)

/-- ITS FALSE NEIGHBOUR: 'it returns false'. Refute it at one input. -/
def modelNilWrong : ChangeSpec := { name := "modelNil", fn := fun _ => fun
  | [d] => { results := [.lit (.bool false)], args := [d] }
  | _ => none }
def ModelNilWrongFalsely : Prop := modelNilRow.holds Try.pinned (OpenSpec.ofChange modelNilWrong)

/- THE SECOND FORM. 'bulk': how many values and letters a reading holds, each counted each time it is reached (what is shared counts as often as it is met; a slice's spare places count too). A statement '..UptoSaid' is the law's where the arguments, and the package variables that the reading takes, are together of bulk at most 1048576: NARROWER than '..Said'. Prove '..Said' where nothing that the law and all that it calls make is longer than what came in: it says more and counts as full. Else prove '..UptoSaid'. A law counts once. -/
mutual
def uptoBulk {H : Type} : DataW H → Nat
  | .lit (.string bytes) => bytes.length + 1
  | .lit _ => 1
  | .nil => 1
  | .ptr d => uptoBulk d + 1
  | .slice elems spare => uptoBulkAll elems + uptoBulkAll spare + 1
  | .agg parts => uptoBulkAll parts + 1
  | .iface _ d => uptoBulk d + 1
  | .map entries => uptoBulkEntries entries + 1
  | .held _ => 1
def uptoBulkAll {H : Type} : List (DataW H) → Nat
  | [] => 0
  | d :: r => uptoBulk d + uptoBulkAll r
def uptoBulkEntries {H : Type} : List (Lit × DataW H) → Nat
  | [] => 0
  | x :: r => uptoBulkEntry x + uptoBulkEntries r
def uptoBulkEntry {H : Type} : Lit × DataW H → Nat
  | (.string bytes, d) => bytes.length + uptoBulk d + 1
  | (_, d) => uptoBulk d + 1
 end
def uptoSmall : (H : Type) → List (DataW H) → Bool := fun _ ds => decide (uptoBulkAll ds ≤ 1048576)
def OpenSpec.upto (s : _root_.Go.ChangeSpec) : _root_.Go.OpenSpec := { _root_.Go.OpenSpec.ofChange s with cond := some uptoSmall }

/-- 'osierlaw18.PastOrder', WHERE WHAT IT READS IS OF BULK AT MOST 1048576: true; the input reads as it did. -/
def pastOrderUptoRow : OpenClaim := { program := "ythgppaccdlcaiaa", sum := "1359e5f23e2cff5ed88eae68852f1cd3d612ceea1ea0dd0d8e17f6788a8f4b6b", func := "osier/osierlaw18.PastOrder", spec := "pastOrder", apart := false, narrowed := true }
def PastOrderUptoSaid : Prop := pastOrderUptoRow.holds Try.pinned (OpenSpec.upto pastOrderSpec)

/-- 'osierlaw18.PastCut', WHERE WHAT IT READS IS OF BULK AT MOST 1048576: true; the input reads as it did. -/
def pastCutUptoRow : OpenClaim := { program := "ythgppaccdlcaiaa", sum := "1359e5f23e2cff5ed88eae68852f1cd3d612ceea1ea0dd0d8e17f6788a8f4b6b", func := "osier/osierlaw18.PastCut", spec := "pastCut", apart := false, narrowed := true }
def PastCutUptoSaid : Prop := pastCutUptoRow.holds Try.pinned (OpenSpec.upto pastCutSpec)

/-- 'osierlaw18.PastTurns', WHERE WHAT IT READS IS OF BULK AT MOST 1048576: true; the input reads as it did. -/
def pastTurnsUptoRow : OpenClaim := { program := "ythgppaccdlcaiaa", sum := "1359e5f23e2cff5ed88eae68852f1cd3d612ceea1ea0dd0d8e17f6788a8f4b6b", func := "osier/osierlaw18.PastTurns", spec := "pastTurns", apart := false, narrowed := true }
def PastTurnsUptoSaid : Prop := pastTurnsUptoRow.holds Try.pinned (OpenSpec.upto pastTurnsSpec)

/-- 'osierlaw18.PastCounts', WHERE WHAT IT READS IS OF BULK AT MOST 1048576: true; the input reads as it did. -/
def pastCountsUptoRow : OpenClaim := { program := "ythgppaccdlcaiaa", sum := "1359e5f23e2cff5ed88eae68852f1cd3d612ceea1ea0dd0d8e17f6788a8f4b6b", func := "osier/osierlaw18.PastCounts", spec := "pastCounts", apart := false, narrowed := true }
def PastCountsUptoSaid : Prop := pastCountsUptoRow.holds Try.pinned (OpenSpec.upto pastCountsSpec)

/-- 'osierlaw13.LeafGets', WHERE WHAT IT READS IS OF BULK AT MOST 1048576: true; the input reads as it did. -/
def leafGetsUptoRow : OpenClaim := { program := "ythgppaccdlcaiaa", sum := "1359e5f23e2cff5ed88eae68852f1cd3d612ceea1ea0dd0d8e17f6788a8f4b6b", func := "osier/osierlaw13.LeafGets", spec := "leafGets", unfollowed := true, recurses := true, apart := false, narrowed := true }
def LeafGetsUptoSaid : Prop := leafGetsUptoRow.holds Try.pinned (OpenSpec.upto leafGetsSpec)

/-- 'osierlaw13.LeafRanges', WHERE WHAT IT READS IS OF BULK AT MOST 1048576: true; the input reads as it did. -/
def leafRangesUptoRow : OpenClaim := { program := "ythgppaccdlcaiaa", sum := "1359e5f23e2cff5ed88eae68852f1cd3d612ceea1ea0dd0d8e17f6788a8f4b6b", func := "osier/osierlaw13.LeafRanges", spec := "leafRanges", unfollowed := true, recurses := true, apart := false, narrowed := true }
def LeafRangesUptoSaid : Prop := leafRangesUptoRow.holds Try.pinned (OpenSpec.upto leafRangesSpec)

/-- 'osierlaw13.LeafEnds', WHERE WHAT IT READS IS OF BULK AT MOST 1048576: true; the input reads as it did. -/
def leafEndsUptoRow : OpenClaim := { program := "ythgppaccdlcaiaa", sum := "1359e5f23e2cff5ed88eae68852f1cd3d612ceea1ea0dd0d8e17f6788a8f4b6b", func := "osier/osierlaw13.LeafEnds", spec := "leafEnds", unfollowed := true, recurses := true, apart := false, narrowed := true }
def LeafEndsUptoSaid : Prop := leafEndsUptoRow.holds Try.pinned (OpenSpec.upto leafEndsSpec)

/-- 'osierlaw13.LeafReads', WHERE WHAT IT READS IS OF BULK AT MOST 1048576: true; the input reads as it did. -/
def leafReadsUptoRow : OpenClaim := { program := "ythgppaccdlcaiaa", sum := "1359e5f23e2cff5ed88eae68852f1cd3d612ceea1ea0dd0d8e17f6788a8f4b6b", func := "osier/osierlaw13.LeafReads", spec := "leafReads", unfollowed := true, recurses := true, apart := false, narrowed := true }
def LeafReadsUptoSaid : Prop := leafReadsUptoRow.holds Try.pinned (OpenSpec.upto leafReadsSpec)

/-- 'osierlaw13.LeafForms', WHERE WHAT IT READS IS OF BULK AT MOST 1048576: true; the input reads as it did. -/
def leafFormsUptoRow : OpenClaim := { program := "ythgppaccdlcaiaa", sum := "1359e5f23e2cff5ed88eae68852f1cd3d612ceea1ea0dd0d8e17f6788a8f4b6b", func := "osier/osierlaw13.LeafForms", spec := "leafForms", unfollowed := true, recurses := true, apart := false, narrowed := true }
def LeafFormsUptoSaid : Prop := leafFormsUptoRow.holds Try.pinned (OpenSpec.upto leafFormsSpec)

/-- 'osierlaw16.ModelKeys', WHERE WHAT IT READS IS OF BULK AT MOST 1048576: true; the input reads as it did. -/
def modelKeysUptoRow : OpenClaim := { program := "ythgppaccdlcaiaa", sum := "1359e5f23e2cff5ed88eae68852f1cd3d612ceea1ea0dd0d8e17f6788a8f4b6b", func := "osier/osierlaw16.ModelKeys", spec := "modelKeys", unfollowed := true, recurses := true, apart := false, narrowed := true }
def ModelKeysUptoSaid : Prop := modelKeysUptoRow.holds Try.pinned (OpenSpec.upto modelKeysSpec)

/-- 'osierlaw16.ModelLasts', WHERE WHAT IT READS IS OF BULK AT MOST 1048576: true; the input reads as it did. -/
def modelLastsUptoRow : OpenClaim := { program := "ythgppaccdlcaiaa", sum := "1359e5f23e2cff5ed88eae68852f1cd3d612ceea1ea0dd0d8e17f6788a8f4b6b", func := "osier/osierlaw16.ModelLasts", spec := "modelLasts", unfollowed := true, recurses := true, apart := false, narrowed := true }
def ModelLastsUptoSaid : Prop := modelLastsUptoRow.holds Try.pinned (OpenSpec.upto modelLastsSpec)

/-- 'osierlaw16.ModelReads', WHERE WHAT IT READS IS OF BULK AT MOST 1048576: true; the input reads as it did. -/
def modelReadsUptoRow : OpenClaim := { program := "ythgppaccdlcaiaa", sum := "1359e5f23e2cff5ed88eae68852f1cd3d612ceea1ea0dd0d8e17f6788a8f4b6b", func := "osier/osierlaw16.ModelReads", spec := "modelReads", unfollowed := true, recurses := true, apart := false, narrowed := true }
def ModelReadsUptoSaid : Prop := modelReadsUptoRow.holds Try.pinned (OpenSpec.upto modelReadsSpec)

/-- 'osierlaw16.ModelCuts', WHERE WHAT IT READS IS OF BULK AT MOST 1048576: true; the input reads as it did. -/
def modelCutsUptoRow : OpenClaim := { program := "ythgppaccdlcaiaa", sum := "1359e5f23e2cff5ed88eae68852f1cd3d612ceea1ea0dd0d8e17f6788a8f4b6b", func := "osier/osierlaw16.ModelCuts", spec := "modelCuts", unfollowed := true, recurses := true, apart := false, narrowed := true }
def ModelCutsUptoSaid : Prop := modelCutsUptoRow.holds Try.pinned (OpenSpec.upto modelCutsSpec)

/-- 'osierlaw16.ModelRuns', WHERE WHAT IT READS IS OF BULK AT MOST 1048576: true; the input reads as it did. -/
def modelRunsUptoRow : OpenClaim := { program := "ythgppaccdlcaiaa", sum := "1359e5f23e2cff5ed88eae68852f1cd3d612ceea1ea0dd0d8e17f6788a8f4b6b", func := "osier/osierlaw16.ModelRuns", spec := "modelRuns", unfollowed := true, recurses := true, apart := false, narrowed := true }
def ModelRunsUptoSaid : Prop := modelRunsUptoRow.holds Try.pinned (OpenSpec.upto modelRunsSpec)

/-- 'osierlaw16.ModelNil', WHERE WHAT IT READS IS OF BULK AT MOST 1048576: true; the input reads as it did. -/
def modelNilUptoRow : OpenClaim := { program := "ythgppaccdlcaiaa", sum := "1359e5f23e2cff5ed88eae68852f1cd3d612ceea1ea0dd0d8e17f6788a8f4b6b", func := "osier/osierlaw16.ModelNil", spec := "modelNil", unfollowed := true, recurses := true, apart := false, narrowed := true }
def ModelNilUptoSaid : Prop := modelNilUptoRow.holds Try.pinned (OpenSpec.upto modelNilSpec)

end Rows
end Go.Proofs.Ythgppaccdlcaiaa
