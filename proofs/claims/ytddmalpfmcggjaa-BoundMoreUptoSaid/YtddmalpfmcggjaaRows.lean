/-
  No cell of these rows narrows 'for every input' (looked for: loops, veiled, ifaces, maps, wideKeys, modest, calm, conditions, laid).
  DERIVED. THE GIVEN ROWS OF THIS SEAT. 8 by the template 'for every input the law returns true; each argument reads behind the call as it read before'; 0 by the template 'total and deterministic' (their statements: YtddmalpfmcggjaaTotals.lean).
  GIVEN WITH THE SEED: the statements are not yours to turn. If you find one false, say at which input.
  Laid BY PROGRAM, IN A SANDBOX (cutbox-rows.mjs): the forced cells as the released guide's own fill.sh prints them over the translation db9b35d95af7c428… (all of the seat's roots in one cut). By AI agents, Wed Nov 11 2026. No macro, syntax, notation, axiom, sorry.
-/
import Derived.Test.YtddmalpfmcggjaaChecked
import GoSem.Claim
import GoSem.ClaimJoined
import GoSem.ClaimMapViews
import Derived.JoinedTies
import Derived.KernelRfl
namespace Go.Proofs.Ytddmalpfmcggjaa
/- THE CELL 'sum', in the pinned program and in every row, IS THE sha256 OF THE DUMP (.gsa) THAT YtddmalpfmcggjaaProg.lean LOADS. Nothing in Lean hashes anything: it is a label: what it is worth is what the hold of that sum in a sandbox is worth. -/
noncomputable def Try.pinned : Pinned := { name := "ytddmalpfmcggjaa", sum := "db9b35d95af7c428a3d17b03f144c6ed0af698e0481eb9796701e4b23eb030a6", checked := Try.checked }
namespace Rows
def none {H : Type} : Left H := { results := [], args := [] }

/-- 'osierlaw22.ScriptRows': WHATEVER THE INPUT: true; the input reads as it did. -/
def scriptRowsSpec : ChangeSpec := { name := "scriptRows", fn := fun _ => fun
  | [d] => { results := [.lit (.bool true)], args := [d] }
  | _ => none }
def scriptRowsRow : OpenClaim := { program := "ytddmalpfmcggjaa", sum := "db9b35d95af7c428a3d17b03f144c6ed0af698e0481eb9796701e4b23eb030a6", func := "osier/osierlaw22.ScriptRows", spec := "scriptRows", unfollowed := true, recurses := true, apart := false }
def ScriptRowsSaid : Prop := scriptRowsRow.holds Try.pinned (OpenSpec.ofChange scriptRowsSpec)

/-- ITS FALSE NEIGHBOUR: 'it returns false'. Refute it at one input. -/
def scriptRowsWrong : ChangeSpec := { name := "scriptRows", fn := fun _ => fun
  | [d] => { results := [.lit (.bool false)], args := [d] }
  | _ => none }
def ScriptRowsWrongFalsely : Prop := scriptRowsRow.holds Try.pinned (OpenSpec.ofChange scriptRowsWrong)

/-- 'osierlaw22.ScriptBegins': WHATEVER THE INPUT: true; the input reads as it did. -/
def scriptBeginsSpec : ChangeSpec := { name := "scriptBegins", fn := fun _ => fun
  | [d] => { results := [.lit (.bool true)], args := [d] }
  | _ => none }
def scriptBeginsRow : OpenClaim := { program := "ytddmalpfmcggjaa", sum := "db9b35d95af7c428a3d17b03f144c6ed0af698e0481eb9796701e4b23eb030a6", func := "osier/osierlaw22.ScriptBegins", spec := "scriptBegins", unfollowed := true, recurses := true, apart := false }
def ScriptBeginsSaid : Prop := scriptBeginsRow.holds Try.pinned (OpenSpec.ofChange scriptBeginsSpec)

/-- ITS FALSE NEIGHBOUR: 'it returns false'. Refute it at one input. -/
def scriptBeginsWrong : ChangeSpec := { name := "scriptBegins", fn := fun _ => fun
  | [d] => { results := [.lit (.bool false)], args := [d] }
  | _ => none }
def ScriptBeginsWrongFalsely : Prop := scriptBeginsRow.holds Try.pinned (OpenSpec.ofChange scriptBeginsWrong)

/-- 'osierlaw24.BoundForms': WHATEVER THE INPUT: true; the input reads as it did. -/
def boundFormsSpec : ChangeSpec := { name := "boundForms", fn := fun _ => fun
  | [d1, d2, d3, d4] => { results := [.lit (.bool true)], args := [d1, d2, d3, d4] }
  | _ => none }
def boundFormsRow : OpenClaim := { program := "ytddmalpfmcggjaa", sum := "db9b35d95af7c428a3d17b03f144c6ed0af698e0481eb9796701e4b23eb030a6", func := "osier/osierlaw24.BoundForms", spec := "boundForms", unfollowed := true, recurses := true, apart := false }
def BoundFormsSaid : Prop := boundFormsRow.holds Try.pinned (OpenSpec.ofChange boundFormsSpec)

/-- ITS FALSE NEIGHBOUR: 'it returns false'. Refute it at one input. -/
def boundFormsWrong : ChangeSpec := { name := "boundForms", fn := fun _ => fun
  | [d1, d2, d3, d4] => { results := [.lit (.bool false)], args := [d1, d2, d3, d4] }
  | _ => none }
def BoundFormsWrongFalsely : Prop := boundFormsRow.holds Try.pinned (OpenSpec.ofChange boundFormsWrong)

/-- 'osierlaw24.BoundMore': WHATEVER THE INPUT: true; the input reads as it did. -/
def boundMoreSpec : ChangeSpec := { name := "boundMore", fn := fun _ => fun
  | [d1, d2, d3, d4, d5] => { results := [.lit (.bool true)], args := [d1, d2, d3, d4, d5] }
  | _ => none }
def boundMoreRow : OpenClaim := { program := "ytddmalpfmcggjaa", sum := "db9b35d95af7c428a3d17b03f144c6ed0af698e0481eb9796701e4b23eb030a6", func := "osier/osierlaw24.BoundMore", spec := "boundMore", unfollowed := true, recurses := true, apart := false }
def BoundMoreSaid : Prop := boundMoreRow.holds Try.pinned (OpenSpec.ofChange boundMoreSpec)

/-- ITS FALSE NEIGHBOUR: 'it returns false'. Refute it at one input. -/
def boundMoreWrong : ChangeSpec := { name := "boundMore", fn := fun _ => fun
  | [d1, d2, d3, d4, d5] => { results := [.lit (.bool false)], args := [d1, d2, d3, d4, d5] }
  | _ => none }
def BoundMoreWrongFalsely : Prop := boundMoreRow.holds Try.pinned (OpenSpec.ofChange boundMoreWrong)

/-- 'osierlaw24.BoundClean': WHATEVER THE INPUT: true; the input reads as it did. -/
def boundCleanSpec : ChangeSpec := { name := "boundClean", fn := fun _ => fun
  | [d] => { results := [.lit (.bool true)], args := [d] }
  | _ => none }
def boundCleanRow : OpenClaim := { program := "ytddmalpfmcggjaa", sum := "db9b35d95af7c428a3d17b03f144c6ed0af698e0481eb9796701e4b23eb030a6", func := "osier/osierlaw24.BoundClean", spec := "boundClean", unfollowed := true, recurses := true, apart := false }
def BoundCleanSaid : Prop := boundCleanRow.holds Try.pinned (OpenSpec.ofChange boundCleanSpec)

/-- ITS FALSE NEIGHBOUR: 'it returns false'. Refute it at one input. -/
def boundCleanWrong : ChangeSpec := { name := "boundClean", fn := fun _ => fun
  | [d] => { results := [.lit (.bool false)], args := [d] }
  | _ => none }
def BoundCleanWrongFalsely : Prop := boundCleanRow.holds Try.pinned (OpenSpec.ofChange boundCleanWrong)

/-- 'osierlaw24.BoundEdges': WHATEVER THE INPUT: true; the input reads as it did. -/
def boundEdgesSpec : ChangeSpec := { name := "boundEdges", fn := fun _ => fun
  | [d1, d2, d3] => { results := [.lit (.bool true)], args := [d1, d2, d3] }
  | _ => none }
def boundEdgesRow : OpenClaim := { program := "ytddmalpfmcggjaa", sum := "db9b35d95af7c428a3d17b03f144c6ed0af698e0481eb9796701e4b23eb030a6", func := "osier/osierlaw24.BoundEdges", spec := "boundEdges", unfollowed := true, recurses := true, apart := false }
def BoundEdgesSaid : Prop := boundEdgesRow.holds Try.pinned (OpenSpec.ofChange boundEdgesSpec)

/-- ITS FALSE NEIGHBOUR: 'it returns false'. Refute it at one input. -/
def boundEdgesWrong : ChangeSpec := { name := "boundEdges", fn := fun _ => fun
  | [d1, d2, d3] => { results := [.lit (.bool false)], args := [d1, d2, d3] }
  | _ => none }
def BoundEdgesWrongFalsely : Prop := boundEdgesRow.holds Try.pinned (OpenSpec.ofChange boundEdgesWrong)

/-- 'osierlaw22.ScriptForms': WHATEVER THE INPUT: true; the input reads as it did. -/
def scriptFormsSpec : ChangeSpec := { name := "scriptForms", fn := fun _ => fun
  | [d] => { results := [.lit (.bool true)], args := [d] }
  | _ => none }
def scriptFormsRow : OpenClaim := { program := "ytddmalpfmcggjaa", sum := "db9b35d95af7c428a3d17b03f144c6ed0af698e0481eb9796701e4b23eb030a6", func := "osier/osierlaw22.ScriptForms", spec := "scriptForms", unfollowed := true, recurses := true, apart := false }
def ScriptFormsSaid : Prop := scriptFormsRow.holds Try.pinned (OpenSpec.ofChange scriptFormsSpec)

/-- ITS FALSE NEIGHBOUR: 'it returns false'. Refute it at one input. -/
def scriptFormsWrong : ChangeSpec := { name := "scriptForms", fn := fun _ => fun
  | [d] => { results := [.lit (.bool false)], args := [d] }
  | _ => none }
def ScriptFormsWrongFalsely : Prop := scriptFormsRow.holds Try.pinned (OpenSpec.ofChange scriptFormsWrong)

/-- 'osierlaw22.ScriptClean': WHATEVER THE INPUT: true; the input reads as it did. -/
def scriptCleanSpec : ChangeSpec := { name := "scriptClean", fn := fun _ => fun
  | [d] => { results := [.lit (.bool true)], args := [d] }
  | _ => none }
def scriptCleanRow : OpenClaim := { program := "ytddmalpfmcggjaa", sum := "db9b35d95af7c428a3d17b03f144c6ed0af698e0481eb9796701e4b23eb030a6", func := "osier/osierlaw22.ScriptClean", spec := "scriptClean", unfollowed := true, recurses := true, apart := false }
def ScriptCleanSaid : Prop := scriptCleanRow.holds Try.pinned (OpenSpec.ofChange scriptCleanSpec)

/-- ITS FALSE NEIGHBOUR: 'it returns false'. Refute it at one input. -/
def scriptCleanWrong : ChangeSpec := { name := "scriptClean", fn := fun _ => fun
  | [d] => { results := [.lit (.bool false)], args := [d] }
  | _ => none }
def ScriptCleanWrongFalsely : Prop := scriptCleanRow.holds Try.pinned (OpenSpec.ofChange scriptCleanWrong)

/- THE SECOND FORM. 'bulk': how many values and letters a reading holds, each counted each time it is reached (what is shared counts as often as it is met; a slice's spare places count too). A statement '..UptoSaid' is the law's where the arguments, and the package variables that the reading takes, are together of bulk at most 1048576: NARROWER than '..Said'. Prove '..Said' where nothing that the law and all that it calls make is longer than what came in: it says more and counts as full. Else prove '..UptoSaid'. A law counts once. -/
mutual
def uptoBulk {H : Type} : DataW H → Nat
  | .lit (.string bytes) => bytes.length + 1
  | .lit _ => 1
  | .nil => 1
  | .ptr d => uptoBulk d + 1
  | .slice elems spare => uptoBulkAll elems + uptoBulkAll spare + 1
  | .agg parts => uptoBulkAll parts + 1
  | .iface _ d => uptoBulk d + 1
  | .map entries => uptoBulkEntries entries + 1
  | .held _ => 1
def uptoBulkAll {H : Type} : List (DataW H) → Nat
  | [] => 0
  | d :: r => uptoBulk d + uptoBulkAll r
def uptoBulkEntries {H : Type} : List (Lit × DataW H) → Nat
  | [] => 0
  | x :: r => uptoBulkEntry x + uptoBulkEntries r
def uptoBulkEntry {H : Type} : Lit × DataW H → Nat
  | (.string bytes, d) => bytes.length + uptoBulk d + 1
  | (_, d) => uptoBulk d + 1
 end
def uptoSmall : (H : Type) → List (DataW H) → Bool := fun _ ds => decide (uptoBulkAll ds ≤ 1048576)
def OpenSpec.upto (s : _root_.Go.ChangeSpec) : _root_.Go.OpenSpec := { _root_.Go.OpenSpec.ofChange s with cond := some uptoSmall }

/-- 'osierlaw22.ScriptRows', WHERE WHAT IT READS IS OF BULK AT MOST 1048576: true; the input reads as it did. -/
def scriptRowsUptoRow : OpenClaim := { program := "ytddmalpfmcggjaa", sum := "db9b35d95af7c428a3d17b03f144c6ed0af698e0481eb9796701e4b23eb030a6", func := "osier/osierlaw22.ScriptRows", spec := "scriptRows", unfollowed := true, recurses := true, apart := false, narrowed := true }
def ScriptRowsUptoSaid : Prop := scriptRowsUptoRow.holds Try.pinned (OpenSpec.upto scriptRowsSpec)

/-- 'osierlaw22.ScriptBegins', WHERE WHAT IT READS IS OF BULK AT MOST 1048576: true; the input reads as it did. -/
def scriptBeginsUptoRow : OpenClaim := { program := "ytddmalpfmcggjaa", sum := "db9b35d95af7c428a3d17b03f144c6ed0af698e0481eb9796701e4b23eb030a6", func := "osier/osierlaw22.ScriptBegins", spec := "scriptBegins", unfollowed := true, recurses := true, apart := false, narrowed := true }
def ScriptBeginsUptoSaid : Prop := scriptBeginsUptoRow.holds Try.pinned (OpenSpec.upto scriptBeginsSpec)

/-- 'osierlaw24.BoundForms', WHERE WHAT IT READS IS OF BULK AT MOST 1048576: true; the input reads as it did. -/
def boundFormsUptoRow : OpenClaim := { program := "ytddmalpfmcggjaa", sum := "db9b35d95af7c428a3d17b03f144c6ed0af698e0481eb9796701e4b23eb030a6", func := "osier/osierlaw24.BoundForms", spec := "boundForms", unfollowed := true, recurses := true, apart := false, narrowed := true }
def BoundFormsUptoSaid : Prop := boundFormsUptoRow.holds Try.pinned (OpenSpec.upto boundFormsSpec)

/-- 'osierlaw24.BoundMore', WHERE WHAT IT READS IS OF BULK AT MOST 1048576: true; the input reads as it did. -/
def boundMoreUptoRow : OpenClaim := { program := "ytddmalpfmcggjaa", sum := "db9b35d95af7c428a3d17b03f144c6ed0af698e0481eb9796701e4b23eb030a6", func := "osier/osierlaw24.BoundMore", spec := "boundMore", unfollowed := true, recurses := true, apart := false, narrowed := true }
def BoundMoreUptoSaid : Prop := boundMoreUptoRow.holds Try.pinned (OpenSpec.upto boundMoreSpec)

/-- 'osierlaw24.BoundClean', WHERE WHAT IT READS IS OF BULK AT MOST 1048576: true; the input reads as it did. -/
def boundCleanUptoRow : OpenClaim := { program := "ytddmalpfmcggjaa", sum := "db9b35d95af7c428a3d17b03f144c6ed0af698e0481eb9796701e4b23eb030a6", func := "osier/osierlaw24.BoundClean", spec := "boundClean", unfollowed := true, recurses := true, apart := false, narrowed := true }
def BoundCleanUptoSaid : Prop := boundCleanUptoRow.holds Try.pinned (OpenSpec.upto boundCleanSpec)

/-- 'osierlaw24.BoundEdges', WHERE WHAT IT READS IS OF BULK AT MOST 1048576: true; the input reads as it did. -/
def boundEdgesUptoRow : OpenClaim := { program := "ytddmalpfmcggjaa", sum := "db9b35d95af7c428a3d17b03f144c6ed0af698e0481eb9796701e4b23eb030a6", func := "osier/osierlaw24.BoundEdges", spec := "boundEdges", unfollowed := true, recurses := true, apart := false, narrowed := true }
def BoundEdgesUptoSaid : Prop := boundEdgesUptoRow.holds Try.pinned (OpenSpec.upto boundEdgesSpec)

/-- 'osierlaw22.ScriptForms', WHERE WHAT IT READS IS OF BULK AT MOST 1048576: true; the input reads as it did. -/
def scriptFormsUptoRow : OpenClaim := { program := "ytddmalpfmcggjaa", sum := "db9b35d95af7c428a3d17b03f144c6ed0af698e0481eb9796701e4b23eb030a6", func := "osier/osierlaw22.ScriptForms", spec := "scriptForms", unfollowed := true, recurses := true, apart := false, narrowed := true }
def ScriptFormsUptoSaid : Prop := scriptFormsUptoRow.holds Try.pinned (OpenSpec.upto scriptFormsSpec)

/-- 'osierlaw22.ScriptClean', WHERE WHAT IT READS IS OF BULK AT MOST 1048576: true; the input reads as it did. -/
def scriptCleanUptoRow : OpenClaim := { program := "ytddmalpfmcggjaa", sum := "db9b35d95af7c428a3d17b03f144c6ed0af698e0481eb9796701e4b23eb030a6", func := "osier/osierlaw22.ScriptClean", spec := "scriptClean", unfollowed := true, recurses := true, apart := false, narrowed := true }
def ScriptCleanUptoSaid : Prop := scriptCleanUptoRow.holds Try.pinned (OpenSpec.upto scriptCleanSpec)

end Rows
end Go.Proofs.Ytddmalpfmcggjaa
