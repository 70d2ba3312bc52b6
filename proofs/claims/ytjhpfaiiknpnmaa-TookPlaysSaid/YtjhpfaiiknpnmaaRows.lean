/-
  No cell of these rows narrows 'for every input' (looked for: loops, veiled, ifaces, maps, wideKeys, modest, calm, conditions, laid).
  DERIVED. THE GIVEN ROWS OF THIS SEAT. 9 by the template 'for every input the law returns true; each argument reads behind the call as it read before'; 0 by the template 'total and deterministic' (their statements: YtjhpfaiiknpnmaaTotals.lean).
  GIVEN WITH THE SEED: the statements are not yours to turn. If you find one false, say at which input.
  Laid BY PROGRAM, IN A SANDBOX (cutbox-rows.mjs): the forced cells as the released guide's own fill.sh prints them over the translation 67d42f48f6d52fd6… (all of the seat's roots in one cut). By AI agents, Wed Nov 11 2026. No macro, syntax, notation, axiom, sorry.
-/
import Derived.Test.YtjhpfaiiknpnmaaChecked
import GoSem.Claim
import GoSem.ClaimJoined
import GoSem.ClaimMapViews
import Derived.JoinedTies
import Derived.KernelRfl
namespace Go.Proofs.Ytjhpfaiiknpnmaa
/- THE CELL 'sum', in the pinned program and in every row, IS THE sha256 OF THE DUMP (.gsa) THAT YtjhpfaiiknpnmaaProg.lean LOADS. Nothing in Lean hashes anything: it is a label: what it is worth is what the hold of that sum in a sandbox is worth. -/
noncomputable def Try.pinned : Pinned := { name := "ytjhpfaiiknpnmaa", sum := "67d42f48f6d52fd6b8895a4a48c7d49b66940bccc2282e241f21635176ce801a", checked := Try.checked }
namespace Rows
def none {H : Type} : Left H := { results := [], args := [] }

/-- 'osierlaw21.TookNil': WHATEVER THE INPUT: true; the input reads as it did. -/
def tookNilSpec : ChangeSpec := { name := "tookNil", fn := fun _ => fun
  | [d] => { results := [.lit (.bool true)], args := [d] }
  | _ => none }
def tookNilRow : OpenClaim := { program := "ytjhpfaiiknpnmaa", sum := "67d42f48f6d52fd6b8895a4a48c7d49b66940bccc2282e241f21635176ce801a", func := "osier/osierlaw21.TookNil", spec := "tookNil", unfollowed := true, recurses := true, apart := false }
def TookNilSaid : Prop := tookNilRow.holds Try.pinned (OpenSpec.ofChange tookNilSpec)

/-- ITS FALSE NEIGHBOUR: 'it returns false'. Refute it at one input. -/
def tookNilWrong : ChangeSpec := { name := "tookNil", fn := fun _ => fun
  | [d] => { results := [.lit (.bool false)], args := [d] }
  | _ => none }
def TookNilWrongFalsely : Prop := tookNilRow.holds Try.pinned (OpenSpec.ofChange tookNilWrong)

/-- 'osierlaw21.TookSolo': WHATEVER THE INPUT: true; the input reads as it did. -/
def tookSoloSpec : ChangeSpec := { name := "tookSolo", fn := fun _ => fun
  | [d1, d2] => { results := [.lit (.bool true)], args := [d1, d2] }
  | _ => none }
def tookSoloRow : OpenClaim := { program := "ytjhpfaiiknpnmaa", sum := "67d42f48f6d52fd6b8895a4a48c7d49b66940bccc2282e241f21635176ce801a", func := "osier/osierlaw21.TookSolo", spec := "tookSolo", unfollowed := true, recurses := true, apart := false }
def TookSoloSaid : Prop := tookSoloRow.holds Try.pinned (OpenSpec.ofChange tookSoloSpec)

/-- ITS FALSE NEIGHBOUR: 'it returns false'. Refute it at one input. -/
def tookSoloWrong : ChangeSpec := { name := "tookSolo", fn := fun _ => fun
  | [d1, d2] => { results := [.lit (.bool false)], args := [d1, d2] }
  | _ => none }
def TookSoloWrongFalsely : Prop := tookSoloRow.holds Try.pinned (OpenSpec.ofChange tookSoloWrong)

/-- 'osierlaw21.TookRefused': WHATEVER THE INPUT: true; the input reads as it did. -/
def tookRefusedSpec : ChangeSpec := { name := "tookRefused", fn := fun _ => fun
  | [d1, d2, d3] => { results := [.lit (.bool true)], args := [d1, d2, d3] }
  | _ => none }
def tookRefusedRow : OpenClaim := { program := "ytjhpfaiiknpnmaa", sum := "67d42f48f6d52fd6b8895a4a48c7d49b66940bccc2282e241f21635176ce801a", func := "osier/osierlaw21.TookRefused", spec := "tookRefused", unfollowed := true, recurses := true, apart := false }
def TookRefusedSaid : Prop := tookRefusedRow.holds Try.pinned (OpenSpec.ofChange tookRefusedSpec)

/-- ITS FALSE NEIGHBOUR: 'it returns false'. Refute it at one input. -/
def tookRefusedWrong : ChangeSpec := { name := "tookRefused", fn := fun _ => fun
  | [d1, d2, d3] => { results := [.lit (.bool false)], args := [d1, d2, d3] }
  | _ => none }
def TookRefusedWrongFalsely : Prop := tookRefusedRow.holds Try.pinned (OpenSpec.ofChange tookRefusedWrong)

/-- 'osierlaw19.OrderForms': WHATEVER THE INPUT: true; the input reads as it did. -/
def orderFormsSpec : ChangeSpec := { name := "orderForms", fn := fun _ => fun
  | [d1, d2, d3] => { results := [.lit (.bool true)], args := [d1, d2, d3] }
  | _ => none }
def orderFormsRow : OpenClaim := { program := "ytjhpfaiiknpnmaa", sum := "67d42f48f6d52fd6b8895a4a48c7d49b66940bccc2282e241f21635176ce801a", func := "osier/osierlaw19.OrderForms", spec := "orderForms", unfollowed := true, recurses := true, apart := false }
def OrderFormsSaid : Prop := orderFormsRow.holds Try.pinned (OpenSpec.ofChange orderFormsSpec)

/-- ITS FALSE NEIGHBOUR: 'it returns false'. Refute it at one input. -/
def orderFormsWrong : ChangeSpec := { name := "orderForms", fn := fun _ => fun
  | [d1, d2, d3] => { results := [.lit (.bool false)], args := [d1, d2, d3] }
  | _ => none }
def OrderFormsWrongFalsely : Prop := orderFormsRow.holds Try.pinned (OpenSpec.ofChange orderFormsWrong)

/-- 'osierlaw19.OrderSwaps': WHATEVER THE INPUT: true; the input reads as it did. -/
def orderSwapsSpec : ChangeSpec := { name := "orderSwaps", fn := fun _ => fun
  | [d1, d2, d3, d4] => { results := [.lit (.bool true)], args := [d1, d2, d3, d4] }
  | _ => none }
def orderSwapsRow : OpenClaim := { program := "ytjhpfaiiknpnmaa", sum := "67d42f48f6d52fd6b8895a4a48c7d49b66940bccc2282e241f21635176ce801a", func := "osier/osierlaw19.OrderSwaps", spec := "orderSwaps", unfollowed := true, recurses := true, apart := false }
def OrderSwapsSaid : Prop := orderSwapsRow.holds Try.pinned (OpenSpec.ofChange orderSwapsSpec)

/-- ITS FALSE NEIGHBOUR: 'it returns false'. Refute it at one input. -/
def orderSwapsWrong : ChangeSpec := { name := "orderSwaps", fn := fun _ => fun
  | [d1, d2, d3, d4] => { results := [.lit (.bool false)], args := [d1, d2, d3, d4] }
  | _ => none }
def OrderSwapsWrongFalsely : Prop := orderSwapsRow.holds Try.pinned (OpenSpec.ofChange orderSwapsWrong)

/-- 'osierlaw19.OrderPending': WHATEVER THE INPUT: true; the input reads as it did. -/
def orderPendingSpec : ChangeSpec := { name := "orderPending", fn := fun _ => fun
  | [d1, d2, d3, d4, d5] => { results := [.lit (.bool true)], args := [d1, d2, d3, d4, d5] }
  | _ => none }
def orderPendingRow : OpenClaim := { program := "ytjhpfaiiknpnmaa", sum := "67d42f48f6d52fd6b8895a4a48c7d49b66940bccc2282e241f21635176ce801a", func := "osier/osierlaw19.OrderPending", spec := "orderPending", unfollowed := true, recurses := true, apart := false }
def OrderPendingSaid : Prop := orderPendingRow.holds Try.pinned (OpenSpec.ofChange orderPendingSpec)

/-- ITS FALSE NEIGHBOUR: 'it returns false'. Refute it at one input. -/
def orderPendingWrong : ChangeSpec := { name := "orderPending", fn := fun _ => fun
  | [d1, d2, d3, d4, d5] => { results := [.lit (.bool false)], args := [d1, d2, d3, d4, d5] }
  | _ => none }
def OrderPendingWrongFalsely : Prop := orderPendingRow.holds Try.pinned (OpenSpec.ofChange orderPendingWrong)

/-- 'osierlaw19.OrderWrong': WHATEVER THE INPUT: true; the input reads as it did. -/
def orderWrongSpec : ChangeSpec := { name := "orderWrong", fn := fun _ => fun
  | [d1, d2, d3, d4, d5] => { results := [.lit (.bool true)], args := [d1, d2, d3, d4, d5] }
  | _ => none }
def orderWrongRow : OpenClaim := { program := "ytjhpfaiiknpnmaa", sum := "67d42f48f6d52fd6b8895a4a48c7d49b66940bccc2282e241f21635176ce801a", func := "osier/osierlaw19.OrderWrong", spec := "orderWrong", unfollowed := true, recurses := true, apart := false }
def OrderWrongSaid : Prop := orderWrongRow.holds Try.pinned (OpenSpec.ofChange orderWrongSpec)

/-- ITS FALSE NEIGHBOUR: 'it returns false'. Refute it at one input. -/
def orderWrongWrong : ChangeSpec := { name := "orderWrong", fn := fun _ => fun
  | [d1, d2, d3, d4, d5] => { results := [.lit (.bool false)], args := [d1, d2, d3, d4, d5] }
  | _ => none }
def OrderWrongWrongFalsely : Prop := orderWrongRow.holds Try.pinned (OpenSpec.ofChange orderWrongWrong)

/-- 'osierlaw19.OrderSolo': WHATEVER THE INPUT: true; the input reads as it did. -/
def orderSoloSpec : ChangeSpec := { name := "orderSolo", fn := fun _ => fun
  | [d1, d2, d3] => { results := [.lit (.bool true)], args := [d1, d2, d3] }
  | _ => none }
def orderSoloRow : OpenClaim := { program := "ytjhpfaiiknpnmaa", sum := "67d42f48f6d52fd6b8895a4a48c7d49b66940bccc2282e241f21635176ce801a", func := "osier/osierlaw19.OrderSolo", spec := "orderSolo", unfollowed := true, recurses := true, apart := false }
def OrderSoloSaid : Prop := orderSoloRow.holds Try.pinned (OpenSpec.ofChange orderSoloSpec)

/-- ITS FALSE NEIGHBOUR: 'it returns false'. Refute it at one input. -/
def orderSoloWrong : ChangeSpec := { name := "orderSolo", fn := fun _ => fun
  | [d1, d2, d3] => { results := [.lit (.bool false)], args := [d1, d2, d3] }
  | _ => none }
def OrderSoloWrongFalsely : Prop := orderSoloRow.holds Try.pinned (OpenSpec.ofChange orderSoloWrong)

/-- 'osierlaw21.TookPlays': WHATEVER THE INPUT: true; the input reads as it did. -/
def tookPlaysSpec : ChangeSpec := { name := "tookPlays", fn := fun _ => fun
  | [d1, d2] => { results := [.lit (.bool true)], args := [d1, d2] }
  | _ => none }
def tookPlaysRow : OpenClaim := { program := "ytjhpfaiiknpnmaa", sum := "67d42f48f6d52fd6b8895a4a48c7d49b66940bccc2282e241f21635176ce801a", func := "osier/osierlaw21.TookPlays", spec := "tookPlays", unfollowed := true, recurses := true, apart := false }
def TookPlaysSaid : Prop := tookPlaysRow.holds Try.pinned (OpenSpec.ofChange tookPlaysSpec)

/-- ITS FALSE NEIGHBOUR: 'it returns false'. Refute it at one input. -/
def tookPlaysWrong : ChangeSpec := { name := "tookPlays", fn := fun _ => fun
  | [d1, d2] => { results := [.lit (.bool false)], args := [d1, d2] }
  | _ => none }
def TookPlaysWrongFalsely : Prop := tookPlaysRow.holds Try.pinned (OpenSpec.ofChange tookPlaysWrong)

/- THE SECOND FORM. 'bulk': how many values and letters a reading holds, each counted each time it is reached (what is shared counts as often as it is met; a slice's spare places count too). A statement '..UptoSaid' is the law's where the arguments, and the package variables that the reading takes, are together of bulk at most 1048576: NARROWER than '..Said'. Prove '..Said' where nothing that the law and all that it calls make is longer than what came in: it says more and counts as full. Else prove '..UptoSaid'. A law counts once. -/
mutual
def uptoBulk {H : Type} : DataW H → Nat
  | .lit (.string bytes) => bytes.length + 1
  | .lit _ => 1
  | .nil => 1
  | .ptr d => uptoBulk d + 1
  | .slice elems spare => uptoBulkAll elems + uptoBulkAll spare + 1
  | .agg parts => uptoBulkAll parts + 1
  | .iface _ d => uptoBulk d + 1
  | .map entries => uptoBulkEntries entries + 1
  | .held _ => 1
def uptoBulkAll {H : Type} : List (DataW H) → Nat
  | [] => 0
  | d :: r => uptoBulk d + uptoBulkAll r
def uptoBulkEntries {H : Type} : List (Lit × DataW H) → Nat
  | [] => 0
  | x :: r => uptoBulkEntry x + uptoBulkEntries r
def uptoBulkEntry {H : Type} : Lit × DataW H → Nat
  | (.string bytes, d) => bytes.length + uptoBulk d + 1
  | (_, d) => uptoBulk d + 1
 end
def uptoSmall : (H : Type) → List (DataW H) → Bool := fun _ ds => decide (uptoBulkAll ds ≤ 1048576)
def OpenSpec.upto (s : _root_.Go.ChangeSpec) : _root_.Go.OpenSpec := { _root_.Go.OpenSpec.ofChange s with cond := some uptoSmall }

/-- 'osierlaw21.TookNil', WHERE WHAT IT READS IS OF BULK AT MOST 1048576: true; the input reads as it did. -/
def tookNilUptoRow : OpenClaim := { program := "ytjhpfaiiknpnmaa", sum := "67d42f48f6d52fd6b8895a4a48c7d49b66940bccc2282e241f21635176ce801a", func := "osier/osierlaw21.TookNil", spec := "tookNil", unfollowed := true, recurses := true, apart := false, narrowed := true }
def TookNilUptoSaid : Prop := tookNilUptoRow.holds Try.pinned (OpenSpec.upto tookNilSpec)

/-- 'osierlaw21.TookSolo', WHERE WHAT IT READS IS OF BULK AT MOST 1048576: true; the input reads as it did. -/
def tookSoloUptoRow : OpenClaim := { program := "ytjhpfaiiknpnmaa", sum := "67d42f48f6d52fd6b8895a4a48c7d49b66940bccc2282e241f21635176ce801a", func := "osier/osierlaw21.TookSolo", spec := "tookSolo", unfollowed := true, recurses := true, apart := false, narrowed := true }
def TookSoloUptoSaid : Prop := tookSoloUptoRow.holds Try.pinned (OpenSpec.upto tookSoloSpec)

/-- 'osierlaw21.TookRefused', WHERE WHAT IT READS IS OF BULK AT MOST 1048576: true; the input reads as it did. -/
def tookRefusedUptoRow : OpenClaim := { program := "ytjhpfaiiknpnmaa", sum := "67d42f48f6d52fd6b8895a4a48c7d49b66940bccc2282e241f21635176ce801a", func := "osier/osierlaw21.TookRefused", spec := "tookRefused", unfollowed := true, recurses := true, apart := false, narrowed := true }
def TookRefusedUptoSaid : Prop := tookRefusedUptoRow.holds Try.pinned (OpenSpec.upto tookRefusedSpec)

/-- 'osierlaw19.OrderForms', WHERE WHAT IT READS IS OF BULK AT MOST 1048576: true; the input reads as it did. -/
def orderFormsUptoRow : OpenClaim := { program := "ytjhpfaiiknpnmaa", sum := "67d42f48f6d52fd6b8895a4a48c7d49b66940bccc2282e241f21635176ce801a", func := "osier/osierlaw19.OrderForms", spec := "orderForms", unfollowed := true, recurses := true, apart := false, narrowed := true }
def OrderFormsUptoSaid : Prop := orderFormsUptoRow.holds Try.pinned (OpenSpec.upto orderFormsSpec)

/-- 'osierlaw19.OrderSwaps', WHERE WHAT IT READS IS OF BULK AT MOST 1048576: true; the input reads as it did. -/
def orderSwapsUptoRow : OpenClaim := { program := "ytjhpfaiiknpnmaa", sum := "67d42f48f6d52fd6b8895a4a48c7d49b66940bccc2282e241f21635176ce801a", func := "osier/osierlaw19.OrderSwaps", spec := "orderSwaps", unfollowed := true, recurses := true, apart := false, narrowed := true }
def OrderSwapsUptoSaid : Prop := orderSwapsUptoRow.holds Try.pinned (OpenSpec.upto orderSwapsSpec)

/-- 'osierlaw19.OrderPending', WHERE WHAT IT READS IS OF BULK AT MOST 1048576: true; the input reads as it did. -/
def orderPendingUptoRow : OpenClaim := { program := "ytjhpfaiiknpnmaa", sum := "67d42f48f6d52fd6b8895a4a48c7d49b66940bccc2282e241f21635176ce801a", func := "osier/osierlaw19.OrderPending", spec := "orderPending", unfollowed := true, recurses := true, apart := false, narrowed := true }
def OrderPendingUptoSaid : Prop := orderPendingUptoRow.holds Try.pinned (OpenSpec.upto orderPendingSpec)

/-- 'osierlaw19.OrderWrong', WHERE WHAT IT READS IS OF BULK AT MOST 1048576: true; the input reads as it did. -/
def orderWrongUptoRow : OpenClaim := { program := "ytjhpfaiiknpnmaa", sum := "67d42f48f6d52fd6b8895a4a48c7d49b66940bccc2282e241f21635176ce801a", func := "osier/osierlaw19.OrderWrong", spec := "orderWrong", unfollowed := true, recurses := true, apart := false, narrowed := true }
def OrderWrongUptoSaid : Prop := orderWrongUptoRow.holds Try.pinned (OpenSpec.upto orderWrongSpec)

/-- 'osierlaw19.OrderSolo', WHERE WHAT IT READS IS OF BULK AT MOST 1048576: true; the input reads as it did. -/
def orderSoloUptoRow : OpenClaim := { program := "ytjhpfaiiknpnmaa", sum := "67d42f48f6d52fd6b8895a4a48c7d49b66940bccc2282e241f21635176ce801a", func := "osier/osierlaw19.OrderSolo", spec := "orderSolo", unfollowed := true, recurses := true, apart := false, narrowed := true }
def OrderSoloUptoSaid : Prop := orderSoloUptoRow.holds Try.pinned (OpenSpec.upto orderSoloSpec)

/-- 'osierlaw21.TookPlays', WHERE WHAT IT READS IS OF BULK AT MOST 1048576: true; the input reads as it did. -/
def tookPlaysUptoRow : OpenClaim := { program := "ytjhpfaiiknpnmaa", sum := "67d42f48f6d52fd6b8895a4a48c7d49b66940bccc2282e241f21635176ce801a", func := "osier/osierlaw21.TookPlays", spec := "tookPlays", unfollowed := true, recurses := true, apart := false, narrowed := true }
def TookPlaysUptoSaid : Prop := tookPlaysUptoRow.holds Try.pinned (OpenSpec.upto tookPlaysSpec)

end Rows
end Go.Proofs.Ytjhpfaiiknpnmaa
