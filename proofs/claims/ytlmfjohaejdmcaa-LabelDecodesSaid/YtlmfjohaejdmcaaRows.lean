/-
  No cell of these rows narrows 'for every input' (looked for: loops, veiled, ifaces, maps, wideKeys, modest, calm, conditions, laid).
  DERIVED. THE GIVEN ROWS OF THIS SEAT. 7 by the template 'for every input the law returns true; each argument reads behind the call as it read before'; 0 by the template 'total and deterministic' (their statements: YtlmfjohaejdmcaaTotals.lean).
  GIVEN WITH THE SEED: the statements are not yours to turn. If you find one false, say at which input.
  Laid BY PROGRAM, IN A SANDBOX (cutbox-rows.mjs): the forced cells as the released guide's own fill.sh prints them over the translation 5a7b993488520ada… (all of the seat's roots in one cut). By AI agents, Wed Nov 11 2026. No macro, syntax, notation, axiom, sorry.
-/
import Derived.Test.YtlmfjohaejdmcaaChecked
import GoSem.Claim
import GoSem.ClaimJoined
import GoSem.ClaimMapViews
import Derived.JoinedTies
import Derived.KernelRfl
namespace Go.Proofs.Ytlmfjohaejdmcaa
/- THE CELL 'sum', in the pinned program and in every row, IS THE sha256 OF THE DUMP (.gsa) THAT YtlmfjohaejdmcaaProg.lean LOADS. Nothing in Lean hashes anything: it is a label: what it is worth is what the hold of that sum in a sandbox is worth. -/
noncomputable def Try.pinned : Pinned := { name := "ytlmfjohaejdmcaa", sum := "5a7b993488520ada06efccbea97a7711bb34e9b802bebc30b379da5fde3c474d", checked := Try.checked }
namespace Rows
def none {H : Type} : Left H := { results := [], args := [] }

/-- 'kistlaw09.LabelEncodes': WHATEVER THE INPUT: true; the input reads as it did. -/
def labelEncodesSpec : ChangeSpec := { name := "labelEncodes", fn := fun _ => fun
  | [d] => { results := [.lit (.bool true)], args := [d] }
  | _ => none }
def labelEncodesRow : OpenClaim := { program := "ytlmfjohaejdmcaa", sum := "5a7b993488520ada06efccbea97a7711bb34e9b802bebc30b379da5fde3c474d", func := "kist/kistlaw09.LabelEncodes", spec := "labelEncodes", apart := false }
def LabelEncodesSaid : Prop := labelEncodesRow.holds Try.pinned (OpenSpec.ofChange labelEncodesSpec)

/-- ITS FALSE NEIGHBOUR: 'it returns false'. Refute it at one input. -/
def labelEncodesWrong : ChangeSpec := { name := "labelEncodes", fn := fun _ => fun
  | [d] => { results := [.lit (.bool false)], args := [d] }
  | _ => none }
def LabelEncodesWrongFalsely : Prop := labelEncodesRow.holds Try.pinned (OpenSpec.ofChange labelEncodesWrong)

/-- 'kistlaw09.LabelDecodes': WHATEVER THE INPUT: true; the input reads as it did. -/
def labelDecodesSpec : ChangeSpec := { name := "labelDecodes", fn := fun _ => fun
  | [d] => { results := [.lit (.bool true)], args := [d] }
  | _ => none }
def labelDecodesRow : OpenClaim := { program := "ytlmfjohaejdmcaa", sum := "5a7b993488520ada06efccbea97a7711bb34e9b802bebc30b379da5fde3c474d", func := "kist/kistlaw09.LabelDecodes", spec := "labelDecodes", apart := false }
def LabelDecodesSaid : Prop := labelDecodesRow.holds Try.pinned (OpenSpec.ofChange labelDecodesSpec)

/-- ITS FALSE NEIGHBOUR: 'it returns false'. Refute it at one input. -/
def labelDecodesWrong : ChangeSpec := { name := "labelDecodes", fn := fun _ => fun
  | [d] => { results := [.lit (.bool false)], args := [d] }
  | _ => none }
def LabelDecodesWrongFalsely : Prop := labelDecodesRow.holds Try.pinned (OpenSpec.ofChange labelDecodesWrong)

/-- 'kistlaw09.LabelBack': WHATEVER THE INPUT: true; the input reads as it did. -/
def labelBackSpec : ChangeSpec := { name := "labelBack", fn := fun _ => fun
  | [d1, d2] => { results := [.lit (.bool true)], args := [d1, d2] }
  | _ => none }
def labelBackRow : OpenClaim := { program := "ytlmfjohaejdmcaa", sum := "5a7b993488520ada06efccbea97a7711bb34e9b802bebc30b379da5fde3c474d", func := "kist/kistlaw09.LabelBack", spec := "labelBack", apart := false }
def LabelBackSaid : Prop := labelBackRow.holds Try.pinned (OpenSpec.ofChange labelBackSpec)

/-- ITS FALSE NEIGHBOUR: 'it returns false'. Refute it at one input. -/
def labelBackWrong : ChangeSpec := { name := "labelBack", fn := fun _ => fun
  | [d1, d2] => { results := [.lit (.bool false)], args := [d1, d2] }
  | _ => none }
def LabelBackWrongFalsely : Prop := labelBackRow.holds Try.pinned (OpenSpec.ofChange labelBackWrong)

/-- 'kistlaw09.LabelSames': WHATEVER THE INPUT: true; the input reads as it did. -/
def labelSamesSpec : ChangeSpec := { name := "labelSames", fn := fun _ => fun
  | [d1, d2] => { results := [.lit (.bool true)], args := [d1, d2] }
  | _ => none }
def labelSamesRow : OpenClaim := { program := "ytlmfjohaejdmcaa", sum := "5a7b993488520ada06efccbea97a7711bb34e9b802bebc30b379da5fde3c474d", func := "kist/kistlaw09.LabelSames", spec := "labelSames", apart := false }
def LabelSamesSaid : Prop := labelSamesRow.holds Try.pinned (OpenSpec.ofChange labelSamesSpec)

/-- ITS FALSE NEIGHBOUR: 'it returns false'. Refute it at one input. -/
def labelSamesWrong : ChangeSpec := { name := "labelSames", fn := fun _ => fun
  | [d1, d2] => { results := [.lit (.bool false)], args := [d1, d2] }
  | _ => none }
def LabelSamesWrongFalsely : Prop := labelSamesRow.holds Try.pinned (OpenSpec.ofChange labelSamesWrong)

/-- 'kistlaw09.LabelTurned': WHATEVER THE INPUT: true; the input reads as it did. -/
def labelTurnedSpec : ChangeSpec := { name := "labelTurned", fn := fun _ => fun
  | [d1, d2, d3] => { results := [.lit (.bool true)], args := [d1, d2, d3] }
  | _ => none }
def labelTurnedRow : OpenClaim := { program := "ytlmfjohaejdmcaa", sum := "5a7b993488520ada06efccbea97a7711bb34e9b802bebc30b379da5fde3c474d", func := "kist/kistlaw09.LabelTurned", spec := "labelTurned", apart := false }
def LabelTurnedSaid : Prop := labelTurnedRow.holds Try.pinned (OpenSpec.ofChange labelTurnedSpec)

/-- ITS FALSE NEIGHBOUR: 'it returns false'. Refute it at one input. -/
def labelTurnedWrong : ChangeSpec := { name := "labelTurned", fn := fun _ => fun
  | [d1, d2, d3] => { results := [.lit (.bool false)], args := [d1, d2, d3] }
  | _ => none }
def LabelTurnedWrongFalsely : Prop := labelTurnedRow.holds Try.pinned (OpenSpec.ofChange labelTurnedWrong)

/-- 'kistlaw09.LabelCut': WHATEVER THE INPUT: true; the input reads as it did. -/
def labelCutSpec : ChangeSpec := { name := "labelCut", fn := fun _ => fun
  | [d1, d2, d3] => { results := [.lit (.bool true)], args := [d1, d2, d3] }
  | _ => none }
def labelCutRow : OpenClaim := { program := "ytlmfjohaejdmcaa", sum := "5a7b993488520ada06efccbea97a7711bb34e9b802bebc30b379da5fde3c474d", func := "kist/kistlaw09.LabelCut", spec := "labelCut", apart := false }
def LabelCutSaid : Prop := labelCutRow.holds Try.pinned (OpenSpec.ofChange labelCutSpec)

/-- ITS FALSE NEIGHBOUR: 'it returns false'. Refute it at one input. -/
def labelCutWrong : ChangeSpec := { name := "labelCut", fn := fun _ => fun
  | [d1, d2, d3] => { results := [.lit (.bool false)], args := [d1, d2, d3] }
  | _ => none }
def LabelCutWrongFalsely : Prop := labelCutRow.holds Try.pinned (OpenSpec.ofChange labelCutWrong)

/-- 'kistlaw09.LabelUnlike': WHATEVER THE INPUT: true; the input reads as it did. -/
def labelUnlikeSpec : ChangeSpec := { name := "labelUnlike", fn := fun _ => fun
  | [d1, d2] => { results := [.lit (.bool true)], args := [d1, d2] }
  | _ => none }
def labelUnlikeRow : OpenClaim := { program := "ytlmfjohaejdmcaa", sum := "5a7b993488520ada06efccbea97a7711bb34e9b802bebc30b379da5fde3c474d", func := "kist/kistlaw09.LabelUnlike", spec := "labelUnlike", apart := false }
def LabelUnlikeSaid : Prop := labelUnlikeRow.holds Try.pinned (OpenSpec.ofChange labelUnlikeSpec)

/-- ITS FALSE NEIGHBOUR: 'it returns false'. Refute it at one input. -/
def labelUnlikeWrong : ChangeSpec := { name := "labelUnlike", fn := fun _ => fun
  | [d1, d2] => { results := [.lit (.bool false)], args := [d1, d2] }
  | _ => none }
def LabelUnlikeWrongFalsely : Prop := labelUnlikeRow.holds Try.pinned (OpenSpec.ofChange labelUnlikeWrong)

/- THE SECOND FORM. 'bulk': how many values and letters a reading holds, each counted each time it is reached (what is shared counts as often as it is met; a slice's spare places count too). A statement '..UptoSaid' is the law's where the arguments, and the package variables that the reading takes, are together of bulk at most 1048576: NARROWER than '..Said'. Prove '..Said' where nothing that the law and all that it calls make is longer than what came in: it says more and counts as full. Else prove '..UptoSaid'. A law counts once. -/
mutual
def uptoBulk {H : Type} : DataW H → Nat
  | .lit (.string bytes) => bytes.length + 1
  | .lit _ => 1
  | .nil => 1
  | .ptr d => uptoBulk d + 1
  | .slice elems spare => uptoBulkAll elems + uptoBulkAll spare + 1
  | .agg parts => uptoBulkAll parts + 1
  | .iface _ d => uptoBulk d + 1
  | .map entries => uptoBulkEntries entries + 1
  | .held _ => 1
def uptoBulkAll {H : Type} : List (DataW H) → Nat
  | [] => 0
  | d :: r => uptoBulk d + uptoBulkAll r
def uptoBulkEntries {H : Type} : List (Lit × DataW H) → Nat
  | [] => 0
  | x :: r => uptoBulkEntry x + uptoBulkEntries r
def uptoBulkEntry {H : Type} : Lit × DataW H → Nat
  | (.string bytes, d) => bytes.length + uptoBulk d + 1
  | (_, d) => uptoBulk d + 1
 end
def uptoSmall : (H : Type) → List (DataW H) → Bool := fun _ ds => decide (uptoBulkAll ds ≤ 1048576)
def OpenSpec.upto (s : _root_.Go.ChangeSpec) : _root_.Go.OpenSpec := { _root_.Go.OpenSpec.ofChange s with cond := some uptoSmall }

/-- 'kistlaw09.LabelEncodes', WHERE WHAT IT READS IS OF BULK AT MOST 1048576: true; the input reads as it did. -/
def labelEncodesUptoRow : OpenClaim := { program := "ytlmfjohaejdmcaa", sum := "5a7b993488520ada06efccbea97a7711bb34e9b802bebc30b379da5fde3c474d", func := "kist/kistlaw09.LabelEncodes", spec := "labelEncodes", apart := false, narrowed := true }
def LabelEncodesUptoSaid : Prop := labelEncodesUptoRow.holds Try.pinned (OpenSpec.upto labelEncodesSpec)

/-- 'kistlaw09.LabelDecodes', WHERE WHAT IT READS IS OF BULK AT MOST 1048576: true; the input reads as it did. -/
def labelDecodesUptoRow : OpenClaim := { program := "ytlmfjohaejdmcaa", sum := "5a7b993488520ada06efccbea97a7711bb34e9b802bebc30b379da5fde3c474d", func := "kist/kistlaw09.LabelDecodes", spec := "labelDecodes", apart := false, narrowed := true }
def LabelDecodesUptoSaid : Prop := labelDecodesUptoRow.holds Try.pinned (OpenSpec.upto labelDecodesSpec)

/-- 'kistlaw09.LabelBack', WHERE WHAT IT READS IS OF BULK AT MOST 1048576: true; the input reads as it did. -/
def labelBackUptoRow : OpenClaim := { program := "ytlmfjohaejdmcaa", sum := "5a7b993488520ada06efccbea97a7711bb34e9b802bebc30b379da5fde3c474d", func := "kist/kistlaw09.LabelBack", spec := "labelBack", apart := false, narrowed := true }
def LabelBackUptoSaid : Prop := labelBackUptoRow.holds Try.pinned (OpenSpec.upto labelBackSpec)

/-- 'kistlaw09.LabelSames', WHERE WHAT IT READS IS OF BULK AT MOST 1048576: true; the input reads as it did. -/
def labelSamesUptoRow : OpenClaim := { program := "ytlmfjohaejdmcaa", sum := "5a7b993488520ada06efccbea97a7711bb34e9b802bebc30b379da5fde3c474d", func := "kist/kistlaw09.LabelSames", spec := "labelSames", apart := false, narrowed := true }
def LabelSamesUptoSaid : Prop := labelSamesUptoRow.holds Try.pinned (OpenSpec.upto labelSamesSpec)

/-- 'kistlaw09.LabelTurned', WHERE WHAT IT READS IS OF BULK AT MOST 1048576: true; the input reads as it did. -/
def labelTurnedUptoRow : OpenClaim := { program := "ytlmfjohaejdmcaa", sum := "5a7b993488520ada06efccbea97a7711bb34e9b802bebc30b379da5fde3c474d", func := "kist/kistlaw09.LabelTurned", spec := "labelTurned", apart := false, narrowed := true }
def LabelTurnedUptoSaid : Prop := labelTurnedUptoRow.holds Try.pinned (OpenSpec.upto labelTurnedSpec)

/-- 'kistlaw09.LabelCut', WHERE WHAT IT READS IS OF BULK AT MOST 1048576: true; the input reads as it did. -/
def labelCutUptoRow : OpenClaim := { program := "ytlmfjohaejdmcaa", sum := "5a7b993488520ada06efccbea97a7711bb34e9b802bebc30b379da5fde3c474d", func := "kist/kistlaw09.LabelCut", spec := "labelCut", apart := false, narrowed := true }
def LabelCutUptoSaid : Prop := labelCutUptoRow.holds Try.pinned (OpenSpec.upto labelCutSpec)

/-- 'kistlaw09.LabelUnlike', WHERE WHAT IT READS IS OF BULK AT MOST 1048576: true; the input reads as it did. -/
def labelUnlikeUptoRow : OpenClaim := { program := "ytlmfjohaejdmcaa", sum := "5a7b993488520ada06efccbea97a7711bb34e9b802bebc30b379da5fde3c474d", func := "kist/kistlaw09.LabelUnlike", spec := "labelUnlike", apart := false, narrowed := true }
def LabelUnlikeUptoSaid : Prop := labelUnlikeUptoRow.holds Try.pinned (OpenSpec.upto labelUnlikeSpec)

end Rows
end Go.Proofs.Ytlmfjohaejdmcaa
