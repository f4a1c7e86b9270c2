/-
  No cell of these rows narrows 'for every input' (looked for: loops, veiled, ifaces, maps, wideKeys, modest, calm, conditions, laid).
  DERIVED. THE GIVEN ROWS OF THIS SEAT. 6 by the template 'for every input the law returns true; each argument reads behind the call as it read before'; 0 by the template 'total and deterministic' (their statements: YtepedabpnchajaaTotals.lean).
  GIVEN WITH THE SEED: the statements are not yours to turn. If you find one false, say at which input.
  Laid BY PROGRAM, IN A SANDBOX (cutbox-rows.mjs): the forced cells as the released guide's own fill.sh prints them over the translation 566360b0f1cd1449… (all of the seat's roots in one cut). By AI agents, Wed Nov 11 2026. No macro, syntax, notation, axiom, sorry.
-/
import Derived.Test.YtepedabpnchajaaChecked
import GoSem.Claim
import GoSem.ClaimJoined
import GoSem.ClaimMapViews
import Derived.JoinedTies
import Derived.KernelRfl
namespace Go.Proofs.Ytepedabpnchajaa
/- THE CELL 'sum', in the pinned program and in every row, IS THE sha256 OF THE DUMP (.gsa) THAT YtepedabpnchajaaProg.lean LOADS. Nothing in Lean hashes anything: it is a label: what it is worth is what the hold of that sum in a sandbox is worth. -/
noncomputable def Try.pinned : Pinned := { name := "ytepedabpnchajaa", sum := "566360b0f1cd1449e11cfb37172d2f36020208e0eb63024bacca2e518bc337ed", checked := Try.checked }
namespace Rows
def none {H : Type} : Left H := { results := [], args := [] }

/-- 'kistlaw19.PlanFirst': WHATEVER THE INPUT: true; the input reads as it did. -/
def planFirstSpec : ChangeSpec := { name := "planFirst", fn := fun _ => fun
  | [d1, d2, d3] => { results := [.lit (.bool true)], args := [d1, d2, d3] }
  | _ => none }
def planFirstRow : OpenClaim := { program := "ytepedabpnchajaa", sum := "566360b0f1cd1449e11cfb37172d2f36020208e0eb63024bacca2e518bc337ed", func := "kist/kistlaw19.PlanFirst", spec := "planFirst", apart := false }
def PlanFirstSaid : Prop := planFirstRow.holds Try.pinned (OpenSpec.ofChange planFirstSpec)

/-- ITS FALSE NEIGHBOUR: 'it returns false'. Refute it at one input. -/
def planFirstWrong : ChangeSpec := { name := "planFirst", fn := fun _ => fun
  | [d1, d2, d3] => { results := [.lit (.bool false)], args := [d1, d2, d3] }
  | _ => none }
def PlanFirstWrongFalsely : Prop := planFirstRow.holds Try.pinned (OpenSpec.ofChange planFirstWrong)

/-- 'kistlaw19.PlanWhole': WHATEVER THE INPUT: true; the input reads as it did. -/
def planWholeSpec : ChangeSpec := { name := "planWhole", fn := fun _ => fun
  | [d1, d2] => { results := [.lit (.bool true)], args := [d1, d2] }
  | _ => none }
def planWholeRow : OpenClaim := { program := "ytepedabpnchajaa", sum := "566360b0f1cd1449e11cfb37172d2f36020208e0eb63024bacca2e518bc337ed", func := "kist/kistlaw19.PlanWhole", spec := "planWhole", apart := false }
def PlanWholeSaid : Prop := planWholeRow.holds Try.pinned (OpenSpec.ofChange planWholeSpec)

/-- ITS FALSE NEIGHBOUR: 'it returns false'. Refute it at one input. -/
def planWholeWrong : ChangeSpec := { name := "planWhole", fn := fun _ => fun
  | [d1, d2] => { results := [.lit (.bool false)], args := [d1, d2] }
  | _ => none }
def PlanWholeWrongFalsely : Prop := planWholeRow.holds Try.pinned (OpenSpec.ofChange planWholeWrong)

/-- 'kistlaw19.PlanReads': WHATEVER THE INPUT: true; the input reads as it did. -/
def planReadsSpec : ChangeSpec := { name := "planReads", fn := fun _ => fun
  | [d1, d2] => { results := [.lit (.bool true)], args := [d1, d2] }
  | _ => none }
def planReadsRow : OpenClaim := { program := "ytepedabpnchajaa", sum := "566360b0f1cd1449e11cfb37172d2f36020208e0eb63024bacca2e518bc337ed", func := "kist/kistlaw19.PlanReads", spec := "planReads", apart := false }
def PlanReadsSaid : Prop := planReadsRow.holds Try.pinned (OpenSpec.ofChange planReadsSpec)

/-- ITS FALSE NEIGHBOUR: 'it returns false'. Refute it at one input. -/
def planReadsWrong : ChangeSpec := { name := "planReads", fn := fun _ => fun
  | [d1, d2] => { results := [.lit (.bool false)], args := [d1, d2] }
  | _ => none }
def PlanReadsWrongFalsely : Prop := planReadsRow.holds Try.pinned (OpenSpec.ofChange planReadsWrong)

/-- 'kistlaw19.PlanWrong': WHATEVER THE INPUT: true; the input reads as it did. -/
def planWrongSpec : ChangeSpec := { name := "planWrong", fn := fun _ => fun
  | [d1, d2, d3] => { results := [.lit (.bool true)], args := [d1, d2, d3] }
  | _ => none }
def planWrongRow : OpenClaim := { program := "ytepedabpnchajaa", sum := "566360b0f1cd1449e11cfb37172d2f36020208e0eb63024bacca2e518bc337ed", func := "kist/kistlaw19.PlanWrong", spec := "planWrong", apart := false }
def PlanWrongSaid : Prop := planWrongRow.holds Try.pinned (OpenSpec.ofChange planWrongSpec)

/-- ITS FALSE NEIGHBOUR: 'it returns false'. Refute it at one input. -/
def planWrongWrong : ChangeSpec := { name := "planWrong", fn := fun _ => fun
  | [d1, d2, d3] => { results := [.lit (.bool false)], args := [d1, d2, d3] }
  | _ => none }
def PlanWrongWrongFalsely : Prop := planWrongRow.holds Try.pinned (OpenSpec.ofChange planWrongWrong)

/-- 'kistlaw19.PlanGood': WHATEVER THE INPUT: true; the input reads as it did. -/
def planGoodSpec : ChangeSpec := { name := "planGood", fn := fun _ => fun
  | [d1, d2, d3] => { results := [.lit (.bool true)], args := [d1, d2, d3] }
  | _ => none }
def planGoodRow : OpenClaim := { program := "ytepedabpnchajaa", sum := "566360b0f1cd1449e11cfb37172d2f36020208e0eb63024bacca2e518bc337ed", func := "kist/kistlaw19.PlanGood", spec := "planGood", apart := false }
def PlanGoodSaid : Prop := planGoodRow.holds Try.pinned (OpenSpec.ofChange planGoodSpec)

/-- ITS FALSE NEIGHBOUR: 'it returns false'. Refute it at one input. -/
def planGoodWrong : ChangeSpec := { name := "planGood", fn := fun _ => fun
  | [d1, d2, d3] => { results := [.lit (.bool false)], args := [d1, d2, d3] }
  | _ => none }
def PlanGoodWrongFalsely : Prop := planGoodRow.holds Try.pinned (OpenSpec.ofChange planGoodWrong)

/-- 'kistlaw19.PlanMine': WHATEVER THE INPUT: true; the input reads as it did. -/
def planMineSpec : ChangeSpec := { name := "planMine", fn := fun _ => fun
  | [d1, d2, d3, d4, d5] => { results := [.lit (.bool true)], args := [d1, d2, d3, d4, d5] }
  | _ => none }
def planMineRow : OpenClaim := { program := "ytepedabpnchajaa", sum := "566360b0f1cd1449e11cfb37172d2f36020208e0eb63024bacca2e518bc337ed", func := "kist/kistlaw19.PlanMine", spec := "planMine", unfollowed := true, recurses := true, apart := false }
def PlanMineSaid : Prop := planMineRow.holds Try.pinned (OpenSpec.ofChange planMineSpec)

/-- ITS FALSE NEIGHBOUR: 'it returns false'. Refute it at one input. -/
def planMineWrong : ChangeSpec := { name := "planMine", fn := fun _ => fun
  | [d1, d2, d3, d4, d5] => { results := [.lit (.bool false)], args := [d1, d2, d3, d4, d5] }
  | _ => none }
def PlanMineWrongFalsely : Prop := planMineRow.holds Try.pinned (OpenSpec.ofChange planMineWrong)

/- THE SECOND FORM. 'bulk': how many values and letters a reading holds, each counted each time it is reached (what is shared counts as often as it is met; a slice's spare places count too). A statement '..UptoSaid' is the law's where the arguments, and the package variables that the reading takes, are together of bulk at most 1048576: NARROWER than '..Said'. Prove '..Said' where nothing that the law and all that it calls make is longer than what came in: it says more and counts as full. Else prove '..UptoSaid'. A law counts once. -/
mutual
def uptoBulk {H : Type} : DataW H → Nat
  | .lit (.string bytes) => bytes.length + 1
  | .lit _ => 1
  | .nil => 1
  | .ptr d => uptoBulk d + 1
  | .slice elems spare => uptoBulkAll elems + uptoBulkAll spare + 1
  | .agg parts => uptoBulkAll parts + 1
  | .iface _ d => uptoBulk d + 1
  | .map entries => uptoBulkEntries entries + 1
  | .held _ => 1
def uptoBulkAll {H : Type} : List (DataW H) → Nat
  | [] => 0
  | d :: r => uptoBulk d + uptoBulkAll r
def uptoBulkEntries {H : Type} : List (Lit × DataW H) → Nat
  | [] => 0
  | x :: r => uptoBulkEntry x + uptoBulkEntries r
def uptoBulkEntry {H : Type} : Lit × DataW H → Nat
  | (.string bytes, d) => bytes.length + uptoBulk d + 1
  | (_, d) => uptoBulk d + 1
 end
def uptoSmall : (H : Type) → List (DataW H) → Bool := fun _ ds => decide (uptoBulkAll ds ≤ 1048576)
def OpenSpec.upto (s : _root_.Go.ChangeSpec) : _root_.Go.OpenSpec := { _root_.Go.OpenSpec.ofChange s with cond := some uptoSmall }

/-- 'kistlaw19.PlanFirst', WHERE WHAT IT READS IS OF BULK AT MOST 1048576: true; the input reads as it did. -/
def planFirstUptoRow : OpenClaim := { program := "ytepedabpnchajaa", sum := "566360b0f1cd1449e11cfb37172d2f36020208e0eb63024bacca2e518bc337ed", func := "kist/kistlaw19.PlanFirst", spec := "planFirst", apart := false, narrowed := true }
def PlanFirstUptoSaid : Prop := planFirstUptoRow.holds Try.pinned (OpenSpec.upto planFirstSpec)

/-- 'kistlaw19.PlanWhole', WHERE WHAT IT READS IS OF BULK AT MOST 1048576: true; the input reads as it did. -/
def planWholeUptoRow : OpenClaim := { program := "ytepedabpnchajaa", sum := "566360b0f1cd1449e11cfb37172d2f36020208e0eb63024bacca2e518bc337ed", func := "kist/kistlaw19.PlanWhole", spec := "planWhole", apart := false, narrowed := true }
def PlanWholeUptoSaid : Prop := planWholeUptoRow.holds Try.pinned (OpenSpec.upto planWholeSpec)

/-- 'kistlaw19.PlanReads', WHERE WHAT IT READS IS OF BULK AT MOST 1048576: true; the input reads as it did. -/
def planReadsUptoRow : OpenClaim := { program := "ytepedabpnchajaa", sum := "566360b0f1cd1449e11cfb37172d2f36020208e0eb63024bacca2e518bc337ed", func := "kist/kistlaw19.PlanReads", spec := "planReads", apart := false, narrowed := true }
def PlanReadsUptoSaid : Prop := planReadsUptoRow.holds Try.pinned (OpenSpec.upto planReadsSpec)

/-- 'kistlaw19.PlanWrong', WHERE WHAT IT READS IS OF BULK AT MOST 1048576: true; the input reads as it did. -/
def planWrongUptoRow : OpenClaim := { program := "ytepedabpnchajaa", sum := "566360b0f1cd1449e11cfb37172d2f36020208e0eb63024bacca2e518bc337ed", func := "kist/kistlaw19.PlanWrong", spec := "planWrong", apart := false, narrowed := true }
def PlanWrongUptoSaid : Prop := planWrongUptoRow.holds Try.pinned (OpenSpec.upto planWrongSpec)

/-- 'kistlaw19.PlanGood', WHERE WHAT IT READS IS OF BULK AT MOST 1048576: true; the input reads as it did. -/
def planGoodUptoRow : OpenClaim := { program := "ytepedabpnchajaa", sum := "566360b0f1cd1449e11cfb37172d2f36020208e0eb63024bacca2e518bc337ed", func := "kist/kistlaw19.PlanGood", spec := "planGood", apart := false, narrowed := true }
def PlanGoodUptoSaid : Prop := planGoodUptoRow.holds Try.pinned (OpenSpec.upto planGoodSpec)

/-- 'kistlaw19.PlanMine', WHERE WHAT IT READS IS OF BULK AT MOST 1048576: true; the input reads as it did. -/
def planMineUptoRow : OpenClaim := { program := "ytepedabpnchajaa", sum := "566360b0f1cd1449e11cfb37172d2f36020208e0eb63024bacca2e518bc337ed", func := "kist/kistlaw19.PlanMine", spec := "planMine", unfollowed := true, recurses := true, apart := false, narrowed := true }
def PlanMineUptoSaid : Prop := planMineUptoRow.holds Try.pinned (OpenSpec.upto planMineSpec)

end Rows
end Go.Proofs.Ytepedabpnchajaa
