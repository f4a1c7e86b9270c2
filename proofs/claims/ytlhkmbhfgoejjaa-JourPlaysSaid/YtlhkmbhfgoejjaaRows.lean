/-
  No cell of these rows narrows 'for every input' (looked for: loops, veiled, ifaces, maps, wideKeys, modest, calm, conditions, laid).
  DERIVED. THE GIVEN ROWS OF THIS SEAT. 11 by the template 'for every input the law returns true; each argument reads behind the call as it read before'; 0 by the template 'total and deterministic' (their statements: YtlhkmbhfgoejjaaTotals.lean).
  GIVEN WITH THE SEED: the statements are not yours to turn. If you find one false, say at which input.
  Laid BY PROGRAM, IN A SANDBOX (cutbox-rows.mjs): the forced cells as the released guide's own fill.sh prints them over the translation b9c469df1b32ba05… (all of the seat's roots in one cut). By AI agents, Wed Nov 11 2026. No macro, syntax, notation, axiom, sorry.
-/
import Derived.Test.YtlhkmbhfgoejjaaChecked
import GoSem.Claim
import GoSem.ClaimJoined
import GoSem.ClaimMapViews
import Derived.JoinedTies
import Derived.KernelRfl
namespace Go.Proofs.Ytlhkmbhfgoejjaa
/- THE CELL 'sum', in the pinned program and in every row, IS THE sha256 OF THE DUMP (.gsa) THAT YtlhkmbhfgoejjaaProg.lean LOADS. Nothing in Lean hashes anything: it is a label: what it is worth is what the hold of that sum in a sandbox is worth. -/
noncomputable def Try.pinned : Pinned := { name := "ytlhkmbhfgoejjaa", sum := "b9c469df1b32ba05c54b4e3e8a9d156f8fd66a40bf8be602b249360e5ac8d262", checked := Try.checked }
namespace Rows
def none {H : Type} : Left H := { results := [], args := [] }

/-- 'kistlaw12.JourEncodes': WHATEVER THE INPUT: true; the input reads as it did. -/
def jourEncodesSpec : ChangeSpec := { name := "jourEncodes", fn := fun _ => fun
  | [d] => { results := [.lit (.bool true)], args := [d] }
  | _ => none }
def jourEncodesRow : OpenClaim := { program := "ytlhkmbhfgoejjaa", sum := "b9c469df1b32ba05c54b4e3e8a9d156f8fd66a40bf8be602b249360e5ac8d262", func := "kist/kistlaw12.JourEncodes", spec := "jourEncodes", unfollowed := true, recurses := true, apart := false }
def JourEncodesSaid : Prop := jourEncodesRow.holds Try.pinned (OpenSpec.ofChange jourEncodesSpec)

/-- ITS FALSE NEIGHBOUR: 'it returns false'. Refute it at one input. -/
def jourEncodesWrong : ChangeSpec := { name := "jourEncodes", fn := fun _ => fun
  | [d] => { results := [.lit (.bool false)], args := [d] }
  | _ => none }
def JourEncodesWrongFalsely : Prop := jourEncodesRow.holds Try.pinned (OpenSpec.ofChange jourEncodesWrong)

/-- 'kistlaw12.JourDecodes': WHATEVER THE INPUT: true; the input reads as it did. -/
def jourDecodesSpec : ChangeSpec := { name := "jourDecodes", fn := fun _ => fun
  | [d] => { results := [.lit (.bool true)], args := [d] }
  | _ => none }
def jourDecodesRow : OpenClaim := { program := "ytlhkmbhfgoejjaa", sum := "b9c469df1b32ba05c54b4e3e8a9d156f8fd66a40bf8be602b249360e5ac8d262", func := "kist/kistlaw12.JourDecodes", spec := "jourDecodes", unfollowed := true, recurses := true, apart := false }
def JourDecodesSaid : Prop := jourDecodesRow.holds Try.pinned (OpenSpec.ofChange jourDecodesSpec)

/-- ITS FALSE NEIGHBOUR: 'it returns false'. Refute it at one input. -/
def jourDecodesWrong : ChangeSpec := { name := "jourDecodes", fn := fun _ => fun
  | [d] => { results := [.lit (.bool false)], args := [d] }
  | _ => none }
def JourDecodesWrongFalsely : Prop := jourDecodesRow.holds Try.pinned (OpenSpec.ofChange jourDecodesWrong)

/-- 'kistlaw12.JourSames': WHATEVER THE INPUT: true; the input reads as it did. -/
def jourSamesSpec : ChangeSpec := { name := "jourSames", fn := fun _ => fun
  | [d1, d2] => { results := [.lit (.bool true)], args := [d1, d2] }
  | _ => none }
def jourSamesRow : OpenClaim := { program := "ytlhkmbhfgoejjaa", sum := "b9c469df1b32ba05c54b4e3e8a9d156f8fd66a40bf8be602b249360e5ac8d262", func := "kist/kistlaw12.JourSames", spec := "jourSames", unfollowed := true, recurses := true, apart := false }
def JourSamesSaid : Prop := jourSamesRow.holds Try.pinned (OpenSpec.ofChange jourSamesSpec)

/-- ITS FALSE NEIGHBOUR: 'it returns false'. Refute it at one input. -/
def jourSamesWrong : ChangeSpec := { name := "jourSames", fn := fun _ => fun
  | [d1, d2] => { results := [.lit (.bool false)], args := [d1, d2] }
  | _ => none }
def JourSamesWrongFalsely : Prop := jourSamesRow.holds Try.pinned (OpenSpec.ofChange jourSamesWrong)

/-- 'kistlaw12.JourBack': WHATEVER THE INPUT: true; the input reads as it did. -/
def jourBackSpec : ChangeSpec := { name := "jourBack", fn := fun _ => fun
  | [d1, d2] => { results := [.lit (.bool true)], args := [d1, d2] }
  | _ => none }
def jourBackRow : OpenClaim := { program := "ytlhkmbhfgoejjaa", sum := "b9c469df1b32ba05c54b4e3e8a9d156f8fd66a40bf8be602b249360e5ac8d262", func := "kist/kistlaw12.JourBack", spec := "jourBack", unfollowed := true, recurses := true, apart := false }
def JourBackSaid : Prop := jourBackRow.holds Try.pinned (OpenSpec.ofChange jourBackSpec)

/-- ITS FALSE NEIGHBOUR: 'it returns false'. Refute it at one input. -/
def jourBackWrong : ChangeSpec := { name := "jourBack", fn := fun _ => fun
  | [d1, d2] => { results := [.lit (.bool false)], args := [d1, d2] }
  | _ => none }
def JourBackWrongFalsely : Prop := jourBackRow.holds Try.pinned (OpenSpec.ofChange jourBackWrong)

/-- 'kistlaw12.JourScans': WHATEVER THE INPUT: true; the input reads as it did. -/
def jourScansSpec : ChangeSpec := { name := "jourScans", fn := fun _ => fun
  | [d1, d2] => { results := [.lit (.bool true)], args := [d1, d2] }
  | _ => none }
def jourScansRow : OpenClaim := { program := "ytlhkmbhfgoejjaa", sum := "b9c469df1b32ba05c54b4e3e8a9d156f8fd66a40bf8be602b249360e5ac8d262", func := "kist/kistlaw12.JourScans", spec := "jourScans", unfollowed := true, recurses := true, apart := false }
def JourScansSaid : Prop := jourScansRow.holds Try.pinned (OpenSpec.ofChange jourScansSpec)

/-- ITS FALSE NEIGHBOUR: 'it returns false'. Refute it at one input. -/
def jourScansWrong : ChangeSpec := { name := "jourScans", fn := fun _ => fun
  | [d1, d2] => { results := [.lit (.bool false)], args := [d1, d2] }
  | _ => none }
def JourScansWrongFalsely : Prop := jourScansRow.holds Try.pinned (OpenSpec.ofChange jourScansWrong)

/-- 'kistlaw12.JourCuts': WHATEVER THE INPUT: true; the input reads as it did. -/
def jourCutsSpec : ChangeSpec := { name := "jourCuts", fn := fun _ => fun
  | [d1, d2] => { results := [.lit (.bool true)], args := [d1, d2] }
  | _ => none }
def jourCutsRow : OpenClaim := { program := "ytlhkmbhfgoejjaa", sum := "b9c469df1b32ba05c54b4e3e8a9d156f8fd66a40bf8be602b249360e5ac8d262", func := "kist/kistlaw12.JourCuts", spec := "jourCuts", unfollowed := true, recurses := true, apart := false }
def JourCutsSaid : Prop := jourCutsRow.holds Try.pinned (OpenSpec.ofChange jourCutsSpec)

/-- ITS FALSE NEIGHBOUR: 'it returns false'. Refute it at one input. -/
def jourCutsWrong : ChangeSpec := { name := "jourCuts", fn := fun _ => fun
  | [d1, d2] => { results := [.lit (.bool false)], args := [d1, d2] }
  | _ => none }
def JourCutsWrongFalsely : Prop := jourCutsRow.holds Try.pinned (OpenSpec.ofChange jourCutsWrong)

/-- 'kistlaw12.JourTurned': WHATEVER THE INPUT: true; the input reads as it did. -/
def jourTurnedSpec : ChangeSpec := { name := "jourTurned", fn := fun _ => fun
  | [d1, d2, d3] => { results := [.lit (.bool true)], args := [d1, d2, d3] }
  | _ => none }
def jourTurnedRow : OpenClaim := { program := "ytlhkmbhfgoejjaa", sum := "b9c469df1b32ba05c54b4e3e8a9d156f8fd66a40bf8be602b249360e5ac8d262", func := "kist/kistlaw12.JourTurned", spec := "jourTurned", unfollowed := true, recurses := true, apart := false }
def JourTurnedSaid : Prop := jourTurnedRow.holds Try.pinned (OpenSpec.ofChange jourTurnedSpec)

/-- ITS FALSE NEIGHBOUR: 'it returns false'. Refute it at one input. -/
def jourTurnedWrong : ChangeSpec := { name := "jourTurned", fn := fun _ => fun
  | [d1, d2, d3] => { results := [.lit (.bool false)], args := [d1, d2, d3] }
  | _ => none }
def JourTurnedWrongFalsely : Prop := jourTurnedRow.holds Try.pinned (OpenSpec.ofChange jourTurnedWrong)

/-- 'kistlaw12.JourLasts': WHATEVER THE INPUT: true; the input reads as it did. -/
def jourLastsSpec : ChangeSpec := { name := "jourLasts", fn := fun _ => fun
  | [d1, d2, d3] => { results := [.lit (.bool true)], args := [d1, d2, d3] }
  | _ => none }
def jourLastsRow : OpenClaim := { program := "ytlhkmbhfgoejjaa", sum := "b9c469df1b32ba05c54b4e3e8a9d156f8fd66a40bf8be602b249360e5ac8d262", func := "kist/kistlaw12.JourLasts", spec := "jourLasts", unfollowed := true, recurses := true, apart := false }
def JourLastsSaid : Prop := jourLastsRow.holds Try.pinned (OpenSpec.ofChange jourLastsSpec)

/-- ITS FALSE NEIGHBOUR: 'it returns false'. Refute it at one input. -/
def jourLastsWrong : ChangeSpec := { name := "jourLasts", fn := fun _ => fun
  | [d1, d2, d3] => { results := [.lit (.bool false)], args := [d1, d2, d3] }
  | _ => none }
def JourLastsWrongFalsely : Prop := jourLastsRow.holds Try.pinned (OpenSpec.ofChange jourLastsWrong)

/-- 'kistlaw12.JourNone': WHATEVER THE INPUT: true; the input reads as it did. -/
def jourNoneSpec : ChangeSpec := { name := "jourNone", fn := fun _ => fun
  | [d1, d2] => { results := [.lit (.bool true)], args := [d1, d2] }
  | _ => none }
def jourNoneRow : OpenClaim := { program := "ytlhkmbhfgoejjaa", sum := "b9c469df1b32ba05c54b4e3e8a9d156f8fd66a40bf8be602b249360e5ac8d262", func := "kist/kistlaw12.JourNone", spec := "jourNone", unfollowed := true, recurses := true, apart := false }
def JourNoneSaid : Prop := jourNoneRow.holds Try.pinned (OpenSpec.ofChange jourNoneSpec)

/-- ITS FALSE NEIGHBOUR: 'it returns false'. Refute it at one input. -/
def jourNoneWrong : ChangeSpec := { name := "jourNone", fn := fun _ => fun
  | [d1, d2] => { results := [.lit (.bool false)], args := [d1, d2] }
  | _ => none }
def JourNoneWrongFalsely : Prop := jourNoneRow.holds Try.pinned (OpenSpec.ofChange jourNoneWrong)

/-- 'kistlaw12.JourPlays': WHATEVER THE INPUT: true; the input reads as it did. -/
def jourPlaysSpec : ChangeSpec := { name := "jourPlays", fn := fun _ => fun
  | [d1, d2] => { results := [.lit (.bool true)], args := [d1, d2] }
  | _ => none }
def jourPlaysRow : OpenClaim := { program := "ytlhkmbhfgoejjaa", sum := "b9c469df1b32ba05c54b4e3e8a9d156f8fd66a40bf8be602b249360e5ac8d262", func := "kist/kistlaw12.JourPlays", spec := "jourPlays", unfollowed := true, recurses := true, apart := false }
def JourPlaysSaid : Prop := jourPlaysRow.holds Try.pinned (OpenSpec.ofChange jourPlaysSpec)

/-- ITS FALSE NEIGHBOUR: 'it returns false'. Refute it at one input. -/
def jourPlaysWrong : ChangeSpec := { name := "jourPlays", fn := fun _ => fun
  | [d1, d2] => { results := [.lit (.bool false)], args := [d1, d2] }
  | _ => none }
def JourPlaysWrongFalsely : Prop := jourPlaysRow.holds Try.pinned (OpenSpec.ofChange jourPlaysWrong)

/-- 'kistlaw12.JourSwaps': WHATEVER THE INPUT: true; the input reads as it did. -/
def jourSwapsSpec : ChangeSpec := { name := "jourSwaps", fn := fun _ => fun
  | [d1, d2, d3, d4] => { results := [.lit (.bool true)], args := [d1, d2, d3, d4] }
  | _ => none }
def jourSwapsRow : OpenClaim := { program := "ytlhkmbhfgoejjaa", sum := "b9c469df1b32ba05c54b4e3e8a9d156f8fd66a40bf8be602b249360e5ac8d262", func := "kist/kistlaw12.JourSwaps", spec := "jourSwaps", unfollowed := true, recurses := true, apart := false }
def JourSwapsSaid : Prop := jourSwapsRow.holds Try.pinned (OpenSpec.ofChange jourSwapsSpec)

/-- ITS FALSE NEIGHBOUR: 'it returns false'. Refute it at one input. -/
def jourSwapsWrong : ChangeSpec := { name := "jourSwaps", fn := fun _ => fun
  | [d1, d2, d3, d4] => { results := [.lit (.bool false)], args := [d1, d2, d3, d4] }
  | _ => none }
def JourSwapsWrongFalsely : Prop := jourSwapsRow.holds Try.pinned (OpenSpec.ofChange jourSwapsWrong)

/- THE SECOND FORM. 'bulk': how many values and letters a reading holds, each counted each time it is reached (what is shared counts as often as it is met; a slice's spare places count too). A statement '..UptoSaid' is the law's where the arguments, and the package variables that the reading takes, are together of bulk at most 1048576: NARROWER than '..Said'. Prove '..Said' where nothing that the law and all that it calls make is longer than what came in: it says more and counts as full. Else prove '..UptoSaid'. A law counts once. -/
mutual
def uptoBulk {H : Type} : DataW H → Nat
  | .lit (.string bytes) => bytes.length + 1
  | .lit _ => 1
  | .nil => 1
  | .ptr d => uptoBulk d + 1
  | .slice elems spare => uptoBulkAll elems + uptoBulkAll spare + 1
  | .agg parts => uptoBulkAll parts + 1
  | .iface _ d => uptoBulk d + 1
  | .map entries => uptoBulkEntries entries + 1
  | .held _ => 1
def uptoBulkAll {H : Type} : List (DataW H) → Nat
  | [] => 0
  | d :: r => uptoBulk d + uptoBulkAll r
def uptoBulkEntries {H : Type} : List (Lit × DataW H) → Nat
  | [] => 0
  | x :: r => uptoBulkEntry x + uptoBulkEntries r
def uptoBulkEntry {H : Type} : Lit × DataW H → Nat
  | (.string bytes, d) => bytes.length + uptoBulk d + 1
  | (_, d) => uptoBulk d + 1
 end
def uptoSmall : (H : Type) → List (DataW H) → Bool := fun _ ds => decide (uptoBulkAll ds ≤ 1048576)
def OpenSpec.upto (s : _root_.Go.ChangeSpec) : _root_.Go.OpenSpec := { _root_.Go.OpenSpec.ofChange s with cond := some uptoSmall }

/-- 'kistlaw12.JourEncodes', WHERE WHAT IT READS IS OF BULK AT MOST 1048576: true; the input reads as it did. -/
def jourEncodesUptoRow : OpenClaim := { program := "ytlhkmbhfgoejjaa", sum := "b9c469df1b32ba05c54b4e3e8a9d156f8fd66a40bf8be602b249360e5ac8d262", func := "kist/kistlaw12.JourEncodes", spec := "jourEncodes", unfollowed := true, recurses := true, apart := false, narrowed := true }
def JourEncodesUptoSaid : Prop := jourEncodesUptoRow.holds Try.pinned (OpenSpec.upto jourEncodesSpec)

/-- 'kistlaw12.JourDecodes', WHERE WHAT IT READS IS OF BULK AT MOST 1048576: true; the input reads as it did. -/
def jourDecodesUptoRow : OpenClaim := { program := "ytlhkmbhfgoejjaa", sum := "b9c469df1b32ba05c54b4e3e8a9d156f8fd66a40bf8be602b249360e5ac8d262", func := "kist/kistlaw12.JourDecodes", spec := "jourDecodes", unfollowed := true, recurses := true, apart := false, narrowed := true }
def JourDecodesUptoSaid : Prop := jourDecodesUptoRow.holds Try.pinned (OpenSpec.upto jourDecodesSpec)

/-- 'kistlaw12.JourSames', WHERE WHAT IT READS IS OF BULK AT MOST 1048576: true; the input reads as it did. -/
def jourSamesUptoRow : OpenClaim := { program := "ytlhkmbhfgoejjaa", sum := "b9c469df1b32ba05c54b4e3e8a9d156f8fd66a40bf8be602b249360e5ac8d262", func := "kist/kistlaw12.JourSames", spec := "jourSames", unfollowed := true, recurses := true, apart := false, narrowed := true }
def JourSamesUptoSaid : Prop := jourSamesUptoRow.holds Try.pinned (OpenSpec.upto jourSamesSpec)

/-- 'kistlaw12.JourBack', WHERE WHAT IT READS IS OF BULK AT MOST 1048576: true; the input reads as it did. -/
def jourBackUptoRow : OpenClaim := { program := "ytlhkmbhfgoejjaa", sum := "b9c469df1b32ba05c54b4e3e8a9d156f8fd66a40bf8be602b249360e5ac8d262", func := "kist/kistlaw12.JourBack", spec := "jourBack", unfollowed := true, recurses := true, apart := false, narrowed := true }
def JourBackUptoSaid : Prop := jourBackUptoRow.holds Try.pinned (OpenSpec.upto jourBackSpec)

/-- 'kistlaw12.JourScans', WHERE WHAT IT READS IS OF BULK AT MOST 1048576: true; the input reads as it did. -/
def jourScansUptoRow : OpenClaim := { program := "ytlhkmbhfgoejjaa", sum := "b9c469df1b32ba05c54b4e3e8a9d156f8fd66a40bf8be602b249360e5ac8d262", func := "kist/kistlaw12.JourScans", spec := "jourScans", unfollowed := true, recurses := true, apart := false, narrowed := true }
def JourScansUptoSaid : Prop := jourScansUptoRow.holds Try.pinned (OpenSpec.upto jourScansSpec)

/-- 'kistlaw12.JourCuts', WHERE WHAT IT READS IS OF BULK AT MOST 1048576: true; the input reads as it did. -/
def jourCutsUptoRow : OpenClaim := { program := "ytlhkmbhfgoejjaa", sum := "b9c469df1b32ba05c54b4e3e8a9d156f8fd66a40bf8be602b249360e5ac8d262", func := "kist/kistlaw12.JourCuts", spec := "jourCuts", unfollowed := true, recurses := true, apart := false, narrowed := true }
def JourCutsUptoSaid : Prop := jourCutsUptoRow.holds Try.pinned (OpenSpec.upto jourCutsSpec)

/-- 'kistlaw12.JourTurned', WHERE WHAT IT READS IS OF BULK AT MOST 1048576: true; the input reads as it did. -/
def jourTurnedUptoRow : OpenClaim := { program := "ytlhkmbhfgoejjaa", sum := "b9c469df1b32ba05c54b4e3e8a9d156f8fd66a40bf8be602b249360e5ac8d262", func := "kist/kistlaw12.JourTurned", spec := "jourTurned", unfollowed := true, recurses := true, apart := false, narrowed := true }
def JourTurnedUptoSaid : Prop := jourTurnedUptoRow.holds Try.pinned (OpenSpec.upto jourTurnedSpec)

/-- 'kistlaw12.JourLasts', WHERE WHAT IT READS IS OF BULK AT MOST 1048576: true; the input reads as it did. -/
def jourLastsUptoRow : OpenClaim := { program := "ytlhkmbhfgoejjaa", sum := "b9c469df1b32ba05c54b4e3e8a9d156f8fd66a40bf8be602b249360e5ac8d262", func := "kist/kistlaw12.JourLasts", spec := "jourLasts", unfollowed := true, recurses := true, apart := false, narrowed := true }
def JourLastsUptoSaid : Prop := jourLastsUptoRow.holds Try.pinned (OpenSpec.upto jourLastsSpec)

/-- 'kistlaw12.JourNone', WHERE WHAT IT READS IS OF BULK AT MOST 1048576: true; the input reads as it did. -/
def jourNoneUptoRow : OpenClaim := { program := "ytlhkmbhfgoejjaa", sum := "b9c469df1b32ba05c54b4e3e8a9d156f8fd66a40bf8be602b249360e5ac8d262", func := "kist/kistlaw12.JourNone", spec := "jourNone", unfollowed := true, recurses := true, apart := false, narrowed := true }
def JourNoneUptoSaid : Prop := jourNoneUptoRow.holds Try.pinned (OpenSpec.upto jourNoneSpec)

/-- 'kistlaw12.JourPlays', WHERE WHAT IT READS IS OF BULK AT MOST 1048576: true; the input reads as it did. -/
def jourPlaysUptoRow : OpenClaim := { program := "ytlhkmbhfgoejjaa", sum := "b9c469df1b32ba05c54b4e3e8a9d156f8fd66a40bf8be602b249360e5ac8d262", func := "kist/kistlaw12.JourPlays", spec := "jourPlays", unfollowed := true, recurses := true, apart := false, narrowed := true }
def JourPlaysUptoSaid : Prop := jourPlaysUptoRow.holds Try.pinned (OpenSpec.upto jourPlaysSpec)

/-- 'kistlaw12.JourSwaps', WHERE WHAT IT READS IS OF BULK AT MOST 1048576: true; the input reads as it did. -/
def jourSwapsUptoRow : OpenClaim := { program := "ytlhkmbhfgoejjaa", sum := "b9c469df1b32ba05c54b4e3e8a9d156f8fd66a40bf8be602b249360e5ac8d262", func := "kist/kistlaw12.JourSwaps", spec := "jourSwaps", unfollowed := true, recurses := true, apart := false, narrowed := true }
def JourSwapsUptoSaid : Prop := jourSwapsUptoRow.holds Try.pinned (OpenSpec.upto jourSwapsSpec)

end Rows
end Go.Proofs.Ytlhkmbhfgoejjaa
