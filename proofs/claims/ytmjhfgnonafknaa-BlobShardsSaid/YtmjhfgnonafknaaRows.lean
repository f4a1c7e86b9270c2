/-
  No cell of these rows narrows 'for every input' (looked for: loops, veiled, ifaces, maps, wideKeys, modest, calm, conditions, laid).
  DERIVED. THE GIVEN ROWS OF THIS SEAT. 5 by the template 'for every input the law returns true; each argument reads behind the call as it read before'; 0 by the template 'total and deterministic' (their statements: YtmjhfgnonafknaaTotals.lean).
  GIVEN WITH THE SEED: the statements are not yours to turn. If you find one false, say at which input.
  Laid BY PROGRAM, IN A SANDBOX (cutbox-rows.mjs): the forced cells as the released guide's own fill.sh prints them over the translation 0bf1b41c55b0aee6… (all of the seat's roots in one cut). By AI agents, Wed Nov 11 2026. No macro, syntax, notation, axiom, sorry.
-/
import Derived.Test.YtmjhfgnonafknaaChecked
import GoSem.Claim
import GoSem.ClaimJoined
import GoSem.ClaimMapViews
import Derived.JoinedTies
import Derived.KernelRfl
namespace Go.Proofs.Ytmjhfgnonafknaa
/- THE CELL 'sum', in the pinned program and in every row, IS THE sha256 OF THE DUMP (.gsa) THAT YtmjhfgnonafknaaProg.lean LOADS. Nothing in Lean hashes anything: it is a label: what it is worth is what the hold of that sum in a sandbox is worth. -/
noncomputable def Try.pinned : Pinned := { name := "ytmjhfgnonafknaa", sum := "0bf1b41c55b0aee68563a543f7ad786aae79ec66fed944f266cf49b98074fee1", checked := Try.checked }
namespace Rows
def none {H : Type} : Left H := { results := [], args := [] }

/-- 'kistlaw18.BlobSplits': WHATEVER THE INPUT: true; the input reads as it did. -/
def blobSplitsSpec : ChangeSpec := { name := "blobSplits", fn := fun _ => fun
  | [d1, d2] => { results := [.lit (.bool true)], args := [d1, d2] }
  | _ => none }
def blobSplitsRow : OpenClaim := { program := "ytmjhfgnonafknaa", sum := "0bf1b41c55b0aee68563a543f7ad786aae79ec66fed944f266cf49b98074fee1", func := "kist/kistlaw18.BlobSplits", spec := "blobSplits", unfollowed := true, recurses := true, apart := false }
def BlobSplitsSaid : Prop := blobSplitsRow.holds Try.pinned (OpenSpec.ofChange blobSplitsSpec)

/-- ITS FALSE NEIGHBOUR: 'it returns false'. Refute it at one input. -/
def blobSplitsWrong : ChangeSpec := { name := "blobSplits", fn := fun _ => fun
  | [d1, d2] => { results := [.lit (.bool false)], args := [d1, d2] }
  | _ => none }
def BlobSplitsWrongFalsely : Prop := blobSplitsRow.holds Try.pinned (OpenSpec.ofChange blobSplitsWrong)

/-- 'kistlaw18.BlobJoins': WHATEVER THE INPUT: true; the input reads as it did. -/
def blobJoinsSpec : ChangeSpec := { name := "blobJoins", fn := fun _ => fun
  | [d1, d2] => { results := [.lit (.bool true)], args := [d1, d2] }
  | _ => none }
def blobJoinsRow : OpenClaim := { program := "ytmjhfgnonafknaa", sum := "0bf1b41c55b0aee68563a543f7ad786aae79ec66fed944f266cf49b98074fee1", func := "kist/kistlaw18.BlobJoins", spec := "blobJoins", unfollowed := true, recurses := true, apart := false }
def BlobJoinsSaid : Prop := blobJoinsRow.holds Try.pinned (OpenSpec.ofChange blobJoinsSpec)

/-- ITS FALSE NEIGHBOUR: 'it returns false'. Refute it at one input. -/
def blobJoinsWrong : ChangeSpec := { name := "blobJoins", fn := fun _ => fun
  | [d1, d2] => { results := [.lit (.bool false)], args := [d1, d2] }
  | _ => none }
def BlobJoinsWrongFalsely : Prop := blobJoinsRow.holds Try.pinned (OpenSpec.ofChange blobJoinsWrong)

/-- 'kistlaw18.BlobRecords': WHATEVER THE INPUT: true; the input reads as it did. -/
def blobRecordsSpec : ChangeSpec := { name := "blobRecords", fn := fun _ => fun
  | [d1, d2, d3] => { results := [.lit (.bool true)], args := [d1, d2, d3] }
  | _ => none }
def blobRecordsRow : OpenClaim := { program := "ytmjhfgnonafknaa", sum := "0bf1b41c55b0aee68563a543f7ad786aae79ec66fed944f266cf49b98074fee1", func := "kist/kistlaw18.BlobRecords", spec := "blobRecords", unfollowed := true, recurses := true, apart := false }
def BlobRecordsSaid : Prop := blobRecordsRow.holds Try.pinned (OpenSpec.ofChange blobRecordsSpec)

/-- ITS FALSE NEIGHBOUR: 'it returns false'. Refute it at one input. -/
def blobRecordsWrong : ChangeSpec := { name := "blobRecords", fn := fun _ => fun
  | [d1, d2, d3] => { results := [.lit (.bool false)], args := [d1, d2, d3] }
  | _ => none }
def BlobRecordsWrongFalsely : Prop := blobRecordsRow.holds Try.pinned (OpenSpec.ofChange blobRecordsWrong)

/-- 'kistlaw18.BlobBack': WHATEVER THE INPUT: true; the input reads as it did. -/
def blobBackSpec : ChangeSpec := { name := "blobBack", fn := fun _ => fun
  | [d1, d2] => { results := [.lit (.bool true)], args := [d1, d2] }
  | _ => none }
def blobBackRow : OpenClaim := { program := "ytmjhfgnonafknaa", sum := "0bf1b41c55b0aee68563a543f7ad786aae79ec66fed944f266cf49b98074fee1", func := "kist/kistlaw18.BlobBack", spec := "blobBack", unfollowed := true, recurses := true, apart := false }
def BlobBackSaid : Prop := blobBackRow.holds Try.pinned (OpenSpec.ofChange blobBackSpec)

/-- ITS FALSE NEIGHBOUR: 'it returns false'. Refute it at one input. -/
def blobBackWrong : ChangeSpec := { name := "blobBack", fn := fun _ => fun
  | [d1, d2] => { results := [.lit (.bool false)], args := [d1, d2] }
  | _ => none }
def BlobBackWrongFalsely : Prop := blobBackRow.holds Try.pinned (OpenSpec.ofChange blobBackWrong)

/-- 'kistlaw18.BlobShards': WHATEVER THE INPUT: true; the input reads as it did. -/
def blobShardsSpec : ChangeSpec := { name := "blobShards", fn := fun _ => fun
  | [d1, d2, d3, d4] => { results := [.lit (.bool true)], args := [d1, d2, d3, d4] }
  | _ => none }
def blobShardsRow : OpenClaim := { program := "ytmjhfgnonafknaa", sum := "0bf1b41c55b0aee68563a543f7ad786aae79ec66fed944f266cf49b98074fee1", func := "kist/kistlaw18.BlobShards", spec := "blobShards", unfollowed := true, recurses := true, apart := false }
def BlobShardsSaid : Prop := blobShardsRow.holds Try.pinned (OpenSpec.ofChange blobShardsSpec)

/-- ITS FALSE NEIGHBOUR: 'it returns false'. Refute it at one input. -/
def blobShardsWrong : ChangeSpec := { name := "blobShards", fn := fun _ => fun
  | [d1, d2, d3, d4] => { results := [.lit (.bool false)], args := [d1, d2, d3, d4] }
  | _ => none }
def BlobShardsWrongFalsely : Prop := blobShardsRow.holds Try.pinned (OpenSpec.ofChange blobShardsWrong)

/- THE SECOND FORM. 'bulk': how many values and letters a reading holds, each counted each time it is reached (what is shared counts as often as it is met; a slice's spare places count too). A statement '..UptoSaid' is the law's where the arguments, and the package variables that the reading takes, are together of bulk at most 1048576: NARROWER than '..Said'. Prove '..Said' where nothing that the law and all that it calls make is longer than what came in: it says more and counts as full. Else prove '..UptoSaid'. A law counts once. -/
mutual
def uptoBulk {H : Type} : DataW H → Nat
  | .lit (.string bytes) => bytes.length + 1
  | .lit _ => 1
  | .nil => 1
  | .ptr d => uptoBulk d + 1
  | .slice elems spare => uptoBulkAll elems + uptoBulkAll spare + 1
  | .agg parts => uptoBulkAll parts + 1
  | .iface _ d => uptoBulk d + 1
  | .map entries => uptoBulkEntries entries + 1
  | .held _ => 1
def uptoBulkAll {H : Type} : List (DataW H) → Nat
  | [] => 0
  | d :: r => uptoBulk d + uptoBulkAll r
def uptoBulkEntries {H : Type} : List (Lit × DataW H) → Nat
  | [] => 0
  | x :: r => uptoBulkEntry x + uptoBulkEntries r
def uptoBulkEntry {H : Type} : Lit × DataW H → Nat
  | (.string bytes, d) => bytes.length + uptoBulk d + 1
  | (_, d) => uptoBulk d + 1
 end
def uptoSmall : (H : Type) → List (DataW H) → Bool := fun _ ds => decide (uptoBulkAll ds ≤ 1048576)
def OpenSpec.upto (s : _root_.Go.ChangeSpec) : _root_.Go.OpenSpec := { _root_.Go.OpenSpec.ofChange s with cond := some uptoSmall }

/-- 'kistlaw18.BlobSplits', WHERE WHAT IT READS IS OF BULK AT MOST 1048576: true; the input reads as it did. -/
def blobSplitsUptoRow : OpenClaim := { program := "ytmjhfgnonafknaa", sum := "0bf1b41c55b0aee68563a543f7ad786aae79ec66fed944f266cf49b98074fee1", func := "kist/kistlaw18.BlobSplits", spec := "blobSplits", unfollowed := true, recurses := true, apart := false, narrowed := true }
def BlobSplitsUptoSaid : Prop := blobSplitsUptoRow.holds Try.pinned (OpenSpec.upto blobSplitsSpec)

/-- 'kistlaw18.BlobJoins', WHERE WHAT IT READS IS OF BULK AT MOST 1048576: true; the input reads as it did. -/
def blobJoinsUptoRow : OpenClaim := { program := "ytmjhfgnonafknaa", sum := "0bf1b41c55b0aee68563a543f7ad786aae79ec66fed944f266cf49b98074fee1", func := "kist/kistlaw18.BlobJoins", spec := "blobJoins", unfollowed := true, recurses := true, apart := false, narrowed := true }
def BlobJoinsUptoSaid : Prop := blobJoinsUptoRow.holds Try.pinned (OpenSpec.upto blobJoinsSpec)

/-- 'kistlaw18.BlobRecords', WHERE WHAT IT READS IS OF BULK AT MOST 1048576: true; the input reads as it did. -/
def blobRecordsUptoRow : OpenClaim := { program := "ytmjhfgnonafknaa", sum := "0bf1b41c55b0aee68563a543f7ad786aae79ec66fed944f266cf49b98074fee1", func := "kist/kistlaw18.BlobRecords", spec := "blobRecords", unfollowed := true, recurses := true, apart := false, narrowed := true }
def BlobRecordsUptoSaid : Prop := blobRecordsUptoRow.holds Try.pinned (OpenSpec.upto blobRecordsSpec)

/-- 'kistlaw18.BlobBack', WHERE WHAT IT READS IS OF BULK AT MOST 1048576: true; the input reads as it did. -/
def blobBackUptoRow : OpenClaim := { program := "ytmjhfgnonafknaa", sum := "0bf1b41c55b0aee68563a543f7ad786aae79ec66fed944f266cf49b98074fee1", func := "kist/kistlaw18.BlobBack", spec := "blobBack", unfollowed := true, recurses := true, apart := false, narrowed := true }
def BlobBackUptoSaid : Prop := blobBackUptoRow.holds Try.pinned (OpenSpec.upto blobBackSpec)

/-- 'kistlaw18.BlobShards', WHERE WHAT IT READS IS OF BULK AT MOST 1048576: true; the input reads as it did. -/
def blobShardsUptoRow : OpenClaim := { program := "ytmjhfgnonafknaa", sum := "0bf1b41c55b0aee68563a543f7ad786aae79ec66fed944f266cf49b98074fee1", func := "kist/kistlaw18.BlobShards", spec := "blobShards", unfollowed := true, recurses := true, apart := false, narrowed := true }
def BlobShardsUptoSaid : Prop := blobShardsUptoRow.holds Try.pinned (OpenSpec.upto blobShardsSpec)

end Rows
end Go.Proofs.Ytmjhfgnonafknaa
