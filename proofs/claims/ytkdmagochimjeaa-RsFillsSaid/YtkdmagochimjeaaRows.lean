/-
  No cell of these rows narrows 'for every input' (looked for: loops, veiled, ifaces, maps, wideKeys, modest, calm, conditions, laid).
  DERIVED. THE GIVEN ROWS OF THIS SEAT. 6 by the template 'for every input the law returns true; each argument reads behind the call as it read before'; 0 by the template 'total and deterministic' (their statements: YtkdmagochimjeaaTotals.lean).
  GIVEN WITH THE SEED: the statements are not yours to turn. If you find one false, say at which input.
  Laid BY PROGRAM, IN A SANDBOX (cutbox-rows.mjs): the forced cells as the released guide's own fill.sh prints them over the translation 04bb5171119f03b7… (all of the seat's roots in one cut). By AI agents, Wed Nov 11 2026. No macro, syntax, notation, axiom, sorry.
-/
import Derived.Test.YtkdmagochimjeaaChecked
import GoSem.Claim
import GoSem.ClaimJoined
import GoSem.ClaimMapViews
import Derived.JoinedTies
import Derived.KernelRfl
namespace Go.Proofs.Ytkdmagochimjeaa
/- THE CELL 'sum', in the pinned program and in every row, IS THE sha256 OF THE DUMP (.gsa) THAT YtkdmagochimjeaaProg.lean LOADS. Nothing in Lean hashes anything: it is a label: what it is worth is what the hold of that sum in a sandbox is worth. -/
noncomputable def Try.pinned : Pinned := { name := "ytkdmagochimjeaa", sum := "04bb5171119f03b774e8a50dbd44e5bed0c587e1a2a5b617eb63c5c824d5f84c", checked := Try.checked }
namespace Rows
def none {H : Type} : Left H := { results := [], args := [] }

/-- 'kistlaw03.RsEncodes': WHATEVER THE INPUT: true; the input reads as it did. -/
def rsEncodesSpec : ChangeSpec := { name := "rsEncodes", fn := fun _ => fun
  | [d] => { results := [.lit (.bool true)], args := [d] }
  | _ => none }
def rsEncodesRow : OpenClaim := { program := "ytkdmagochimjeaa", sum := "04bb5171119f03b774e8a50dbd44e5bed0c587e1a2a5b617eb63c5c824d5f84c", func := "kist/kistlaw03.RsEncodes", spec := "rsEncodes", apart := false }
def RsEncodesSaid : Prop := rsEncodesRow.holds Try.pinned (OpenSpec.ofChange rsEncodesSpec)

/-- ITS FALSE NEIGHBOUR: 'it returns false'. Refute it at one input. -/
def rsEncodesWrong : ChangeSpec := { name := "rsEncodes", fn := fun _ => fun
  | [d] => { results := [.lit (.bool false)], args := [d] }
  | _ => none }
def RsEncodesWrongFalsely : Prop := rsEncodesRow.holds Try.pinned (OpenSpec.ofChange rsEncodesWrong)

/-- 'kistlaw03.RsDecodes': WHATEVER THE INPUT: true; the input reads as it did. -/
def rsDecodesSpec : ChangeSpec := { name := "rsDecodes", fn := fun _ => fun
  | [d] => { results := [.lit (.bool true)], args := [d] }
  | _ => none }
def rsDecodesRow : OpenClaim := { program := "ytkdmagochimjeaa", sum := "04bb5171119f03b774e8a50dbd44e5bed0c587e1a2a5b617eb63c5c824d5f84c", func := "kist/kistlaw03.RsDecodes", spec := "rsDecodes", apart := false }
def RsDecodesSaid : Prop := rsDecodesRow.holds Try.pinned (OpenSpec.ofChange rsDecodesSpec)

/-- ITS FALSE NEIGHBOUR: 'it returns false'. Refute it at one input. -/
def rsDecodesWrong : ChangeSpec := { name := "rsDecodes", fn := fun _ => fun
  | [d] => { results := [.lit (.bool false)], args := [d] }
  | _ => none }
def RsDecodesWrongFalsely : Prop := rsDecodesRow.holds Try.pinned (OpenSpec.ofChange rsDecodesWrong)

/-- 'kistlaw03.RsSums': WHATEVER THE INPUT: true; the input reads as it did. -/
def rsSumsSpec : ChangeSpec := { name := "rsSums", fn := fun _ => fun
  | [d1, d2] => { results := [.lit (.bool true)], args := [d1, d2] }
  | _ => none }
def rsSumsRow : OpenClaim := { program := "ytkdmagochimjeaa", sum := "04bb5171119f03b774e8a50dbd44e5bed0c587e1a2a5b617eb63c5c824d5f84c", func := "kist/kistlaw03.RsSums", spec := "rsSums", apart := false }
def RsSumsSaid : Prop := rsSumsRow.holds Try.pinned (OpenSpec.ofChange rsSumsSpec)

/-- ITS FALSE NEIGHBOUR: 'it returns false'. Refute it at one input. -/
def rsSumsWrong : ChangeSpec := { name := "rsSums", fn := fun _ => fun
  | [d1, d2] => { results := [.lit (.bool false)], args := [d1, d2] }
  | _ => none }
def RsSumsWrongFalsely : Prop := rsSumsRow.holds Try.pinned (OpenSpec.ofChange rsSumsWrong)

/-- 'kistlaw03.RsWrong': WHATEVER THE INPUT: true; the input reads as it did. -/
def rsWrongSpec : ChangeSpec := { name := "rsWrong", fn := fun _ => fun
  | [d1, d2] => { results := [.lit (.bool true)], args := [d1, d2] }
  | _ => none }
def rsWrongRow : OpenClaim := { program := "ytkdmagochimjeaa", sum := "04bb5171119f03b774e8a50dbd44e5bed0c587e1a2a5b617eb63c5c824d5f84c", func := "kist/kistlaw03.RsWrong", spec := "rsWrong", apart := false }
def RsWrongSaid : Prop := rsWrongRow.holds Try.pinned (OpenSpec.ofChange rsWrongSpec)

/-- ITS FALSE NEIGHBOUR: 'it returns false'. Refute it at one input. -/
def rsWrongWrong : ChangeSpec := { name := "rsWrong", fn := fun _ => fun
  | [d1, d2] => { results := [.lit (.bool false)], args := [d1, d2] }
  | _ => none }
def RsWrongWrongFalsely : Prop := rsWrongRow.holds Try.pinned (OpenSpec.ofChange rsWrongWrong)

/-- 'kistlaw03.RsFills': WHATEVER THE INPUT: true; the input reads as it did. -/
def rsFillsSpec : ChangeSpec := { name := "rsFills", fn := fun _ => fun
  | [d] => { results := [.lit (.bool true)], args := [d] }
  | _ => none }
def rsFillsRow : OpenClaim := { program := "ytkdmagochimjeaa", sum := "04bb5171119f03b774e8a50dbd44e5bed0c587e1a2a5b617eb63c5c824d5f84c", func := "kist/kistlaw03.RsFills", spec := "rsFills", apart := false }
def RsFillsSaid : Prop := rsFillsRow.holds Try.pinned (OpenSpec.ofChange rsFillsSpec)

/-- ITS FALSE NEIGHBOUR: 'it returns false'. Refute it at one input. -/
def rsFillsWrong : ChangeSpec := { name := "rsFills", fn := fun _ => fun
  | [d] => { results := [.lit (.bool false)], args := [d] }
  | _ => none }
def RsFillsWrongFalsely : Prop := rsFillsRow.holds Try.pinned (OpenSpec.ofChange rsFillsWrong)

/-- 'kistlaw03.RsAny': WHATEVER THE INPUT: true; the input reads as it did. -/
def rsAnySpec : ChangeSpec := { name := "rsAny", fn := fun _ => fun
  | [d1, d2] => { results := [.lit (.bool true)], args := [d1, d2] }
  | _ => none }
def rsAnyRow : OpenClaim := { program := "ytkdmagochimjeaa", sum := "04bb5171119f03b774e8a50dbd44e5bed0c587e1a2a5b617eb63c5c824d5f84c", func := "kist/kistlaw03.RsAny", spec := "rsAny", apart := false }
def RsAnySaid : Prop := rsAnyRow.holds Try.pinned (OpenSpec.ofChange rsAnySpec)

/-- ITS FALSE NEIGHBOUR: 'it returns false'. Refute it at one input. -/
def rsAnyWrong : ChangeSpec := { name := "rsAny", fn := fun _ => fun
  | [d1, d2] => { results := [.lit (.bool false)], args := [d1, d2] }
  | _ => none }
def RsAnyWrongFalsely : Prop := rsAnyRow.holds Try.pinned (OpenSpec.ofChange rsAnyWrong)

/- THE SECOND FORM. 'bulk': how many values and letters a reading holds, each counted each time it is reached (what is shared counts as often as it is met; a slice's spare places count too). A statement '..UptoSaid' is the law's where the arguments, and the package variables that the reading takes, are together of bulk at most 1048576: NARROWER than '..Said'. Prove '..Said' where nothing that the law and all that it calls make is longer than what came in: it says more and counts as full. Else prove '..UptoSaid'. A law counts once. -/
mutual
def uptoBulk {H : Type} : DataW H → Nat
  | .lit (.string bytes) => bytes.length + 1
  | .lit _ => 1
  | .nil => 1
  | .ptr d => uptoBulk d + 1
  | .slice elems spare => uptoBulkAll elems + uptoBulkAll spare + 1
  | .agg parts => uptoBulkAll parts + 1
  | .iface _ d => uptoBulk d + 1
  | .map entries => uptoBulkEntries entries + 1
  | .held _ => 1
def uptoBulkAll {H : Type} : List (DataW H) → Nat
  | [] => 0
  | d :: r => uptoBulk d + uptoBulkAll r
def uptoBulkEntries {H : Type} : List (Lit × DataW H) → Nat
  | [] => 0
  | x :: r => uptoBulkEntry x + uptoBulkEntries r
def uptoBulkEntry {H : Type} : Lit × DataW H → Nat
  | (.string bytes, d) => bytes.length + uptoBulk d + 1
  | (_, d) => uptoBulk d + 1
 end
def uptoSmall : (H : Type) → List (DataW H) → Bool := fun _ ds => decide (uptoBulkAll ds ≤ 1048576)
def OpenSpec.upto (s : _root_.Go.ChangeSpec) : _root_.Go.OpenSpec := { _root_.Go.OpenSpec.ofChange s with cond := some uptoSmall }

/-- 'kistlaw03.RsEncodes', WHERE WHAT IT READS IS OF BULK AT MOST 1048576: true; the input reads as it did. -/
def rsEncodesUptoRow : OpenClaim := { program := "ytkdmagochimjeaa", sum := "04bb5171119f03b774e8a50dbd44e5bed0c587e1a2a5b617eb63c5c824d5f84c", func := "kist/kistlaw03.RsEncodes", spec := "rsEncodes", apart := false, narrowed := true }
def RsEncodesUptoSaid : Prop := rsEncodesUptoRow.holds Try.pinned (OpenSpec.upto rsEncodesSpec)

/-- 'kistlaw03.RsDecodes', WHERE WHAT IT READS IS OF BULK AT MOST 1048576: true; the input reads as it did. -/
def rsDecodesUptoRow : OpenClaim := { program := "ytkdmagochimjeaa", sum := "04bb5171119f03b774e8a50dbd44e5bed0c587e1a2a5b617eb63c5c824d5f84c", func := "kist/kistlaw03.RsDecodes", spec := "rsDecodes", apart := false, narrowed := true }
def RsDecodesUptoSaid : Prop := rsDecodesUptoRow.holds Try.pinned (OpenSpec.upto rsDecodesSpec)

/-- 'kistlaw03.RsSums', WHERE WHAT IT READS IS OF BULK AT MOST 1048576: true; the input reads as it did. -/
def rsSumsUptoRow : OpenClaim := { program := "ytkdmagochimjeaa", sum := "04bb5171119f03b774e8a50dbd44e5bed0c587e1a2a5b617eb63c5c824d5f84c", func := "kist/kistlaw03.RsSums", spec := "rsSums", apart := false, narrowed := true }
def RsSumsUptoSaid : Prop := rsSumsUptoRow.holds Try.pinned (OpenSpec.upto rsSumsSpec)

/-- 'kistlaw03.RsWrong', WHERE WHAT IT READS IS OF BULK AT MOST 1048576: true; the input reads as it did. -/
def rsWrongUptoRow : OpenClaim := { program := "ytkdmagochimjeaa", sum := "04bb5171119f03b774e8a50dbd44e5bed0c587e1a2a5b617eb63c5c824d5f84c", func := "kist/kistlaw03.RsWrong", spec := "rsWrong", apart := false, narrowed := true }
def RsWrongUptoSaid : Prop := rsWrongUptoRow.holds Try.pinned (OpenSpec.upto rsWrongSpec)

/-- 'kistlaw03.RsFills', WHERE WHAT IT READS IS OF BULK AT MOST 1048576: true; the input reads as it did. -/
def rsFillsUptoRow : OpenClaim := { program := "ytkdmagochimjeaa", sum := "04bb5171119f03b774e8a50dbd44e5bed0c587e1a2a5b617eb63c5c824d5f84c", func := "kist/kistlaw03.RsFills", spec := "rsFills", apart := false, narrowed := true }
def RsFillsUptoSaid : Prop := rsFillsUptoRow.holds Try.pinned (OpenSpec.upto rsFillsSpec)

/-- 'kistlaw03.RsAny', WHERE WHAT IT READS IS OF BULK AT MOST 1048576: true; the input reads as it did. -/
def rsAnyUptoRow : OpenClaim := { program := "ytkdmagochimjeaa", sum := "04bb5171119f03b774e8a50dbd44e5bed0c587e1a2a5b617eb63c5c824d5f84c", func := "kist/kistlaw03.RsAny", spec := "rsAny", apart := false, narrowed := true }
def RsAnyUptoSaid : Prop := rsAnyUptoRow.holds Try.pinned (OpenSpec.upto rsAnySpec)

end Rows
end Go.Proofs.Ytkdmagochimjeaa
