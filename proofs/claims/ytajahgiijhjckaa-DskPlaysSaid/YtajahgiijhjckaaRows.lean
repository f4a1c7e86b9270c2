/-
  No cell of these rows narrows 'for every input' (looked for: loops, veiled, ifaces, maps, wideKeys, modest, calm, conditions, laid).
  DERIVED. THE GIVEN ROWS OF THIS SEAT. 6 by the template 'for every input the law returns true; each argument reads behind the call as it read before'; 0 by the template 'total and deterministic' (their statements: YtajahgiijhjckaaTotals.lean).
  GIVEN WITH THE SEED: the statements are not yours to turn. If you find one false, say at which input.
  Laid BY PROGRAM, IN A SANDBOX (cutbox-rows.mjs): the forced cells as the released guide's own fill.sh prints them over the translation a3b0bb0b9a0ea9b2… (all of the seat's roots in one cut). By AI agents, Wed Nov 11 2026. No macro, syntax, notation, axiom, sorry.
-/
import Derived.Test.YtajahgiijhjckaaChecked
import GoSem.Claim
import GoSem.ClaimJoined
import GoSem.ClaimMapViews
import Derived.JoinedTies
import Derived.KernelRfl
namespace Go.Proofs.Ytajahgiijhjckaa
/- THE CELL 'sum', in the pinned program and in every row, IS THE sha256 OF THE DUMP (.gsa) THAT YtajahgiijhjckaaProg.lean LOADS. Nothing in Lean hashes anything: it is a label: what it is worth is what the hold of that sum in a sandbox is worth. -/
noncomputable def Try.pinned : Pinned := { name := "ytajahgiijhjckaa", sum := "a3b0bb0b9a0ea9b2036d4dbb4d01e6ff03620149c5f421333b74d10d8b3cad41", checked := Try.checked }
namespace Rows
def none {H : Type} : Left H := { results := [], args := [] }

/-- 'kistlaw11.DskSure': WHATEVER THE INPUT: true; the input reads as it did. -/
def dskSureSpec : ChangeSpec := { name := "dskSure", fn := fun _ => fun
  | [d1, d2, d3] => { results := [.lit (.bool true)], args := [d1, d2, d3] }
  | _ => none }
def dskSureRow : OpenClaim := { program := "ytajahgiijhjckaa", sum := "a3b0bb0b9a0ea9b2036d4dbb4d01e6ff03620149c5f421333b74d10d8b3cad41", func := "kist/kistlaw11.DskSure", spec := "dskSure", apart := false }
def DskSureSaid : Prop := dskSureRow.holds Try.pinned (OpenSpec.ofChange dskSureSpec)

/-- ITS FALSE NEIGHBOUR: 'it returns false'. Refute it at one input. -/
def dskSureWrong : ChangeSpec := { name := "dskSure", fn := fun _ => fun
  | [d1, d2, d3] => { results := [.lit (.bool false)], args := [d1, d2, d3] }
  | _ => none }
def DskSureWrongFalsely : Prop := dskSureRow.holds Try.pinned (OpenSpec.ofChange dskSureWrong)

/-- 'kistlaw11.DskFuse': WHATEVER THE INPUT: true; the input reads as it did. -/
def dskFuseSpec : ChangeSpec := { name := "dskFuse", fn := fun _ => fun
  | [d1, d2] => { results := [.lit (.bool true)], args := [d1, d2] }
  | _ => none }
def dskFuseRow : OpenClaim := { program := "ytajahgiijhjckaa", sum := "a3b0bb0b9a0ea9b2036d4dbb4d01e6ff03620149c5f421333b74d10d8b3cad41", func := "kist/kistlaw11.DskFuse", spec := "dskFuse", apart := false }
def DskFuseSaid : Prop := dskFuseRow.holds Try.pinned (OpenSpec.ofChange dskFuseSpec)

/-- ITS FALSE NEIGHBOUR: 'it returns false'. Refute it at one input. -/
def dskFuseWrong : ChangeSpec := { name := "dskFuse", fn := fun _ => fun
  | [d1, d2] => { results := [.lit (.bool false)], args := [d1, d2] }
  | _ => none }
def DskFuseWrongFalsely : Prop := dskFuseRow.holds Try.pinned (OpenSpec.ofChange dskFuseWrong)

/-- 'kistlaw11.DskOver': WHATEVER THE INPUT: true; the input reads as it did. -/
def dskOverSpec : ChangeSpec := { name := "dskOver", fn := fun _ => fun
  | [d1, d2] => { results := [.lit (.bool true)], args := [d1, d2] }
  | _ => none }
def dskOverRow : OpenClaim := { program := "ytajahgiijhjckaa", sum := "a3b0bb0b9a0ea9b2036d4dbb4d01e6ff03620149c5f421333b74d10d8b3cad41", func := "kist/kistlaw11.DskOver", spec := "dskOver", apart := false }
def DskOverSaid : Prop := dskOverRow.holds Try.pinned (OpenSpec.ofChange dskOverSpec)

/-- ITS FALSE NEIGHBOUR: 'it returns false'. Refute it at one input. -/
def dskOverWrong : ChangeSpec := { name := "dskOver", fn := fun _ => fun
  | [d1, d2] => { results := [.lit (.bool false)], args := [d1, d2] }
  | _ => none }
def DskOverWrongFalsely : Prop := dskOverRow.holds Try.pinned (OpenSpec.ofChange dskOverWrong)

/-- 'kistlaw11.DskOwn': WHATEVER THE INPUT: true; the input reads as it did. -/
def dskOwnSpec : ChangeSpec := { name := "dskOwn", fn := fun _ => fun
  | [d1, d2, d3] => { results := [.lit (.bool true)], args := [d1, d2, d3] }
  | _ => none }
def dskOwnRow : OpenClaim := { program := "ytajahgiijhjckaa", sum := "a3b0bb0b9a0ea9b2036d4dbb4d01e6ff03620149c5f421333b74d10d8b3cad41", func := "kist/kistlaw11.DskOwn", spec := "dskOwn", apart := false }
def DskOwnSaid : Prop := dskOwnRow.holds Try.pinned (OpenSpec.ofChange dskOwnSpec)

/-- ITS FALSE NEIGHBOUR: 'it returns false'. Refute it at one input. -/
def dskOwnWrong : ChangeSpec := { name := "dskOwn", fn := fun _ => fun
  | [d1, d2, d3] => { results := [.lit (.bool false)], args := [d1, d2, d3] }
  | _ => none }
def DskOwnWrongFalsely : Prop := dskOwnRow.holds Try.pinned (OpenSpec.ofChange dskOwnWrong)

/-- 'kistlaw11.DskPlays': WHATEVER THE INPUT: true; the input reads as it did. -/
def dskPlaysSpec : ChangeSpec := { name := "dskPlays", fn := fun _ => fun
  | [d] => { results := [.lit (.bool true)], args := [d] }
  | _ => none }
def dskPlaysRow : OpenClaim := { program := "ytajahgiijhjckaa", sum := "a3b0bb0b9a0ea9b2036d4dbb4d01e6ff03620149c5f421333b74d10d8b3cad41", func := "kist/kistlaw11.DskPlays", spec := "dskPlays", apart := false }
def DskPlaysSaid : Prop := dskPlaysRow.holds Try.pinned (OpenSpec.ofChange dskPlaysSpec)

/-- ITS FALSE NEIGHBOUR: 'it returns false'. Refute it at one input. -/
def dskPlaysWrong : ChangeSpec := { name := "dskPlays", fn := fun _ => fun
  | [d] => { results := [.lit (.bool false)], args := [d] }
  | _ => none }
def DskPlaysWrongFalsely : Prop := dskPlaysRow.holds Try.pinned (OpenSpec.ofChange dskPlaysWrong)

/-- 'kistlaw11.DskNone': WHATEVER THE INPUT: true; the input reads as it did. -/
def dskNoneSpec : ChangeSpec := { name := "dskNone", fn := fun _ => fun
  | [d1, d2] => { results := [.lit (.bool true)], args := [d1, d2] }
  | _ => none }
def dskNoneRow : OpenClaim := { program := "ytajahgiijhjckaa", sum := "a3b0bb0b9a0ea9b2036d4dbb4d01e6ff03620149c5f421333b74d10d8b3cad41", func := "kist/kistlaw11.DskNone", spec := "dskNone", apart := false }
def DskNoneSaid : Prop := dskNoneRow.holds Try.pinned (OpenSpec.ofChange dskNoneSpec)

/-- ITS FALSE NEIGHBOUR: 'it returns false'. Refute it at one input. -/
def dskNoneWrong : ChangeSpec := { name := "dskNone", fn := fun _ => fun
  | [d1, d2] => { results := [.lit (.bool false)], args := [d1, d2] }
  | _ => none }
def DskNoneWrongFalsely : Prop := dskNoneRow.holds Try.pinned (OpenSpec.ofChange dskNoneWrong)

/- THE SECOND FORM. 'bulk': how many values and letters a reading holds, each counted each time it is reached (what is shared counts as often as it is met; a slice's spare places count too). A statement '..UptoSaid' is the law's where the arguments, and the package variables that the reading takes, are together of bulk at most 1048576: NARROWER than '..Said'. Prove '..Said' where nothing that the law and all that it calls make is longer than what came in: it says more and counts as full. Else prove '..UptoSaid'. A law counts once. -/
mutual
def uptoBulk {H : Type} : DataW H → Nat
  | .lit (.string bytes) => bytes.length + 1
  | .lit _ => 1
  | .nil => 1
  | .ptr d => uptoBulk d + 1
  | .slice elems spare => uptoBulkAll elems + uptoBulkAll spare + 1
  | .agg parts => uptoBulkAll parts + 1
  | .iface _ d => uptoBulk d + 1
  | .map entries => uptoBulkEntries entries + 1
  | .held _ => 1
def uptoBulkAll {H : Type} : List (DataW H) → Nat
  | [] => 0
  | d :: r => uptoBulk d + uptoBulkAll r
def uptoBulkEntries {H : Type} : List (Lit × DataW H) → Nat
  | [] => 0
  | x :: r => uptoBulkEntry x + uptoBulkEntries r
def uptoBulkEntry {H : Type} : Lit × DataW H → Nat
  | (.string bytes, d) => bytes.length + uptoBulk d + 1
  | (_, d) => uptoBulk d + 1
 end
def uptoSmall : (H : Type) → List (DataW H) → Bool := fun _ ds => decide (uptoBulkAll ds ≤ 1048576)
def OpenSpec.upto (s : _root_.Go.ChangeSpec) : _root_.Go.OpenSpec := { _root_.Go.OpenSpec.ofChange s with cond := some uptoSmall }

/-- 'kistlaw11.DskSure', WHERE WHAT IT READS IS OF BULK AT MOST 1048576: true; the input reads as it did. -/
def dskSureUptoRow : OpenClaim := { program := "ytajahgiijhjckaa", sum := "a3b0bb0b9a0ea9b2036d4dbb4d01e6ff03620149c5f421333b74d10d8b3cad41", func := "kist/kistlaw11.DskSure", spec := "dskSure", apart := false, narrowed := true }
def DskSureUptoSaid : Prop := dskSureUptoRow.holds Try.pinned (OpenSpec.upto dskSureSpec)

/-- 'kistlaw11.DskFuse', WHERE WHAT IT READS IS OF BULK AT MOST 1048576: true; the input reads as it did. -/
def dskFuseUptoRow : OpenClaim := { program := "ytajahgiijhjckaa", sum := "a3b0bb0b9a0ea9b2036d4dbb4d01e6ff03620149c5f421333b74d10d8b3cad41", func := "kist/kistlaw11.DskFuse", spec := "dskFuse", apart := false, narrowed := true }
def DskFuseUptoSaid : Prop := dskFuseUptoRow.holds Try.pinned (OpenSpec.upto dskFuseSpec)

/-- 'kistlaw11.DskOver', WHERE WHAT IT READS IS OF BULK AT MOST 1048576: true; the input reads as it did. -/
def dskOverUptoRow : OpenClaim := { program := "ytajahgiijhjckaa", sum := "a3b0bb0b9a0ea9b2036d4dbb4d01e6ff03620149c5f421333b74d10d8b3cad41", func := "kist/kistlaw11.DskOver", spec := "dskOver", apart := false, narrowed := true }
def DskOverUptoSaid : Prop := dskOverUptoRow.holds Try.pinned (OpenSpec.upto dskOverSpec)

/-- 'kistlaw11.DskOwn', WHERE WHAT IT READS IS OF BULK AT MOST 1048576: true; the input reads as it did. -/
def dskOwnUptoRow : OpenClaim := { program := "ytajahgiijhjckaa", sum := "a3b0bb0b9a0ea9b2036d4dbb4d01e6ff03620149c5f421333b74d10d8b3cad41", func := "kist/kistlaw11.DskOwn", spec := "dskOwn", apart := false, narrowed := true }
def DskOwnUptoSaid : Prop := dskOwnUptoRow.holds Try.pinned (OpenSpec.upto dskOwnSpec)

/-- 'kistlaw11.DskPlays', WHERE WHAT IT READS IS OF BULK AT MOST 1048576: true; the input reads as it did. -/
def dskPlaysUptoRow : OpenClaim := { program := "ytajahgiijhjckaa", sum := "a3b0bb0b9a0ea9b2036d4dbb4d01e6ff03620149c5f421333b74d10d8b3cad41", func := "kist/kistlaw11.DskPlays", spec := "dskPlays", apart := false, narrowed := true }
def DskPlaysUptoSaid : Prop := dskPlaysUptoRow.holds Try.pinned (OpenSpec.upto dskPlaysSpec)

/-- 'kistlaw11.DskNone', WHERE WHAT IT READS IS OF BULK AT MOST 1048576: true; the input reads as it did. -/
def dskNoneUptoRow : OpenClaim := { program := "ytajahgiijhjckaa", sum := "a3b0bb0b9a0ea9b2036d4dbb4d01e6ff03620149c5f421333b74d10d8b3cad41", func := "kist/kistlaw11.DskNone", spec := "dskNone", apart := false, narrowed := true }
def DskNoneUptoSaid : Prop := dskNoneUptoRow.holds Try.pinned (OpenSpec.upto dskNoneSpec)

end Rows
end Go.Proofs.Ytajahgiijhjckaa
