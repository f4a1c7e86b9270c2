/-
  No cell of these rows narrows 'for every input' (looked for: loops, veiled, ifaces, maps, wideKeys, modest, calm, conditions, laid).
  DERIVED. THE GIVEN ROWS OF THIS SEAT. 6 by the template 'for every input the law returns true; each argument reads behind the call as it read before'; 0 by the template 'total and deterministic' (their statements: YtpihnlfnolgldaaTotals.lean).
  GIVEN WITH THE SEED: the statements are not yours to turn. If you find one false, say at which input.
  Laid BY PROGRAM, IN A SANDBOX (cutbox-rows.mjs): the forced cells as the released guide's own fill.sh prints them over the translation 8e699db20e7d1a7b… (all of the seat's roots in one cut). By AI agents, Wed Nov 11 2026. No macro, syntax, notation, axiom, sorry.
-/
import Derived.Test.YtpihnlfnolgldaaChecked
import GoSem.Claim
import GoSem.ClaimJoined
import GoSem.ClaimMapViews
import Derived.JoinedTies
import Derived.KernelRfl
namespace Go.Proofs.Ytpihnlfnolgldaa
/- THE CELL 'sum', in the pinned program and in every row, IS THE sha256 OF THE DUMP (.gsa) THAT YtpihnlfnolgldaaProg.lean LOADS. Nothing in Lean hashes anything: it is a label: what it is worth is what the hold of that sum in a sandbox is worth. -/
noncomputable def Try.pinned : Pinned := { name := "ytpihnlfnolgldaa", sum := "8e699db20e7d1a7ba338aa796747690656c9127ca90e40c4a214d19fd6d939c9", checked := Try.checked }
namespace Rows
def none {H : Type} : Left H := { results := [], args := [] }

/-- 'kistlaw06.WordPuts': WHATEVER THE INPUT: true; the input reads as it did. -/
def wordPutsSpec : ChangeSpec := { name := "wordPuts", fn := fun _ => fun
  | [d1, d2, d3] => { results := [.lit (.bool true)], args := [d1, d2, d3] }
  | _ => none }
def wordPutsRow : OpenClaim := { program := "ytpihnlfnolgldaa", sum := "8e699db20e7d1a7ba338aa796747690656c9127ca90e40c4a214d19fd6d939c9", func := "kist/kistlaw06.WordPuts", spec := "wordPuts", apart := false }
def WordPutsSaid : Prop := wordPutsRow.holds Try.pinned (OpenSpec.ofChange wordPutsSpec)

/-- ITS FALSE NEIGHBOUR: 'it returns false'. Refute it at one input. -/
def wordPutsWrong : ChangeSpec := { name := "wordPuts", fn := fun _ => fun
  | [d1, d2, d3] => { results := [.lit (.bool false)], args := [d1, d2, d3] }
  | _ => none }
def WordPutsWrongFalsely : Prop := wordPutsRow.holds Try.pinned (OpenSpec.ofChange wordPutsWrong)

/-- 'kistlaw06.WordGets': WHATEVER THE INPUT: true; the input reads as it did. -/
def wordGetsSpec : ChangeSpec := { name := "wordGets", fn := fun _ => fun
  | [d1, d2] => { results := [.lit (.bool true)], args := [d1, d2] }
  | _ => none }
def wordGetsRow : OpenClaim := { program := "ytpihnlfnolgldaa", sum := "8e699db20e7d1a7ba338aa796747690656c9127ca90e40c4a214d19fd6d939c9", func := "kist/kistlaw06.WordGets", spec := "wordGets", apart := false }
def WordGetsSaid : Prop := wordGetsRow.holds Try.pinned (OpenSpec.ofChange wordGetsSpec)

/-- ITS FALSE NEIGHBOUR: 'it returns false'. Refute it at one input. -/
def wordGetsWrong : ChangeSpec := { name := "wordGets", fn := fun _ => fun
  | [d1, d2] => { results := [.lit (.bool false)], args := [d1, d2] }
  | _ => none }
def WordGetsWrongFalsely : Prop := wordGetsRow.holds Try.pinned (OpenSpec.ofChange wordGetsWrong)

/-- 'kistlaw06.WordBack': WHATEVER THE INPUT: true; the input reads as it did. -/
def wordBackSpec : ChangeSpec := { name := "wordBack", fn := fun _ => fun
  | [d1, d2] => { results := [.lit (.bool true)], args := [d1, d2] }
  | _ => none }
def wordBackRow : OpenClaim := { program := "ytpihnlfnolgldaa", sum := "8e699db20e7d1a7ba338aa796747690656c9127ca90e40c4a214d19fd6d939c9", func := "kist/kistlaw06.WordBack", spec := "wordBack", apart := false }
def WordBackSaid : Prop := wordBackRow.holds Try.pinned (OpenSpec.ofChange wordBackSpec)

/-- ITS FALSE NEIGHBOUR: 'it returns false'. Refute it at one input. -/
def wordBackWrong : ChangeSpec := { name := "wordBack", fn := fun _ => fun
  | [d1, d2] => { results := [.lit (.bool false)], args := [d1, d2] }
  | _ => none }
def WordBackWrongFalsely : Prop := wordBackRow.holds Try.pinned (OpenSpec.ofChange wordBackWrong)

/-- 'kistlaw06.WordShort': WHATEVER THE INPUT: true; the input reads as it did. -/
def wordShortSpec : ChangeSpec := { name := "wordShort", fn := fun _ => fun
  | [d1, d2] => { results := [.lit (.bool true)], args := [d1, d2] }
  | _ => none }
def wordShortRow : OpenClaim := { program := "ytpihnlfnolgldaa", sum := "8e699db20e7d1a7ba338aa796747690656c9127ca90e40c4a214d19fd6d939c9", func := "kist/kistlaw06.WordShort", spec := "wordShort", apart := false }
def WordShortSaid : Prop := wordShortRow.holds Try.pinned (OpenSpec.ofChange wordShortSpec)

/-- ITS FALSE NEIGHBOUR: 'it returns false'. Refute it at one input. -/
def wordShortWrong : ChangeSpec := { name := "wordShort", fn := fun _ => fun
  | [d1, d2] => { results := [.lit (.bool false)], args := [d1, d2] }
  | _ => none }
def WordShortWrongFalsely : Prop := wordShortRow.holds Try.pinned (OpenSpec.ofChange wordShortWrong)

/-- 'kistlaw06.WordNone': WHATEVER THE INPUT: true; the input reads as it did. -/
def wordNoneSpec : ChangeSpec := { name := "wordNone", fn := fun _ => fun
  | [d1, d2, d3] => { results := [.lit (.bool true)], args := [d1, d2, d3] }
  | _ => none }
def wordNoneRow : OpenClaim := { program := "ytpihnlfnolgldaa", sum := "8e699db20e7d1a7ba338aa796747690656c9127ca90e40c4a214d19fd6d939c9", func := "kist/kistlaw06.WordNone", spec := "wordNone", apart := false }
def WordNoneSaid : Prop := wordNoneRow.holds Try.pinned (OpenSpec.ofChange wordNoneSpec)

/-- ITS FALSE NEIGHBOUR: 'it returns false'. Refute it at one input. -/
def wordNoneWrong : ChangeSpec := { name := "wordNone", fn := fun _ => fun
  | [d1, d2, d3] => { results := [.lit (.bool false)], args := [d1, d2, d3] }
  | _ => none }
def WordNoneWrongFalsely : Prop := wordNoneRow.holds Try.pinned (OpenSpec.ofChange wordNoneWrong)

/-- 'kistlaw06.WordOwn': WHATEVER THE INPUT: true; the input reads as it did. -/
def wordOwnSpec : ChangeSpec := { name := "wordOwn", fn := fun _ => fun
  | [d1, d2, d3] => { results := [.lit (.bool true)], args := [d1, d2, d3] }
  | _ => none }
def wordOwnRow : OpenClaim := { program := "ytpihnlfnolgldaa", sum := "8e699db20e7d1a7ba338aa796747690656c9127ca90e40c4a214d19fd6d939c9", func := "kist/kistlaw06.WordOwn", spec := "wordOwn", apart := false }
def WordOwnSaid : Prop := wordOwnRow.holds Try.pinned (OpenSpec.ofChange wordOwnSpec)

/-- ITS FALSE NEIGHBOUR: 'it returns false'. Refute it at one input. -/
def wordOwnWrong : ChangeSpec := { name := "wordOwn", fn := fun _ => fun
  | [d1, d2, d3] => { results := [.lit (.bool false)], args := [d1, d2, d3] }
  | _ => none }
def WordOwnWrongFalsely : Prop := wordOwnRow.holds Try.pinned (OpenSpec.ofChange wordOwnWrong)

/- THE SECOND FORM. 'bulk': how many values and letters a reading holds, each counted each time it is reached (what is shared counts as often as it is met; a slice's spare places count too). A statement '..UptoSaid' is the law's where the arguments, and the package variables that the reading takes, are together of bulk at most 1048576: NARROWER than '..Said'. Prove '..Said' where nothing that the law and all that it calls make is longer than what came in: it says more and counts as full. Else prove '..UptoSaid'. A law counts once. -/
mutual
def uptoBulk {H : Type} : DataW H → Nat
  | .lit (.string bytes) => bytes.length + 1
  | .lit _ => 1
  | .nil => 1
  | .ptr d => uptoBulk d + 1
  | .slice elems spare => uptoBulkAll elems + uptoBulkAll spare + 1
  | .agg parts => uptoBulkAll parts + 1
  | .iface _ d => uptoBulk d + 1
  | .map entries => uptoBulkEntries entries + 1
  | .held _ => 1
def uptoBulkAll {H : Type} : List (DataW H) → Nat
  | [] => 0
  | d :: r => uptoBulk d + uptoBulkAll r
def uptoBulkEntries {H : Type} : List (Lit × DataW H) → Nat
  | [] => 0
  | x :: r => uptoBulkEntry x + uptoBulkEntries r
def uptoBulkEntry {H : Type} : Lit × DataW H → Nat
  | (.string bytes, d) => bytes.length + uptoBulk d + 1
  | (_, d) => uptoBulk d + 1
 end
def uptoSmall : (H : Type) → List (DataW H) → Bool := fun _ ds => decide (uptoBulkAll ds ≤ 1048576)
def OpenSpec.upto (s : _root_.Go.ChangeSpec) : _root_.Go.OpenSpec := { _root_.Go.OpenSpec.ofChange s with cond := some uptoSmall }

/-- 'kistlaw06.WordPuts', WHERE WHAT IT READS IS OF BULK AT MOST 1048576: true; the input reads as it did. -/
def wordPutsUptoRow : OpenClaim := { program := "ytpihnlfnolgldaa", sum := "8e699db20e7d1a7ba338aa796747690656c9127ca90e40c4a214d19fd6d939c9", func := "kist/kistlaw06.WordPuts", spec := "wordPuts", apart := false, narrowed := true }
def WordPutsUptoSaid : Prop := wordPutsUptoRow.holds Try.pinned (OpenSpec.upto wordPutsSpec)

/-- 'kistlaw06.WordGets', WHERE WHAT IT READS IS OF BULK AT MOST 1048576: true; the input reads as it did. -/
def wordGetsUptoRow : OpenClaim := { program := "ytpihnlfnolgldaa", sum := "8e699db20e7d1a7ba338aa796747690656c9127ca90e40c4a214d19fd6d939c9", func := "kist/kistlaw06.WordGets", spec := "wordGets", apart := false, narrowed := true }
def WordGetsUptoSaid : Prop := wordGetsUptoRow.holds Try.pinned (OpenSpec.upto wordGetsSpec)

/-- 'kistlaw06.WordBack', WHERE WHAT IT READS IS OF BULK AT MOST 1048576: true; the input reads as it did. -/
def wordBackUptoRow : OpenClaim := { program := "ytpihnlfnolgldaa", sum := "8e699db20e7d1a7ba338aa796747690656c9127ca90e40c4a214d19fd6d939c9", func := "kist/kistlaw06.WordBack", spec := "wordBack", apart := false, narrowed := true }
def WordBackUptoSaid : Prop := wordBackUptoRow.holds Try.pinned (OpenSpec.upto wordBackSpec)

/-- 'kistlaw06.WordShort', WHERE WHAT IT READS IS OF BULK AT MOST 1048576: true; the input reads as it did. -/
def wordShortUptoRow : OpenClaim := { program := "ytpihnlfnolgldaa", sum := "8e699db20e7d1a7ba338aa796747690656c9127ca90e40c4a214d19fd6d939c9", func := "kist/kistlaw06.WordShort", spec := "wordShort", apart := false, narrowed := true }
def WordShortUptoSaid : Prop := wordShortUptoRow.holds Try.pinned (OpenSpec.upto wordShortSpec)

/-- 'kistlaw06.WordNone', WHERE WHAT IT READS IS OF BULK AT MOST 1048576: true; the input reads as it did. -/
def wordNoneUptoRow : OpenClaim := { program := "ytpihnlfnolgldaa", sum := "8e699db20e7d1a7ba338aa796747690656c9127ca90e40c4a214d19fd6d939c9", func := "kist/kistlaw06.WordNone", spec := "wordNone", apart := false, narrowed := true }
def WordNoneUptoSaid : Prop := wordNoneUptoRow.holds Try.pinned (OpenSpec.upto wordNoneSpec)

/-- 'kistlaw06.WordOwn', WHERE WHAT IT READS IS OF BULK AT MOST 1048576: true; the input reads as it did. -/
def wordOwnUptoRow : OpenClaim := { program := "ytpihnlfnolgldaa", sum := "8e699db20e7d1a7ba338aa796747690656c9127ca90e40c4a214d19fd6d939c9", func := "kist/kistlaw06.WordOwn", spec := "wordOwn", apart := false, narrowed := true }
def WordOwnUptoSaid : Prop := wordOwnUptoRow.holds Try.pinned (OpenSpec.upto wordOwnSpec)

end Rows
end Go.Proofs.Ytpihnlfnolgldaa
