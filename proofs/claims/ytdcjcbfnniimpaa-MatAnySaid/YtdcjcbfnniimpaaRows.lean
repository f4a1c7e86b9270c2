/-
  No cell of these rows narrows 'for every input' (looked for: loops, veiled, ifaces, maps, wideKeys, modest, calm, conditions, laid).
  DERIVED. THE GIVEN ROWS OF THIS SEAT. 6 by the template 'for every input the law returns true; each argument reads behind the call as it read before'; 0 by the template 'total and deterministic' (their statements: YtdcjcbfnniimpaaTotals.lean).
  GIVEN WITH THE SEED: the statements are not yours to turn. If you find one false, say at which input.
  Laid BY PROGRAM, IN A SANDBOX (cutbox-rows.mjs): the forced cells as the released guide's own fill.sh prints them over the translation 2477d037166b7b22… (all of the seat's roots in one cut). By AI agents, Wed Nov 11 2026. No macro, syntax, notation, axiom, sorry.
-/
import Derived.Test.YtdcjcbfnniimpaaChecked
import GoSem.Claim
import GoSem.ClaimJoined
import GoSem.ClaimMapViews
import Derived.JoinedTies
import Derived.KernelRfl
namespace Go.Proofs.Ytdcjcbfnniimpaa
/- THE CELL 'sum', in the pinned program and in every row, IS THE sha256 OF THE DUMP (.gsa) THAT YtdcjcbfnniimpaaProg.lean LOADS. Nothing in Lean hashes anything: it is a label: what it is worth is what the hold of that sum in a sandbox is worth. -/
noncomputable def Try.pinned : Pinned := { name := "ytdcjcbfnniimpaa", sum := "2477d037166b7b22484fdf58558c03131468ee254b532ebb5f486629774ea61d", checked := Try.checked }
namespace Rows
def none {H : Type} : Left H := { results := [], args := [] }

/-- 'kistlaw02.MatTimes': WHATEVER THE INPUT: true; the input reads as it did. -/
def matTimesSpec : ChangeSpec := { name := "matTimes", fn := fun _ => fun
  | [d1, d2] => { results := [.lit (.bool true)], args := [d1, d2] }
  | _ => none }
def matTimesRow : OpenClaim := { program := "ytdcjcbfnniimpaa", sum := "2477d037166b7b22484fdf58558c03131468ee254b532ebb5f486629774ea61d", func := "kist/kistlaw02.MatTimes", spec := "matTimes", apart := false }
def MatTimesSaid : Prop := matTimesRow.holds Try.pinned (OpenSpec.ofChange matTimesSpec)

/-- ITS FALSE NEIGHBOUR: 'it returns false'. Refute it at one input. -/
def matTimesWrong : ChangeSpec := { name := "matTimes", fn := fun _ => fun
  | [d1, d2] => { results := [.lit (.bool false)], args := [d1, d2] }
  | _ => none }
def MatTimesWrongFalsely : Prop := matTimesRow.holds Try.pinned (OpenSpec.ofChange matTimesWrong)

/-- 'kistlaw02.MatInverts': WHATEVER THE INPUT: true; the input reads as it did. -/
def matInvertsSpec : ChangeSpec := { name := "matInverts", fn := fun _ => fun
  | [d] => { results := [.lit (.bool true)], args := [d] }
  | _ => none }
def matInvertsRow : OpenClaim := { program := "ytdcjcbfnniimpaa", sum := "2477d037166b7b22484fdf58558c03131468ee254b532ebb5f486629774ea61d", func := "kist/kistlaw02.MatInverts", spec := "matInverts", apart := false }
def MatInvertsSaid : Prop := matInvertsRow.holds Try.pinned (OpenSpec.ofChange matInvertsSpec)

/-- ITS FALSE NEIGHBOUR: 'it returns false'. Refute it at one input. -/
def matInvertsWrong : ChangeSpec := { name := "matInverts", fn := fun _ => fun
  | [d] => { results := [.lit (.bool false)], args := [d] }
  | _ => none }
def MatInvertsWrongFalsely : Prop := matInvertsRow.holds Try.pinned (OpenSpec.ofChange matInvertsWrong)

/-- 'kistlaw02.MatCode': WHATEVER THE INPUT: true; the input reads as it did. -/
def matCodeSpec : ChangeSpec := { name := "matCode", fn := fun _ => fun
  | [d1, d2] => { results := [.lit (.bool true)], args := [d1, d2] }
  | _ => none }
def matCodeRow : OpenClaim := { program := "ytdcjcbfnniimpaa", sum := "2477d037166b7b22484fdf58558c03131468ee254b532ebb5f486629774ea61d", func := "kist/kistlaw02.MatCode", spec := "matCode", apart := false }
def MatCodeSaid : Prop := matCodeRow.holds Try.pinned (OpenSpec.ofChange matCodeSpec)

/-- ITS FALSE NEIGHBOUR: 'it returns false'. Refute it at one input. -/
def matCodeWrong : ChangeSpec := { name := "matCode", fn := fun _ => fun
  | [d1, d2] => { results := [.lit (.bool false)], args := [d1, d2] }
  | _ => none }
def MatCodeWrongFalsely : Prop := matCodeRow.holds Try.pinned (OpenSpec.ofChange matCodeWrong)

/-- 'kistlaw02.MatAny': WHATEVER THE INPUT: true; the input reads as it did. -/
def matAnySpec : ChangeSpec := { name := "matAny", fn := fun _ => fun
  | [d1, d2, d3, d4] => { results := [.lit (.bool true)], args := [d1, d2, d3, d4] }
  | _ => none }
def matAnyRow : OpenClaim := { program := "ytdcjcbfnniimpaa", sum := "2477d037166b7b22484fdf58558c03131468ee254b532ebb5f486629774ea61d", func := "kist/kistlaw02.MatAny", spec := "matAny", apart := false }
def MatAnySaid : Prop := matAnyRow.holds Try.pinned (OpenSpec.ofChange matAnySpec)

/-- ITS FALSE NEIGHBOUR: 'it returns false'. Refute it at one input. -/
def matAnyWrong : ChangeSpec := { name := "matAny", fn := fun _ => fun
  | [d1, d2, d3, d4] => { results := [.lit (.bool false)], args := [d1, d2, d3, d4] }
  | _ => none }
def MatAnyWrongFalsely : Prop := matAnyRow.holds Try.pinned (OpenSpec.ofChange matAnyWrong)

/-- 'kistlaw02.MatGroups': WHATEVER THE INPUT: true; the input reads as it did. -/
def matGroupsSpec : ChangeSpec := { name := "matGroups", fn := fun _ => fun
  | [d1, d2, d3] => { results := [.lit (.bool true)], args := [d1, d2, d3] }
  | _ => none }
def matGroupsRow : OpenClaim := { program := "ytdcjcbfnniimpaa", sum := "2477d037166b7b22484fdf58558c03131468ee254b532ebb5f486629774ea61d", func := "kist/kistlaw02.MatGroups", spec := "matGroups", apart := false }
def MatGroupsSaid : Prop := matGroupsRow.holds Try.pinned (OpenSpec.ofChange matGroupsSpec)

/-- ITS FALSE NEIGHBOUR: 'it returns false'. Refute it at one input. -/
def matGroupsWrong : ChangeSpec := { name := "matGroups", fn := fun _ => fun
  | [d1, d2, d3] => { results := [.lit (.bool false)], args := [d1, d2, d3] }
  | _ => none }
def MatGroupsWrongFalsely : Prop := matGroupsRow.holds Try.pinned (OpenSpec.ofChange matGroupsWrong)

/-- 'kistlaw02.MatBack': WHATEVER THE INPUT: true; the input reads as it did. -/
def matBackSpec : ChangeSpec := { name := "matBack", fn := fun _ => fun
  | [d1, d2] => { results := [.lit (.bool true)], args := [d1, d2] }
  | _ => none }
def matBackRow : OpenClaim := { program := "ytdcjcbfnniimpaa", sum := "2477d037166b7b22484fdf58558c03131468ee254b532ebb5f486629774ea61d", func := "kist/kistlaw02.MatBack", spec := "matBack", apart := false }
def MatBackSaid : Prop := matBackRow.holds Try.pinned (OpenSpec.ofChange matBackSpec)

/-- ITS FALSE NEIGHBOUR: 'it returns false'. Refute it at one input. -/
def matBackWrong : ChangeSpec := { name := "matBack", fn := fun _ => fun
  | [d1, d2] => { results := [.lit (.bool false)], args := [d1, d2] }
  | _ => none }
def MatBackWrongFalsely : Prop := matBackRow.holds Try.pinned (OpenSpec.ofChange matBackWrong)

/- THE SECOND FORM. 'bulk': how many values and letters a reading holds, each counted each time it is reached (what is shared counts as often as it is met; a slice's spare places count too). A statement '..UptoSaid' is the law's where the arguments, and the package variables that the reading takes, are together of bulk at most 1048576: NARROWER than '..Said'. Prove '..Said' where nothing that the law and all that it calls make is longer than what came in: it says more and counts as full. Else prove '..UptoSaid'. A law counts once. -/
mutual
def uptoBulk {H : Type} : DataW H → Nat
  | .lit (.string bytes) => bytes.length + 1
  | .lit _ => 1
  | .nil => 1
  | .ptr d => uptoBulk d + 1
  | .slice elems spare => uptoBulkAll elems + uptoBulkAll spare + 1
  | .agg parts => uptoBulkAll parts + 1
  | .iface _ d => uptoBulk d + 1
  | .map entries => uptoBulkEntries entries + 1
  | .held _ => 1
def uptoBulkAll {H : Type} : List (DataW H) → Nat
  | [] => 0
  | d :: r => uptoBulk d + uptoBulkAll r
def uptoBulkEntries {H : Type} : List (Lit × DataW H) → Nat
  | [] => 0
  | x :: r => uptoBulkEntry x + uptoBulkEntries r
def uptoBulkEntry {H : Type} : Lit × DataW H → Nat
  | (.string bytes, d) => bytes.length + uptoBulk d + 1
  | (_, d) => uptoBulk d + 1
 end
def uptoSmall : (H : Type) → List (DataW H) → Bool := fun _ ds => decide (uptoBulkAll ds ≤ 1048576)
def OpenSpec.upto (s : _root_.Go.ChangeSpec) : _root_.Go.OpenSpec := { _root_.Go.OpenSpec.ofChange s with cond := some uptoSmall }

/-- 'kistlaw02.MatTimes', WHERE WHAT IT READS IS OF BULK AT MOST 1048576: true; the input reads as it did. -/
def matTimesUptoRow : OpenClaim := { program := "ytdcjcbfnniimpaa", sum := "2477d037166b7b22484fdf58558c03131468ee254b532ebb5f486629774ea61d", func := "kist/kistlaw02.MatTimes", spec := "matTimes", apart := false, narrowed := true }
def MatTimesUptoSaid : Prop := matTimesUptoRow.holds Try.pinned (OpenSpec.upto matTimesSpec)

/-- 'kistlaw02.MatInverts', WHERE WHAT IT READS IS OF BULK AT MOST 1048576: true; the input reads as it did. -/
def matInvertsUptoRow : OpenClaim := { program := "ytdcjcbfnniimpaa", sum := "2477d037166b7b22484fdf58558c03131468ee254b532ebb5f486629774ea61d", func := "kist/kistlaw02.MatInverts", spec := "matInverts", apart := false, narrowed := true }
def MatInvertsUptoSaid : Prop := matInvertsUptoRow.holds Try.pinned (OpenSpec.upto matInvertsSpec)

/-- 'kistlaw02.MatCode', WHERE WHAT IT READS IS OF BULK AT MOST 1048576: true; the input reads as it did. -/
def matCodeUptoRow : OpenClaim := { program := "ytdcjcbfnniimpaa", sum := "2477d037166b7b22484fdf58558c03131468ee254b532ebb5f486629774ea61d", func := "kist/kistlaw02.MatCode", spec := "matCode", apart := false, narrowed := true }
def MatCodeUptoSaid : Prop := matCodeUptoRow.holds Try.pinned (OpenSpec.upto matCodeSpec)

/-- 'kistlaw02.MatAny', WHERE WHAT IT READS IS OF BULK AT MOST 1048576: true; the input reads as it did. -/
def matAnyUptoRow : OpenClaim := { program := "ytdcjcbfnniimpaa", sum := "2477d037166b7b22484fdf58558c03131468ee254b532ebb5f486629774ea61d", func := "kist/kistlaw02.MatAny", spec := "matAny", apart := false, narrowed := true }
def MatAnyUptoSaid : Prop := matAnyUptoRow.holds Try.pinned (OpenSpec.upto matAnySpec)

/-- 'kistlaw02.MatGroups', WHERE WHAT IT READS IS OF BULK AT MOST 1048576: true; the input reads as it did. -/
def matGroupsUptoRow : OpenClaim := { program := "ytdcjcbfnniimpaa", sum := "2477d037166b7b22484fdf58558c03131468ee254b532ebb5f486629774ea61d", func := "kist/kistlaw02.MatGroups", spec := "matGroups", apart := false, narrowed := true }
def MatGroupsUptoSaid : Prop := matGroupsUptoRow.holds Try.pinned (OpenSpec.upto matGroupsSpec)

/-- 'kistlaw02.MatBack', WHERE WHAT IT READS IS OF BULK AT MOST 1048576: true; the input reads as it did. -/
def matBackUptoRow : OpenClaim := { program := "ytdcjcbfnniimpaa", sum := "2477d037166b7b22484fdf58558c03131468ee254b532ebb5f486629774ea61d", func := "kist/kistlaw02.MatBack", spec := "matBack", apart := false, narrowed := true }
def MatBackUptoSaid : Prop := matBackUptoRow.holds Try.pinned (OpenSpec.upto matBackSpec)

end Rows
end Go.Proofs.Ytdcjcbfnniimpaa
