/-
  No cell of these rows narrows 'for every input' (looked for: loops, veiled, ifaces, maps, wideKeys, modest, calm, conditions, laid).
  DERIVED. THE GIVEN ROWS OF THIS SEAT. 5 by the template 'for every input the law returns true; each argument reads behind the call as it read before'; 0 by the template 'total and deterministic' (their statements: YtmjnbmkbnccokaaTotals.lean).
  GIVEN WITH THE SEED: the statements are not yours to turn. If you find one false, say at which input.
  Laid BY PROGRAM, IN A SANDBOX (cutbox-rows.mjs): the forced cells as the released guide's own fill.sh prints them over the translation 9b5ddd0d5987611c… (all of the seat's roots in one cut). By AI agents, Wed Nov 11 2026. No macro, syntax, notation, axiom, sorry.
-/
import Derived.Test.YtmjnbmkbnccokaaChecked
import GoSem.Claim
import GoSem.ClaimJoined
import GoSem.ClaimMapViews
import Derived.JoinedTies
import Derived.KernelRfl
namespace Go.Proofs.Ytmjnbmkbnccokaa
/- THE CELL 'sum', in the pinned program and in every row, IS THE sha256 OF THE DUMP (.gsa) THAT YtmjnbmkbnccokaaProg.lean LOADS. Nothing in Lean hashes anything: it is a label: what it is worth is what the hold of that sum in a sandbox is worth. -/
noncomputable def Try.pinned : Pinned := { name := "ytmjnbmkbnccokaa", sum := "9b5ddd0d5987611c30e0fffd68520d66db324375c63e64d03a809ea5e5061b6b", checked := Try.checked }
namespace Rows
def none {H : Type} : Left H := { results := [], args := [] }

/-- 'kistlaw04.SumOf': WHATEVER THE INPUT: true; the input reads as it did. -/
def sumOfSpec : ChangeSpec := { name := "sumOf", fn := fun _ => fun
  | [d] => { results := [.lit (.bool true)], args := [d] }
  | _ => none }
def sumOfRow : OpenClaim := { program := "ytmjnbmkbnccokaa", sum := "9b5ddd0d5987611c30e0fffd68520d66db324375c63e64d03a809ea5e5061b6b", func := "kist/kistlaw04.SumOf", spec := "sumOf", apart := false }
def SumOfSaid : Prop := sumOfRow.holds Try.pinned (OpenSpec.ofChange sumOfSpec)

/-- ITS FALSE NEIGHBOUR: 'it returns false'. Refute it at one input. -/
def sumOfWrong : ChangeSpec := { name := "sumOf", fn := fun _ => fun
  | [d] => { results := [.lit (.bool false)], args := [d] }
  | _ => none }
def SumOfWrongFalsely : Prop := sumOfRow.holds Try.pinned (OpenSpec.ofChange sumOfWrong)

/-- 'kistlaw04.SumBurst': WHATEVER THE INPUT: true; the input reads as it did. -/
def sumBurstSpec : ChangeSpec := { name := "sumBurst", fn := fun _ => fun
  | [d1, d2, d3] => { results := [.lit (.bool true)], args := [d1, d2, d3] }
  | _ => none }
def sumBurstRow : OpenClaim := { program := "ytmjnbmkbnccokaa", sum := "9b5ddd0d5987611c30e0fffd68520d66db324375c63e64d03a809ea5e5061b6b", func := "kist/kistlaw04.SumBurst", spec := "sumBurst", apart := false }
def SumBurstSaid : Prop := sumBurstRow.holds Try.pinned (OpenSpec.ofChange sumBurstSpec)

/-- ITS FALSE NEIGHBOUR: 'it returns false'. Refute it at one input. -/
def sumBurstWrong : ChangeSpec := { name := "sumBurst", fn := fun _ => fun
  | [d1, d2, d3] => { results := [.lit (.bool false)], args := [d1, d2, d3] }
  | _ => none }
def SumBurstWrongFalsely : Prop := sumBurstRow.holds Try.pinned (OpenSpec.ofChange sumBurstWrong)

/-- 'kistlaw04.SumThree': WHATEVER THE INPUT: true; the input reads as it did. -/
def sumThreeSpec : ChangeSpec := { name := "sumThree", fn := fun _ => fun
  | [d1, d2, d3] => { results := [.lit (.bool true)], args := [d1, d2, d3] }
  | _ => none }
def sumThreeRow : OpenClaim := { program := "ytmjnbmkbnccokaa", sum := "9b5ddd0d5987611c30e0fffd68520d66db324375c63e64d03a809ea5e5061b6b", func := "kist/kistlaw04.SumThree", spec := "sumThree", apart := false }
def SumThreeSaid : Prop := sumThreeRow.holds Try.pinned (OpenSpec.ofChange sumThreeSpec)

/-- ITS FALSE NEIGHBOUR: 'it returns false'. Refute it at one input. -/
def sumThreeWrong : ChangeSpec := { name := "sumThree", fn := fun _ => fun
  | [d1, d2, d3] => { results := [.lit (.bool false)], args := [d1, d2, d3] }
  | _ => none }
def SumThreeWrongFalsely : Prop := sumThreeRow.holds Try.pinned (OpenSpec.ofChange sumThreeWrong)

/-- 'kistlaw04.SumSealed': WHATEVER THE INPUT: true; the input reads as it did. -/
def sumSealedSpec : ChangeSpec := { name := "sumSealed", fn := fun _ => fun
  | [d1, d2, d3, d4] => { results := [.lit (.bool true)], args := [d1, d2, d3, d4] }
  | _ => none }
def sumSealedRow : OpenClaim := { program := "ytmjnbmkbnccokaa", sum := "9b5ddd0d5987611c30e0fffd68520d66db324375c63e64d03a809ea5e5061b6b", func := "kist/kistlaw04.SumSealed", spec := "sumSealed", apart := false }
def SumSealedSaid : Prop := sumSealedRow.holds Try.pinned (OpenSpec.ofChange sumSealedSpec)

/-- ITS FALSE NEIGHBOUR: 'it returns false'. Refute it at one input. -/
def sumSealedWrong : ChangeSpec := { name := "sumSealed", fn := fun _ => fun
  | [d1, d2, d3, d4] => { results := [.lit (.bool false)], args := [d1, d2, d3, d4] }
  | _ => none }
def SumSealedWrongFalsely : Prop := sumSealedRow.holds Try.pinned (OpenSpec.ofChange sumSealedWrong)

/-- 'kistlaw04.SumOne': WHATEVER THE INPUT: true; the input reads as it did. -/
def sumOneSpec : ChangeSpec := { name := "sumOne", fn := fun _ => fun
  | [d1, d2, d3, d4] => { results := [.lit (.bool true)], args := [d1, d2, d3, d4] }
  | _ => none }
def sumOneRow : OpenClaim := { program := "ytmjnbmkbnccokaa", sum := "9b5ddd0d5987611c30e0fffd68520d66db324375c63e64d03a809ea5e5061b6b", func := "kist/kistlaw04.SumOne", spec := "sumOne", apart := false }
def SumOneSaid : Prop := sumOneRow.holds Try.pinned (OpenSpec.ofChange sumOneSpec)

/-- ITS FALSE NEIGHBOUR: 'it returns false'. Refute it at one input. -/
def sumOneWrong : ChangeSpec := { name := "sumOne", fn := fun _ => fun
  | [d1, d2, d3, d4] => { results := [.lit (.bool false)], args := [d1, d2, d3, d4] }
  | _ => none }
def SumOneWrongFalsely : Prop := sumOneRow.holds Try.pinned (OpenSpec.ofChange sumOneWrong)

/- THE SECOND FORM. 'bulk': how many values and letters a reading holds, each counted each time it is reached (what is shared counts as often as it is met; a slice's spare places count too). A statement '..UptoSaid' is the law's where the arguments, and the package variables that the reading takes, are together of bulk at most 1048576: NARROWER than '..Said'. Prove '..Said' where nothing that the law and all that it calls make is longer than what came in: it says more and counts as full. Else prove '..UptoSaid'. A law counts once. -/
mutual
def uptoBulk {H : Type} : DataW H → Nat
  | .lit (.string bytes) => bytes.length + 1
  | .lit _ => 1
  | .nil => 1
  | .ptr d => uptoBulk d + 1
  | .slice elems spare => uptoBulkAll elems + uptoBulkAll spare + 1
  | .agg parts => uptoBulkAll parts + 1
  | .iface _ d => uptoBulk d + 1
  | .map entries => uptoBulkEntries entries + 1
  | .held _ => 1
def uptoBulkAll {H : Type} : List (DataW H) → Nat
  | [] => 0
  | d :: r => uptoBulk d + uptoBulkAll r
def uptoBulkEntries {H : Type} : List (Lit × DataW H) → Nat
  | [] => 0
  | x :: r => uptoBulkEntry x + uptoBulkEntries r
def uptoBulkEntry {H : Type} : Lit × DataW H → Nat
  | (.string bytes, d) => bytes.length + uptoBulk d + 1
  | (_, d) => uptoBulk d + 1
 end
def uptoSmall : (H : Type) → List (DataW H) → Bool := fun _ ds => decide (uptoBulkAll ds ≤ 1048576)
def OpenSpec.upto (s : _root_.Go.ChangeSpec) : _root_.Go.OpenSpec := { _root_.Go.OpenSpec.ofChange s with cond := some uptoSmall }

/-- 'kistlaw04.SumOf', WHERE WHAT IT READS IS OF BULK AT MOST 1048576: true; the input reads as it did. -/
def sumOfUptoRow : OpenClaim := { program := "ytmjnbmkbnccokaa", sum := "9b5ddd0d5987611c30e0fffd68520d66db324375c63e64d03a809ea5e5061b6b", func := "kist/kistlaw04.SumOf", spec := "sumOf", apart := false, narrowed := true }
def SumOfUptoSaid : Prop := sumOfUptoRow.holds Try.pinned (OpenSpec.upto sumOfSpec)

/-- 'kistlaw04.SumBurst', WHERE WHAT IT READS IS OF BULK AT MOST 1048576: true; the input reads as it did. -/
def sumBurstUptoRow : OpenClaim := { program := "ytmjnbmkbnccokaa", sum := "9b5ddd0d5987611c30e0fffd68520d66db324375c63e64d03a809ea5e5061b6b", func := "kist/kistlaw04.SumBurst", spec := "sumBurst", apart := false, narrowed := true }
def SumBurstUptoSaid : Prop := sumBurstUptoRow.holds Try.pinned (OpenSpec.upto sumBurstSpec)

/-- 'kistlaw04.SumThree', WHERE WHAT IT READS IS OF BULK AT MOST 1048576: true; the input reads as it did. -/
def sumThreeUptoRow : OpenClaim := { program := "ytmjnbmkbnccokaa", sum := "9b5ddd0d5987611c30e0fffd68520d66db324375c63e64d03a809ea5e5061b6b", func := "kist/kistlaw04.SumThree", spec := "sumThree", apart := false, narrowed := true }
def SumThreeUptoSaid : Prop := sumThreeUptoRow.holds Try.pinned (OpenSpec.upto sumThreeSpec)

/-- 'kistlaw04.SumSealed', WHERE WHAT IT READS IS OF BULK AT MOST 1048576: true; the input reads as it did. -/
def sumSealedUptoRow : OpenClaim := { program := "ytmjnbmkbnccokaa", sum := "9b5ddd0d5987611c30e0fffd68520d66db324375c63e64d03a809ea5e5061b6b", func := "kist/kistlaw04.SumSealed", spec := "sumSealed", apart := false, narrowed := true }
def SumSealedUptoSaid : Prop := sumSealedUptoRow.holds Try.pinned (OpenSpec.upto sumSealedSpec)

/-- 'kistlaw04.SumOne', WHERE WHAT IT READS IS OF BULK AT MOST 1048576: true; the input reads as it did. -/
def sumOneUptoRow : OpenClaim := { program := "ytmjnbmkbnccokaa", sum := "9b5ddd0d5987611c30e0fffd68520d66db324375c63e64d03a809ea5e5061b6b", func := "kist/kistlaw04.SumOne", spec := "sumOne", apart := false, narrowed := true }
def SumOneUptoSaid : Prop := sumOneUptoRow.holds Try.pinned (OpenSpec.upto sumOneSpec)

end Rows
end Go.Proofs.Ytmjnbmkbnccokaa
