/-
  kist/dig.begin, rest: the fixed numbers.
-/
import Derived.Test.YtfcgmomankkmpaaDigTurn
import Derived.Laws.Rows
namespace Go.Proofs.Ytfcgmomankkmpaa
open Go.RowKit
set_option linter.unusedVariables false

def iv : List UInt32 := [0x6a09e667, 0xbb67ae85, 0x3c6ef372, 0xa54ff53a, 0x510e527f, 0x9b05688c, 0x1f83d9ab, 0x5be0cd19]
/-- so many words as one value -/
def Ws (l : List UInt32) : Value := .agg (l.map W).toArray
theorem begin_any (w : World) : Calls Try.prog 10 #[] w fun e w' => e = .returned (Ws iv) ∧ Below w.heap.size w w' := by
  go_enter Try.func10, Try.ntmps10
  go_wp2
  refine bodyPost_ret (results_cell_row rfl _ _ w.heap.size 30 _ (0, 0) _ rfl (heap_alloc_new w _) Try.underlying30 rfl (by kernel_rfl)) rfl ?_
  exact ⟨rfl, (Below.refl _ _).alloc (Nat.le_refl _) _⟩
end Go.Proofs.Ytfcgmomankkmpaa
