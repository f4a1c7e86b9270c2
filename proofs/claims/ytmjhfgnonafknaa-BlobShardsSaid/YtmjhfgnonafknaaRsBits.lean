/-
  Plain: the shards that a number's bits leave out.
-/
import Derived.Test.YtmjhfgnonafknaaRsPlain

namespace Go.Proofs.Ytmjhfgnonafknaa
open Go.RowKit
set_option linter.unusedVariables false

/-- is shard i to lack? -/
def bitL (a : Int) (i : Nat) : Bool := bits .and .u16 (a / 2 ^ i) 1 == 1
/-- how many lack before i -/
def lackN (a : Int) (i : Nat) : Nat := ((List.range i).filter fun i => bitL a i).length
theorem lackN_succ (a : Int) (i : Nat) : lackN a (i + 1) = if bitL a i then lackN a i + 1 else lackN a i := by
  unfold lackN
  rw [List.range_succ, List.filter_append]
  by_cases h : bitL a i <;> simp [h]
theorem lackN_le (a : Int) (i : Nat) : lackN a i ≤ i := by
  unfold lackN
  exact Nat.le_trans (List.length_filter_le _ _) (by simp)
theorem lackN_not (a : Int) : ((List.range 10).filter fun i => !bitL a i).length + lackN a 10 = 10 := by
  have := two_parts (List.range 10) (fun i => bitL a i)
  simp only [List.length_range] at this
  unfold lackN
  omega
/-- the first i of lackT -/
def lackTo (d : List UInt8) (a : Int) (i : Nat) : List (List UInt8) := (List.range i).map fun i => if bitL a i then [] else line 16 (encF d i)
theorem lackTo_succ (d : List UInt8) (a : Int) (i : Nat) : lackTo d a (i + 1) = lackTo d a i ++ [if bitL a i then [] else line 16 (encF d i)] := by
  simp [lackTo, List.range_succ]
theorem lackTo_length (d : List UInt8) (a : Int) (i : Nat) : (lackTo d a i).length = i := by simp [lackTo]
theorem lackTo_ten (d : List UInt8) (a : Int) : lackTo d a 10 = lackT d (fun i => bitL a i) := rfl
end Go.Proofs.Ytmjhfgnonafknaa
