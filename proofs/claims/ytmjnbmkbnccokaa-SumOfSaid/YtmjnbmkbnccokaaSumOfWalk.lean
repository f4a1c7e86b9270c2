/-
  The walk of kistlaw04.SumOf.
-/
import Derived.Test.YtmjnbmkbnccokaaSumLaws
namespace Go.Proofs.Ytmjnbmkbnccokaa
open Go.RowKit
set_option linter.unusedVariables false

set_option maxHeartbeats 400000 in
theorem sumOf_walk (v : Value) (l : List UInt8) (w : World) (h : RB w v l) (hr : l.length ≤ 140737488351232) :
    Calls Try.prog 3 #[v] w fun e w' => e = .returned (.bool true) ∧ Below w.heap.size w w' := by
  go_enter Try.func3, Try.ntmps3
  go_wp2_with fail
  refine (short_any v l 2000 w h (by omega)).mono ?_
  rintro e w1 ⟨x, rfl, hown, hb⟩
  have hx := Lib.hid (RB.own hown)
  have hlen : (l.take 2000).length ≤ 2000 := List.length_take_le _ _
  clear hown
  go_wp2_with fail
  refine (awake_any w1).mono ?_
  rintro e w2 ⟨rfl, hb2⟩
  have hx2 := Lib.hid (hx.out.below hb2 rfl)
  go_wp2_with fail
  refine (of_any _ _ w2 hx2.out).mono ?_
  rintro e w' ⟨rfl, rfl⟩
  go_wp2_with fail
  refine (ref_any _ _ w2 hx2.out (by omega)).mono ?_
  rintro e w' ⟨rfl, rfl⟩
  go_wp2
  go_ret
  exact ⟨by simp, hb.trans (hb2.mono hb.size)⟩
end Go.Proofs.Ytmjnbmkbnccokaa
