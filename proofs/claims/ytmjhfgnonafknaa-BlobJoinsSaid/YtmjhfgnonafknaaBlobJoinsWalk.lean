/-
  kistlaw18.BlobJoins: its walk.
-/
import Derived.Test.YtmjhfgnonafknaaBlobUse
import Derived.Deep.RegionHeld
namespace Go.Proofs.Ytmjhfgnonafknaa
open Go.RowKit
set_option linter.unusedVariables false
set_option linter.unusedSimpArgs false

set_option maxRecDepth 100000 in
set_option maxHeartbeats 4000000 in
theorem blobJoins_walk (v : Value) (l : List (List UInt8)) (size : Int) (w : World) (h : RSl CB 1 w v l) (hs : (Lit.int .i64 size).wf = true) :
    Calls Try.prog 4 #[v, .int .i64 size] w fun e w' => e = .returned (.bool true) ∧ Below w.heap.size w w' := by
  have HT : Hid (RT w v l) := h
  obtain ⟨K, HK⟩ := hid_of (Blob.okB l size)
  obtain ⟨J, HJ⟩ := hid_of (Blob.join l size)
  obtain ⟨E, HE⟩ := hid_of (S J)
  have HJ1 : Hid (∀ wx, RT wx v l → Calls Try.prog 15 #[v, .int .i64 size] wx fun e w' => ∃ a n c, e = .returned (.tuple #[.slice a n c, .bool K]) ∧ RB w' (.slice a n c) J ∧ Below wx.heap.size wx w') := fun wx hx => by
    rw [← HK.out, ← HJ.out]; exact join_any v l size wx hx
  have HJ2 : Hid (∀ wx, RT wx v l → Calls Try.prog 16 #[v, .int .i64 size] wx fun e w' => ∃ a n c, e = .returned (.tuple #[.slice a n c, .bool K]) ∧ RB w' (.slice a n c) J ∧ Below wx.heap.size wx w') := fun wx hx => by
    rw [← HK.out, ← HJ.out]; exact refJoin_any v l size wx hx
  clear h hs
  go_enter Try.func4, Try.ntmps4
  go_wp2_with fail
  refine (HJ1.out _ HT.out).mono ?_
  rintro e w1 ⟨a1, n1, c1, rfl, hr1, hb1⟩
  have HR1 := Lib.hid hr1
  have HB1 := Lib.hid hb1
  have HT1 := Lib.hid (HT.out.below hb1 rfl)
  clear hr1 hb1
  go_wp2_with fail
  refine (HJ2.out _ HT1.out).mono ?_
  rintro e w2 ⟨a2, n2, c2, rfl, hr2, hb2⟩
  have HR2 := Lib.hid hr2
  have HR12 := Lib.hid (HR1.out.below hb2 rfl)
  have HB2 := Lib.hid (HB1.out.trans (hb2.mono HB1.out.size))
  clear hr2 hb2
  go_wp2_with fail
  refine (awake18_any _).mono ?_
  rintro e w3 ⟨rfl, hb3⟩
  have hc1 := run_convert_S (P := Try.prog) (HR12.out.below hb3 rfl) 22 9 5 Try.underlying22 Try.underlying5 Try.underlying9
  have hc2 := run_convert_S (P := Try.prog) (HR2.out.below hb3 rfl) 22 9 5 Try.underlying22 Try.underlying5 Try.underlying9
  have HB3 := Lib.hid (HB2.out.trans (hb3.mono HB2.out.size))
  clear hb3
  rw [HE.out] at hc1 hc2
  go_wp2
  go_ret
  exact ⟨rfl, HB3.out⟩
end Go.Proofs.Ytmjhfgnonafknaa
