/-
  kistlaw18.BlobSplits: its walk.
-/
import Derived.Test.YtmjhfgnonafknaaBlobUse
namespace Go.Proofs.Ytmjhfgnonafknaa
open Go.RowKit
set_option linter.unusedVariables false
set_option linter.unusedSimpArgs false

set_option maxRecDepth 100000 in
set_option maxHeartbeats 2000000 in
theorem blobSplits_walk (size : Int) (v : Value) (l : List UInt8) (w : World) (hs : (Lit.int .i64 size).wf = true) (h : RB w v l) (hl : l.length ≤ 140737488351232) :
    Calls Try.prog 3 #[.int .i64 size, v] w fun e w' => e = .returned (.bool true) ∧ Below w.heap.size w w' := by
  have HSh : Hid (Calls Try.prog 8 #[v, .int .i64 600] w fun e w' => ∃ d, e = .returned d ∧ RB w' d (l.take 600) ∧ Below w.heap.size w w') := (short_any v l 600 w h (by omega)).mono fun e w' ⟨d, h1, h2, h3⟩ => ⟨d, h1, RB.own h2, h3⟩
  have hdl : (l.take 600).length ≤ 140737488351232 := by rw [List.length_take]; omega
  obtain ⟨L, HL⟩ := hid_of (l.take 600)
  rw [HL.out] at HSh hdl
  have HSp : Hid (∀ wx d, RB wx d L → Calls Try.prog 13 #[d] wx fun e w' => ∃ v', e = .returned v' ∧ RT w' v' (Blob.split L) ∧ Below wx.heap.size wx w') := fun wx d hx => split_any d L wx hx hdl
  have HRs : Hid (∀ wx d, RB wx d L → Calls Try.prog 14 #[d] wx fun e w' => ∃ v', e = .returned v' ∧ RT w' v' (Blob.split L) ∧ Below wx.heap.size wx w') := fun wx d hx => refSplit_any d L wx hx
  have HSm : Hid (∀ wx a b, RT wx a (Blob.split L) → RT wx b (Blob.split L) → Calls Try.prog 12 #[a, b] wx fun e w' => e = .returned (.bool true) ∧ ∃ d, w' = wx.drewN d) := fun wx a b h1 h2 => by
    have := same_any a (Blob.split L) b (Blob.split L) wx h1 h2
    rw [decide_eq_true rfl] at this
    exact this
  obtain ⟨G, HGG⟩ := hid_of (Blob.gI size)
  have HG1 : Hid (∀ wx, Calls Try.prog 10 #[.int .i64 size] wx fun e w' => e = .returned (.int .i64 G) ∧ wx = w') := fun wx => by rw [← HGG.out]; exact bgroups_any size wx
  have HG2 : Hid (∀ wx, Calls Try.prog 11 #[.int .i64 size] wx fun e w' => e = .returned (.int .i64 G) ∧ wx = w') := fun wx => by rw [← HGG.out]; exact refGroups_any size wx
  clear h hl hdl
  go_enter Try.func3, Try.ntmps3
  go_wp2_with fail
  refine HSh.out.mono ?_
  rintro e w1 ⟨d, rfl, hr1, hb1⟩
  have HR1 := Lib.hid hr1
  have HB1 := Lib.hid hb1
  clear hr1 hb1
  go_wp2_with fail
  refine (awake18_any _).mono ?_
  rintro e w2 ⟨rfl, hb2⟩
  have HR2 := Lib.hid (HR1.out.below hb2 rfl)
  have HB2 := Lib.hid (HB1.out.trans (hb2.mono HB1.out.size))
  clear hb2
  go_wp2_with (first
    | ((with_reducible refine (HG1.out _).mono ?_); rintro e w' ⟨rfl, rfl⟩)
    | ((with_reducible refine (HG2.out _).mono ?_); rintro e w' ⟨rfl, rfl⟩)
    | ((with_reducible refine (HSp.out _ _ HR2.out).mono ?_)
       rintro e w3 ⟨v3, rfl, hr3, hb3⟩
       have HT3 := Lib.hid hr3
       have HR3 := Lib.hid (HR2.out.below hb3 rfl)
       have HB3 := Lib.hid (HB2.out.trans (hb3.mono HB2.out.size))
       clear hr3 hb3)
    | ((with_reducible refine (HRs.out _ _ HR3.out).mono ?_)
       rintro e w4 ⟨v4, rfl, hr4, hb4⟩
       have HT4 := Lib.hid hr4
       have HT5 := Lib.hid (HT3.out.below hb4 rfl)
       have HB4 := Lib.hid (HB3.out.trans (hb4.mono HB3.out.size))
       clear hr4 hb4)
    | ((with_reducible refine (HSm.out _ _ _ HT5.out HT4.out).mono ?_)
       rintro e w5 ⟨rfl, dd, rfl⟩))
  go_ret
  exact ⟨rfl, Below.drewN2 HB4.out _⟩
end Go.Proofs.Ytmjhfgnonafknaa
