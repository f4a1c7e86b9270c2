/-
  kistlaw09.LabelDecodes: its walk.
-/
import Derived.Test.YtlmfjohaejdmcaaLabRefDec
import Derived.Test.YtlmfjohaejdmcaaLabArg
namespace Go.Proofs.Ytlmfjohaejdmcaa
open Go.RowKit
set_option linter.unusedVariables false
set_option linter.unusedSimpArgs false

set_option maxRecDepth 100000 in
set_option maxHeartbeats 4000000 in
theorem labelDecodes_walk (v : Value) (b : List UInt8) (w : World) (hr : RB w v b) (hl : b.length ≤ 140737488351232) :
    Calls Try.prog 4 #[v] w fun e w' => e = .returned (.bool true) ∧ Below w.heap.size w w' := by
  have HEx : ∃ (R : Rc) (z : Int), Hid ((∀ wx, RB wx v b → Calls Try.prog 15 #[v] wx fun e w' => ∃ a n c, e = .returned (.tuple #[recV R (.slice a n c), .int .i64 z]) ∧ RB w' (.slice a n c) R.data ∧ Below wx.heap.size wx w') ∧ (∀ wx, RB wx v b → Calls Try.prog 16 #[v] wx fun e w' => ∃ a n c, e = .returned (.tuple #[recV R (.slice a n c), .int .i64 z]) ∧ RB w' (.slice a n c) R.data ∧ Below wx.heap.size wx w')) := by
    by_cases hk : Lab.RefOk b
    · refine ⟨(Lab.refP b).1, 0, fun wx hx => (dec_yes v (Lab.refP b).1 b wx hx hk.2.2.2.2.1 (Lab.ref_code hk)).mono ?_, fun wx hx => (rdecode_any v b wx hx (by omega)).mono ?_⟩
      · rintro e w' ⟨a, c, h1, h2, _, h3⟩
        exact ⟨a, _, c, h1, h2.1, h3⟩
      · rintro e w' ⟨⟨_, d, h1, h2, _⟩ | ⟨h, _⟩, h3⟩
        · obtain ⟨a, c, rfl, _, _⟩ := h2.shape
          exact ⟨a, _, c, h1, h2, h3⟩
        · exact absurd hk h
    · refine ⟨Rc.zero, 12, fun wx hx => (dec_no v b wx hx (Lab.ref_none hk)).mono ?_, fun wx hx => (rdecode_any v b wx hx (by omega)).mono ?_⟩
      · rintro e w' ⟨h1, h2⟩
        exact ⟨none, 0, 0, h1, RB.nil _, h2⟩
      · rintro e w' ⟨⟨h, _⟩ | ⟨_, h1⟩, h3⟩
        · exact absurd h hk
        · exact ⟨none, 0, 0, h1, RB.nil _, h3⟩
  obtain ⟨R, z, HEE⟩ := HEx
  have HE1 := Lib.hid HEE.out.1
  have HE2 := Lib.hid HEE.out.2
  have HSm : Hid (∀ wx d d', RB wx d R.data → RB wx d' R.data → Calls Try.prog 17 #[recV R d, recV R d'] wx fun e w' => e = .returned (.bool true) ∧ Below wx.heap.size wx w') := fun wx d d' h1 h2 => by
    have := refSame_any R R d d' wx h1 h2
    rw [decide_eq_true rfl] at this
    exact this
  have H := Lib.hid hr
  clear hr hl HEE
  unfold recV at HE1 HE2 HSm
  go_enter Try.func4, Try.ntmps4
  go_wp2_with fail
  refine (HE1.out _ H.out).mono ?_
  rintro e w1 ⟨a1, n1, c1, rfl, hr1, hb1⟩
  have HV1 := Lib.hid (hr1.one (.cells (recC R (.slice a1 n1 c1)) 24))
  have HH1 := Lib.hid ((H.out.below hb1 rfl).one (.cells (recC R (.slice a1 n1 c1)) 24))
  have HP1 : Hid (Blk (w1.alloc (.cells (recC R (.slice a1 n1 c1)) 24)) w1.heap.size (recC R (.slice a1 n1 c1)).toList 24) := Blk.new w1 _ _ rfl
  have HB1 := Lib.hid (hb1.alloc hb1.size (.cells (recC R (.slice a1 n1 c1)) 24))
  clear hr1 hb1
  go_wp2_with fail
  refine (HE2.out _ HH1.out).mono ?_
  rintro e w2 ⟨a2, n2, c2, rfl, hr2, hb2⟩
  have HV2 := Lib.hid (hr2.one (.cells (recC R (.slice a2 n2 c2)) 24))
  have HV1b := Lib.hid ((HV1.out.below hb2 rfl).one (.cells (recC R (.slice a2 n2 c2)) 24))
  have HP2 : Hid (Blk (w2.alloc (.cells (recC R (.slice a2 n2 c2)) 24)) w2.heap.size (recC R (.slice a2 n2 c2)).toList 24) := Blk.new w2 _ _ rfl
  have HP1b := Lib.hid ((HP1.out.below hb2 HP1.out.lt).alloc (.cells (recC R (.slice a2 n2 c2)) 24))
  have hB2 := HB1.out.trans (hb2.mono HB1.out.size)
  have HB2 := Lib.hid (hB2.alloc hB2.size (.cells (recC R (.slice a2 n2 c2)) 24))
  clear hr2 hb2 hB2 HP1 HV1 HH1
  go_wp2_with fail
  refine (awake9_any _).mono ?_
  rintro e w3 ⟨rfl, hb3⟩
  have hp1 := HP1b.out.below hb3 HP1b.out.lt
  have hp2 := HP2.out.below hb3 HP2.out.lt
  obtain ⟨p0, p1, p2, p3, p4, p5, p6, p7, p8, p9⟩ := rec_cells hp1
  obtain ⟨q0, q1, q2, q3, q4, q5, q6, q7, q8, q9⟩ := rec_cells hp2
  have HA := Lib.hid (HV1b.out.below hb3 rfl)
  have HC := Lib.hid (HV2.out.below hb3 rfl)
  have HB3 := Lib.hid (HB2.out.trans (hb3.mono HB2.out.size))
  clear hp1 hp2 hb3
  go_wp2_with fail
  refine (HSm.out _ _ _ HA.out HC.out).mono ?_
  rintro e w4 ⟨rfl, hb4⟩
  have HB4 := Lib.hid (HB3.out.trans (hb4.mono HB3.out.size))
  clear hb4
  go_wp2
  go_ret
  exact ⟨rfl, HB4.out⟩
end Go.Proofs.Ytlmfjohaejdmcaa
