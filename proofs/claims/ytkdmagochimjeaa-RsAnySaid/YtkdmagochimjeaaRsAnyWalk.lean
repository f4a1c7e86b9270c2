/-
  kistlaw03.RsAny: its walk.
-/
import Derived.Test.YtkdmagochimjeaaRsWithout
namespace Go.Proofs.Ytkdmagochimjeaa
open Go.RowKit
set_option linter.unusedVariables false

set_option maxRecDepth 100000 in
set_option maxHeartbeats 4000000 in
theorem rsAny_walk (v : Value) (b : List UInt8) (a : Int) (w : World) (hr : RB w v b) (hl : b.length ≤ 140737488351232) (ha : (Lit.int .u16 a).wf = true) :
    Calls Try.prog 8 #[v, .int .u16 a] w fun e w' => e = .returned (.bool true) ∧ Below w.heap.size w w' := by
  have HL := Lib.hid hl
  have HA := Lib.hid ha
  have H0 := Lib.hid hr
  obtain ⟨d, Hd⟩ := hid_of (grp b)
  have HDl : Hid (d.length = 128) := by rw [← Hd.out]; exact grp_length b
  have HG : Hid (∀ wx, RB wx v b → Calls Try.prog 11 #[v] wx fun e w' => ∃ v, e = .returned v ∧ RB w' v d ∧ Below wx.heap.size wx w') := fun wx h => by rw [← Hd.out]; exact group_any _ b _ h HL.out
  clear hr hl ha
  go_enter Try.func8, Try.ntmps8
  go_wp2_with fail
  refine (HG.out _ H0.out).mono ?_
  rintro e w1 ⟨v1, rfl, hr1, hb1⟩
  have HD1 := Lib.hid hr1
  have HW1 := Lib.hid hb1
  clear hr1 hb1
  go_wp2_with fail
  refine (encode_yes _ d _ HD1.out HDl.out).mono ?_
  rintro e w2 ⟨v2, rfl, hr2, hb2⟩
  have HT2 := Lib.hid hr2
  have HD2 := Lib.hid (HD1.out.below hb2 rfl)
  have HW2 := Lib.hid (HW1.out.trans (hb2.mono HW1.out.size))
  clear hr2 hb2 HD1 HW1
  go_wp2_with fail
  refine (without_any _ d a _ HT2.out HA.out).mono ?_
  rintro e w3 ⟨v3, rfl, hr3, hb3⟩
  have HS3 := Lib.hid hr3
  have HT3 := Lib.hid (HT2.out.below hb3 rfl)
  have HD3 := Lib.hid (HD2.out.below hb3 rfl)
  have HW3 := Lib.hid (HW2.out.trans (hb3.mono HW2.out.size))
  clear hr3 hb3 HT2 HD2 HW2
  have hU := lackN_not a
  have hUl := lackN_le a 10
  obtain ⟨U, Hu⟩ := hid_of (lackN a 10)
  rw [Hu.out] at hU hUl ⊢
  by_cases h2 : 2 < U
  · have HN : Hid (((List.range 10).filter fun i => !bitL a i).length < 8) := Lib.hid (by omega)
    have h2' : (2 : Int) < (U : Int) := by omega
    clear hU
    go_wp2_with fail
    refine (decode_any _ _ _ HS3.out).mono ?_
    rintro e w4 ⟨hok, hb4⟩
    obtain rfl := dec_lost hok HN.out
    have HS4 := Lib.hid (HS3.out.below hb4 rfl)
    have HW4 := Lib.hid (HW3.out.trans (hb4.mono HW3.out.size))
    clear hok hb4 HS3 HT3 HD3 HW3
    go_wp2_with fail
    refine (fill_any _ _ _ HS4.out).mono ?_
    rintro e w5 ⟨hok, hb5⟩
    obtain rfl := fill_lost hok HN.out
    have HW5 := Lib.hid (HW4.out.trans (hb5.mono HW4.out.size))
    clear hok hb5 HS4 HW4
    go_wp2_with fail
    refine (awake3_any _).mono ?_
    rintro e w6 ⟨rfl, hb6⟩
    have HW6 := Lib.hid (HW5.out.trans (hb6.mono HW5.out.size))
    clear hb6 HW5
    go_wp2
    go_ret
    exact ⟨rfl, HW6.out⟩
  · have HN : Hid (8 ≤ ((List.range 10).filter fun i => !bitL a i).length) := Lib.hid (by omega)
    have h2' : ¬ (2 : Int) < (U : Int) := by omega
    clear hU
    go_wp2_with fail
    refine (decode_any _ _ _ HS3.out).mono ?_
    rintro e w4 ⟨hok, hb4⟩
    obtain ⟨v4, rfl, hr4, _⟩ := dec_lack hok HDl.out HN.out
    have HR4 := Lib.hid hr4
    have HS4 := Lib.hid (HS3.out.below hb4 rfl)
    have HT4 := Lib.hid (HT3.out.below hb4 rfl)
    have HD4 := Lib.hid (HD3.out.below hb4 rfl)
    have HW4 := Lib.hid (HW3.out.trans (hb4.mono HW3.out.size))
    clear hok hb4 hr4 HS3 HT3 HD3 HW3
    go_wp2_with fail
    refine (fill_any _ _ _ HS4.out).mono ?_
    rintro e w5 ⟨hok, hb5⟩
    obtain ⟨v5, rfl, hr5⟩ := fill_lack hok HDl.out HN.out
    have HF5 := Lib.hid hr5
    have HR5 := Lib.hid (HR4.out.below hb5 rfl)
    have HT5 := Lib.hid (HT4.out.below hb5 rfl)
    have HD5 := Lib.hid (HD4.out.below hb5 rfl)
    have HW5 := Lib.hid (HW4.out.trans (hb5.mono HW4.out.size))
    clear hok hb5 hr5 HS4 HR4 HT4 HD4 HW4
    go_wp2_with fail
    refine (awake3_any _).mono ?_
    rintro e w6 ⟨rfl, hb6⟩
    have HF6 := Lib.hid (HF5.out.below hb6 rfl)
    have HR6 := Lib.hid (HR5.out.below hb6 rfl)
    have HT6 := Lib.hid (HT5.out.below hb6 rfl)
    have HD6 := Lib.hid (HD5.out.below hb6 rfl)
    have HW6 := Lib.hid (HW5.out.trans (hb6.mono HW5.out.size))
    clear hb6 HF5 HR5 HT5 HD5 HW5
    obtain ⟨E, HE⟩ := hid_of (S d)
    have hcv1 := run_convert_S (P := Try.prog) HR6.out 22 9 5 Try.underlying22 Try.underlying5 Try.underlying9
    have hcv2 := run_convert_S (P := Try.prog) HD6.out 22 9 5 Try.underlying22 Try.underlying5 Try.underlying9
    rw [HE.out] at hcv1 hcv2
    go_wp2_with fail
    refine (same_any _ _ _ _ _ HF6.out HT6.out).mono ?_
    rintro e w7 ⟨rfl, d7, rfl⟩
    rw [dec_true]
    have HW7 := Lib.hid (Below.drewN2 HW6.out d7)
    clear HF6 HR6 HT6 HD6 HW6
    go_wp2
    go_ret
    exact ⟨rfl, HW7.out⟩
end Go.Proofs.Ytkdmagochimjeaa
