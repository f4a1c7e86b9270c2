/-
  kistlaw03.RsEncodes: its walk.
-/
import Derived.Test.YtkdmagochimjeaaRsAwake
import Derived.Test.YtkdmagochimjeaaRsRefEnc
namespace Go.Proofs.Ytkdmagochimjeaa
open Go.RowKit
set_option linter.unusedVariables false

set_option maxRecDepth 100000 in
set_option maxHeartbeats 4000000 in
theorem rsEncodes_walk (v : Value) (d : List UInt8) (w : World) (h : RB w v d) (hl : d.length ≤ 140737488351232) :
    Calls Try.prog 3 #[v] w fun e w' => e = .returned (.bool true) ∧ Below w.heap.size w w' := by
  obtain ⟨z, T, e1, H1, H2⟩ : ∃ (z : Int) (T : List (List UInt8)), ((z == z) = true) ∧
      Hid (∀ wx, RB wx v d → Calls Try.prog 9 #[v] wx fun e w' => ∃ v, e = .returned (.tuple #[v, .int .i64 z]) ∧ RT w' v T ∧ Below wx.heap.size wx w') ∧
      Hid (∀ wx, RB wx v d → Calls Try.prog 10 #[v] wx fun e w' => ∃ v, e = .returned (.tuple #[v, .int .i64 z]) ∧ RT w' v T ∧ Below wx.heap.size wx w') := by
    by_cases hd : d.length = 128
    · exact ⟨0, encT d, rfl, fun wx hx => encode_yes v d wx hx hd, fun wx hx => refEncode_yes v d wx hx hd⟩
    · exact ⟨1, [], rfl, fun wx hx => (encode_no v d wx hx hd).mono (by rintro e w' ⟨rfl, rfl⟩; exact ⟨_, rfl, RT.nil _, Below.refl _ _⟩), fun wx hx => refEncode_no v d wx hx hd⟩
  have HL := Lib.hid hl
  have H0 := Lib.hid h
  clear h hl
  go_enter Try.func3, Try.ntmps3
  go_wp2_with fail
  refine (H1.out _ H0.out).mono ?_
  rintro e w1 ⟨v1, rfl, hr1, hb1⟩
  have HX1 := Lib.hid hr1
  have HD1 := Lib.hid (H0.out.below hb1 rfl)
  have HB1 := Lib.hid hb1
  clear hr1 hb1
  go_wp2_with fail
  refine (H2.out _ HD1.out).mono ?_
  rintro e w2 ⟨v2, rfl, hr2, hb2⟩
  have HY2 := Lib.hid hr2
  have HX2 := Lib.hid (HX1.out.below hb2 rfl)
  have HD2 := Lib.hid (HD1.out.below hb2 rfl)
  have HB2 := Lib.hid (HB1.out.trans (hb2.mono HB1.out.size))
  clear hr2 hb2 HX1 HD1 HB1
  go_wp2_with fail
  refine (group_any _ d _ HD2.out HL.out).mono ?_
  rintro e w3 ⟨v3, rfl, hr3, hb3⟩
  have HG3 := Lib.hid hr3
  have HX3 := Lib.hid (HX2.out.below hb3 rfl)
  have HY3 := Lib.hid (HY2.out.below hb3 rfl)
  have HD3 := Lib.hid (HD2.out.below hb3 rfl)
  have HB3 := Lib.hid (HB2.out.trans (hb3.mono HB2.out.size))
  clear hr3 hb3 HX2 HY2 HD2 HB2
  go_wp2_with fail
  refine (encode_yes _ (grp d) _ HG3.out (grp_length d)).mono ?_
  rintro e w4 ⟨v4, rfl, hr4, hb4⟩
  have HA4 := Lib.hid hr4
  have HX4 := Lib.hid (HX3.out.below hb4 rfl)
  have HY4 := Lib.hid (HY3.out.below hb4 rfl)
  have HD4 := Lib.hid (HD3.out.below hb4 rfl)
  have HB4 := Lib.hid (HB3.out.trans (hb4.mono HB3.out.size))
  clear hr4 hb4 HX3 HY3 HD3 HB3 HG3
  go_wp2_with fail
  refine (group_any _ d _ HD4.out HL.out).mono ?_
  rintro e w5 ⟨v5, rfl, hr5, hb5⟩
  have HG5 := Lib.hid hr5
  have HA5 := Lib.hid (HA4.out.below hb5 rfl)
  have HX5 := Lib.hid (HX4.out.below hb5 rfl)
  have HY5 := Lib.hid (HY4.out.below hb5 rfl)
  have HB5 := Lib.hid (HB4.out.trans (hb5.mono HB4.out.size))
  clear hr5 hb5 HX4 HY4 HA4 HD4 HB4
  go_wp2_with fail
  refine (refEncode_yes _ (grp d) _ HG5.out (grp_length d)).mono ?_
  rintro e w6 ⟨v6, rfl, hr6, hb6⟩
  have HC6 := Lib.hid hr6
  have HA6 := Lib.hid (HA5.out.below hb6 rfl)
  have HX6 := Lib.hid (HX5.out.below hb6 rfl)
  have HY6 := Lib.hid (HY5.out.below hb6 rfl)
  have HB6 := Lib.hid (HB5.out.trans (hb6.mono HB5.out.size))
  clear hr6 hb6 HX5 HY5 HA5 HG5 HB5
  go_wp2_with fail
  refine (awake3_any _).mono ?_
  rintro e w7 ⟨rfl, hb7⟩
  have HC7 := Lib.hid (HC6.out.below hb7 rfl)
  have HA7 := Lib.hid (HA6.out.below hb7 rfl)
  have HX7 := Lib.hid (HX6.out.below hb7 rfl)
  have HY7 := Lib.hid (HY6.out.below hb7 rfl)
  have HB7 := Lib.hid (HB6.out.trans (hb7.mono HB6.out.size))
  clear hb7 HX6 HY6 HA6 HC6 HB6
  go_wp2_with fail
  refine (same_any _ _ _ _ _ HX7.out HY7.out).mono ?_
  rintro e w8 ⟨rfl, d8, rfl⟩
  rw [dec_true]
  have HC8 := Lib.hid (HC7.out.drewN d8)
  have HA8 := Lib.hid (HA7.out.drewN d8)
  have HB8 := Lib.hid (Below.drewN2 HB7.out d8)
  clear HC7 HA7 HX7 HY7 HB7
  go_wp2_with fail
  refine (same_any _ _ _ _ _ HA8.out HC8.out).mono ?_
  rintro e w9 ⟨rfl, d9, rfl⟩
  rw [dec_true]
  have HB9 := Lib.hid (Below.drewN2 HB8.out d9)
  clear HC8 HA8 HB8
  go_wp2
  go_ret
  exact ⟨rfl, by have := HB9.out; rw [World.drewN_drewN] at this; exact this⟩
end Go.Proofs.Ytkdmagochimjeaa
