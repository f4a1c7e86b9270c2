/-
  kistlaw03.RsFills: its walk.
-/
import Derived.Test.YtkdmagochimjeaaRsDecodesWalk
namespace Go.Proofs.Ytkdmagochimjeaa
open Go.RowKit
set_option linter.unusedVariables false

set_option maxRecDepth 100000 in
set_option maxHeartbeats 4000000 in
theorem rsFills_walk (v : Value) (sh : List (List UInt8)) (w : World) (h : RT w v sh) :
    Calls Try.prog 7 #[v] w fun e w' => e = .returned (.bool true) ∧ Below w.heap.size w w' := by
  have H0 := Lib.hid h
  clear h
  have HF : Hid (decZ sh ≠ 0 → filB sh = []) := fun hz => by unfold filB; rw [if_neg hz]
  have HG : Hid (decZ sh = 0 → filB sh = encT (decB sh)) := fun hz => by unfold filB decB; rw [if_pos hz, if_pos hz]
  obtain ⟨z, Hz⟩ := hid_of (decZ sh)
  obtain ⟨D, HD⟩ := hid_of (decB sh)
  obtain ⟨T, HT⟩ := hid_of (filB sh)
  rw [Hz.out, HT.out] at HF
  rw [Hz.out, HT.out, HD.out] at HG
  have H1 : Hid (∀ wx, RT wx v sh → Calls Try.prog 16 #[v] wx fun e w' => ∃ v, e = .returned (.tuple #[v, .int .i64 z]) ∧ RT w' v T ∧ Below wx.heap.size wx w') := by rw [← Hz.out, ← HT.out]; exact fun wx hx => fill_same v sh wx hx
  have H2 : Hid (∀ wx, RT wx v sh → Calls Try.prog 15 #[v] wx fun e w' => ∃ v, e = .returned (.tuple #[v, .int .i64 z]) ∧ RB w' v D ∧ (z = 0 → D.length = 128) ∧ Below wx.heap.size wx w') := by rw [← Hz.out, ← HD.out]; exact fun wx hx => refDec_same v sh wx hx
  clear Hz HD HT
  go_enter Try.func7, Try.ntmps7
  go_wp2_with fail
  refine (H1.out _ H0.out).mono ?_
  rintro e w1 ⟨v1, rfl, hr1, hb1⟩
  have HX1 := Lib.hid hr1
  have HD1 := Lib.hid (H0.out.below hb1 rfl)
  have HB1 := Lib.hid hb1
  clear hr1 hb1
  go_wp2_with fail
  refine (H2.out _ HD1.out).mono ?_
  rintro e w2 ⟨v2, rfl, hr2, hl2, hb2⟩
  have HY2 := Lib.hid hr2
  have HL2 := Lib.hid hl2
  have HX2 := Lib.hid (HX1.out.below hb2 rfl)
  have HB2 := Lib.hid (HB1.out.trans (hb2.mono HB1.out.size))
  clear hr2 hb2 hl2 HX1 HD1 HB1
  by_cases hz : z = 0
  · have hT : T = encT D := HG.out hz
    have HL := Lib.hid (HL2.out hz)
    subst hz
    subst hT
    clear HF HG HL2
    go_wp2_with fail
    refine (refEncode_yes _ D _ HY2.out HL.out).mono ?_
    rintro e w3 ⟨v3, rfl, hr3, hb3⟩
    have HC3 := Lib.hid hr3
    have HX3 := Lib.hid (HX2.out.below hb3 rfl)
    have HB3 := Lib.hid (HB2.out.trans (hb3.mono HB2.out.size))
    clear hr3 hb3 HX2 HB2 HY2
    go_wp2_with fail
    refine (awake3_any _).mono ?_
    rintro e w7 ⟨rfl, hb7⟩
    have HC7 := Lib.hid (HC3.out.below hb7 rfl)
    have HX7 := Lib.hid (HX3.out.below hb7 rfl)
    have HB7 := Lib.hid (HB3.out.trans (hb7.mono HB3.out.size))
    clear hb7 HC3 HX3 HB3
    go_wp2_with fail
    refine (same_any _ _ _ _ _ HX7.out HC7.out).mono ?_
    rintro e w8 ⟨rfl, d8, rfl⟩
    rw [dec_true]
    have HB8 := Lib.hid (Below.drewN2 HB7.out d8)
    clear HC7 HX7 HB7
    go_wp2
    go_ret
    exact ⟨rfl, HB8.out⟩
  · have hT : T = [] := HF.out hz
    subst hT
    have hz0 : (z == 0) = false := by simpa using hz
    have hz1 : (z != 0) = true := by simpa using hz
    have e1 : (z == z) = true := by simp
    clear HF HG HL2 hz
    obtain ⟨a1, c1, rfl, hc1, hc2⟩ := HX2.out.shape
    rw [show ([] : List (List UInt8)).length = 0 from rfl]
    go_wp2_with fail
    refine (awake3_any _).mono ?_
    rintro e w7 ⟨rfl, hb7⟩
    have HB7 := Lib.hid (HB2.out.trans (hb7.mono HB2.out.size))
    clear hb7 HB2
    go_wp2
    go_ret
    exact ⟨rfl, HB7.out⟩
end Go.Proofs.Ytkdmagochimjeaa
