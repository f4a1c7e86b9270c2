/-
  kistlaw03.RsDecodes: its walk; what both Decodes answer.
-/
import Derived.Test.YtkdmagochimjeaaRsRefDec
import Derived.Test.YtkdmagochimjeaaRsAwake
import Derived.Test.YtkdmagochimjeaaRsFill
namespace Go.Proofs.Ytkdmagochimjeaa
open Go.RowKit
set_option linter.unusedVariables false

open Classical in
/-- the group of shards that are enough -/
noncomputable def theD (sh : List (List UInt8)) : List UInt8 := if h : ∃ d, Sol sh d then Classical.choose h else []
theorem theD_of {sh : List (List UInt8)} {d : List UInt8} (h8 : 8 ≤ (pres sh).length) (h : Sol sh d) : theD sh = d := by
  unfold theD
  rw [dif_pos ⟨d, h⟩]
  exact sol_only h8 (Classical.choose_spec (⟨d, h⟩ : ∃ d, Sol sh d)) h
open Classical in
noncomputable def decZ (sh : List (List UInt8)) : Int := if Bad sh then 1 else if (pres sh).length < 8 then 9 else 0
open Classical in
noncomputable def decB (sh : List (List UInt8)) : List UInt8 := if decZ sh = 0 then theD sh else []
open Classical in
noncomputable def filB (sh : List (List UInt8)) : List (List UInt8) := if decZ sh = 0 then encT (theD sh) else []
theorem decZ_bad {sh : List (List UInt8)} (h : Bad sh) : decZ sh = 1 := by unfold decZ; rw [if_pos h]
theorem decZ_few {sh : List (List UInt8)} (h : ¬ Bad sh) (h2 : (pres sh).length < 8) : decZ sh = 9 := by unfold decZ; rw [if_neg h, if_pos h2]
theorem decZ_ok {sh : List (List UInt8)} (h : ¬ Bad sh) (h2 : 8 ≤ (pres sh).length) : decZ sh = 0 := by unfold decZ; rw [if_neg h, if_neg (by omega)]
theorem dec_same {B : Nat} {w' : World} {sh : List (List UInt8)} {e : Ending} (h : DecOk B w' sh e) : ∃ v, e = .returned (.tuple #[v, .int .i64 (decZ sh)]) ∧ RB w' v (decB sh) := by
  rcases h with ⟨hb, rfl⟩ | ⟨hb, hl, rfl⟩ | ⟨hb, hl, v1, d, rfl, hr, hs, _⟩
  · unfold decB
    rw [decZ_bad hb, if_neg (by omega)]
    exact ⟨_, rfl, RB.nil _⟩
  · unfold decB
    rw [decZ_few hb hl, if_neg (by omega)]
    exact ⟨_, rfl, RB.nil _⟩
  · unfold decB
    rw [decZ_ok hb hl, if_pos rfl, theD_of hl hs]
    exact ⟨_, rfl, hr⟩
theorem fil_same {w' : World} {sh : List (List UInt8)} {e : Ending} (h : FillOk w' sh e) : ∃ v, e = .returned (.tuple #[v, .int .i64 (decZ sh)]) ∧ RT w' v (filB sh) := by
  rcases h with ⟨hb, rfl⟩ | ⟨hb, hl, rfl⟩ | ⟨hb, hl, v1, d, rfl, hr, hs⟩
  · unfold filB
    rw [decZ_bad hb, if_neg (by omega)]
    exact ⟨_, rfl, RT.nil _⟩
  · unfold filB
    rw [decZ_few hb hl, if_neg (by omega)]
    exact ⟨_, rfl, RT.nil _⟩
  · unfold filB
    rw [decZ_ok hb hl, if_pos rfl, theD_of hl hs]
    exact ⟨_, rfl, hr⟩
theorem decode_same (v : Value) (sh : List (List UInt8)) (w : World) (h : RT w v sh) :
    Calls Try.prog 14 #[v] w fun e w' => ∃ v, e = .returned (.tuple #[v, .int .i64 (decZ sh)]) ∧ RB w' v (decB sh) ∧ Below w.heap.size w w' :=
  (decode_any v sh w h).mono fun e w' ⟨h1, h2⟩ => by obtain ⟨v, he, hr⟩ := dec_same h1; exact ⟨v, he, hr, h2⟩
theorem refDec_same (v : Value) (sh : List (List UInt8)) (w : World) (h : RT w v sh) :
    Calls Try.prog 15 #[v] w fun e w' => ∃ v, e = .returned (.tuple #[v, .int .i64 (decZ sh)]) ∧ RB w' v (decB sh) ∧ (decZ sh = 0 → (decB sh).length = 128) ∧ Below w.heap.size w w' :=
  (refDec_any v sh w h).mono fun e w' ⟨h1, h2⟩ => by
    obtain ⟨v, he, hr⟩ := dec_same h1
    refine ⟨v, he, hr, fun hz => ?_, h2⟩
    rcases h1 with ⟨hb, _⟩ | ⟨hb, hl, _⟩ | ⟨hb, hl, v1, d, _, _, hs, _⟩
    · rw [decZ_bad hb] at hz; omega
    · rw [decZ_few hb hl] at hz; omega
    · unfold decB
      rw [if_pos hz, theD_of hl hs]
      exact hs.1
theorem fill_same (v : Value) (sh : List (List UInt8)) (w : World) (h : RT w v sh) :
    Calls Try.prog 16 #[v] w fun e w' => ∃ v, e = .returned (.tuple #[v, .int .i64 (decZ sh)]) ∧ RT w' v (filB sh) ∧ Below w.heap.size w w' :=
  (fill_any v sh w h).mono fun e w' ⟨h1, h2⟩ => by obtain ⟨v, he, hr⟩ := fil_same h1; exact ⟨v, he, hr, h2⟩

set_option maxRecDepth 100000 in
set_option maxHeartbeats 4000000 in
theorem rsDecodes_walk (v : Value) (sh : List (List UInt8)) (w : World) (h : RT w v sh) :
    Calls Try.prog 4 #[v] w fun e w' => e = .returned (.bool true) ∧ Below w.heap.size w w' := by
  have H0 := Lib.hid h
  clear h
  obtain ⟨z, Hz⟩ := hid_of (decZ sh)
  obtain ⟨D, HD⟩ := hid_of (decB sh)
  have H1 : Hid (∀ wx, RT wx v sh → Calls Try.prog 14 #[v] wx fun e w' => ∃ v, e = .returned (.tuple #[v, .int .i64 z]) ∧ RB w' v D ∧ Below wx.heap.size wx w') := by rw [← Hz.out, ← HD.out]; exact fun wx hx => decode_same v sh wx hx
  have H2 : Hid (∀ wx, RT wx v sh → Calls Try.prog 15 #[v] wx fun e w' => ∃ v, e = .returned (.tuple #[v, .int .i64 z]) ∧ RB w' v D ∧ Below wx.heap.size wx w') := by rw [← Hz.out, ← HD.out]; exact fun wx hx => (refDec_same v sh wx hx).mono fun e w' ⟨v, h1, h2, _, h3⟩ => ⟨v, h1, h2, h3⟩
  have e1 : (z == z) = true := by simp
  go_enter Try.func4, Try.ntmps4
  go_wp2_with fail
  refine (H1.out _ H0.out).mono ?_
  rintro e w1 ⟨v1, rfl, hr1, hb1⟩
  have HX1 := Lib.hid hr1
  have HD1 := Lib.hid (H0.out.below hb1 rfl)
  have HB1 := Lib.hid hb1
  clear hr1 hb1
  go_wp2_with fail
  refine (H2.out _ HD1.out).mono ?_
  rintro e w2 ⟨v2, rfl, hr2, hb2⟩
  have HY2 := Lib.hid hr2
  have HX2 := Lib.hid (HX1.out.below hb2 rfl)
  have HB2 := Lib.hid (HB1.out.trans (hb2.mono HB1.out.size))
  clear hr2 hb2 HX1 HD1 HB1
  go_wp2_with fail
  refine (awake3_any _).mono ?_
  rintro e w7 ⟨rfl, hb7⟩
  have HX7 := Lib.hid (HX2.out.below hb7 rfl)
  have HY7 := Lib.hid (HY2.out.below hb7 rfl)
  have HB7 := Lib.hid (HB2.out.trans (hb7.mono HB2.out.size))
  clear hb7 HX2 HY2 HB2
  obtain ⟨E, HE⟩ := hid_of (S D)
  have hcv1 := run_convert_S (P := Try.prog) HX7.out 22 9 5 Try.underlying22 Try.underlying5 Try.underlying9
  have hcv2 := run_convert_S (P := Try.prog) HY7.out 22 9 5 Try.underlying22 Try.underlying5 Try.underlying9
  rw [HE.out] at hcv1 hcv2
  clear HX7 HY7
  go_wp2
  go_ret
  exact ⟨rfl, HB7.out⟩
end Go.Proofs.Ytkdmagochimjeaa
