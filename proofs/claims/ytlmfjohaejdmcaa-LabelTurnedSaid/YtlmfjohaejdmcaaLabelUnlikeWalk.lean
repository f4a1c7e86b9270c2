/-
  kistlaw09.LabelUnlike: its walk.
-/
import Derived.Test.YtlmfjohaejdmcaaLabUse
import Derived.Test.YtlmfjohaejdmcaaLabArg
namespace Go.Proofs.Ytlmfjohaejdmcaa
open Go.RowKit
set_option linter.unusedVariables false
set_option linter.unusedSimpArgs false

/-- Encode, whether it may be or not -/
def encZ (r : Rc) : Int := if Lab.goodB r then 0 else 12
theorem encode_all (r : Rc) (d : Value) (w : World) (h : Rec w d r) :
    Calls Try.prog 10 #[recV r d] w fun e w' => ∃ a n c, e = .returned (.tuple #[.slice a n c, .int .i64 (encZ r)]) ∧ (Lab.Good r → RB w' (.slice a n c) (Lab.code r)) ∧ Below w.heap.size w w' := by
  by_cases hg : Lab.Good r
  · refine (encode_yes r d w h hg).mono fun e w' ⟨v, h1, h2, h3⟩ => ?_
    obtain ⟨a, c, rfl, _, _⟩ := (RB.own h2).shape
    exact ⟨a, _, c, by rw [h1]; unfold encZ; rw [Lab.goodB_yes hg]; rfl, fun _ => RB.own h2, h3⟩
  · exact (encode_no r d w h hg).mono fun e w' ⟨h1, h2⟩ => ⟨none, 0, 0, by rw [h1]; unfold encZ; rw [Lab.goodB_no hg]; rfl, fun h => absurd h hg, h2⟩
theorem encZ_yes {r : Rc} (h : Lab.Good r) : encZ r = 0 := by unfold encZ; rw [Lab.goodB_yes h]; rfl
theorem encZ_no {r : Rc} (h : ¬ Lab.Good r) : encZ r = 12 := by unfold encZ; rw [Lab.goodB_no h]; rfl
set_option maxRecDepth 100000 in
set_option maxHeartbeats 4000000 in
theorem labelUnlike_walk (r : Rc) (d : Value) (r' : Rc) (d' : Value) (w : World) (hr : Rec w d r) (hr' : Rec w d' r') :
    Calls Try.prog 9 #[recV r d, recV r' d'] w fun e w' => e = .returned (.bool true) ∧ Below w.heap.size w w' := by
  have HE1 : Hid (∀ wx, Rec wx d r → Calls Try.prog 10 #[recV r d] wx fun e w' => ∃ a n c, e = .returned (.tuple #[.slice a n c, .int .i64 (encZ r)]) ∧ (Lab.Good r → RB w' (.slice a n c) (Lab.code r)) ∧ Below wx.heap.size wx w') := fun wx hx => encode_all r d wx hx
  have HE2 : Hid (∀ wx, Rec wx d' r' → Calls Try.prog 10 #[recV r' d'] wx fun e w' => ∃ a n c, e = .returned (.tuple #[.slice a n c, .int .i64 (encZ r')]) ∧ (Lab.Good r' → RB w' (.slice a n c) (Lab.code r')) ∧ Below wx.heap.size wx w') := fun wx hx => encode_all r' d' wx hx
  have HS1 : Hid (∀ wx, RB wx d r.data → RB wx d' r'.data → Calls Try.prog 18 #[recV r d, recV r' d'] wx fun e w' => e = .returned (.bool (decide (r = r'))) ∧ Below wx.heap.size wx w') := fun wx h1 h2 => same_any r r' d d' wx h1 h2
  have HA0 : Hid (Blk ((w.alloc (.cells (recC r d) 24)).alloc (.cells (recC r' d') 24)) w.heap.size (recC r d).toList 24) := (Blk.new w _ _ rfl).alloc _
  have HB0 : Hid (Blk ((w.alloc (.cells (recC r d) 24)).alloc (.cells (recC r' d') 24)) (w.heap.size + 1) (recC r' d').toList 24) := Blk.new _ _ _ (by simp)
  have HD0 : Hid (Rec ((w.alloc (.cells (recC r d) 24)).alloc (.cells (recC r' d') 24)) d r) := ⟨hr.1.two _ _, hr.2⟩
  have HF0 : Hid (Rec ((w.alloc (.cells (recC r d) 24)).alloc (.cells (recC r' d') 24)) d' r') := ⟨hr'.1.two _ _, hr'.2⟩
  have HW0 : Hid (Below w.heap.size w ((w.alloc (.cells (recC r d) 24)).alloc (.cells (recC r' d') 24))) := ((Below.refl _ _).alloc (Nat.le_refl _) _).alloc (by simp) _
  clear hr hr'
  by_cases hg : Lab.Good r ∧ Lab.Good r'
  · have HG := Lib.hid hg
    rw [encZ_yes hg.1] at HE1
    rw [encZ_yes hg.2] at HE2
    clear hg
    unfold recV at HE1 HE2 HS1 ⊢
    go_enter Try.func9, Try.ntmps9
    go_wp2_with fail
    refine (HE1.out _ HD0.out).mono ?_
    rintro e w1 ⟨a1, n1, c1, rfl, hv1, hb1⟩
    have HV1 := Lib.hid (hv1 HG.out.1)
    have HA1 := Lib.hid (HA0.out.below hb1 HA0.out.lt)
    have HB1 := Lib.hid (HB0.out.below hb1 HB0.out.lt)
    have HD1 := Lib.hid (HD0.out.below hb1 rfl)
    have HF1 := Lib.hid (HF0.out.below hb1 rfl)
    have HW1 := Lib.hid (HW0.out.trans (hb1.mono HW0.out.size))
    clear hv1 hb1 HA0 HB0 HD0 HF0 HW0
    obtain ⟨q0, q1, q2, q3, q4, q5, q6, q7, q8, q9⟩ := rec_cells HB1.out
    go_wp2_with fail
    refine (HE2.out _ HF1.out).mono ?_
    rintro e w2 ⟨a2, n2, c2, rfl, hv2, hb2⟩
    have HV2 := Lib.hid (hv2 HG.out.2)
    have HU2 := Lib.hid (HV1.out.below hb2 rfl)
    have HA2 := Lib.hid (HA1.out.below hb2 HA1.out.lt)
    have HB2 := Lib.hid (HB1.out.below hb2 HB1.out.lt)
    have HD2 := Lib.hid (HD1.out.below hb2 rfl)
    have HF2 := Lib.hid (HF1.out.below hb2 rfl)
    have HW2 := Lib.hid (HW1.out.trans (hb2.mono HW1.out.size))
    clear hv2 hb2 HA1 HB1 HD1 HF1 HW1 HV1 q0 q1 q2 q3 q4 q5 q6 q7 q8 q9
    have HEq : Hid (∃ E1 E2, Lab.code r = E1 ∧ Lab.code r' = E2 ∧ (((S E1).toList == (S E2).toList) == decide (r = r')) = true) := by
      refine ⟨_, _, rfl, rfl, ?_⟩
      rw [S_beq]
      by_cases he : r = r'
      · subst he; simp
      · have : ¬ Lab.code r = Lab.code r' := fun h => he (Lab.code_inj HG.out.1 HG.out.2 h)
        simp [he, this]
    obtain ⟨E1, E2, hE1, hE2, heq⟩ := HEq.out
    rw [hE1] at HU2
    rw [hE2] at HV2
    clear HEq hE1 hE2
    obtain ⟨b, Hb⟩ := hid_of (decide (r = r'))
    rw [Hb.out] at HS1 heq
    have hk : ∀ wx, RB wx (.slice a1 n1 c1) E1 → RB wx (.slice a2 n2 c2) E2 → (convert 22 9 (.slice a1 n1 c1)).run Try.prog wx = .ok (.string (S E1)) wx ∧ (convert 22 9 (.slice a2 n2 c2)).run Try.prog wx = .ok (.string (S E2)) wx := fun wx h1 h2 =>
      ⟨run_convert_S h1 _ _ _ Try.underlying22 Try.underlying5 Try.underlying9, run_convert_S h2 _ _ _ Try.underlying22 Try.underlying5 Try.underlying9⟩
    have HK := Lib.hid hk
    clear hk
    obtain ⟨X1, HX1⟩ := hid_of (S E1)
    obtain ⟨X2, HX2⟩ := hid_of (S E2)
    rw [HX1.out, HX2.out] at heq HK
    have hs0 : (((convert 22 9 (.slice a1 n1 c1)).run Try.prog w2.drew = .ok (.string X1) w2.drew) ∧ ((convert 22 9 (.slice a2 n2 c2)).run Try.prog w2.drew = .ok (.string X2) w2.drew)) ∧ (w2.drew.cell? ⟨w.heap.size, 0, none⟩ = some (.int .i64 r.kind) ∧ w2.drew.cell? ⟨w.heap.size, 1, none⟩ = some (.int .i64 r.cart) ∧ w2.drew.cell? ⟨w.heap.size, 2, none⟩ = some (.string (S r.key)) ∧ w2.drew.cell? ⟨w.heap.size, 3, none⟩ = some (.int .i64 r.gen) ∧ w2.drew.cell? ⟨w.heap.size, 4, none⟩ = some (.int .i64 r.group) ∧ w2.drew.cell? ⟨w.heap.size, 5, none⟩ = some (.int .i64 r.groups) ∧ w2.drew.cell? ⟨w.heap.size, 6, none⟩ = some (.int .i64 r.index) ∧ w2.drew.cell? ⟨w.heap.size, 7, none⟩ = some (.int .i64 r.size) ∧ w2.drew.cell? ⟨w.heap.size, 8, none⟩ = some (.string (S r.sum)) ∧ w2.drew.cell? ⟨w.heap.size, 9, none⟩ = some d) ∧ (w2.drew.cell? ⟨w.heap.size + 1, 0, none⟩ = some (.int .i64 r'.kind) ∧ w2.drew.cell? ⟨w.heap.size + 1, 1, none⟩ = some (.int .i64 r'.cart) ∧ w2.drew.cell? ⟨w.heap.size + 1, 2, none⟩ = some (.string (S r'.key)) ∧ w2.drew.cell? ⟨w.heap.size + 1, 3, none⟩ = some (.int .i64 r'.gen) ∧ w2.drew.cell? ⟨w.heap.size + 1, 4, none⟩ = some (.int .i64 r'.group) ∧ w2.drew.cell? ⟨w.heap.size + 1, 5, none⟩ = some (.int .i64 r'.groups) ∧ w2.drew.cell? ⟨w.heap.size + 1, 6, none⟩ = some (.int .i64 r'.index) ∧ w2.drew.cell? ⟨w.heap.size + 1, 7, none⟩ = some (.int .i64 r'.size) ∧ w2.drew.cell? ⟨w.heap.size + 1, 8, none⟩ = some (.string (S r'.sum)) ∧ w2.drew.cell? ⟨w.heap.size + 1, 9, none⟩ = some d') := ⟨HK.out _ HU2.out.drew HV2.out.drew, rec_cells HA2.out.drew, rec_cells HB2.out.drew⟩
    go_wp2_with fail
    go_region_held (fun wx => (((convert 22 9 (.slice a1 n1 c1)).run Try.prog wx = .ok (.string X1) wx) ∧ ((convert 22 9 (.slice a2 n2 c2)).run Try.prog wx = .ok (.string X2) wx)) ∧ (wx.cell? ⟨w.heap.size, 0, none⟩ = some (.int .i64 r.kind) ∧ wx.cell? ⟨w.heap.size, 1, none⟩ = some (.int .i64 r.cart) ∧ wx.cell? ⟨w.heap.size, 2, none⟩ = some (.string (S r.key)) ∧ wx.cell? ⟨w.heap.size, 3, none⟩ = some (.int .i64 r.gen) ∧ wx.cell? ⟨w.heap.size, 4, none⟩ = some (.int .i64 r.group) ∧ wx.cell? ⟨w.heap.size, 5, none⟩ = some (.int .i64 r.groups) ∧ wx.cell? ⟨w.heap.size, 6, none⟩ = some (.int .i64 r.index) ∧ wx.cell? ⟨w.heap.size, 7, none⟩ = some (.int .i64 r.size) ∧ wx.cell? ⟨w.heap.size, 8, none⟩ = some (.string (S r.sum)) ∧ wx.cell? ⟨w.heap.size, 9, none⟩ = some d) ∧ (wx.cell? ⟨w.heap.size + 1, 0, none⟩ = some (.int .i64 r'.kind) ∧ wx.cell? ⟨w.heap.size + 1, 1, none⟩ = some (.int .i64 r'.cart) ∧ wx.cell? ⟨w.heap.size + 1, 2, none⟩ = some (.string (S r'.key)) ∧ wx.cell? ⟨w.heap.size + 1, 3, none⟩ = some (.int .i64 r'.gen) ∧ wx.cell? ⟨w.heap.size + 1, 4, none⟩ = some (.int .i64 r'.group) ∧ wx.cell? ⟨w.heap.size + 1, 5, none⟩ = some (.int .i64 r'.groups) ∧ wx.cell? ⟨w.heap.size + 1, 6, none⟩ = some (.int .i64 r'.index) ∧ wx.cell? ⟨w.heap.size + 1, 7, none⟩ = some (.int .i64 r'.size) ∧ wx.cell? ⟨w.heap.size + 1, 8, none⟩ = some (.string (S r'.sum)) ∧ wx.cell? ⟨w.heap.size + 1, 9, none⟩ = some d'))
      (first | exact hs0 | exact hs3 | exact hs4)
      (first
      | (go_at_call 12
         (with_reducible refine (awake9_any _).mono ?_)
         rintro e w3 ⟨rfl, hb3⟩
         have HA3 := Lib.hid (HA2.out.drew.below hb3 HA2.out.lt)
         have HB3 := Lib.hid (HB2.out.drew.below hb3 HB2.out.lt)
         have HU3 := Lib.hid (HU2.out.drew.below hb3 rfl)
         have HV3 := Lib.hid (HV2.out.drew.below hb3 rfl)
         have HD3 := Lib.hid (HD2.out.1.drew.below hb3 rfl)
         have HF3 := Lib.hid (HF2.out.1.drew.below hb3 rfl)
         have HW3 := Lib.hid (HW2.out.drew.trans (hb3.mono HW2.out.size))
         have hs3 : (((convert 22 9 (.slice a1 n1 c1)).run Try.prog w3 = .ok (.string X1) w3) ∧ ((convert 22 9 (.slice a2 n2 c2)).run Try.prog w3 = .ok (.string X2) w3)) ∧ (w3.cell? ⟨w.heap.size, 0, none⟩ = some (.int .i64 r.kind) ∧ w3.cell? ⟨w.heap.size, 1, none⟩ = some (.int .i64 r.cart) ∧ w3.cell? ⟨w.heap.size, 2, none⟩ = some (.string (S r.key)) ∧ w3.cell? ⟨w.heap.size, 3, none⟩ = some (.int .i64 r.gen) ∧ w3.cell? ⟨w.heap.size, 4, none⟩ = some (.int .i64 r.group) ∧ w3.cell? ⟨w.heap.size, 5, none⟩ = some (.int .i64 r.groups) ∧ w3.cell? ⟨w.heap.size, 6, none⟩ = some (.int .i64 r.index) ∧ w3.cell? ⟨w.heap.size, 7, none⟩ = some (.int .i64 r.size) ∧ w3.cell? ⟨w.heap.size, 8, none⟩ = some (.string (S r.sum)) ∧ w3.cell? ⟨w.heap.size, 9, none⟩ = some d) ∧ (w3.cell? ⟨w.heap.size + 1, 0, none⟩ = some (.int .i64 r'.kind) ∧ w3.cell? ⟨w.heap.size + 1, 1, none⟩ = some (.int .i64 r'.cart) ∧ w3.cell? ⟨w.heap.size + 1, 2, none⟩ = some (.string (S r'.key)) ∧ w3.cell? ⟨w.heap.size + 1, 3, none⟩ = some (.int .i64 r'.gen) ∧ w3.cell? ⟨w.heap.size + 1, 4, none⟩ = some (.int .i64 r'.group) ∧ w3.cell? ⟨w.heap.size + 1, 5, none⟩ = some (.int .i64 r'.groups) ∧ w3.cell? ⟨w.heap.size + 1, 6, none⟩ = some (.int .i64 r'.index) ∧ w3.cell? ⟨w.heap.size + 1, 7, none⟩ = some (.int .i64 r'.size) ∧ w3.cell? ⟨w.heap.size + 1, 8, none⟩ = some (.string (S r'.sum)) ∧ w3.cell? ⟨w.heap.size + 1, 9, none⟩ = some d') := ⟨HK.out _ HU3.out HV3.out, rec_cells HA3.out, rec_cells HB3.out⟩
         clear hb3)
      | (go_at_call 18
         (with_reducible refine (HS1.out _ HD3.out HF3.out).mono ?_)
         rintro e w4 ⟨rfl, hb4⟩
         have HA4 := Lib.hid (HA3.out.below hb4 HA3.out.lt)
         have HB4 := Lib.hid (HB3.out.below hb4 HB3.out.lt)
         have HU4 := Lib.hid (HU3.out.below hb4 rfl)
         have HV4 := Lib.hid (HV3.out.below hb4 rfl)
         have HW4 := Lib.hid (HW3.out.trans (hb4.mono HW3.out.size))
         have hs4 : (((convert 22 9 (.slice a1 n1 c1)).run Try.prog w4 = .ok (.string X1) w4) ∧ ((convert 22 9 (.slice a2 n2 c2)).run Try.prog w4 = .ok (.string X2) w4)) ∧ (w4.cell? ⟨w.heap.size, 0, none⟩ = some (.int .i64 r.kind) ∧ w4.cell? ⟨w.heap.size, 1, none⟩ = some (.int .i64 r.cart) ∧ w4.cell? ⟨w.heap.size, 2, none⟩ = some (.string (S r.key)) ∧ w4.cell? ⟨w.heap.size, 3, none⟩ = some (.int .i64 r.gen) ∧ w4.cell? ⟨w.heap.size, 4, none⟩ = some (.int .i64 r.group) ∧ w4.cell? ⟨w.heap.size, 5, none⟩ = some (.int .i64 r.groups) ∧ w4.cell? ⟨w.heap.size, 6, none⟩ = some (.int .i64 r.index) ∧ w4.cell? ⟨w.heap.size, 7, none⟩ = some (.int .i64 r.size) ∧ w4.cell? ⟨w.heap.size, 8, none⟩ = some (.string (S r.sum)) ∧ w4.cell? ⟨w.heap.size, 9, none⟩ = some d) ∧ (w4.cell? ⟨w.heap.size + 1, 0, none⟩ = some (.int .i64 r'.kind) ∧ w4.cell? ⟨w.heap.size + 1, 1, none⟩ = some (.int .i64 r'.cart) ∧ w4.cell? ⟨w.heap.size + 1, 2, none⟩ = some (.string (S r'.key)) ∧ w4.cell? ⟨w.heap.size + 1, 3, none⟩ = some (.int .i64 r'.gen) ∧ w4.cell? ⟨w.heap.size + 1, 4, none⟩ = some (.int .i64 r'.group) ∧ w4.cell? ⟨w.heap.size + 1, 5, none⟩ = some (.int .i64 r'.groups) ∧ w4.cell? ⟨w.heap.size + 1, 6, none⟩ = some (.int .i64 r'.index) ∧ w4.cell? ⟨w.heap.size + 1, 7, none⟩ = some (.int .i64 r'.size) ∧ w4.cell? ⟨w.heap.size + 1, 8, none⟩ = some (.string (S r'.sum)) ∧ w4.cell? ⟨w.heap.size + 1, 9, none⟩ = some d') := ⟨HK.out _ HU4.out HV4.out, rec_cells HA4.out, rec_cells HB4.out⟩
         clear hb4))
    go_wp2
    go_ret
    exact ⟨by first | rfl | (rw [heq]), HW4.out⟩
  · have HZ : Hid (encZ r ≠ 0 ∨ encZ r' ≠ 0) := by
      by_cases h1 : Lab.Good r
      · right; rw [encZ_no (fun h => hg ⟨h1, h⟩)]; decide
      · left; rw [encZ_no h1]; decide
    have HZ1 : Hid (encZ r = 0 ∨ encZ r = 12) := by by_cases h1 : Lab.Good r; exact .inl (encZ_yes h1); exact .inr (encZ_no h1)
    have HZ2 : Hid (encZ r' = 0 ∨ encZ r' = 12) := by by_cases h1 : Lab.Good r'; exact .inl (encZ_yes h1); exact .inr (encZ_no h1)
    obtain ⟨z1, Hz1⟩ := hid_of (encZ r)
    obtain ⟨z2, Hz2⟩ := hid_of (encZ r')
    rw [Hz1.out] at HE1 HZ HZ1
    rw [Hz2.out] at HE2 HZ HZ2
    clear hg
    unfold recV at HE1 HE2 ⊢
    go_enter Try.func9, Try.ntmps9
    go_wp2_with fail
    refine (HE1.out _ HD0.out).mono ?_
    rintro e w1 ⟨a1, n1, c1, rfl, hv1, hb1⟩
    have HB1 := Lib.hid (HB0.out.below hb1 HB0.out.lt)
    have HF1 := Lib.hid (HF0.out.below hb1 rfl)
    have HW1 := Lib.hid (HW0.out.trans (hb1.mono HW0.out.size))
    clear hv1 hb1 HA0 HB0 HD0 HF0 HW0
    obtain ⟨q0, q1, q2, q3, q4, q5, q6, q7, q8, q9⟩ := rec_cells HB1.out
    go_wp2_with fail
    refine (HE2.out _ HF1.out).mono ?_
    rintro e w2 ⟨a2, n2, c2, rfl, hv2, hb2⟩
    have HW2 := Lib.hid (HW1.out.trans (hb2.mono HW1.out.size))
    clear hv2 hb2 HB1 HF1 HW1 q0 q1 q2 q3 q4 q5 q6 q7 q8 q9
    rcases HZ1.out with rfl | rfl
    · rcases HZ2.out with rfl | rfl
      · exfalso; have := HZ.out; omega
      · go_wp2_with fail
        refine (awake9_any _).mono ?_
        rintro e w3 ⟨rfl, hb3⟩
        have HW3 := Lib.hid (HW2.out.trans (hb3.mono HW2.out.size))
        clear hb3
        go_wp2
        go_ret
        exact ⟨rfl, HW3.out⟩
    · go_wp2_with fail
      refine (awake9_any _).mono ?_
      rintro e w3 ⟨rfl, hb3⟩
      have HW3 := Lib.hid (HW2.out.trans (hb3.mono HW2.out.size))
      clear hb3
      go_wp2
      go_ret
      exact ⟨rfl, HW3.out⟩
end Go.Proofs.Ytlmfjohaejdmcaa
