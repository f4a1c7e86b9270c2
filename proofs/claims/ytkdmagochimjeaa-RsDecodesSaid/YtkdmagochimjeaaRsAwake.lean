/-
  kistlaw03.awake: a fixed fact.
-/
import Derived.Test.YtkdmagochimjeaaRsPlain
namespace Go.Proofs.Ytkdmagochimjeaa
open Go.RowKit
set_option linter.unusedVariables false
set_option linter.unusedSimpArgs false

set_option maxRecDepth 100000 in
set_option maxHeartbeats 4000000 in
theorem awake3_any (w : World) : Calls Try.prog 12 #[] w fun e w' => e = .returned (.bool true) ∧ Below w.heap.size w w' := by
  have hmk := make_bytes 128 (by omega) w
  rw [show ((128 : Nat) : Int) = 128 from rfl] at hmk
  have hrf0 := made_row w 5 128 rfl
  have hfz := hrf0.frozen 0
  have hold := hrf0.cell 0 (by omega)
  have hrf : RowF 5 ((w.alloc (.cells (madeCells #[.int .u8 0] 128) 5)).setCell ⟨w.heap.size, 0, none⟩ (.int .u8 1)) w.heap.size 128 (fun i => if i = 0 then 1 else 0) := hrf0.set 0 1
  have HD0 := Lib.hid (hrf.read (Nat.le_refl 128) (by simp [maxLen]))
  have HB0 : Hid (Below w.heap.size w ((w.alloc (.cells (madeCells #[.int .u8 0] 128) 5)).setCell ⟨w.heap.size, 0, none⟩ (.int .u8 1))) := ((Below.refl _ _).alloc (Nat.le_refl _) _).setCell (Nat.le_refl _) _
  have hw : (w.alloc (.cells (madeCells #[.int .u8 0] 128) 5)).setCell ⟨w.heap.size, 0, none⟩ (.int .u8 1) = w.alloc (.cells ((madeCells #[.int .u8 0] 128).setIfInBounds 0 (.int .u8 1)) 5) := World.setCell_alloc_at (hn := rfl) ..
  rw [hw] at HD0 HB0
  clear hrf hrf0 hw
  go_enter Try.func12, Try.ntmps12
  go_wp2_with fail
  refine (encode_ct _ one _ HD0.out (line_length _ _)).mono ?_
  rintro e w1 ⟨v1, rfl, hc1, hb1⟩
  have HD1 : Hid (RB w1 (.slice (some ⟨w.heap.size, 0, none⟩) 128 128) one) := HD0.out.below hb1 rfl
  have HB1 := Lib.hid (HB0.out.trans (hb1.mono HB0.out.size))
  have HS1 : Hid (w.heap.size < w1.heap.size) := Lib.hid (by have := hb1.size; simp at this; omega)
  obtain ⟨a1, c1, rfl, hl1, hm1⟩ := hc1.shape
  have hsz : w.heap.size < (w.alloc (.cells ((madeCells #[.int .u8 0] 128).setIfInBounds 0 (.int .u8 1)) 5)).heap.size := by simp
  have hc1 := hc1.mono hsz
  have hl : (encT one).length = 10 := tab_length _ _ _
  obtain ⟨g, rfl, hg1, hg2, hcl⟩ := hc1.cell (by rw [hl]; omega)
  obtain ⟨u8, hu8, _, hr8, _⟩ := hcl 8 (by rw [hl]; omega)
  obtain ⟨u9, hu9, _, hr9, _⟩ := hcl 9 (by rw [hl]; omega)
  obtain ⟨u0, hu0, hf0, _, _, hs0⟩ := hcl 0 (by rw [hl]; omega)
  have hc2 := hs0 (.slice none 0 0) [] (RB.nil _) (by simp)
  have hl2 : ((encT one).set 0 []).length = 10 := by rw [List.length_set, hl]
  obtain ⟨g', hgg, _, _, hcl2⟩ := hc2.cell (by rw [hl2]; omega)
  obtain rfl : g = g' := by simpa using hgg
  obtain ⟨u1, hu1, hf1, _, _, hs1⟩ := hcl2 1 (by rw [hl2]; omega)
  have hc3 := hs1 (.slice none 0 0) [] (RB.nil _) (by simp)
  rw [one_two] at hc3
  rw [show (encT one).getD 8 [] = line 16 (encF one 8) from tab_getD _ _ _ _ (by omega)] at hr8
  rw [show (encT one).getD 9 [] = line 16 (encF one 9) from tab_getD _ _ _ _ (by omega)] at hr9
  obtain ⟨a8, c8, rfl, hl8, hm8⟩ := hr8.shape
  obtain ⟨a9, c9, rfl, hl9, hm9⟩ := hr9.shape
  rw [line_length] at hu8 hu9 hl8 hl9
  rw [hl] at hl1 hc3 ⊢
  simp only [maxLen] at hm1
  have HC3 := Lib.hid hc3
  have HG1 := Lib.hid hg1
  have HG2 := Lib.hid hg2
  have hg1' : w.heap.size ≤ g := by omega
  have HB3 : Hid (Below w.heap.size w ((w1.setCell ⟨g, 0, none⟩ (.slice none 0 0)).setCell ⟨g, 1, none⟩ (.slice none 0 0))) := (HB1.out.setCell hg1' _).setCell hg1' _
  have HD3 : Hid (RB ((w1.setCell ⟨g, 0, none⟩ (.slice none 0 0)).setCell ⟨g, 1, none⟩ (.slice none 0 0)) (.slice (some ⟨w.heap.size, 0, none⟩) 128 128) one) := by
    have hfr : Fr (fun k => k = g) w1 ((w1.setCell ⟨g, 0, none⟩ (.slice none 0 0)).setCell ⟨g, 1, none⟩ (.slice none 0 0)) := Fr.setCell (S := fun k => k = g) (Fr.setCell (S := fun k => k = g) (Fr.refl _ _) (p := ⟨g, 0, none⟩) (fun _ => rfl) _) (p := ⟨g, 1, none⟩) (fun _ => rfl) _
    exact HD1.out.fr hfr (fun _ k hk e => by have h1 : w.heap.size = k := (by simpa [Value.ownBlock] using hk); omega)
  clear hmk hfz hold hb1 HD0 HB0 hcl hcl2 hs0 hs1 hc1 hc2 hc3 hr8 hr9 hgg hg1 hg1' hg2 hsz HB1 HD1
  go_wp2_with fail
  refine (decode_any _ _ _ HC3.out.read).mono ?_
  rintro e w3 ⟨hok, hb3⟩
  obtain ⟨v3, rfl, hr3, hf3⟩ := dec_lack hok (line_length _ _) (by decide)
  have hc4 := HC3.out.below hb3 rfl
  have hd4 := HD3.out.below hb3 rfl
  have hB4 := HB3.out.trans (hb3.mono HB3.out.size)
  have hl4 : (lackT one (fun i => decide (i < 2))).length = 10 := lack_length _ _
  obtain ⟨g', hgg, hg1, hg2, hcl⟩ := hc4.cell (by rw [hl4]; omega)
  obtain rfl : g = g' := by simpa using hgg
  obtain ⟨u2, hu2, hf2, _, _, hs2⟩ := hcl 2 (by rw [hl4]; omega)
  have hc5 := hs2 (.slice none 0 0) [] (RB.nil _) (by simp)
  rw [show (lackT one (fun i => decide (i < 2))).set 2 [] = lackT one (fun i => decide (i < 3)) by rw [← one_two, one_three]] at hc5
  have hg1' : w.heap.size ≤ g := by have := HG1.out; have := HS1.out; omega
  have HC5 := Lib.hid hc5
  have HB5 : Hid (Below w.heap.size w (w3.setCell ⟨g, 2, none⟩ (.slice none 0 0))) := hB4.setCell hg1' _
  have hfr : Fr (fun k => k = g) w3 (w3.setCell ⟨g, 2, none⟩ (.slice none 0 0)) := Fr.setCell (S := fun k => k = g) (Fr.refl _ _) (p := ⟨g, 2, none⟩) (fun _ => rfl) _
  have HR5 : Hid (RB (w3.setCell ⟨g, 2, none⟩ (.slice none 0 0)) v3 one) := hr3.fr hfr (fun _ k hk e => by have h1 := hf3 k hk; simp at h1; have := HG2.out; omega)
  have HD5 : Hid (RB (w3.setCell ⟨g, 2, none⟩ (.slice none 0 0)) (.slice (some ⟨w.heap.size, 0, none⟩) 128 128) one) := hd4.fr hfr (fun _ k hk e => by have h1 : w.heap.size = k := (by simpa [Value.ownBlock] using hk); have := HG1.out; simp at this; omega)
  clear hok hb3 hc4 hcl hgg hg1 hg2 hg1' hs2 hc5 hr3 hd4 HC3 hfr hf3 hB4 HB3 HD3
  go_wp2_with fail
  refine (decode_any _ _ _ HC5.out.read).mono ?_
  rintro e w6 ⟨hok, hb6⟩
  obtain rfl := dec_lost hok (by decide)
  have hc6 := HC5.out.below hb6 rfl
  have HD6 := Lib.hid (HD5.out.below hb6 rfl)
  have HR6 := Lib.hid (HR5.out.below hb6 rfl)
  have HB6 := Lib.hid (HB5.out.trans (hb6.mono HB5.out.size))
  have hl6 : (lackT one (fun i => decide (i < 3))).length = 10 := lack_length _ _
  obtain ⟨g', hgg, hg1, hg2, hcl⟩ := hc6.cell (by rw [hl6]; omega)
  obtain rfl : g = g' := by simpa using hgg
  clear hu0 hu1 hu2 hu8 hu9 hf0 hf1 hf2
  obtain ⟨u8, hu8, _, hr8, _⟩ := hcl 8 (by rw [hl6]; omega)
  obtain ⟨u9, hu9, _, hr9, _⟩ := hcl 9 (by rw [hl6]; omega)
  rw [lack_getD _ _ _ (by omega), if_neg (by decide)] at hr8 hr9
  obtain ⟨a8, c8, rfl, hl8, hm8⟩ := hr8.shape
  obtain ⟨a9, c9, rfl, hl9, hm9⟩ := hr9.shape
  rw [line_length] at hu8 hu9 hl8 hl9 hr8 hr9
  obtain ⟨b8, o8, rfl, hb8, hy8⟩ := hr8.at (by rw [line_length]; omega)
  obtain ⟨b9, o9, rfl, hb9, hy9⟩ := hr9.at (by rw [line_length]; omega)
  have hz8 := hy8 0 (by rw [line_length]; omega)
  have hz9 := hy9 0 (by rw [line_length]; omega)
  rw [line_at _ _ _ (by omega), one_8, Nat.add_zero] at hz8
  rw [line_at _ _ _ (by omega), one_9, Nat.add_zero] at hz9
  rw [show ((173 : UInt8).toNat : Int) = 173 from rfl] at hz8
  rw [show ((157 : UInt8).toNat : Int) = 157 from rfl] at hz9
  have hcv1 := run_convert_S (P := Try.prog) HR6.out 22 9 5 Try.underlying22 Try.underlying5 Try.underlying9
  have hcv2 := run_convert_S (P := Try.prog) HD6.out 22 9 5 Try.underlying22 Try.underlying5 Try.underlying9
  obtain ⟨E, HE⟩ := hid_of (S one)
  rw [HE.out] at hcv1 hcv2
  clear hok hb6 hc6 hcl hgg hg1 hg2 HC5 HD5 HR5 HB5 hr8 hr9 hy8 hy9 hb8 hb9 hl6
  go_wp2
  go_ret
  exact ⟨rfl, HB6.out⟩
end Go.Proofs.Ytkdmagochimjeaa
