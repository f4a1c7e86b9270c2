/-
  kistlaw05.short, awake.
-/
import Derived.Test.YtfcgmomankkmpaaDigOf
namespace Go.Proofs.Ytfcgmomankkmpaa
open Go.RowKit
set_option linter.unusedVariables false

def abc : List UInt8 := [0xba, 0x78, 0x16, 0xbf, 0x8f, 0x01, 0xcf, 0xea, 0x41, 0x41, 0x40, 0xde, 0x5d, 0xae, 0x22, 0x23, 0xb0, 0x03, 0x61, 0xa3, 0x96, 0x17, 0x7a, 0x9c, 0xb4, 0x10, 0xff, 0x61, 0xf2, 0x00, 0x15, 0xad]
theorem dig_abc : dig [97, 98, 99] = abc := by decide +kernel
theorem dig_length (b : List UInt8) : (dig b).length = 32 := by
  unfold dig
  have := flat_length (sums (blocks b) ivH (padded b)).list 8
  rw [List.take_of_length_le (Nat.le_refl 8)] at this
  exact this

set_option maxRecDepth 20000 in
set_option maxHeartbeats 2000000 in
theorem short_any (v : Value) (b : List UInt8) (w : World) (h : RB w v b) (hb : b.length ≤ 140737488351232) :
    Calls Try.prog 6 #[v, .int .i64 600] w (Makes 5 w (b.take 600)) := by
  have H := Lib.hid h
  obtain ⟨va, vc, rfl, hv1, hv2⟩ := h.shape
  obtain ⟨n, Hn⟩ := hid_of b.length
  rw [Hn.out] at hb hv1 H ⊢
  clear h
  obtain ⟨R, HR⟩ := hid_of (b.take 600)
  rw [HR.out]
  simp only [maxLen] at hv2
  go_enter Try.func6, Try.ntmps6
  by_cases h6 : 600 < n
  · have hRB : RB (w.alloc (.cells #[] 5)) (.slice va 600 vc) R := by
      have h0 := H.out
      rcases h0.parts with ⟨rfl, _⟩ | ⟨_, g, o, c, he, hc1, hc2, hcell⟩
      · have := Hn.out; simp at this; omega
      · cases he
        have hl : R.length = 600 := by rw [← HR.out, List.length_take, Hn.out]; omega
        refine ⟨_, vc, by rw [hl], by rw [hl]; omega, by simp only [maxLen]; omega, fun h => (by cases h), .inr ⟨g, o, rfl, fun j hj => ?_⟩⟩
        have hj' : j < b.length := by rw [hl] at hj; rw [Hn.out]; omega
        rw [((Below.refl _ w).alloc (Nat.le_refl _) _).cell (World.block_lt_of_cell? w _ (hcell j hj')), hcell j hj']
        simp only [← HR.out, List.getElem_take]
    have HRb := Lib.hid hRB
    have hRl : R.length ≤ 600 := by rw [← HR.out]; exact List.length_take_le _ _
    clear hRB
    have z1 : (600 : Int) ≤ (vc : Int) := by omega
    go_wp2_with (at_builtin; refine stopped ?_)
    refine going (wpList_append_bytes _ rfl _ _ 22 22 rfl w.heap.size 5 5 Try.underlying22 Try.underlying22 infoU8 _ [] 0 rfl (own_empty w (Nat.le_refl _) rfl) _ R rfl HRb.out (by simp; omega) (by simp) ?_)
    intro v1 w1 ho1 hb1 hg1
    rw [List.nil_append] at ho1
    have HO1 := Lib.hid ho1
    have HB1 : Hid (Below w.heap.size w w1) := ((Below.refl _ _).alloc (Nat.le_refl _) _).trans hb1
    clear ho1 hb1 hg1
    go_wp2
    go_ret
    exact ⟨_, rfl, HO1.out, HB1.out⟩
  · have hRb : b = R := by rw [← HR.out, List.take_of_length_le (by rw [Hn.out]; omega)]
    have HRb : Hid (RB (w.alloc (.cells #[] 5)) (.slice va n vc) R) := by
      rw [← hRb]
      exact H.out.below ((Below.refl _ w).alloc (Nat.le_refl _) _) rfl
    have hRl : R.length = n := by rw [← hRb, Hn.out]
    have HRl := Lib.hid hRl
    clear hRb hRl
    go_wp2_with (at_builtin; refine stopped ?_)
    refine going (wpList_append_bytes _ rfl _ _ 22 22 rfl w.heap.size 5 5 Try.underlying22 Try.underlying22 infoU8 _ [] 0 rfl (own_empty w (Nat.le_refl _) rfl) _ R rfl HRb.out (by rw [HRl.out]; simp; omega) (by simp) ?_)
    intro v1 w1 ho1 hb1 hg1
    rw [List.nil_append] at ho1
    have HO1 := Lib.hid ho1
    have HB1 : Hid (Below w.heap.size w w1) := ((Below.refl _ _).alloc (Nat.le_refl _) _).trans hb1
    clear ho1 hb1 hg1
    go_wp2
    go_ret
    exact ⟨_, rfl, HO1.out, HB1.out⟩

set_option maxRecDepth 20000 in
set_option maxHeartbeats 2000000 in
theorem awake_any (w : World) : Calls Try.prog 7 #[] w fun e w' => e = .returned (.bool true) ∧ Below w.heap.size w w' := by
  go_enter Try.func7, Try.ntmps7
  go_wp2
  have hrb : RB (w.alloc (.cells #[.int .u8 186, .int .u8 120, .int .u8 22, .int .u8 191, .int .u8 143, .int .u8 1, .int .u8 207, .int .u8 234, .int .u8 65, .int .u8 65, .int .u8 64, .int .u8 222, .int .u8 93, .int .u8 174, .int .u8 34, .int .u8 35, .int .u8 176, .int .u8 3, .int .u8 97, .int .u8 163, .int .u8 150, .int .u8 23, .int .u8 122, .int .u8 156, .int .u8 180, .int .u8 16, .int .u8 255, .int .u8 97, .int .u8 242, .int .u8 0, .int .u8 21, .int .u8 173] 5)) (.slice (some ⟨w.heap.size, 0, none⟩) 32 32) abc := RB.lit _ _ abc rfl (by simp [maxLen, abc]) rfl rfl
  have HB1 : Hid (Below w.heap.size w (w.alloc (.cells #[.int .u8 186, .int .u8 120, .int .u8 22, .int .u8 191, .int .u8 143, .int .u8 1, .int .u8 207, .int .u8 234, .int .u8 65, .int .u8 65, .int .u8 64, .int .u8 222, .int .u8 93, .int .u8 174, .int .u8 34, .int .u8 35, .int .u8 176, .int .u8 3, .int .u8 97, .int .u8 163, .int .u8 150, .int .u8 23, .int .u8 122, .int .u8 156, .int .u8 180, .int .u8 16, .int .u8 255, .int .u8 97, .int .u8 242, .int .u8 0, .int .u8 21, .int .u8 173] 5))) := (Below.refl _ _).alloc (Nat.le_refl _) _
  have HRB := Lib.hid hrb
  obtain ⟨w1, Hw1⟩ := hid_of (w.alloc (.cells #[.int .u8 186, .int .u8 120, .int .u8 22, .int .u8 191, .int .u8 143, .int .u8 1, .int .u8 207, .int .u8 234, .int .u8 65, .int .u8 65, .int .u8 64, .int .u8 222, .int .u8 93, .int .u8 174, .int .u8 34, .int .u8 35, .int .u8 176, .int .u8 3, .int .u8 97, .int .u8 163, .int .u8 150, .int .u8 23, .int .u8 122, .int .u8 156, .int .u8 180, .int .u8 16, .int .u8 255, .int .u8 97, .int .u8 242, .int .u8 0, .int .u8 21, .int .u8 173] 5))
  rw [Hw1.out] at HRB HB1 ⊢
  clear hrb Hw1
  have HK : Hid (∀ wx, Below w1.heap.size w1 wx → (convert 22 9 (.slice (some ⟨w.heap.size, 0, none⟩) 32 32)).run Try.prog wx = .ok (.string (S abc)) wx) := fun wx hwx => run_convert_S (HRB.out.below hwx rfl) _ _ _ Try.underlying22 Try.underlying5 Try.underlying9
  have HX0 : Hid (Below w1.heap.size w1 w1.drew) := (Below.refl _ _).drew
  have HX1 : Hid (Below w1.heap.size w1 (w1.drew.alloc (.cells #[.int .u8 97, .int .u8 98, .int .u8 99] 5))) := (Below.refl _ _).drew.alloc (Nat.le_refl _) _
  have HR3 : Hid (RB (w1.drew.alloc (.cells #[.int .u8 97, .int .u8 98, .int .u8 99] 5)) (.slice (some ⟨w1.heap.size, 0, none⟩) 3 3) [97, 98, 99]) := RB.lit _ _ [97, 98, 99] rfl (by simp [maxLen]) rfl rfl
  have HS1 : Hid (w.heap.size ≤ w1.heap.size) := HB1.out.size
  obtain ⟨A, HA⟩ := hid_of abc
  rw [HA.out] at HK
  have HD : Hid (dig [97, 98, 99] = A) := by rw [← HA.out]; exact dig_abc
  go_region_held (fun wx => (convert 22 9 (.slice (some ⟨w.heap.size, 0, none⟩) 32 32)).run Try.prog wx = .ok (.string (S A)) wx)
    (first | exact HK.out _ HX0.out | exact HK.out _ HX1.out | exact HK.out _ HX2.out)
    (first | (go_at_call 8; refine (Of_any _ [97, 98, 99] _ HR3.out (by simp)).mono ?_; rintro e w2 ⟨rfl, hb2⟩; rw [HD.out]; have HX2 := Lib.hid (HX1.out.trans (hb2.mono HX1.out.size)); clear hb2))
  all_goals
    have HBe : Hid (Below w.heap.size w w2) := HB1.out.trans (HX2.out.mono HB1.out.size)
    clear HX2
    go_wp2
    go_ret
    exact ⟨rfl, HBe.out⟩
end Go.Proofs.Ytfcgmomankkmpaa
