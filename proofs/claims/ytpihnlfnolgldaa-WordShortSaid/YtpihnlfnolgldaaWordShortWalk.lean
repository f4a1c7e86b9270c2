/-
  The walk of kistlaw06.WordShort.
-/
import Derived.Test.YtpihnlfnolgldaaWordText
namespace Go.Proofs.Ytpihnlfnolgldaa
open Go.RowKit
set_option linter.unusedVariables false

theorem and_min (a : Int) : (bits .and .i64 a (-9223372036854775808)).toNat = 0 ∧ (Lit.int .i64 (bits .and .i64 a (-9223372036854775808))).wf = true := by
  have key : ∀ x : BitVec 64, (x &&& BitVec.ofInt 64 (-9223372036854775808)) = 0#64 ∨ (x &&& BitVec.ofInt 64 (-9223372036854775808)) = BitVec.ofInt 64 (-9223372036854775808) := by
    intro x
    have e : BitVec.ofInt 64 (-9223372036854775808) = BitVec.twoPow 64 63 := by decide
    rw [e, BitVec.and_twoPow]
    split
    · exact .inr rfl
    · exact .inl rfl
  have h : bits .and .i64 a (-9223372036854775808) = IntKind.i64.wrap ((BitVec.ofInt 64 a &&& BitVec.ofInt 64 (-9223372036854775808)).toNat : Nat) := rfl
  rw [h]
  rcases key (BitVec.ofInt 64 a) with h | h <;> rw [h] <;> decide

set_option maxHeartbeats 1000000 in
theorem wordShort_walk (m n : Int) (w : World) (hm : (Lit.int .i64 m).wf = true) (hn : (Lit.int .i64 n).wf = true) :
    Calls Try.prog 6 #[.int .i64 m, .int .i64 n] w fun e w' => e = .returned (.bool true) ∧ Below w.heap.size w w' := by
  have HM := Lib.hid hm
  have HN := Lib.hid hn
  clear hm hn
  have hx := and_min (bits .and .i64 m n)
  have HX := Lib.hid hx
  clear hx
  obtain ⟨x, hxd⟩ := hid_of (bits .and .i64 (bits .and .i64 m n) (-9223372036854775808))
  have hsplit : m < 0 ∨ (0 ≤ m ∧ n < 0) ∨ (0 ≤ m ∧ 0 ≤ n) := by omega
  rcases hsplit with h | ⟨h, h'⟩ | ⟨h, h'⟩
  iterate 2
    · go_enter Try.func6, Try.ntmps6
      go_wp2_with fail
      go_region_with (first
        | (go_at_call 9
           refine (awake_any _).mono ?_
           rintro e wA ⟨rfl, hbA⟩
           have HA : Hid (Below w.heap.size w wA) := Lib.hid ⟨hbA.os, hbA.tape, hbA.output, hbA.size, hbA.block⟩
           have hsA : w.heap.size ≤ wA.heap.size := hbA.size
           have hcL := run_convert_S (RB.lit wA (e := 5) (n := 1) (g := wA.heap.size) #[.int .u8 0] [0] (by simp [Bs, B]) (by simp [maxLen]) rfl rfl) 22 9 5 Try.underlying22 Try.underlying5 Try.underlying9
           clear hbA)
        | (go_at_call 10
           refine (Put_any (.slice none 0 0) [] _ _ (RB.nil _) HX.out.2 (by simp)).mono ?_
           rintro e wP ⟨vP, rfl, hoP, hbP⟩
           rw [HX.out.1, Word.enc_low (by decide : 0 < 128), List.nil_append] at hoP
           have hcP := run_convert_S (RB.own hoP) 22 9 5 Try.underlying22 Try.underlying5 Try.underlying9
           have hcP2 := run_convert_S ((RB.own hoP).fr ((Fr.refl (fun _ => False) wP).alloc (.cells #[.int .u8 0] 5)) (fun _ _ _ h => h)) 22 9 5 Try.underlying22 Try.underlying5 Try.underlying9
           have hcL2 := run_convert_S (RB.lit wP (e := 5) (n := 1) (g := wP.heap.size) #[.int .u8 0] [0] (by simp [Bs, B]) (by simp [maxLen]) rfl rfl) 22 9 5 Try.underlying22 Try.underlying5 Try.underlying9
           try have hcL3 := run_convert_S ((RB.lit wA (e := 5) (n := 1) (g := wA.heap.size) #[.int .u8 0] [0] (by simp [Bs, B]) (by simp [maxLen]) rfl rfl).below hbP rfl) 22 9 5 Try.underlying22 Try.underlying5 Try.underlying9
           have HP := Lib.hid hbP
           clear hbP hoP))
      all_goals
        go_wp2
        go_ret
        have hsP := HP.out.size
        have hsA' : w.heap.size ≤ wA.heap.size := hsA
        try simp only [World.size_alloc] at hsP
        first
          | exact ⟨rfl, Below.trans HA.out ((HP.out.mono hsA).alloc (by omega) _)⟩
          | exact ⟨rfl, Below.trans HA.out (((Below.refl _ _).alloc hsA _).trans (HP.out.mono (by rw [World.size_alloc]; omega)))⟩
  · obtain ⟨a, rfl⟩ := Int.eq_ofNat_of_zero_le h
    obtain ⟨b, rfl⟩ := Int.eq_ofNat_of_zero_le h'
    go_enter Try.func6, Try.ntmps6
    go_wp2_with fail
    refine (Put_any (.slice none 0 0) [] _ w (RB.nil _) HM.out (by simp)).mono ?_
    rintro e w1 ⟨v1, rfl, ho1, hb1⟩
    rw [List.nil_append] at ho1
    have HO1 := Lib.hid ho1
    have HB1 := Lib.hid hb1
    clear ho1 hb1
    go_wp2_with fail
    refine (Put_any (.slice none 0 0) [] _ w1 (RB.nil _) HN.out (by simp)).mono ?_
    rintro e w2 ⟨v2, rfl, ho2, hb2⟩
    rw [List.nil_append, Int.toNat_natCast] at ho2
    have hr1 := (RB.own HO1.out).below hb2 rfl
    rw [Int.toNat_natCast] at hr1
    have hcv1 := run_convert_S hr1 22 9 5 Try.underlying22 Try.underlying5 Try.underlying9
    have hcv2 := run_convert_S (RB.own ho2) 22 9 5 Try.underlying22 Try.underlying5 Try.underlying9
    have HB2 := Lib.hid (HB1.out.trans (hb2.mono HB1.out.size))
    have HR1 := Lib.hid hr1
    obtain ⟨a1, cap1, rfl, hk1, hk2⟩ := hr1.shape
    clear ho2 hb2 hr1 HO1 HB1
    obtain ⟨k, hk⟩ := hid_of (Word.enc a).length
    rw [hk.out] at hcv1 hk1
    rw [hk.out]
    have ha : a < 9223372036854775808 := by
      have := HM.out
      simp [Lit.wf, IntKind.min, IntKind.max, IntKind.bits, IntKind.signed] at this; omega
    have hb : b < 9223372036854775808 := by
      have := HN.out
      simp [Lit.wf, IntKind.min, IntKind.max, IntKind.bits, IntKind.signed] at this; omega
    have HR1k : Hid (RB w2 (.slice a1 k cap1) (Word.enc a)) := by have := HR1.out; rw [hk.out] at this; exact Lib.hid this
    have hs : ((S (Word.enc a)).toList == (S (Word.enc b)).toList) = ((a : Int) == (b : Int)) := by
      rw [S_list, S_list, Bool.eq_iff_iff]
      simp only [beq_iff_eq]
      exact ⟨fun h => by rw [Word.enc_inj ha hb h], fun h => by rw [Int.ofNat_inj.1 h]⟩
    have hk0 : 1 ≤ k := by rw [← hk.out]; exact Word.enc_pos a
    have hk9 : k ≤ 9 := by rw [← hk.out]; exact Word.enc_le 8 a (by omega)
    have hes := Word.enc_size 9 a (by omega)
    rw [hk.out] at hes
    have e128 : ∀ j, (128 : Nat) ^ j = 2 ^ (7 * j) := fun j => by rw [show (128 : Nat) = 2 ^ 7 by rfl, ← Nat.pow_mul]
    have hd2 : ((a : Int) / 2 ^ (7 * k) != 0) = false := by
      have h1 := hes.1
      rw [e128] at h1
      have : (a : Int) / 2 ^ (7 * k) = ((a / 2 ^ (7 * k) : Nat) : Int) := by push_cast; rfl
      rw [this, Nat.div_eq_of_lt h1]
      rfl
    have hd1 : 1 < k → ((a : Int) / 2 ^ (7 * (k - 1)) == 0) = false := by
      intro hk1
      have h1 := hes.2 hk1
      rw [e128] at h1
      have : (a : Int) / 2 ^ (7 * (k - 1)) = ((a / 2 ^ (7 * (k - 1)) : Nat) : Int) := by push_cast; rfl
      rw [this, beq_eq_false_iff_ne]
      have := Nat.div_pos h1 (Nat.two_pow_pos _)
      omega
    have hcase : k = 1 ∨ (1 < k ∧ k < 9) ∨ 9 ≤ k := by omega
    have HWF : Hid ((Lit.int .i64 ((a : Int) - 1)).wf = true) := by
      have h2 : (0 : Int) ≤ a := h
      refine Lib.hid ?_
      simp [Lit.wf, IntKind.min, IntKind.max, IntKind.bits, IntKind.signed]; omega
    have HG : Hid (Word.get ((a : Int) - 1) (Word.enc a) false = (0, [], true)) := by
      have := Word.get_enc_less ((a : Int) - 1) a [] ha (by omega)
      rw [List.append_nil] at this
      exact Lib.hid this
    clear hes e128 HX hxd
    rcases hcase with hk1 | ⟨hk1, hk1'⟩ | hk1
    · have hd1' : True := trivial
      clear hd1
      subst hk1
      go_wp2_with fail
      refine (New_any _ _ w2 HR1k.out (by rw [hk.out]; omega)).mono ?_
      rintro e w3 ⟨p, rfl, hr3, hb3⟩
      have HR3 := Lib.hid hr3
      have HB3 := Lib.hid (HB2.out.trans (hb3.mono HB2.out.size))
      have hs2 := HB2.out.size
      clear hr3 hb3 hcv1 hcv2 hs hd1' hd2
      go_wp2_with fail
      refine (awake_any w3).mono ?_
      rintro e w4 ⟨rfl, hb4⟩
      have HR4 := Lib.hid (HR3.out.below hb4 rfl)
      have HB4 := Lib.hid (HB3.out.trans (hb4.mono HB3.out.size))
      clear hb4
      go_wp2_with fail
      refine (Get_any p _ _ false _ w4 HR4.out HWF.out).mono ?_
      rintro e w5 ⟨rfl, hr5, hf5⟩
      rw [HG.out] at hr5 ⊢
      have HR5 := Lib.hid hr5
      have HF5 := Lib.hid hf5
      clear hr5 hf5
      go_wp2_with fail
      refine (End_any p _ _ true w5 HR5.out).mono ?_
      rintro e w6 ⟨rfl, rfl⟩
      go_wp2
      go_ret
      have hp := HR4.out.lt
      exact ⟨rfl, HB4.out.trans (HF5.out.below HB4.out.size (fun k hk e => by omega))⟩
    · have hd1' := hd1 hk1
      clear hd1
      go_wp2_with fail
      refine (New_any _ _ w2 HR1k.out (by rw [hk.out]; omega)).mono ?_
      rintro e w3 ⟨p, rfl, hr3, hb3⟩
      have HR3 := Lib.hid hr3
      have HB3 := Lib.hid (HB2.out.trans (hb3.mono HB2.out.size))
      have hs2 := HB2.out.size
      clear hr3 hb3 hcv1 hcv2 hs hd1' hd2
      go_wp2_with fail
      refine (awake_any w3).mono ?_
      rintro e w4 ⟨rfl, hb4⟩
      have HR4 := Lib.hid (HR3.out.below hb4 rfl)
      have HB4 := Lib.hid (HB3.out.trans (hb4.mono HB3.out.size))
      clear hb4
      go_wp2_with fail
      refine (Get_any p _ _ false _ w4 HR4.out HWF.out).mono ?_
      rintro e w5 ⟨rfl, hr5, hf5⟩
      rw [HG.out] at hr5 ⊢
      have HR5 := Lib.hid hr5
      have HF5 := Lib.hid hf5
      clear hr5 hf5
      go_wp2_with fail
      refine (End_any p _ _ true w5 HR5.out).mono ?_
      rintro e w6 ⟨rfl, rfl⟩
      go_wp2
      go_ret
      have hp := HR4.out.lt
      exact ⟨rfl, HB4.out.trans (HF5.out.below HB4.out.size (fun k hk e => by omega))⟩
    · have hd1' := hd1 (by omega)
      clear hd1
      go_wp2_with fail
      refine (New_any _ _ w2 HR1k.out (by rw [hk.out]; omega)).mono ?_
      rintro e w3 ⟨p, rfl, hr3, hb3⟩
      have HR3 := Lib.hid hr3
      have HB3 := Lib.hid (HB2.out.trans (hb3.mono HB2.out.size))
      have hs2 := HB2.out.size
      clear hr3 hb3 hcv1 hcv2 hs hd1' hd2
      go_wp2_with fail
      refine (awake_any w3).mono ?_
      rintro e w4 ⟨rfl, hb4⟩
      have HR4 := Lib.hid (HR3.out.below hb4 rfl)
      have HB4 := Lib.hid (HB3.out.trans (hb4.mono HB3.out.size))
      clear hb4
      go_wp2_with fail
      refine (Get_any p _ _ false _ w4 HR4.out HWF.out).mono ?_
      rintro e w5 ⟨rfl, hr5, hf5⟩
      rw [HG.out] at hr5 ⊢
      have HR5 := Lib.hid hr5
      have HF5 := Lib.hid hf5
      clear hr5 hf5
      go_wp2_with fail
      refine (End_any p _ _ true w5 HR5.out).mono ?_
      rintro e w6 ⟨rfl, rfl⟩
      go_wp2
      go_ret
      have hp := HR4.out.lt
      exact ⟨rfl, HB4.out.trans (HF5.out.below HB4.out.size (fun k hk e => by omega))⟩
end Go.Proofs.Ytpihnlfnolgldaa
