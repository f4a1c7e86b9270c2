/-
  The walks of kistref04 (bit, Of): the reference computes Sum.crc too.
-/
import Derived.Test.YtlhkmbhfgoejjaaSumWalk

namespace Go.Proofs.Ytlhkmbhfgoejjaa
open Go.RowKit
set_option linter.unusedVariables false

namespace Sum
theorem bit_walk (b : UInt8) (j : Nat) (hj : j < 8) : bits .and .u32 ((b.toNat : Int) / ((2 ^ j : Nat) : Int) % 4294967296) 1 = ((b.toBitVec.getLsbD j).toNat : Int) := by
  have hb : b.toNat < 2 ^ 8 := b.toNat_lt
  have h1 : (b.toNat : Int) / ((2 ^ j : Nat) : Int) % 4294967296 = ((b.toNat / 2 ^ j : Nat) : Int) := by
    have h : b.toNat / 2 ^ j < 4294967296 := Nat.lt_of_le_of_lt (Nat.div_le_self _ _) (by omega)
    have e : (b.toNat : Int) / ((2 ^ j : Nat) : Int) = ((b.toNat / 2 ^ j : Nat) : Int) := (Int.natCast_ediv _ _).symm
    rw [e]
    generalize b.toNat / 2 ^ j = q at *
    omega
  have h2 : b.toNat / 2 ^ j < 4294967296 := Nat.lt_of_le_of_lt (Nat.div_le_self _ _) (by omega)
  rw [h1, show (1 : Int) = ((1 : Nat) : Int) from rfl, u32_and_nat _ _ h2 (by decide), Nat.and_one_is_mod]
  rw [← BitVec.testBit_toNat, Nat.testBit_eq_decide_div_mod_eq]
  show ((b.toNat / 2 ^ j % 2 : Nat) : Int) = ((decide (b.toNat / 2 ^ j % 2 = 1)).toNat : Int)
  rcases Nat.mod_two_eq_zero_or_one (b.toNat / 2 ^ j) with h | h <;> rw [h] <;> rfl
theorem bitAt_in (l : List UInt8) (k : Nat) (h : k / 8 < l.length) : bitAt l k = l[k / 8].toBitVec.getLsbD (k % 8) := by
  unfold bitAt
  rw [List.getD_eq_getElem?_getD, List.getElem?_eq_getElem h]
  rfl
theorem join_walk (m : Nat) (x : Bool) (hm : m < 4294967296) : bits .or .u64 ((m : Int) * 2) (x.toNat : Int) = ((2 * m + x.toNat : Nat) : Int) := by
  have hx : x.toNat ≤ 1 := Bool.toNat_le x
  rw [show (m : Int) * 2 = ((m * 2 : Nat) : Int) by omega, u64_or_nat _ _ (by omega) (by omega), nat_join 1 _ _ (by omega) (by omega), Nat.mul_comm]
theorem flip_walk (x : Bool) : IntKind.u64.wrap (bits .xor .u32 (x.toNat : Int) 1) = ((!x).toNat : Int) := by
  cases x <;> decide
theorem keep_walk (x : Bool) : IntKind.u64.wrap (x.toNat : Int) = (x.toNat : Int) := by
  cases x <;> decide
theorem round_walk (c : W32) (x : Bool) {E : Int} (hE : E = ((2 * mirror c + x.toNat : Nat) : Int)) :
    ((E / 4294967296 == 1) = true → bits .xor .u64 E 4812730177 = (mirror (step c ^^^ high x) : Int)) ∧ ((E / 4294967296 == 1) = false → E = (mirror (step c ^^^ high x) : Int)) := by
  have hm := mirror_lt c
  have hx : x.toNat ≤ 1 := Bool.toNat_le x
  rw [← mirror_step c x]
  subst hE
  constructor
  · intro h
    have : (2 * mirror c + x.toNat) / 4294967296 = 1 := by
      have := beq_iff_eq.1 h
      omega
    rw [if_pos this]
    rw [show (4812730177 : Int) = ((poly33 : Nat) : Int) from rfl, u64_xor_nat _ _ (by omega) (by decide)]
  · intro h
    have : ¬ (2 * mirror c + x.toNat) / 4294967296 = 1 := by
      have := beq_eq_false_iff_ne.1 h
      omega
    rw [if_neg this]
theorem mirror_bit (c : W32) {i : Nat} (h : i < 32) : mirror c / 2 ^ i % 2 = (c.toNat / 2 ^ (31 - i)) % 2 := by
  have h1 : (mirror c).testBit i = c.toNat.testBit (31 - i) := by
    unfold mirror
    rw [BitVec.testBit_toNat, rev_bit c h, BitVec.testBit_toNat]
  rw [Nat.testBit_eq_decide_div_mod_eq, Nat.testBit_eq_decide_div_mod_eq] at h1
  have := decide_eq_decide.1 h1
  omega
theorem out_walk (c : W32) (k : Nat) (h : k < 32) :
    bits .or .u32 (((c.toNat / 2 ^ (32 - k) : Nat) : Int) * 2 % 4294967296) (bits .and .u64 ((mirror c : Int) / ((2 ^ k : Nat) : Int)) 1 % 4294967296) = ((c.toNat / 2 ^ (32 - (k + 1)) : Nat) : Int) := by
  have hc := c.isLt
  have hm := mirror_lt c
  have h1 : (mirror c : Int) / ((2 ^ k : Nat) : Int) = ((mirror c / 2 ^ k : Nat) : Int) := by omega
  have h2 : mirror c / 2 ^ k ≤ mirror c := Nat.div_le_self _ _
  rw [h1, show (1 : Int) = ((1 : Nat) : Int) from rfl, u64_and_nat _ _ (by omega) (by decide), Nat.and_one_is_mod, mirror_bit c h, show 32 - (k + 1) = 31 - k by omega]
  have h3 : c.toNat / 2 ^ (32 - k) = c.toNat / 2 ^ (31 - k) / 2 := by
    rw [Nat.div_div_eq_div_mul, ← Nat.pow_succ, show (31 - k).succ = 32 - k by omega]
  have h4 : c.toNat / 2 ^ (31 - k) ≤ c.toNat := Nat.div_le_self _ _
  rw [h3]
  generalize c.toNat / 2 ^ (31 - k) = y at *
  rw [show ((y / 2 : Nat) : Int) * 2 % 4294967296 = ((y / 2 * 2 : Nat) : Int) by omega, show ((y % 2 : Nat) : Int) % 4294967296 = ((y % 2 : Nat) : Int) by omega,
    u32_or_nat _ _ (by omega) (by omega), nat_join 1 _ _ (by omega) (by omega)]
  congr 1
  omega
end Sum

set_option maxHeartbeats 400000 in
theorem bit_any (v : Value) (l : List UInt8) (k : Nat) (w : World) (h : RB w v l) (hk : k < 9223372036854775807) :
    Calls Try.prog 83 #[v, .int .i64 k] w fun e w' => e = .returned (.int .u32 ((Sum.bitAt l k).toNat : Int)) ∧ w = w' := by
  obtain ⟨a, cap, rfl, h1, h2, h3, h4⟩ := h
  simp only [maxLen] at h2
  by_cases hlt : k / 8 < l.length
  · rcases h4 with rfl | ⟨b, off, rfl, hc⟩
    · simp at hlt
    have hck := hc (k / 8) hlt
    have hb := l[k/8].toNat_lt
    have HB := Lib.hid (Sum.bitAt_in l k hlt)
    obtain ⟨z, HZ⟩ := hid_of l[k/8]
    rw [HZ.out] at hck hb
    clear hc
    go_enter Try.func83, Try.ntmps83
    go_wp2
    go_ret
    refine ⟨ret_int ?_, rfl⟩
    rw [HB.out, HZ.out, ← Sum.bit_walk z _ (by omega)]
    simp
  · have hz : Sum.bitAt l k = false := Sum.bitAt_off l (by omega)
    have HB := Lib.hid hz
    clear hz
    go_enter Try.func83, Try.ntmps83
    go_wp2
    go_ret
    exact ⟨by rw [HB.out]; rfl, rfl⟩

set_option maxHeartbeats 1000000 in
theorem ref_any (v : Value) (l : List UInt8) (w : World) (h : RB w v l) (hl : l.length ≤ 140737488355328) :
    Calls Try.prog 77 #[v] w fun e w' => e = .returned (.int .u32 ((Sum.crc l).toNat : Int)) ∧ w = w' := by
  have HB := Lib.hid (bit_any v l)
  obtain ⟨a, cap, rfl, h1, h2⟩ := h.shape
  have H := Lib.hid h
  clear h
  simp only [maxLen] at h2
  go_enter Try.func77, Try.ntmps77
  go_wp2
  go_loop [3, 4, 5] (fun r i x => ∃ (k : Nat), k ≤ 8 * l.length + 32 ∧ i = .int .i64 k ∧ r = .int .u64 (Sum.mirror (Sum.back (Sum.turned (Sum.bitAt l)) k) : Int)) (fun _ i _ => 8 * l.length + 32 - (intOf i).toNat)
  case atStart => exact ⟨0, by omega, rfl, by rw [show Sum.back (Sum.turned (Sum.bitAt l)) 0 = 0#32 from rfl, Sum.mirror_zero]; rfl⟩
  case round =>
    obtain ⟨k, hk, rfl, rfl⟩ := hrel
    obtain ⟨c, HC⟩ := hid_of (Sum.back (Sum.turned (Sum.bitAt l)) k)
    rw [HC.out]
    have hm := Sum.mirror_lt c
    by_cases hlt : k < 8 * l.length + 32
    · by_cases h32 : k < 32
      · go_wp2_with fail
        refine (HB.out k w H.out (by omega)).mono ?_
        rintro e w' ⟨rfl, rfl⟩
        obtain ⟨x, HX⟩ := hid_of (Sum.bitAt l k)
        rw [HX.out]
        have hs : Hid (Sum.back (Sum.turned (Sum.bitAt l)) (k + 1) = Sum.step c ^^^ Sum.high (!x)) := by
          show Sum.step (Sum.back (Sum.turned (Sum.bitAt l)) k) ^^^ Sum.high (Sum.turned (Sum.bitAt l) k) = _
          rw [HC.out, Sum.turned, if_pos h32, HX.out]
        have hf := Sum.flip_walk x
        go_wp2
        all_goals
          go_round
          case rel =>
            refine ⟨k + 1, by omega, by go_num, ?_⟩
            rw [hs.out]
            have hj := Sum.join_walk (Sum.mirror c) (!x) hm
            first
              | exact val_int ((Sum.round_walk c (!x) hj).1 (by assumption))
              | exact val_int ((Sum.round_walk c (!x) hj).2 (by assumption))
          case measure => simp [intOf]; omega
      · go_wp2_with fail
        refine (HB.out k w H.out (by omega)).mono ?_
        rintro e w' ⟨rfl, rfl⟩
        obtain ⟨x, HX⟩ := hid_of (Sum.bitAt l k)
        rw [HX.out]
        have hs : Hid (Sum.back (Sum.turned (Sum.bitAt l)) (k + 1) = Sum.step c ^^^ Sum.high x) := by
          show Sum.step (Sum.back (Sum.turned (Sum.bitAt l)) k) ^^^ Sum.high (Sum.turned (Sum.bitAt l) k) = _
          rw [HC.out, Sum.turned, if_neg h32, HX.out]
        have hf := Sum.keep_walk x
        go_wp2
        all_goals
          go_round
          case rel =>
            refine ⟨k + 1, by omega, by go_num, ?_⟩
            rw [hs.out]
            have hj := Sum.join_walk (Sum.mirror c) x hm
            first
              | exact val_int ((Sum.round_walk c x hj).1 (by assumption))
              | exact val_int ((Sum.round_walk c x hj).2 (by assumption))
          case measure => simp [intOf]; omega
    · obtain rfl : k = 8 * l.length + 32 := by omega
      have HF : Hid (~~~ c = Sum.crc l) := by
        show ~~~ c = Sum.crc l
        rw [← HC.out]; exact Sum.back_crc l
      clear HC HB H
      go_wp2
      go_loop [6, 7] (fun o i => ∃ (j : Nat), j ≤ 32 ∧ i = .int .i64 j ∧ o = .int .u32 ((c.toNat / 2 ^ (32 - j) : Nat) : Int)) (fun _ i => 32 - (intOf i).toNat)
      case atStart => exact ⟨0, by omega, rfl, by rw [Nat.div_eq_of_lt c.isLt]; rfl⟩
      case round =>
        obtain ⟨j, hj, rfl, rfl⟩ := hrel
        by_cases hj2 : j < 32
        · obtain ⟨y, HY⟩ := hid_of (c.toNat / 2 ^ (32 - j))
          have hy : y < 4294967296 := by rw [← HY.out]; exact Nat.lt_of_le_of_lt (Nat.div_le_self _ _) c.isLt
          rw [HY.out]
          obtain ⟨m, HM⟩ := hid_of (Sum.mirror c)
          rw [HM.out] at hm ⊢
          go_wp2
          go_round
          case rel =>
            refine ⟨j + 1, by omega, by go_num, val_int ?_⟩
            rw [← Sum.out_walk c j hj2, HY.out, HM.out]
            simp
          case measure => simp [intOf]; omega
        · obtain rfl : j = 32 := by omega
          go_wp2
          go_ret
          refine ⟨ret_int ?_, rfl⟩
          rw [← HF.out, ← Sum.not_walk]
end Go.Proofs.Ytlhkmbhfgoejjaa
