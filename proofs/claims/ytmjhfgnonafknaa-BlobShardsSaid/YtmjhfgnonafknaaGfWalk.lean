/-
  The walks of kist/gf: Mul, Pow, Div.
-/
import Derived.Test.YtmjhfgnonafknaaChecked
import Derived.Test.YtmjhfgnonafknaaObj
import Derived.Test.YtmjhfgnonafknaaGfLaw
import Derived.Laws.BitsAllLaws

namespace Go.Proofs.Ytmjhfgnonafknaa
open Go.RowKit
set_option linter.unusedVariables false

theorem ofInt_i64 (a : Nat) (ha : a < 9223372036854775808) : (BitVec.ofInt 64 (a : Int)).toNat = a := by
  rw [BitVec.ofInt_natCast, BitVec.toNat_ofNat]
  exact Nat.mod_eq_of_lt (by omega)
theorem i64_wrap_nat (a : Nat) (ha : a < 9223372036854775808) : IntKind.i64.wrap (a : Int) = (a : Int) := IntWalk.i64_in _ (by omega)
theorem i64_xor_nat (a b : Nat) (ha : a < 4294967296) (hb : b < 4294967296) : bits .xor .i64 (a : Int) (b : Int) = ((a ^^^ b : Nat) : Int) := by
  have h : bits .xor .i64 (a : Int) (b : Int) = IntKind.i64.wrap ((BitVec.ofInt 64 (a : Int) ^^^ BitVec.ofInt 64 (b : Int)).toNat : Nat) := rfl
  rw [h, BitVec.toNat_xor, ofInt_i64 a (by omega), ofInt_i64 b (by omega)]
  have := Nat.xor_lt_two_pow (n := 32) ha hb
  exact i64_wrap_nat _ (by omega)
theorem i64_and_nat (a b : Nat) (ha : a < 4294967296) (hb : b < 4294967296) : bits .and .i64 (a : Int) (b : Int) = ((a &&& b : Nat) : Int) := by
  have h : bits .and .i64 (a : Int) (b : Int) = IntKind.i64.wrap ((BitVec.ofInt 64 (a : Int) &&& BitVec.ofInt 64 (b : Int)).toNat : Nat) := rfl
  rw [h, BitVec.toNat_and, ofInt_i64 a (by omega), ofInt_i64 b (by omega)]
  have := Nat.and_lt_two_pow (n := 32) a hb
  exact i64_wrap_nat _ (by omega)
theorem i64_xor_u8 (x y : UInt8) : bits .xor .i64 (x.toNat : Int) (y.toNat : Int) = ((x ^^^ y).toNat : Int) := by
  have := x.toNat_lt
  have := y.toNat_lt
  rw [i64_xor_nat _ _ (by omega) (by omega), UInt8.toNat_xor]
theorem u8_xor_u8 (x y : UInt8) : bits .xor .u8 (x.toNat : Int) (y.toNat : Int) = ((x ^^^ y).toNat : Int) := by
  rw [u8_xor_nat _ _ x.toNat_lt y.toNat_lt, UInt8.toNat_xor]
theorem u8_bit (b : UInt8) (k : Nat) : bits .and .u8 ((b.toNat : Int) / 2 ^ k) 1 = if b.toNat.testBit k then 1 else 0 := by
  have hb := b.toNat_lt
  have e : (b.toNat : Int) / 2 ^ k = ((b.toNat / 2 ^ k : Nat) : Int) := by push_cast; rfl
  have hlt : b.toNat / 2 ^ k < 256 := Nat.lt_of_le_of_lt (Nat.div_le_self _ _) hb
  rw [e, show (1 : Int) = ((1 : Nat) : Int) from rfl, u8_and_nat _ _ hlt (by decide), nat_mask1, Nat.testBit_eq_decide_div_mod_eq]
  rcases Nat.mod_two_eq_zero_or_one (b.toNat / 2 ^ k) with h | h <;> rw [h] <;> rfl
theorem xt_high_fin : ∀ x : Fin 256, 128 ≤ x.1 → (xt (UInt8.ofNat x.1)).toNat = (x.1 * 2) ^^^ 285 := by decide +kernel
theorem xt_low_fin : ∀ x : Fin 256, x.1 < 128 → (xt (UInt8.ofNat x.1)).toNat = x.1 * 2 := by decide +kernel
theorem xt_high (x : UInt8) (h : 128 ≤ x.toNat) : bits .xor .i64 ((x.toNat : Int) * 2) 285 = ((xt x).toNat : Int) := by
  have hx := x.toNat_lt
  have := xt_high_fin ⟨x.toNat, hx⟩ h
  simp only [UInt8.ofNat_toNat] at this
  rw [this, show (x.toNat : Int) * 2 = ((x.toNat * 2 : Nat) : Int) by omega, show (285 : Int) = ((285 : Nat) : Int) from rfl, i64_xor_nat _ _ (by omega) (by omega)]
theorem xt_low (x : UInt8) (h : x.toNat < 128) : (x.toNat : Int) * 2 = ((xt x).toNat : Int) := by
  have := xt_low_fin ⟨x.toNat, x.toNat_lt⟩ h
  simp only [UInt8.ofNat_toNat] at this
  rw [this]
  omega

set_option maxRecDepth 100000 in
set_option maxHeartbeats 1000000 in
theorem mul_any (a b : UInt8) (w : World) :
    Calls Try.prog 65 #[.int .u8 (a.toNat : Int), .int .u8 (b.toNat : Int)] w fun e w' => e = .returned (.int .u8 ((mul a b).toNat : Int)) ∧ w = w' := by
  have ha : (a.toNat : Int) < 256 := by have := a.toNat_lt; omega
  go_enter Try.func65, Try.ntmps65
  go_wp2
  go_loop [5, 6, 10] (fun o x n => ∃ k : Nat, k ≤ 8 ∧ n = .int .i64 (k : Int) ∧ o = .int .i64 ((mulPart a b k).toNat : Int) ∧ x = .int .i64 ((xts k a).toNat : Int)) (fun _ _ n => 8 - (intOf n).toNat)
  case atStart => exact ⟨0, by omega, rfl, rfl, rfl⟩
  case round =>
    obtain ⟨k, hk, rfl, rfl, rfl⟩ := hrel
    by_cases hlt : k < 8
    · have hb := u8_bit b k
      obtain ⟨o, Ho⟩ := hid_of (mulPart a b k)
      obtain ⟨x, Hx⟩ := hid_of (xts k a)
      rw [Ho.out, Hx.out]
      have hx : (x.toNat : Int) < 256 := by have := x.toNat_lt; omega
      have HO : Hid (mulPart a b (k + 1) = o ^^^ pick (b.toNat.testBit k) x) := by rw [← Ho.out, ← Hx.out]; exact rfl
      have HX : Hid (xts (k + 1) a = xt x) := by rw [← Hx.out]; exact rfl
      have HX1 := Lib.hid (i64_xor_u8 o x)
      have HX2 := Lib.hid (xt_high x)
      have HX3 := Lib.hid (xt_low x)
      cases hc : b.toNat.testBit k
      · rw [hc] at HO hb
        simp only [Bool.false_eq_true, if_false] at hb
        have HO2 : Hid (mulPart a b (k + 1) = o) := by rw [HO.out]; exact xor0 _
        clear hc
        by_cases hh : 255 < (x.toNat : Int) * 2
        · go_wp2
          go_round
          case rel => exact ⟨k + 1, by omega, by go_num, by rw [HO2.out], by rw [HX.out, HX2.out (by omega)]⟩
          case measure => simp [intOf]; omega
        · go_wp2
          go_round
          case rel => exact ⟨k + 1, by omega, by go_num, by rw [HO2.out], by rw [HX.out, HX3.out (by omega)]⟩
          case measure => simp [intOf]; omega
      · rw [hc] at HO hb
        simp only [if_true] at hb
        have HO2 : Hid (mulPart a b (k + 1) = o ^^^ x) := by rw [HO.out]; exact rfl
        clear hc
        by_cases hh : 255 < (x.toNat : Int) * 2
        · go_wp2
          go_round
          case rel => exact ⟨k + 1, by omega, by go_num, by rw [HO2.out, HX1.out], by rw [HX.out, HX2.out (by omega)]⟩
          case measure => simp [intOf]; omega
        · go_wp2
          go_round
          case rel => exact ⟨k + 1, by omega, by go_num, by rw [HO2.out, HX1.out], by rw [HX.out, HX3.out (by omega)]⟩
          case measure => simp [intOf]; omega
    · obtain rfl : k = 8 := by omega
      have hm : ((mulPart a b 8).toNat : Int) % 256 = ((mul a b).toNat : Int) := by
        have := (mulPart a b 8).toNat_lt
        show ((mulPart a b 8).toNat : Int) % 256 = ((mulPart a b 8).toNat : Int)
        omega
      obtain ⟨o, Ho⟩ := hid_of (mulPart a b 8)
      rw [Ho.out] at hm
      rw [Ho.out]
      have HM := Lib.hid hm
      clear hm
      go_wp2
      go_ret
      exact ⟨by rw [← HM.out]; rfl, rfl⟩

set_option maxRecDepth 100000 in
set_option maxHeartbeats 1000000 in
theorem pow_any (a : UInt8) (w : World) :
    Calls Try.prog 76 #[.int .u8 (a.toNat : Int), .int .i64 254] w fun e w' => e = .returned (.int .u8 ((inv a).toNat : Int)) ∧ w = w' := by
  obtain ⟨R, HR⟩ := hid_of (inv a)
  rw [HR.out]
  have HS : Hid (pw 8 1 a 254 = R) := by rw [← HR.out]; exact rfl
  go_enter Try.func76, Try.ntmps76
  go_wp2
  go_loop [0, 1, 5] (fun x n o => ∃ (f m : Nat) (x' o' : UInt8), m < 2 ^ f ∧ f ≤ 8 ∧ pw f o' x' m = R ∧ n = .int .i64 (m : Int) ∧ x = .int .u8 (x'.toNat : Int) ∧ o = .int .u8 (o'.toNat : Int)) (fun _ n _ => (intOf n).toNat)
  case atStart => exact ⟨8, 254, a, 1, by decide, by omega, HS.out, rfl, rfl, rfl⟩
  case round =>
    obtain ⟨f, m, x, o, hm, hf, hp, rfl, rfl, rfl⟩ := hrel
    have hm256 : m < 256 := Nat.lt_of_lt_of_le hm (Nat.pow_le_pow_right (by omega) hf)
    by_cases h0 : 0 < m
    · obtain ⟨g, rfl⟩ : ∃ g, f = g + 1 := ⟨f - 1, by cases f with | zero => simp at hm; omega | succ g => rfl⟩
      rw [pw, if_neg (by omega)] at hp
      have hm2 : m / 2 < 2 ^ g := by rw [Nat.pow_succ] at hm; omega
      have hbit : bits .and .i64 (m : Int) 1 = ((m % 2 : Nat) : Int) := by
        rw [show (1 : Int) = ((1 : Nat) : Int) from rfl, i64_and_nat _ _ (by omega) (by decide), nat_mask1]
      have HM2 := Lib.hid hm2
      have h256 : (m : Int) < 256 := by omega
      rcases Nat.mod_two_eq_zero_or_one m with h | h
      · rw [h] at hbit
        rw [if_neg (by omega)] at hp
        have HP := Lib.hid hp
        have hbit2 : bits .and .i64 (m : Int) 1 = 0 := hbit
        clear hm hp hm2 hbit h
        go_wp2_with fail
        refine (mul_any x x _).mono ?_
        rintro e w' ⟨rfl, rfl⟩
        go_wp2
        go_round
        case rel => exact ⟨g, m / 2, mul x x, o, HM2.out, by omega, HP.out, by go_num, rfl, rfl⟩
        case measure => simp [intOf]; omega
      · rw [h] at hbit
        rw [if_pos h] at hp
        have HP := Lib.hid hp
        have hbit2 : bits .and .i64 (m : Int) 1 = 1 := hbit
        clear hm hp hm2 hbit h
        go_wp2_with fail
        refine (mul_any o x _).mono ?_
        rintro e w' ⟨rfl, rfl⟩
        go_wp2_with fail
        refine (mul_any x x _).mono ?_
        rintro e w' ⟨rfl, rfl⟩
        go_wp2
        go_round
        case rel => exact ⟨g, m / 2, mul x x, mul o x, HM2.out, by omega, HP.out, by go_num, rfl, rfl⟩
        case measure => simp [intOf]; omega
    · obtain rfl : m = 0 := by omega
      have hp0 : o = R := by
        rw [← hp]
        cases f with
        | zero => rfl
        | succ f => rw [pw, if_pos rfl]
      clear hm hp HS HR
      subst hp0
      go_wp2
      go_ret
      exact ⟨rfl, rfl⟩
theorem div_no (a : UInt8) (w : World) :
    Calls Try.prog 63 #[.int .u8 (a.toNat : Int), .int .u8 0] w fun e w' => e = .returned (.tuple #[.int .u8 0, .bool false]) ∧ w = w' := by
  go_enter Try.func63, Try.ntmps63
  go_wp2
  go_ret2
  exact ⟨rfl, rfl⟩
theorem div_yes (a b : UInt8) (w : World) (hb : b ≠ 0) :
    Calls Try.prog 63 #[.int .u8 (a.toNat : Int), .int .u8 (b.toNat : Int)] w fun e w' => e = .returned (.tuple #[.int .u8 ((quo a b).toNat : Int), .bool true]) ∧ w = w' := by
  have h0 : ((b.toNat : Int) == 0) = false := u8_ne (y := 0) hb
  go_enter Try.func63, Try.ntmps63
  go_wp2_with fail
  refine (pow_any b _).mono ?_
  rintro e w' ⟨rfl, rfl⟩
  go_wp2_with fail
  refine (mul_any a (inv b) _).mono ?_
  rintro e w' ⟨rfl, rfl⟩
  go_wp2
  go_ret2
  exact ⟨rfl, rfl⟩
end Go.Proofs.Ytmjhfgnonafknaa
