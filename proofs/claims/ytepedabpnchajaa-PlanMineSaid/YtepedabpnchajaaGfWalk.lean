/-
  The walks of kist/gf: Mul, Pow, Div.
-/
import Derived.Test.YtepedabpnchajaaChecked
import Derived.Test.YtepedabpnchajaaObj
import Derived.Test.YtepedabpnchajaaGfLaw
import Derived.Laws.BitsAllLaws

namespace Go.Proofs.Ytepedabpnchajaa
open Go.RowKit
set_option linter.unusedVariables false

theorem ofInt_i64 (a : Nat) (ha : a < 9223372036854775808) : (BitVec.ofInt 64 (a : Int)).toNat = a := by
  rw [BitVec.ofInt_natCast, BitVec.toNat_ofNat]
  exact Nat.mod_eq_of_lt (by omega)
theorem i64_wrap_nat (a : Nat) (ha : a < 9223372036854775808) : IntKind.i64.wrap (a : Int) = (a : Int) := IntWalk.i64_in _ (by omega)
theorem i64_xor_nat (a b : Nat) (ha : a < 4294967296) (hb : b < 4294967296) : bits .xor .i64 (a : Int) (b : Int) = ((a ^^^ b : Nat) : Int) := by
  have h : bits .xor .i64 (a : Int) (b : Int) = IntKind.i64.wrap ((BitVec.ofInt 64 (a : Int) ^^^ BitVec.ofInt 64 (b : Int)).toNat : Nat) := rfl
  rw [h, BitVec.toNat_xor, ofInt_i64 a (by omega), ofInt_i64 b (by omega)]
  have := Nat.xor_lt_two_pow (n := 32) ha hb
  exact i64_wrap_nat _ (by omega)
theorem i64_and_nat (a b : Nat) (ha : a < 4294967296) (hb : b < 4294967296) : bits .and .i64 (a : Int) (b : Int) = ((a &&& b : Nat) : Int) := by
  have h : bits .and .i64 (a : Int) (b : Int) = IntKind.i64.wrap ((BitVec.ofInt 64 (a : Int) &&& BitVec.ofInt 64 (b : Int)).toNat : Nat) := rfl
  rw [h, BitVec.toNat_and, ofInt_i64 a (by omega), ofInt_i64 b (by omega)]
  have := Nat.and_lt_two_pow (n := 32) a hb
  exact i64_wrap_nat _ (by omega)
theorem i64_xor_u8 (x y : UInt8) : bits .xor .i64 (x.toNat : Int) (y.toNat : Int) = ((x ^^^ y).toNat : Int) := by
  have := x.toNat_lt
  have := y.toNat_lt
  rw [i64_xor_nat _ _ (by omega) (by omega), UInt8.toNat_xor]
theorem u8_xor_u8 (x y : UInt8) : bits .xor .u8 (x.toNat : Int) (y.toNat : Int) = ((x ^^^ y).toNat : Int) := by
  rw [u8_xor_nat _ _ x.toNat_lt y.toNat_lt, UInt8.toNat_xor]
theorem u8_bit (b : UInt8) (k : Nat) : bits .and .u8 ((b.toNat : Int) / 2 ^ k) 1 = if b.toNat.testBit k then 1 else 0 := by
  have hb := b.toNat_lt
  have e : (b.toNat : Int) / 2 ^ k = ((b.toNat / 2 ^ k : Nat) : Int) := by push_cast; rfl
  have hlt : b.toNat / 2 ^ k < 256 := Nat.lt_of_le_of_lt (Nat.div_le_self _ _) hb
  rw [e, show (1 : Int) = ((1 : Nat) : Int) from rfl, u8_and_nat _ _ hlt (by decide), nat_mask1, Nat.testBit_eq_decide_div_mod_eq]
  rcases Nat.mod_two_eq_zero_or_one (b.toNat / 2 ^ k) with h | h <;> rw [h] <;> rfl
theorem xt_high_fin : ∀ x : Fin 256, 128 ≤ x.1 → (xt (UInt8.ofNat x.1)).toNat = (x.1 * 2) ^^^ 285 := by decide +kernel
theorem xt_low_fin : ∀ x : Fin 256, x.1 < 128 → (xt (UInt8.ofNat x.1)).toNat = x.1 * 2 := by decide +kernel
theorem xt_high (x : UInt8) (h : 128 ≤ x.toNat) : bits .xor .i64 ((x.toNat : Int) * 2) 285 = ((xt x).toNat : Int) := by
  have hx := x.toNat_lt
  have := xt_high_fin ⟨x.toNat, hx⟩ h
  simp only [UInt8.ofNat_toNat] at this
  rw [this, show (x.toNat : Int) * 2 = ((x.toNat * 2 : Nat) : Int) by omega, show (285 : Int) = ((285 : Nat) : Int) from rfl, i64_xor_nat _ _ (by omega) (by omega)]
theorem xt_low (x : UInt8) (h : x.toNat < 128) : (x.toNat : Int) * 2 = ((xt x).toNat : Int) := by
  have := xt_low_fin ⟨x.toNat, x.toNat_lt⟩ h
  simp only [UInt8.ofNat_toNat] at this
  rw [this]
  omega

set_option maxRecDepth 100000 in
set_option maxHeartbeats 1000000 in
theorem mul_any (a b : UInt8) (w : World) :
    Calls Try.prog 62 #[.int .u8 (a.toNat : Int), .int .u8 (b.toNat : Int)] w fun e w' => e = .returned (.int .u8 ((mul a b).toNat : Int)) ∧ w = w' := by
  have ha : (a.toNat : Int) < 256 := by have := a.toNat_lt; omega
  go_enter Try.func62, Try.ntmps62
  go_wp2
  go_loop [5, 6, 10] (fun o x n => ∃ k : Nat, k ≤ 8 ∧ n = .int .i64 (k : Int) ∧ o = .int .i64 ((mulPart a b k).toNat : Int) ∧ x = .int .i64 ((xts k a).toNat : Int)) (fun _ _ n => 8 - (intOf n).toNat)
  case atStart => exact ⟨0, by omega, rfl, rfl, rfl⟩
  case round =>
    obtain ⟨k, hk, rfl, rfl, rfl⟩ := hrel
    by_cases hlt : k < 8
    · have hb := u8_bit b k
      obtain ⟨o, Ho⟩ := hid_of (mulPart a b k)
      obtain ⟨x, Hx⟩ := hid_of (xts k a)
      rw [Ho.out, Hx.out]
      have hx : (x.toNat : Int) < 256 := by have := x.toNat_lt; omega
      have HO : Hid (mulPart a b (k + 1) = o ^^^ pick (b.toNat.testBit k) x) := by rw [← Ho.out, ← Hx.out]; exact rfl
      have HX : Hid (xts (k + 1) a = xt x) := by rw [← Hx.out]; exact rfl
      have HX1 := Lib.hid (i64_xor_u8 o x)
      have HX2 := Lib.hid (xt_high x)
      have HX3 := Lib.hid (xt_low x)
      cases hc : b.toNat.testBit k
      · rw [hc] at HO hb
        simp only [Bool.false_eq_true, if_false] at hb
        have HO2 : Hid (mulPart a b (k + 1) = o) := by rw [HO.out]; exact xor0 _
        clear hc
        by_cases hh : 255 < (x.toNat : Int) * 2
        · go_wp2
          go_round
          case rel => exact ⟨k + 1, by omega, by go_num, by rw [HO2.out], by rw [HX.out, HX2.out (by omega)]⟩
          case measure => simp [intOf]; omega
        · go_wp2
          go_round
          case rel => exact ⟨k + 1, by omega, by go_num, by rw [HO2.out], by rw [HX.out, HX3.out (by omega)]⟩
          case measure => simp [intOf]; omega
      · rw [hc] at HO hb
        simp only [if_true] at hb
        have HO2 : Hid (mulPart a b (k + 1) = o ^^^ x) := by rw [HO.out]; exact rfl
        clear hc
        by_cases hh : 255 < (x.toNat : Int) * 2
        · go_wp2
          go_round
          case rel => exact ⟨k + 1, by omega, by go_num, by rw [HO2.out, HX1.out], by rw [HX.out, HX2.out (by omega)]⟩
          case measure => simp [intOf]; omega
        · go_wp2
          go_round
          case rel => exact ⟨k + 1, by omega, by go_num, by rw [HO2.out, HX1.out], by rw [HX.out, HX3.out (by omega)]⟩
          case measure => simp [intOf]; omega
    · obtain rfl : k = 8 := by omega
      have hm : ((mulPart a b 8).toNat : Int) % 256 = ((mul a b).toNat : Int) := by
        have := (mulPart a b 8).toNat_lt
        show ((mulPart a b 8).toNat : Int) % 256 = ((mulPart a b 8).toNat : Int)
        omega
      obtain ⟨o, Ho⟩ := hid_of (mulPart a b 8)
      rw [Ho.out] at hm
      rw [Ho.out]
      have HM := Lib.hid hm
      clear hm
      go_wp2
      go_ret
      exact ⟨by rw [← HM.out]; rfl, rfl⟩

set_option maxRecDepth 100000 in
set_option maxHeartbeats 1000000 in
theorem pow_any (a : UInt8) (w : World) :
    Calls Try.prog 71 #[.int .u8 (a.toNat : Int), .int .i64 254] w fun e w' => e = .returned (.int .u8 ((inv a).toNat : Int)) ∧ w = w' := by
  obtain ⟨R, HR⟩ := hid_of (inv a)
  rw [HR.out]
  have HS : Hid (pw 8 1 a 254 = R) := by rw [← HR.out]; exact rfl
  go_enter Try.func71, Try.ntmps71
  go_wp2
  go_loop [0, 1, 5] (fun x n o => ∃ (f m : Nat) (x' o' : UInt8), m < 2 ^ f ∧ f ≤ 8 ∧ pw f o' x' m = R ∧ n = .int .i64 (m : Int) ∧ x = .int .u8 (x'.toNat : Int) ∧ o = .int .u8 (o'.toNat : Int)) (fun _ n _ => (intOf n).toNat)
  case atStart => exact ⟨8, 254, a, 1, by decide, by omega, HS.out, rfl, rfl, rfl⟩
  case round =>
    obtain ⟨f, m, x, o, hm, hf, hp, rfl, rfl, rfl⟩ := hrel
    have hm256 : m < 256 := Nat.lt_of_lt_of_le hm (Nat.pow_le_pow_right (by omega) hf)
    by_cases h0 : 0 < m
    · obtain ⟨g, rfl⟩ : ∃ g, f = g + 1 := ⟨f - 1, by cases f with | zero => simp at hm; omega | succ g => rfl⟩
      rw [pw, if_neg (by omega)] at hp
      have hm2 : m / 2 < 2 ^ g := by rw [Nat.pow_succ] at hm; omega
      have hbit : bits .and .i64 (m : Int) 1 = ((m % 2 : Nat) : Int) := by
        rw [show (1 : Int) = ((1 : Nat) : Int) from rfl, i64_and_nat _ _ (by omega) (by decide), nat_mask1]
      have HM2 := Lib.hid hm2
      have h256 : (m : Int) < 256 := by omega
      rcases Nat.mod_two_eq_zero_or_one m with h | h
      · rw [h] at hbit
        rw [if_neg (by omega)] at hp
        have HP := Lib.hid hp
        have hbit2 : bits .and .i64 (m : Int) 1 = 0 := hbit
        clear hm hp hm2 hbit h
        go_wp2_with fail
        refine (mul_any x x _).mono ?_
        rintro e w' ⟨rfl, rfl⟩
        go_wp2
        go_round
        case rel => exact ⟨g, m / 2, mul x x, o, HM2.out, by omega, HP.out, by go_num, rfl, rfl⟩
        case measure => simp [intOf]; omega
      · rw [h] at hbit
        rw [if_pos h] at hp
        have HP := Lib.hid hp
        have hbit2 : bits .and .i64 (m : Int) 1 = 1 := hbit
        clear hm hp hm2 hbit h
        go_wp2_with fail
        refine (mul_any o x _).mono ?_
        rintro e w' ⟨rfl, rfl⟩
        go_wp2_with fail
        refine (mul_any x x _).mono ?_
        rintro e w' ⟨rfl, rfl⟩
        go_wp2
        go_round
        case rel => exact ⟨g, m / 2, mul x x, mul o x, HM2.out, by omega, HP.out, by go_num, rfl, rfl⟩
        case measure => simp [intOf]; omega
    · obtain rfl : m = 0 := by omega
      have hp0 : o = R := by
        rw [← hp]
        cases f with
        | zero => rfl
        | succ f => rw [pw, if_pos rfl]
      clear hm hp HS HR
      subst hp0
      go_wp2
      go_ret
      exact ⟨rfl, rfl⟩
theorem div_no (a : UInt8) (w : World) :
    Calls Try.prog 60 #[.int .u8 (a.toNat : Int), .int .u8 0] w fun e w' => e = .returned (.tuple #[.int .u8 0, .bool false]) ∧ w = w' := by
  go_enter Try.func60, Try.ntmps60
  go_wp2
  go_ret2
  exact ⟨rfl, rfl⟩
theorem div_yes (a b : UInt8) (w : World) (hb : b ≠ 0) :
    Calls Try.prog 60 #[.int .u8 (a.toNat : Int), .int .u8 (b.toNat : Int)] w fun e w' => e = .returned (.tuple #[.int .u8 ((quo a b).toNat : Int), .bool true]) ∧ w = w' := by
  have h0 : ((b.toNat : Int) == 0) = false := u8_ne (y := 0) hb
  go_enter Try.func60, Try.ntmps60
  go_wp2_with fail
  refine (pow_any b _).mono ?_
  rintro e w' ⟨rfl, rfl⟩
  go_wp2_with fail
  refine (mul_any a (inv b) _).mono ?_
  rintro e w' ⟨rfl, rfl⟩
  go_wp2
  go_ret2
  exact ⟨rfl, rfl⟩
end Go.Proofs.Ytepedabpnchajaa

/-
  kistref01: Mul, Div: the same product, the same quotient.
-/
namespace Go.Proofs.Ytepedabpnchajaa
open Go.RowKit
set_option linter.unusedVariables false

theorem wrap64_is' (x : Int) : wrap64 x = IntKind.i64.wrap x := by
  simp [IntKind.wrap, IntKind.bits, IntKind.signed, wrap64]
  split <;> omega
def pickN (c : Bool) (n : Nat) : Nat := if c then n else 0
theorem pickN_xor (c d : Bool) (n : Nat) : pickN (c ^^ d) n = pickN c n ^^^ pickN d n := by
  cases c <;> cases d <;> simp [pickN]
theorem n4 (a b c d : Nat) : (a ^^^ b) ^^^ (c ^^^ d) = (a ^^^ c) ^^^ (b ^^^ d) := by
  rw [Nat.xor_assoc, Nat.xor_assoc, ← Nat.xor_assoc b c d, Nat.xor_comm b c, Nat.xor_assoc c b d]
def rp (a b : UInt8) : Nat → Nat
  | 0 => 0
  | n + 1 => rp a b n ^^^ pickN (a.toNat.testBit (n / 8) && b.toNat.testBit (n % 8)) (2 ^ (n / 8 + n % 8))
def rd (p : Nat) : Nat → Nat
  | 0 => p
  | k + 1 => rd p k ^^^ pickN ((rd p k).testBit (14 - k)) (285 * 2 ^ (6 - k))
def refMul (a b : UInt8) : UInt8 := UInt8.ofNat (rd (rp a b 64) 7)
theorem rp_left (a a' b : UInt8) (n : Nat) : rp (a ^^^ a') b n = rp a b n ^^^ rp a' b n := by
  induction n with
  | zero => exact (Nat.xor_self 0).symm
  | succ n ih => rw [rp, rp, rp, ih, testBit_xor, Bool.and_xor_distrib_right, pickN_xor, n4]
theorem rp_right (a b b' : UInt8) (n : Nat) : rp a (b ^^^ b') n = rp a b n ^^^ rp a b' n := by
  induction n with
  | zero => exact (Nat.xor_self 0).symm
  | succ n ih => rw [rp, rp, rp, ih, testBit_xor, Bool.and_xor_distrib_left, pickN_xor, n4]
theorem rd_xor (p q k : Nat) : rd (p ^^^ q) k = rd p k ^^^ rd q k := by
  induction k with
  | zero => rfl
  | succ k ih => rw [rd, rd, rd, ih, Nat.testBit_xor, pickN_xor, n4]
theorem ofNat_xor (p q : Nat) : UInt8.ofNat (p ^^^ q) = UInt8.ofNat p ^^^ UInt8.ofNat q := by
  apply UInt8.toNat_inj.1
  rw [UInt8.toNat_xor, UInt8.toNat_ofNat', UInt8.toNat_ofNat', UInt8.toNat_ofNat', Nat.xor_mod_two_pow]
theorem refMul_left (a a' b : UInt8) : refMul (a ^^^ a') b = refMul a b ^^^ refMul a' b := by
  unfold refMul; rw [rp_left, rd_xor, ofNat_xor]
theorem refMul_right (a b b' : UInt8) : refMul a (b ^^^ b') = refMul a b ^^^ refMul a b' := by
  unfold refMul; rw [rp_right, rd_xor, ofNat_xor]
theorem refMul_base : ∀ i j : Fin 8, refMul (UInt8.ofNat (2 ^ i.1)) (UInt8.ofNat (2 ^ j.1)) = mul (UInt8.ofNat (2 ^ i.1)) (UInt8.ofNat (2 ^ j.1)) := by decide +kernel
theorem refMul_eq (a b : UInt8) : refMul a b = mul a b := by
  refine u8_span (fun a => refMul a b = mul a b) ?_ (fun x y hx hy => by rw [xor_mul, refMul_left, hx, hy]) (fun i => ?_) a
  · have := refMul_left 0 0 b
    rw [xself, xself] at this
    rw [this, zero_mul]
  · refine u8_span (fun b => refMul _ b = mul _ b) ?_ (fun x y hx hy => by rw [mul_xor, refMul_right, hx, hy]) (fun j => refMul_base i j) b
    have := refMul_right (UInt8.ofNat (2 ^ i.1)) 0 0
    rw [xself, xself] at this
    rw [this, mul_zero]
theorem rp_lt (a b : UInt8) (n : Nat) (h : n ≤ 64) : rp a b n < 2 ^ 15 := by
  induction n with
  | zero => exact (by decide : 0 < 2 ^ 15)
  | succ n ih =>
    rw [rp]
    refine Nat.xor_lt_two_pow (ih (by omega)) ?_
    unfold pickN
    split
    · exact Nat.pow_lt_pow_right (by omega) (by omega)
    · decide
theorem rd_lt (p k : Nat) (hp : p < 2 ^ 15) (h : k ≤ 7) : rd p k < 2 ^ 15 := by
  induction k with
  | zero => exact hp
  | succ k ih =>
    rw [rd]
    refine Nat.xor_lt_two_pow (ih (by omega)) ?_
    unfold pickN
    split
    · have h1 : 2 ^ (6 - k) ≤ 2 ^ 6 := Nat.pow_le_pow_right (by omega) (by omega)
      have : (2 : Nat) ^ 6 = 64 := rfl
      have : (2 : Nat) ^ 15 = 32768 := rfl
      omega
    · decide

set_option maxRecDepth 100000 in
set_option maxHeartbeats 2000000 in
theorem refMul_any (a b : UInt8) (w : World) :
    Calls Try.prog 45 #[.int .u8 (a.toNat : Int), .int .u8 (b.toNat : Int)] w fun e w' => e = .returned (.int .u8 ((mul a b).toNat : Int)) ∧ w = w' := by
  go_enter Try.func45, Try.ntmps45
  go_wp2
  go_loop [5, 6] (fun p n => ∃ i : Nat, i ≤ 8 ∧ n = .int .i64 (i : Int) ∧ p = .int .i64 ((rp a b (8 * i) : Nat) : Int)) (fun _ n => 8 - (intOf n).toNat)
  case atStart => exact ⟨0, by omega, rfl, rfl⟩
  case round =>
    obtain ⟨i, hi, rfl, rfl⟩ := hrel
    by_cases hlt : i < 8
    · have hi8 : (i : Int) < 8 := by omega
      go_wp2
      go_loop [5, 7] (fun p n => ∃ j : Nat, j ≤ 8 ∧ n = .int .i64 (j : Int) ∧ p = .int .i64 ((rp a b (8 * i + j) : Nat) : Int)) (fun _ n => 8 - (intOf n).toNat)
      case atStart => exact ⟨0, by omega, rfl, rfl⟩
      case round =>
        obtain ⟨j, hj, rfl, rfl⟩ := hrel
        by_cases hlt2 : j < 8
        · have hj8 : (j : Int) < 8 := by omega
          have ha := u8_bit a i
          have hb := u8_bit b j
          have hs : rp a b (8 * i + (j + 1)) = rp a b (8 * i + j) ^^^ pickN (a.toNat.testBit i && b.toNat.testBit j) (2 ^ (i + j)) := by
            rw [← Nat.add_assoc, rp, show (8 * i + j) / 8 = i by omega, show (8 * i + j) % 8 = j by omega]
          have hp := rp_lt a b (8 * i + j) (by omega)
          obtain ⟨p, Hp⟩ := hid_of (rp a b (8 * i + j))
          rw [Hp.out] at hs hp ⊢
          have HS := Lib.hid hs
          have hp15 : (p : Int) < 32768 := by have : (2 : Nat) ^ 15 = 32768 := rfl; omega
          clear hs hp
          cases hca : a.toNat.testBit i
          · rw [hca] at HS ha
            have hs2 : rp a b (8 * i + (j + 1)) = p := by rw [HS.out]; simp [pickN]
            have HS2 := Lib.hid hs2
            clear hs2
            simp only [Bool.false_eq_true, if_false] at ha
            clear hca HS
            go_wp2
            go_round
            case rel => exact ⟨j + 1, by omega, by go_num, by rw [HS2.out]⟩
            case measure => simp [intOf]; omega
          · cases hcb : b.toNat.testBit j
            · rw [hcb] at HS hb
              rw [hca] at ha
              have hs2 : rp a b (8 * i + (j + 1)) = p := by rw [HS.out]; simp [pickN]
              have HS2 := Lib.hid hs2
              clear hs2
              simp only [Bool.false_eq_true, if_false] at hb
              simp only [if_true] at ha
              clear hca hcb HS
              go_wp2
              go_round
              case rel => exact ⟨j + 1, by omega, by go_num, by rw [HS2.out]⟩
              case measure => simp [intOf]; omega
            · rw [hcb, hca] at HS
              rw [hca] at ha
              rw [hcb] at hb
              have hpw : 2 ^ (i + j) < 32768 := Nat.pow_lt_pow_right (a := 2) (n := 15) (by omega) (by omega)
              have hs2 : rp a b (8 * i + (j + 1)) = p ^^^ 2 ^ (i + j) := by rw [HS.out]; simp [pickN]
              have HS2 := Lib.hid hs2
              have hxx := i64_xor_nat p (2 ^ (i + j)) (by omega) (by omega)
              have hw : wrap64 ((2 : Int) ^ (i + j)) = ((2 ^ (i + j) : Nat) : Int) := by
                have := i64_wrap_nat (2 ^ (i + j)) (by omega)
                rw [← this, wrap64_is']
                push_cast
                rfl
              have HX : Hid (bits .xor .i64 (p : Int) (wrap64 ((2 : Int) ^ (i + j))) = ((p ^^^ 2 ^ (i + j) : Nat) : Int)) := by rw [hw, hxx]; exact Lib.hid rfl
              clear hs2 hxx hw
              simp only [if_true] at ha hb
              clear hca hcb HS
              go_wp2
              go_round
              case rel => exact ⟨j + 1, by omega, by go_num, by rw [HS2.out, HX.out]⟩
              case measure => simp [intOf]; omega
        · obtain rfl : j = 8 := by omega
          go_wp2
          go_round
          case rel => exact ⟨i + 1, by omega, by go_num, by rw [Nat.mul_add]⟩
          case measure => simp [intOf]; omega
    · obtain rfl : i = 8 := by omega
      have hp := rp_lt a b 64 (by omega)
      have hfin : (rd (rp a b 64) 7 : Int) % 256 = ((mul a b).toNat : Int) := by
        rw [← refMul_eq]
        unfold refMul
        rw [UInt8.toNat_ofNat']
        rfl
      obtain ⟨p, Hp⟩ := hid_of (rp a b 64)
      rw [Hp.out] at hp hfin
      rw [show 8 * 8 = 64 from rfl, Hp.out]
      have HFin := Lib.hid hfin
      have HPl := Lib.hid hp
      clear hfin hp
      go_wp2
      go_loop [5, 8] (fun q n => ∃ i : Nat, 7 ≤ i ∧ i ≤ 14 ∧ n = .int .i64 (i : Int) ∧ q = .int .i64 ((rd p (14 - i) : Nat) : Int)) (fun _ n => (intOf n).toNat)
      case atStart => exact ⟨14, by omega, by omega, rfl, rfl⟩
      case round =>
        obtain ⟨i, hi7, hi, rfl, rfl⟩ := hrel
        have hq := rd_lt p (14 - i) HPl.out (by omega)
        by_cases hlt : 8 ≤ i
        · obtain ⟨j, hj⟩ : ∃ j, i = j + 8 := ⟨i - 8, by omega⟩
          have hs : rd p (14 - (i - 1)) = rd p (14 - i) ^^^ pickN ((rd p (14 - i)).testBit i) (285 * 2 ^ j) := by
            rw [show 14 - (i - 1) = (14 - i) + 1 by omega, rd, show 14 - (14 - i) = i by omega, show 6 - (14 - i) = j by omega]
          obtain ⟨q, Hq⟩ := hid_of (rd p (14 - i))
          rw [Hq.out] at hs hq ⊢
          have hq15 : (q : Int) < 32768 := by have : (2 : Nat) ^ 15 = 32768 := rfl; omega
          have hbit : bits .and .i64 ((q : Int) / 2 ^ i) 1 = if q.testBit i then 1 else 0 := by
            have e : (q : Int) / 2 ^ i = ((q / 2 ^ i : Nat) : Int) := by push_cast; rfl
            have hlt : q / 2 ^ i < 32768 := Nat.lt_of_le_of_lt (Nat.div_le_self _ _) (by omega)
            rw [e, show (1 : Int) = ((1 : Nat) : Int) from rfl, i64_and_nat _ _ (by omega) (by decide), nat_mask1, Nat.testBit_eq_decide_div_mod_eq]
            rcases Nat.mod_two_eq_zero_or_one (q / 2 ^ i) with h | h <;> rw [h] <;> rfl
          have hi15 : (i : Int) < 15 := by omega
          have hi8 : (8 : Int) ≤ (i : Int) := by omega
          have e8 : (i : Int) - 8 = (j : Int) := by omega
          have HJ := Lib.hid hj
          clear hj
          cases hc : q.testBit i
          · rw [hc] at hbit hs
            have hs2 : rd p (14 - (i - 1)) = q := by rw [hs]; simp [pickN]
            have HS2 := Lib.hid hs2
            simp only [Bool.false_eq_true, if_false] at hbit
            clear hs hs2 hc hq
            go_wp2
            go_round
            case rel => exact ⟨i - 1, by omega, by omega, by congr 1; omega, by rw [HS2.out]⟩
            case measure => simp [intOf]; omega
          · rw [hc] at hbit hs
            have hs2 : rd p (14 - (i - 1)) = q ^^^ (285 * 2 ^ j) := by rw [hs]; simp [pickN]
            have HS2 := Lib.hid hs2
            simp only [if_true] at hbit
            have hx : bits .xor .i64 (q : Int) (wrap64 (285 * (2 : Int) ^ j)) = ((q ^^^ (285 * 2 ^ j) : Nat) : Int) := by
              have hj6 : j ≤ 6 := by have := HJ.out; omega
              have h1 : 2 ^ j ≤ 2 ^ 6 := Nat.pow_le_pow_right (by omega) hj6
              have h2 : (2 : Nat) ^ 6 = 64 := rfl
              have hw := i64_wrap_nat (285 * 2 ^ j) (by omega)
              have e : (285 * (2 : Int) ^ j) = ((285 * 2 ^ j : Nat) : Int) := by push_cast; rfl
              rw [wrap64_is', e, hw, i64_xor_nat _ _ (by omega) (by omega)]
            have HX := Lib.hid hx
            clear hs hs2 hc hq hx
            go_wp2
            go_round
            case rel => exact ⟨i - 1, by omega, by omega, by congr 1; omega, by rw [HS2.out, HX.out]⟩
            case measure => simp [intOf]; omega
        · obtain rfl : i = 7 := by omega
          obtain ⟨q, Hq⟩ := hid_of (rd p 7)
          rw [show 14 - 7 = 7 from rfl, Hq.out]
          have HFin2 : Hid ((q : Int) % 256 = ((mul a b).toNat : Int)) := by rw [← Hq.out]; exact HFin.out
          clear hq
          go_wp2
          go_ret
          exact ⟨by rw [← HFin2.out]; rfl, rfl⟩
theorem refDiv_no (a : UInt8) (w : World) :
    Calls Try.prog 43 #[.int .u8 (a.toNat : Int), .int .u8 0] w fun e w' => e = .returned (.tuple #[.int .u8 0, .bool false]) ∧ w = w' := by
  go_enter Try.func43, Try.ntmps43
  go_wp2
  go_ret2
  exact ⟨rfl, rfl⟩
set_option maxRecDepth 100000 in
set_option maxHeartbeats 1000000 in
theorem refDiv_yes (a b : UInt8) (w : World) (hb : b ≠ 0) :
    Calls Try.prog 43 #[.int .u8 (a.toNat : Int), .int .u8 (b.toNat : Int)] w fun e w' => e = .returned (.tuple #[.int .u8 ((quo a b).toNat : Int), .bool true]) ∧ w = w' := by
  have h0 : ((b.toNat : Int) == 0) = false := u8_ne (y := 0) hb
  have HQ := Lib.hid (fun (x : UInt8) (h : mul x b = a) => quo_only hb h)
  have HQ2 := Lib.hid (quo_mul (a := a) hb)
  obtain ⟨R, HR⟩ := hid_of (quo a b)
  rw [HR.out] at HQ2 ⊢
  have HR3 : Hid (∀ (x : UInt8), mul x b = a → x = R) := by rw [← HR.out]; exact HQ
  clear hb HQ
  go_enter Try.func43, Try.ntmps43
  go_wp2
  go_loop [6] (fun x => ∃ k : Nat, k ≤ R.toNat ∧ x = .int .i64 (k : Int)) (fun x => 256 - (intOf x).toNat)
  case atStart => exact ⟨0, by omega, rfl⟩
  case round =>
    obtain ⟨k, hk, rfl⟩ := hrel
    have hR := R.toNat_lt
    have hk256 : (k : Int) < 256 := by omega
    have hkk : ((UInt8.ofNat k).toNat : Int) = (k : Int) := by rw [UInt8.toNat_ofNat']; omega
    obtain ⟨x, Hx⟩ := hid_of (UInt8.ofNat k)
    rw [Hx.out] at hkk
    have HK := Lib.hid hkk
    have HC : Hid (∀ wx, Calls Try.prog 45 #[.int .u8 (k : Int), .int .u8 (b.toNat : Int)] wx fun e w' => e = .returned (.int .u8 ((mul x b).toNat : Int)) ∧ wx = w') := fun wx => by
      have := refMul_any x b wx
      rw [HK.out] at this
      exact this
    by_cases he : mul x b = a
    · have hxR : (k : Int) = (R.toNat : Int) := by rw [← HK.out, HR3.out x he]
      have HKR := Lib.hid hxR
      rw [he] at HC
      clear he hkk hxR hR HR3 HQ2 HR
      go_wp2_with fail
      refine (HC.out _).mono ?_
      rintro e w' ⟨rfl, rfl⟩
      go_wp2
      go_ret2
      exact ⟨by rw [HKR.out]; rfl, rfl⟩
    · have hne : k ≠ R.toNat := fun e => he (by
        have : x = R := by rw [← Hx.out, e, UInt8.ofNat_toNat]
        rw [this, HQ2.out])
      have hm := u8_ne he
      obtain ⟨m, Hm⟩ := hid_of (mul x b)
      rw [Hm.out] at hm HC
      clear he hkk
      go_wp2_with fail
      refine (HC.out _).mono ?_
      rintro e w' ⟨rfl, rfl⟩
      go_wp2
      go_round
      case rel => exact ⟨k + 1, by omega, by go_num⟩
      case measure => simp [intOf]; omega
end Go.Proofs.Ytepedabpnchajaa
