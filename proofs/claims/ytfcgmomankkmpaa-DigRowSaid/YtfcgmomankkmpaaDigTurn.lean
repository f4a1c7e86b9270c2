/-
  kist/dig.turn.
-/
import Derived.Test.YtfcgmomankkmpaaChecked
import Derived.Test.YtfcgmomankkmpaaObj
import Derived.Deep.RegionHeld
namespace Go.Proofs.Ytfcgmomankkmpaa
open Go.RowKit
set_option linter.unusedVariables false

/-- a word of 32 bits -/
def W (x : UInt32) : Value := .int .u32 (x.toNat : Int)
/-- turned to the right -/
def rot (x : UInt32) (n : Nat) : UInt32 := (x >>> UInt32.ofNat n) ||| (x <<< UInt32.ofNat (32 - n))
theorem u32_bits_or (a b : Nat) (ha : a < 4294967296) (hb : b < 4294967296) : bits .or .u32 (a : Int) (b : Int) = ((a ||| b : Nat) : Int) := by
  have h : bits .or .u32 (a : Int) (b : Int) = IntKind.u32.wrap ((BitVec.ofInt 32 (a : Int) ||| BitVec.ofInt 32 (b : Int)).toNat : Nat) := rfl
  have e : ∀ n : Nat, n < 4294967296 → (BitVec.ofInt 32 (n : Int)).toNat = n := fun n hn => by
    rw [BitVec.ofInt_natCast, BitVec.toNat_ofNat]
    exact Nat.mod_eq_of_lt (by omega)
  rw [h, BitVec.toNat_or, e a ha, e b hb]
  have hlt : a ||| b < 4294967296 := Nat.or_lt_two_pow (n := 32) ha hb
  simp [IntKind.wrap, IntKind.bits, IntKind.signed]
  omega
theorem rot_walk (x : UInt32) (n : Nat) (h0 : 0 < n) (h : n < 32) : bits .or .u32 ((x.toNat : Int) / 2 ^ n) (IntKind.u32.wrap ((x.toNat : Int) * 2 ^ (32 - n))) = ((rot x n).toNat : Int) := by
  have hx : x.toNat < 4294967296 := x.toNat_lt
  have e1 : (x.toNat : Int) / 2 ^ n = ((x.toNat / 2 ^ n : Nat) : Int) := by push_cast; rfl
  have e2 : IntKind.u32.wrap ((x.toNat : Int) * 2 ^ (32 - n)) = ((x.toNat * 2 ^ (32 - n) % 4294967296 : Nat) : Int) := by
    simp [IntKind.wrap, IntKind.bits, IntKind.signed]
  rw [e1, e2, u32_bits_or _ _ (Nat.lt_of_le_of_lt (Nat.div_le_self _ _) hx) (Nat.mod_lt _ (by decide))]
  have m1 : n % 4294967296 % 32 = n := by omega
  have m2 : (32 - n) % 4294967296 % 32 = 32 - n := by omega
  unfold rot
  rw [UInt32.toNat_or, UInt32.toNat_shiftRight, UInt32.toNat_shiftLeft, UInt32.toNat_ofNat', UInt32.toNat_ofNat', Nat.shiftRight_eq_div_pow, Nat.shiftLeft_eq]
  rw [m1, m2]

set_option maxHeartbeats 400000 in
theorem turn_any (x : UInt32) (n : Nat) (h0 : 0 < n) (h : n < 32) (w : World) :
    Calls Try.prog 18 #[W x, .int .i64 (n : Int)] w fun e w' => e = .returned (W (rot x n)) ∧ ∃ m, w' = w.drewN m := by
  have hr : bits .or .u32 ((x.toNat : Int) / 2 ^ n) ((x.toNat : Int) * 2 ^ (32 - n) % 4294967296) = ((rot x n).toNat : Int) := by
    rw [← rot_walk x n h0 h]
    congr 1
  have hx : x.toNat < 4294967296 := x.toNat_lt
  unfold W
  obtain ⟨X, HX⟩ := hid_of x.toNat
  rw [HX.out] at hr hx ⊢
  obtain ⟨R, HR⟩ := hid_of (rot x n).toNat
  rw [HR.out] at hr ⊢
  obtain ⟨m, hm⟩ : ∃ m : Nat, (32 : Int) - (n : Int) = (m : Int) := ⟨32 - n, by omega⟩
  have hm2 : 32 - n = m := by omega
  rw [hm2] at hr
  have hm3 : ¬ (32 : Int) ≤ (m : Int) := by omega
  go_enter Try.func18, Try.ntmps18
  go_wp2
  go_quiet (fail)
  go_wp2
  go_ret
  exact ⟨rfl, ⟨_, rfl⟩⟩
set_option maxHeartbeats 400000 in
theorem back_any (x : UInt32) (n : Nat) (h0 : 0 < n) (h : n < 32) (w : World) :
    Calls Try.prog 14 #[W x, .int .i64 (n : Int)] w fun e w' => e = .returned (W (rot x n)) ∧ ∃ m, w' = w.drewN m := by
  have hr : bits .or .u32 ((x.toNat : Int) * 2 ^ (32 - n) % 4294967296) ((x.toNat : Int) / 2 ^ n) = ((rot x n).toNat : Int) := by
    rw [← rot_walk x n h0 h]
    have hx : x.toNat < 4294967296 := x.toNat_lt
    have e1 : (x.toNat : Int) / 2 ^ n = ((x.toNat / 2 ^ n : Nat) : Int) := by push_cast; rfl
    have e2 : IntKind.u32.wrap ((x.toNat : Int) * 2 ^ (32 - n)) = ((x.toNat * 2 ^ (32 - n) % 4294967296 : Nat) : Int) := by
      simp [IntKind.wrap, IntKind.bits, IntKind.signed]
    have e3 : (x.toNat : Int) * 2 ^ (32 - n) % 4294967296 = ((x.toNat * 2 ^ (32 - n) % 4294967296 : Nat) : Int) := by rw [← e2]; simp [IntKind.wrap, IntKind.bits, IntKind.signed]
    rw [e1, e2, e3, u32_bits_or _ _ (Nat.lt_of_le_of_lt (Nat.div_le_self _ _) hx) (Nat.mod_lt _ (by decide)), u32_bits_or _ _ (Nat.mod_lt _ (by decide)) (Nat.lt_of_le_of_lt (Nat.div_le_self _ _) hx), Nat.or_comm]
  have hx : x.toNat < 4294967296 := x.toNat_lt
  unfold W
  obtain ⟨X, HX⟩ := hid_of x.toNat
  rw [HX.out] at hr hx ⊢
  obtain ⟨R, HR⟩ := hid_of (rot x n).toNat
  rw [HR.out] at hr ⊢
  obtain ⟨m, hm⟩ : ∃ m : Nat, (32 : Int) - (n : Int) = (m : Int) := ⟨32 - n, by omega⟩
  have hm2 : 32 - n = m := by omega
  rw [hm2] at hr
  have hm3 : ¬ (32 : Int) ≤ (m : Int) := by omega
  go_enter Try.func14, Try.ntmps14
  go_wp2
  go_ret
  exact ⟨rfl, ⟨0, rfl⟩⟩
end Go.Proofs.Ytfcgmomankkmpaa
