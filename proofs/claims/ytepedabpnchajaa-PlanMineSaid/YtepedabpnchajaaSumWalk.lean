/-
  The walks of kist/sum (entry, Of): what they compute is Sum.crc.
-/
import Derived.Test.YtepedabpnchajaaChecked
import Derived.Test.YtepedabpnchajaaBase
import Derived.Test.YtepedabpnchajaaSumLaw

namespace Go.Proofs.Ytepedabpnchajaa
open Go.RowKit
set_option linter.unusedVariables false

theorem ret_int {k : IntKind} {a b : Int} (h : a = b) : Ending.returned (.int k a) = .returned (.int k b) := by rw [h]
theorem val_int {k : IntKind} {a b : Int} (h : a = b) : Value.int k a = .int k b := by rw [h]

theorem ends_walk (s : Sum.W32) : (#[.int .u8 ((s.toNat : Int) % 256), .int .u8 ((s.toNat : Int) / 256 % 256), .int .u8 ((s.toNat : Int) / 65536 % 256), .int .u8 ((s.toNat : Int) / 16777216)] : Array Value) = (Bs (Sum.ends s)).toArray := by
  have hs := s.isLt
  have e : ∀ (x : BitVec 8), ((⟨x⟩ : UInt8).toNat : Int) = (x.toNat : Int) := fun _ => rfl
  simp only [Bs, Sum.ends, B, List.map_cons, List.map_nil, e, BitVec.toNat_setWidth, BitVec.toNat_ushiftRight, Nat.shiftRight_eq_div_pow]
  have e1 : (s.toNat : Int) % 256 = ((s.toNat % 2 ^ 8 : Nat) : Int) := by omega
  have e2 : (s.toNat : Int) / 256 % 256 = ((s.toNat / 2 ^ 8 % 2 ^ 8 : Nat) : Int) := by omega
  have e3 : (s.toNat : Int) / 65536 % 256 = ((s.toNat / 2 ^ 16 % 2 ^ 8 : Nat) : Int) := by omega
  have e4 : (s.toNat : Int) / 16777216 = ((s.toNat / 2 ^ 24 % 2 ^ 8 : Nat) : Int) := by omega
  rw [e1, e2, e3, e4]

namespace Sum
theorem step_walk (c : W32) : bits .xor .u32 ((c.toNat : Int) / 2) (2197175160 * bits .and .u32 (c.toNat : Int) 1 % 4294967296) = ((step c).toNat : Int) := by
  have hc := c.isLt
  have e1 : bits .and .u32 (c.toNat : Int) 1 = ((c.toNat % 2 : Nat) : Int) := by
    rw [show (1 : Int) = ((1 : Nat) : Int) from rfl, u32_and_nat _ _ hc (by decide), Nat.and_one_is_mod]
  have e2 : (2197175160 * bits .and .u32 (c.toNat : Int) 1 % 4294967296) = ((if c.getLsbD 0 then polyR else 0#32).toNat : Int) := by
    rw [e1]
    have hb : c.getLsbD 0 = decide (c.toNat % 2 = 1) := by rw [← BitVec.testBit_toNat, Nat.testBit_zero]
    rcases Nat.mod_two_eq_zero_or_one c.toNat with h | h <;> rw [hb, h] <;> decide
  rw [e2, show ((c.toNat : Int) / 2) = ((c.toNat / 2 : Nat) : Int) by omega, u32_xor_nat _ _ (by omega) (BitVec.isLt _)]
  unfold step
  rw [BitVec.toNat_xor, BitVec.toNat_ushiftRight, Nat.shiftRight_eq_div_pow]

theorem feed_split (x : W32) (b : UInt8) : steps 8 ((x.setWidth 8).setWidth 32 ^^^ zx b) ^^^ (x >>> 8) = feed x b := by
  unfold feed
  have hx : x = (x.setWidth 8).setWidth 32 ^^^ ((x >>> 8) <<< 8) := by
    apply BitVec.eq_of_getLsbD_eq
    intro i hi
    rw [BitVec.getLsbD_xor, BitVec.getLsbD_setWidth, BitVec.getLsbD_setWidth, BitVec.getLsbD_shiftLeft, BitVec.getLsbD_ushiftRight]
    by_cases h : i < 8
    · simp [h, hi]
    · simp [h, hi, show 8 + (i - 8) = i by omega]
  have h2 : x ^^^ zx b = ((x.setWidth 8).setWidth 32 ^^^ zx b) ^^^ ((x >>> 8) <<< 8) := by
    conv => lhs; rw [hx]
    rw [BitVec.xor_assoc, BitVec.xor_comm _ (zx b), ← BitVec.xor_assoc]
  have h3 := steps_shift 8 (x >>> 8) (fun _ _ => trivial) (fun i hi => by rw [BitVec.getLsbD_ushiftRight]; exact BitVec.getLsbD_of_ge _ _ (by omega)) (by omega)
  rw [h2, steps_xor 8 ((x.setWidth 8).setWidth 32 ^^^ zx b), h3]
theorem zx_nat (b : UInt8) : (zx b).toNat = b.toNat := by
  unfold zx
  have := b.toBitVec.isLt
  rw [BitVec.toNat_setWidth]
  show b.toNat % 2 ^ 32 = b.toNat
  have : b.toNat < 2 ^ 8 := b.toNat_lt
  omega
theorem low_walk (x : W32) (b : UInt8) : bits .xor .u8 ((x.toNat : Int) % 256) (b.toNat : Int) = (((x.setWidth 8).setWidth 32 ^^^ zx b).toNat : Int) := by
  have hb : b.toNat < 2 ^ 8 := b.toNat_lt
  rw [show (x.toNat : Int) % 256 = ((x.toNat % 256 : Nat) : Int) by omega, u8_xor_nat _ _ (by omega) (by omega), BitVec.toNat_xor, zx_nat, BitVec.toNat_setWidth, BitVec.toNat_setWidth]
  congr 2
  omega
theorem low_lt (x : W32) (b : UInt8) : ((x.setWidth 8).setWidth 32 ^^^ zx b).toNat < 256 := by
  have hb : b.toNat < 2 ^ 8 := b.toNat_lt
  rw [BitVec.toNat_xor, zx_nat, BitVec.toNat_setWidth, BitVec.toNat_setWidth]
  exact Nat.xor_lt_two_pow (n := 8) (by omega) hb
theorem feed_walk (x : W32) (b : UInt8) : bits .xor .u32 ((steps 8 ((x.setWidth 8).setWidth 32 ^^^ zx b)).toNat : Int) ((x.toNat : Int) / 256) = ((feed x b).toNat : Int) := by
  have hx := x.isLt
  rw [show (x.toNat : Int) / 256 = ((x.toNat / 256 : Nat) : Int) by omega, u32_xor_nat _ _ (BitVec.isLt _) (by omega), ← feed_split, BitVec.toNat_xor, BitVec.toNat_ushiftRight, Nat.shiftRight_eq_div_pow]
theorem not_walk (x : W32) : bits .xor .u32 IntKind.u32.max (x.toNat : Int) = ((~~~ x).toNat : Int) := by
  rw [show IntKind.u32.max = ((4294967295 : Nat) : Int) from rfl, u32_xor_nat _ _ (by decide) x.isLt, ← BitVec.xor_allOnes, BitVec.toNat_xor, Nat.xor_comm]
  rfl
theorem steps_snoc (n : Nat) (c : W32) : steps (n + 1) c = step (steps n c) := by rw [steps_add]; rfl
theorem foldl_snoc (l : List UInt8) (k : Nat) (h : k < l.length) (c : W32) : (l.take (k + 1)).foldl feed c = feed ((l.take k).foldl feed c) l[k] := by
  rw [List.take_succ_eq_append_getElem h, List.foldl_append]; rfl
end Sum

end Go.Proofs.Ytepedabpnchajaa
