/-
  The plain field of 256 bytes: product, its laws, the quotient.
-/
import Derived.WalkKit

namespace Go.Proofs.Ytepedabpnchajaa
set_option linter.unusedVariables false
set_option linter.unusedSimpArgs false

/-- once more by x -/
def xt (x : UInt8) : UInt8 := (x <<< 1) ^^^ (if x.toNat.testBit 7 then 0x1d else 0)
def xts : Nat → UInt8 → UInt8
  | 0, a => a
  | n + 1, a => xt (xts n a)
/-- a, if the bit is there -/
def pick (c : Bool) (a : UInt8) : UInt8 := if c then a else 0
/-- the sum of the first n parts of a product -/
def mulPart (a b : UInt8) : Nat → UInt8
  | 0 => 0
  | n + 1 => mulPart a b n ^^^ pick (b.toNat.testBit n) (xts n a)
def mul (a b : UInt8) : UInt8 := mulPart a b 8

theorem x4 (a b c d : UInt8) : (a ^^^ b) ^^^ (c ^^^ d) = (a ^^^ c) ^^^ (b ^^^ d) := by
  rw [UInt8.xor_assoc, UInt8.xor_assoc, ← UInt8.xor_assoc b c d, UInt8.xor_comm b c, UInt8.xor_assoc c b d]
theorem xor0 (a : UInt8) : a ^^^ 0 = a := UInt8.xor_zero
theorem zxor (a : UInt8) : 0 ^^^ a = a := UInt8.zero_xor
theorem xself (a : UInt8) : a ^^^ a = 0 := UInt8.xor_self
theorem xcancel {a b : UInt8} (h : a ^^^ b = 0) : a = b := by
  have : a ^^^ b ^^^ b = b := by rw [h, zxor]
  rwa [UInt8.xor_assoc, xself, xor0] at this
theorem pick_xor (c d : Bool) (a : UInt8) : pick (c ^^ d) a = pick c a ^^^ pick d a := by
  cases c <;> cases d <;> simp [pick]
theorem pick_xor_right (c : Bool) (a b : UInt8) : pick c (a ^^^ b) = pick c a ^^^ pick c b := by
  cases c <;> simp [pick]
theorem shl_xor (a b : UInt8) : (a ^^^ b) <<< 1 = (a <<< 1) ^^^ (b <<< 1) := by
  apply UInt8.toBitVec_inj.1
  simp only [UInt8.toBitVec_xor, UInt8.toBitVec_shiftLeft]
  exact BitVec.shiftLeft_xor_distrib ..
theorem testBit_xor (a b : UInt8) (n : Nat) : (a ^^^ b).toNat.testBit n = (a.toNat.testBit n ^^ b.toNat.testBit n) := by
  rw [UInt8.toNat_xor, Nat.testBit_xor]
theorem xt_xor (a b : UInt8) : xt (a ^^^ b) = xt a ^^^ xt b := by
  have h : ∀ x : UInt8, xt x = (x <<< 1) ^^^ pick (x.toNat.testBit 7) 0x1d := fun x => rfl
  rw [h, h, h, shl_xor, testBit_xor, pick_xor, x4]
theorem xts_xor (n : Nat) (a b : UInt8) : xts n (a ^^^ b) = xts n a ^^^ xts n b := by
  induction n with
  | zero => rfl
  | succ n ih => rw [xts, ih, xt_xor]; rfl
theorem mulPart_xor_right (a b c : UInt8) (n : Nat) : mulPart a (b ^^^ c) n = mulPart a b n ^^^ mulPart a c n := by
  induction n with
  | zero => exact (xor0 0).symm
  | succ n ih => rw [mulPart, ih, testBit_xor, pick_xor, x4]; rfl
theorem mulPart_xor_left (a b c : UInt8) (n : Nat) : mulPart (a ^^^ b) c n = mulPart a c n ^^^ mulPart b c n := by
  induction n with
  | zero => exact (xor0 0).symm
  | succ n ih => rw [mulPart, ih, xts_xor, pick_xor_right, x4]; rfl
theorem mul_xor (a b c : UInt8) : mul a (b ^^^ c) = mul a b ^^^ mul a c := mulPart_xor_right a b c 8
theorem xor_mul (a b c : UInt8) : mul (a ^^^ b) c = mul a c ^^^ mul b c := mulPart_xor_left a b c 8

theorem u8_parts : ∀ x : Fin 256, UInt8.ofNat x.1 = (((((((pick (x.1.testBit 0) 1 ^^^ pick (x.1.testBit 1) 2) ^^^ pick (x.1.testBit 2) 4) ^^^ pick (x.1.testBit 3) 8) ^^^ pick (x.1.testBit 4) 16) ^^^ pick (x.1.testBit 5) 32) ^^^ pick (x.1.testBit 6) 64) ^^^ pick (x.1.testBit 7) 128) := by decide +kernel
theorem u8_fin (P : UInt8 → Prop) (h : ∀ x : Fin 256, P (UInt8.ofNat x.1)) (x : UInt8) : P x := by
  have := h ⟨x.toNat, x.toNat_lt⟩
  simpa using this
theorem u8_span (P : UInt8 → Prop) (h0 : P 0) (hx : ∀ a b, P a → P b → P (a ^^^ b)) (hb : ∀ i : Fin 8, P (UInt8.ofNat (2 ^ i.1))) (x : UInt8) : P x := by
  refine u8_fin P (fun y => ?_) x
  rw [u8_parts y]
  have hp : ∀ (c : Bool) (i : Fin 8), P (pick c (UInt8.ofNat (2 ^ i.1))) := fun c i => by
    cases c
    · exact h0
    · exact hb i
  exact hx _ _ (hx _ _ (hx _ _ (hx _ _ (hx _ _ (hx _ _ (hx _ _ (hp _ 0) (hp _ 1)) (hp _ 2)) (hp _ 3)) (hp _ 4)) (hp _ 5)) (hp _ 6)) (hp _ 7)
theorem mul_zero (a : UInt8) : mul a 0 = 0 := by
  have := mul_xor a 0 0
  rw [xor0] at this
  have h2 : mul a 0 ^^^ mul a 0 = mul a 0 := this.symm
  rw [xself] at h2
  exact h2.symm
theorem zero_mul (a : UInt8) : mul 0 a = 0 := by
  have := xor_mul 0 0 a
  rw [xor0] at this
  have h2 : mul 0 a ^^^ mul 0 a = mul 0 a := this.symm
  rw [xself] at h2
  exact h2.symm
theorem mul_comm_base : ∀ i j : Fin 8, mul (UInt8.ofNat (2 ^ i.1)) (UInt8.ofNat (2 ^ j.1)) = mul (UInt8.ofNat (2 ^ j.1)) (UInt8.ofNat (2 ^ i.1)) := by decide +kernel
theorem mul_assoc_base : ∀ i j k : Fin 8, mul (mul (UInt8.ofNat (2 ^ i.1)) (UInt8.ofNat (2 ^ j.1))) (UInt8.ofNat (2 ^ k.1)) = mul (UInt8.ofNat (2 ^ i.1)) (mul (UInt8.ofNat (2 ^ j.1)) (UInt8.ofNat (2 ^ k.1))) := by decide +kernel
theorem mul_comm (a b : UInt8) : mul a b = mul b a := by
  refine u8_span (fun a => mul a b = mul b a) (by rw [mul_zero, zero_mul]) (fun x y hx hy => by rw [xor_mul, mul_xor, hx, hy]) (fun i => ?_) a
  exact u8_span (fun b => mul _ b = mul b _) (by rw [mul_zero, zero_mul]) (fun x y hx hy => by rw [xor_mul, mul_xor, hx, hy]) (fun j => mul_comm_base i j) b
theorem mul_assoc (a b c : UInt8) : mul (mul a b) c = mul a (mul b c) := by
  refine u8_span (fun a => mul (mul a b) c = mul a (mul b c)) (by simp only [zero_mul]) (fun x y hx hy => by rw [xor_mul, xor_mul, xor_mul, hx, hy]) (fun i => ?_) a
  refine u8_span (fun b => mul (mul _ b) c = mul _ (mul b c)) (by simp only [zero_mul, mul_zero]) (fun x y hx hy => by rw [mul_xor, xor_mul, xor_mul, mul_xor, hx, hy]) (fun j => ?_) b
  exact u8_span (fun c => mul (mul _ _) c = mul _ (mul _ c)) (by simp only [mul_zero]) (fun x y hx hy => by rw [mul_xor, mul_xor, mul_xor, hx, hy]) (fun k => mul_assoc_base i j k) c
theorem mul_one_fin : ∀ x : Fin 256, mul (UInt8.ofNat x.1) 1 = UInt8.ofNat x.1 := by decide +kernel
theorem mul_one (a : UInt8) : mul a 1 = a := u8_fin (fun a => mul a 1 = a) mul_one_fin a
theorem one_mul (a : UInt8) : mul 1 a = a := by rw [mul_comm, mul_one]
/-- so many times, by squares -/
def pw : Nat → UInt8 → UInt8 → Nat → UInt8
  | 0, out, _, _ => out
  | f + 1, out, a, n => if n = 0 then out else pw f (if n % 2 = 1 then mul out a else out) (mul a a) (n / 2)
def inv (a : UInt8) : UInt8 := pw 8 1 a 254
theorem mul_inv_fin : ∀ x : Fin 256, x.1 ≠ 0 → mul (UInt8.ofNat x.1) (inv (UInt8.ofNat x.1)) = 1 := by decide +kernel
theorem mul_inv {a : UInt8} (h : a ≠ 0) : mul a (inv a) = 1 := by
  refine u8_fin (fun a => a ≠ 0 → mul a (inv a) = 1) (fun x hx => mul_inv_fin x (fun e => hx ?_)) a h
  rw [e]; rfl
theorem inv_mul {a : UInt8} (h : a ≠ 0) : mul (inv a) a = 1 := by rw [mul_comm, mul_inv h]
theorem mul_ne {a b : UInt8} (ha : a ≠ 0) (hb : b ≠ 0) : mul a b ≠ 0 := by
  intro h
  have : mul (inv a) (mul a b) = 0 := by rw [h, mul_zero]
  rw [← mul_assoc, inv_mul ha, one_mul] at this
  exact hb this
theorem mul_eq_zero {a b : UInt8} (h : mul a b = 0) : a = 0 ∨ b = 0 := by
  by_cases ha : a = 0
  · exact .inl ha
  · by_cases hb : b = 0
    · exact .inr hb
    · exact absurd h (mul_ne ha hb)
theorem mul_cancel {a b c : UInt8} (hc : c ≠ 0) (h : mul a c = mul b c) : a = b := by
  have := congrArg (fun x => mul x (inv c)) h
  simpa only [mul_assoc, mul_inv hc, mul_one] using this
theorem inv_ne {a : UInt8} (h : a ≠ 0) : inv a ≠ 0 := by
  intro e
  have := mul_inv h
  rw [e, mul_zero] at this
  exact absurd this (by decide)
def quo (a b : UInt8) : UInt8 := mul a (inv b)
theorem quo_mul {a b : UInt8} (h : b ≠ 0) : mul (quo a b) b = a := by rw [quo, mul_assoc, inv_mul h, mul_one]
theorem quo_only {a b x : UInt8} (h : b ≠ 0) (hx : mul x b = a) : x = quo a b := by
  apply mul_cancel h
  rw [hx, quo_mul h]
end Go.Proofs.Ytepedabpnchajaa
