/-
  Plain law of the document's Decode: one part or two that lack are solved for.
-/
import Derived.Test.YtkdmagochimjeaaRsRefFactors
namespace Go.Proofs.Ytkdmagochimjeaa
open Go.RowKit
set_option linter.unusedVariables false
set_option linter.unusedSimpArgs false

/-- a sum of which one term is another -/
theorem sm_put (n p : Nat) (hp : p < n) (h : Nat → UInt8) (a : UInt8) (h0 : h p = 0) : sm n (fun k => if k = p then a else h k) = sm n h ^^^ a := by
  have e : sm n (fun k => (if k = p then a else h k) ^^^ h k) = a := by
    rw [sm_one hp (fun i _ hne => by rw [if_neg hne, xself]), if_pos rfl, h0, xor0]
  rw [sm_xor] at e
  generalize sm n (fun k => if k = p then a else h k) = X at *
  rw [← e, UInt8.xor_comm X, ← UInt8.xor_assoc, xself, zxor]
theorem facL_at (s k : Nat) (hk : k < 8) : (facL s 8).getD k 0 = facF s k := line_at _ _ _ hk
/-- what shard s is of a group whose parts are those that are there, and else zeros -/
def thereS (sh : List (List UInt8)) (s b : Nat) : UInt8 := sm 8 (fun i => if 0 < (sh.getD i []).length then mul ((facL s 8).getD i 0) ((sh.getD i []).getD b 0) else 0)
theorem leftF_there (sh : List (List UInt8)) (s b : Nat) : leftF sh (facL s 8) s b 8 = (sh.getD s []).getD b 0 ^^^ thereS sh s b := rfl
/-- one part lacks: x is it -/
theorem solve_one (sh : List (List UInt8)) (d : List UInt8) (s b p : Nat) (hs : 8 ≤ s) (hp : p < 8) (hlp : (sh.getD p []).length = 0)
    (hd : ∀ k, k < 8 → k ≠ p → 0 < (sh.getD k []).length ∧ d.getD (16 * k + b) 0 = (sh.getD k []).getD b 0)
    (hx : mul (d.getD (16 * p + b) 0) (facF s p) = leftF sh (facL s 8) s b 8) : encF d s b = (sh.getD s []).getD b 0 := by
  rw [enc_high d s b hs]
  have e : sm 8 (fun k => mul (inv (UInt8.ofNat s ^^^ UInt8.ofNat k)) (d.getD (16 * k + b) 0)) = sm 8 (fun k => if k = p then mul (facF s p) (d.getD (16 * p + b) 0) else if 0 < (sh.getD k []).length then mul ((facL s 8).getD k 0) ((sh.getD k []).getD b 0) else 0) := by
    refine sm_congr fun k hk => ?_
    by_cases e : k = p
    · subst e; rw [if_pos rfl]; rfl
    · rw [if_neg e, if_pos (hd k hk e).1, (hd k hk e).2, facL_at s k hk]; rfl
  rw [e, sm_put 8 p hp _ _ (if_neg (by omega)), mul_comm, hx, leftF_there]
  unfold thereS
  rw [UInt8.xor_comm ((sh.getD s []).getD b 0), ← UInt8.xor_assoc, xself, zxor]
/-- two parts lack: x, y are they -/
theorem solve_two (sh : List (List UInt8)) (d : List UInt8) (s b p q : Nat) (hs : 8 ≤ s) (hp : p < 8) (hq : q < 8) (hpq : p ≠ q) (hlp : (sh.getD p []).length = 0) (hlq : (sh.getD q []).length = 0)
    (hd : ∀ k, k < 8 → k ≠ p → k ≠ q → 0 < (sh.getD k []).length ∧ d.getD (16 * k + b) 0 = (sh.getD k []).getD b 0)
    (hx : mul (facF s p) (d.getD (16 * p + b) 0) ^^^ mul (facF s q) (d.getD (16 * q + b) 0) = leftF sh (facL s 8) s b 8) : encF d s b = (sh.getD s []).getD b 0 := by
  rw [enc_high d s b hs]
  have e : sm 8 (fun k => mul (inv (UInt8.ofNat s ^^^ UInt8.ofNat k)) (d.getD (16 * k + b) 0)) = sm 8 (fun k => if k = p then mul (facF s p) (d.getD (16 * p + b) 0) else if k = q then mul (facF s q) (d.getD (16 * q + b) 0) else if 0 < (sh.getD k []).length then mul ((facL s 8).getD k 0) ((sh.getD k []).getD b 0) else 0) := by
    refine sm_congr fun k hk => ?_
    by_cases e : k = p
    · subst e; rw [if_pos rfl]; rfl
    · rw [if_neg e]
      by_cases e2 : k = q
      · subst e2; rw [if_pos rfl]; rfl
      · rw [if_neg e2, if_pos (hd k hk e e2).1, (hd k hk e e2).2, facL_at s k hk]; rfl
  have e2 := sm_put 8 q hq (fun k => if 0 < (sh.getD k []).length then mul ((facL s 8).getD k 0) ((sh.getD k []).getD b 0) else 0) (mul (facF s q) (d.getD (16 * q + b) 0)) (if_neg (by omega))
  have e3 := sm_put 8 p hp (fun k => if k = q then mul (facF s q) (d.getD (16 * q + b) 0) else if 0 < (sh.getD k []).length then mul ((facL s 8).getD k 0) ((sh.getD k []).getD b 0) else 0) (mul (facF s p) (d.getD (16 * p + b) 0)) (by show (if p = q then _ else _) = _; rw [if_neg hpq, if_neg (by omega)])
  rw [e, e3, e2, UInt8.xor_assoc, UInt8.xor_comm (mul (facF s q) _), hx, leftF_there]
  unfold thereS
  rw [UInt8.xor_comm ((sh.getD s []).getD b 0), ← UInt8.xor_assoc, xself, zxor]
/-- Cramer -/
theorem cramer (p q r s u v : UInt8) (hdet : mul p s ^^^ mul q r ≠ 0) :
    mul p (quo (mul u s ^^^ mul q v) (mul p s ^^^ mul q r)) ^^^ mul q (quo (mul p v ^^^ mul u r) (mul p s ^^^ mul q r)) = u ∧
    mul r (quo (mul u s ^^^ mul q v) (mul p s ^^^ mul q r)) ^^^ mul s (quo (mul p v ^^^ mul u r) (mul p s ^^^ mul q r)) = v := by
  have hx := quo_mul (a := mul u s ^^^ mul q v) hdet
  have hy := quo_mul (a := mul p v ^^^ mul u r) hdet
  generalize hD : mul p s ^^^ mul q r = D at *
  generalize quo (mul u s ^^^ mul q v) D = x at *
  generalize quo (mul p v ^^^ mul u r) D = y at *
  have a1 : ∀ a b c : UInt8, mul a (mul b c) = mul b (mul a c) := fun a b c => by rw [← mul_assoc, mul_comm a b, mul_assoc]
  constructor
  · refine mul_cancel hdet ?_
    have t1 : mul p (mul q v) = mul q (mul p v) := a1 p q v
    have t2 : mul p (mul u s) = mul u (mul p s) := a1 p u s
    have t3 : mul q (mul u r) = mul u (mul q r) := a1 q u r
    rw [xor_mul, mul_assoc, mul_assoc, hx, hy, mul_xor, mul_xor, t1, t2, t3, ← hD, mul_xor]
    generalize mul q (mul p v) = B
    rw [UInt8.xor_assoc, ← UInt8.xor_assoc B B, xself, zxor]
  · refine mul_cancel hdet ?_
    have t1 : mul s (mul u r) = mul r (mul u s) := by rw [a1 s u r, a1 r u s, mul_comm s r]
    have t2 : mul r (mul q v) = mul v (mul q r) := by rw [a1 r q v, mul_comm r v, a1 q v r]
    have t3 : mul s (mul p v) = mul v (mul p s) := by rw [a1 s p v, mul_comm s v, a1 p v s]
    rw [xor_mul, mul_assoc, mul_assoc, hx, hy, mul_xor, mul_xor, t1, t2, t3, ← hD, mul_xor]
    generalize mul r (mul u s) = A
    generalize mul v (mul q r) = B
    generalize mul v (mul p s) = C
    rw [UInt8.xor_comm A B, UInt8.xor_comm C A, UInt8.xor_assoc B, ← UInt8.xor_assoc A A, xself, zxor, UInt8.xor_comm]
theorem det_ne : ∀ p : Fin 8, ∀ q : Fin 8, p ≠ q → mul (facF 8 p.1) (facF 9 q.1) ^^^ mul (facF 8 q.1) (facF 9 p.1) ≠ 0 := by decide +kernel
theorem fac_ne (s k : Nat) (hs : 8 ≤ s) (hs2 : s < 10) (hk : k < 8) : facF s k ≠ 0 := inv_ne (byte_ne s k (by omega) (by omega) (by omega))
end Go.Proofs.Ytkdmagochimjeaa
