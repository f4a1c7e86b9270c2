/-
  The walks of kist/word's Reader: New, next, Get, Text, End.
-/
import Derived.Test.YtepedabpnchajaaWord

namespace Go.Proofs.Ytepedabpnchajaa
open Go.RowKit
set_option linter.unusedVariables false

namespace Word
theorem wrap_shl (c k : Nat) (hc : c < 256) (hk : k < 9) : IntKind.u64.wrap ((c : Int) % 128 * 2 ^ (7 * k)) = ((c % 128 * 2 ^ (7 * k) : Nat) : Int) := by
  have h1 : c % 128 * 2 ^ (7 * k) < 128 * 2 ^ (7 * k) := Nat.mul_lt_mul_of_pos_right (Nat.mod_lt _ (by decide)) (Nat.two_pow_pos _)
  have h2 : 2 ^ (7 * k) ≤ 2 ^ 56 := Nat.pow_le_pow_right (by decide) (by omega)
  have e : ((c : Int) % 128 * 2 ^ (7 * k)) = ((c % 128 * 2 ^ (7 * k) : Nat) : Int) := by push_cast; rfl
  rw [e]
  generalize c % 128 * 2 ^ (7 * k) = x at *
  simp [IntKind.wrap, IntKind.bits, IntKind.signed]
  omega
theorem or_walk (A c k : Nat) (hA : A < 128 ^ k) (hc : c < 256) (hk : k < 9) : bits .or .u64 (A : Int) (IntKind.u64.wrap ((c : Int) % 128 * 2 ^ (7 * k))) = ((A + 128 ^ k * (c % 128) : Nat) : Int) := by
  have h1 : c % 128 * 2 ^ (7 * k) < 128 * 2 ^ (7 * k) := Nat.mul_lt_mul_of_pos_right (Nat.mod_lt _ (by decide)) (Nat.two_pow_pos _)
  have h2 : 2 ^ (7 * k) ≤ 2 ^ 56 := Nat.pow_le_pow_right (by decide) (by omega)
  have h3 : 128 ^ k ≤ 128 ^ 9 := Nat.pow_le_pow_right (by decide) (by omega)
  rw [wrap_shl c k hc hk, u64_or_nat _ _ (by omega) (by omega), or_sum _ _ _ hA]
end Word

theorem own_sliced {a : Option Addr} {lo hi n cap j : Nat} (h : (sliced a lo hi cap 1).ownBlock = some j) : (Value.slice a n cap).ownBlock = some j := by
  unfold sliced at h
  by_cases hc : cap = lo
  · rw [if_pos hc] at h
    cases a <;> exact h
  · rw [if_neg hc] at h
    cases a with
    | none => exact h
    | some a =>
      have e : (a.add (lo * 1)).block = a.block := by unfold Addr.add; first | rfl | (split <;> rfl)
      simp only [Option.map_some, Value.ownBlock, e] at h
      exact h
end Go.Proofs.Ytepedabpnchajaa
