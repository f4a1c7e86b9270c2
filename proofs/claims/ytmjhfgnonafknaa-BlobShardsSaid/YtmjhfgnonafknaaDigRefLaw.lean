/-
  The plain law behind kistref05.Of: the ring of sixteen words, the other spellings of 'choose' and 'most'.
-/
import Derived.Test.YtmjhfgnonafknaaDigRefAt

namespace Go.Proofs.Ytmjhfgnonafknaa
open Go.RowKit
set_option linter.unusedVariables false
set_option linter.unusedSimpArgs false

theorem choose_eq (e f g : UInt32) : g ^^^ (e &&& (f ^^^ g)) = (e &&& f) ^^^ (~~~ e &&& g) := by
  apply UInt32.toBitVec_inj.1
  simp only [UInt32.toBitVec_xor, UInt32.toBitVec_and, UInt32.toBitVec_not]
  apply BitVec.eq_of_getLsbD_eq
  intro i hi
  simp only [BitVec.getLsbD_xor, BitVec.getLsbD_and, BitVec.getLsbD_not, hi, decide_true, Bool.true_and]
  cases e.toBitVec.getLsbD i <;> cases f.toBitVec.getLsbD i <;> cases g.toBitVec.getLsbD i <;> rfl
theorem most_eq (a b c : UInt32) : (a &&& (b ||| c)) ||| (b &&& c) = (a &&& b) ^^^ (a &&& c) ^^^ (b &&& c) := by
  apply UInt32.toBitVec_inj.1
  simp only [UInt32.toBitVec_xor, UInt32.toBitVec_and, UInt32.toBitVec_or]
  apply BitVec.eq_of_getLsbD_eq
  intro i hi
  simp only [BitVec.getLsbD_xor, BitVec.getLsbD_and, BitVec.getLsbD_or]
  cases a.toBitVec.getLsbD i <;> cases b.toBitVec.getLsbD i <;> cases c.toBitVec.getLsbD i <;> rfl
theorem next_byte (x : UInt32) (z : UInt8) : x * (256 : UInt32) + z.toUInt32 = (x <<< 8) ||| z.toUInt32 := by
  have hz := z.toNat_lt
  have hx := x.toNat_lt
  apply UInt32.toNat_inj.1
  rw [UInt32.toNat_add, UInt32.toNat_mul, UInt32.toNat_or, UInt32.toNat_shiftLeft, UInt8.toNat_toUInt32]
  have h8 : (8 : UInt32).toNat % 32 = 8 := rfl
  have h256 : (256 : UInt32).toNat = 256 := rfl
  rw [h8, h256, Nat.shiftLeft_eq]
  have h1 : x.toNat * 2 ^ 8 % 2 ^ 32 = (x.toNat % 2 ^ 24) <<< 8 := by rw [Nat.shiftLeft_eq]; omega
  have h2 := Nat.shiftLeft_add_eq_or_of_lt (a := x.toNat % 2 ^ 24) (b := z.toNat) (i := 8) (by omega)
  rw [h1, ← h2, Nat.shiftLeft_eq]
  show (x.toNat % 16777216 * 256 + z.toNat) % 4294967296 = x.toNat % 16777216 * 256 + z.toNat
  have hz' : z.toNat < 256 := hz
  clear h1 h2 h8 h256 hz hx
  generalize x.toNat = X at *
  generalize z.toNat = Z at *
  omega
/-- so many of four bytes, as one number -/
def partWord (f : Nat → UInt8) : Nat → UInt32
  | 0 => 0
  | i + 1 => partWord f i * (256 : UInt32) + (f i).toUInt32
theorem partWord_four (f : Nat → UInt8) : partWord f 4 = word4 (f 0) (f 1) (f 2) (f 3) := by
  simp only [partWord, next_byte]
  unfold word4
  apply UInt32.toBitVec_inj.1
  simp only [UInt32.toBitVec_or, UInt32.toBitVec_shiftLeft]
  apply BitVec.eq_of_getLsbD_eq
  intro i hi
  have e8 : ((8 : UInt32).toBitVec % 32#32).toNat = 8 := rfl
  have e16 : ((16 : UInt32).toBitVec % 32#32).toNat = 16 := rfl
  have e24 : ((24 : UInt32).toBitVec % 32#32).toNat = 24 := rfl
  simp only [BitVec.shiftLeft_eq', BitVec.getLsbD_or, BitVec.getLsbD_shiftLeft, e8, e16, e24, hi]
  by_cases h8 : i < 8
  · simp [h8, show i < 16 by omega, show i < 24 by omega]
  · by_cases h16 : i < 16
    · simp [h8, h16, show i < 24 by omega, show i - 8 < 8 by omega, show i - 8 < 16 by omega, show i - 8 < 32 by omega]
    · by_cases h24 : i < 24
      · simp [h8, h16, h24, show ¬ i - 8 < 8 by omega, show i - 16 < 8 by omega, show i - 8 < 32 by omega, show i - 8 - 8 = i - 16 by omega]
      · simp [h8, h16, h24, show ¬ i - 8 < 8 by omega, show ¬ i - 16 < 8 by omega, show i - 8 < 32 by omega, show i - 16 < 32 by omega, show i - 24 < 32 by omega, show i - 8 - 8 = i - 16 by omega, show i - 16 - 8 = i - 24 by omega]
/-- the ring of sixteen words before round n -/
def Ring (sch R : List UInt32) (n : Nat) : Prop := R.length = 16 ∧ (∀ m, m < n → n ≤ m + 16 → R.getD (m % 16) 0 = sch.getD m 0) ∧ (∀ j, n ≤ j → j < 16 → R.getD j 0 = 0)
theorem getD_set_same (R : List UInt32) (i : Nat) (x : UInt32) (h : i < R.length) : (R.set i x).getD i 0 = x := by
  simp [List.getD_eq_getElem?_getD, h]
theorem getD_set_other (R : List UInt32) (i j : Nat) (x : UInt32) (h : i ≠ j) : (R.set i x).getD j 0 = R.getD j 0 := by
  simp [List.getD_eq_getElem?_getD, h]
theorem Ring.start (sch : List UInt32) : Ring sch (List.replicate 16 0) 0 :=
  ⟨by simp, fun m h => by omega, fun j _ hj => by rw [List.getD_eq_getElem?_getD, List.getElem?_replicate, if_pos hj]; rfl⟩
theorem Ring.step {sch R : List UInt32} {n : Nat} (h : Ring sch R n) (x : UInt32) (hx : x = sch.getD n 0) : Ring sch (R.set (n % 16) x) (n + 1) := by
  obtain ⟨h1, h2, h3⟩ := h
  refine ⟨by simpa using h1, fun m hm hn => ?_, fun j hn hj => ?_⟩
  · by_cases e : m = n
    · subst e
      rw [getD_set_same _ _ _ (by omega), hx]
    · rw [getD_set_other _ _ _ _ (by omega)]
      exact h2 m (by omega) (by omega)
  · rw [getD_set_other _ _ _ _ (by omega)]
    exact h3 j (by omega) hj
theorem ext_getD (k : Nat) (l : List UInt32) (i : Nat) (h : i < l.length) : (ext k l).getD i 0 = l.getD i 0 := by
  induction k with
  | zero => rfl
  | succ k ih =>
    rw [ext, List.getD_eq_getElem?_getD, List.getElem?_append_left (by rw [ext_length]; omega), ← List.getD_eq_getElem?_getD, ih]
theorem ext_next (l : List UInt32) (k j : Nat) (h : j < k) : (ext k l).getD (l.length + j) 0 = nextW (ext j l) := by
  induction k with
  | zero => omega
  | succ k ih =>
    by_cases e : j = k
    · subst e
      rw [ext, List.getD_eq_getElem?_getD, List.getElem?_append_right (by rw [ext_length]; exact Nat.le_refl _), ext_length, Nat.sub_self]
      rfl
    · rw [ext, List.getD_eq_getElem?_getD, List.getElem?_append_left (by rw [ext_length]; omega), ← List.getD_eq_getElem?_getD]
      exact ih (by omega)
theorem ext_part (l : List UInt32) (k j i : Nat) (h : j ≤ k) (hi : i < l.length + j) : (ext k l).getD i 0 = (ext j l).getD i 0 := by
  induction k with
  | zero => rw [show j = 0 by omega]
  | succ k ih =>
    by_cases e : j = k + 1
    · rw [e]
    · rw [ext, List.getD_eq_getElem?_getD, List.getElem?_append_left (by rw [ext_length]; omega), ← List.getD_eq_getElem?_getD]
      exact ih (by omega)
theorem sched_low (b : List UInt8) (n : Nat) (h : n < 16) : (sched b).getD n 0 = wordAt b n := by
  unfold sched
  rw [ext_getD _ _ _ (by rw [firstW_length]; exact h)]
  unfold firstW
  simp [List.getD_eq_getElem?_getD, h]
theorem ext_high (l : List UInt32) (hl : l.length = 16) (K n : Nat) (h : 16 ≤ n) (h2 : n < 16 + K) : (ext K l).getD n 0 = (ext K l).getD (n - 16) 0 + ((ext K l).getD (n - 7) 0 + sig0 ((ext K l).getD (n - 15) 0) + sig1 ((ext K l).getD (n - 2) 0)) := by
  have hp : ∀ i, i < n → (ext K l).getD i 0 = (ext (n - 16) l).getD i 0 := fun i hi => ext_part _ _ _ _ (by omega) (by rw [hl]; omega)
  have hn : (ext K l).getD n 0 = nextW (ext (n - 16) l) := by
    have := ext_next l K (n - 16) (by omega)
    rw [hl, show 16 + (n - 16) = n by omega] at this
    exact this
  rw [hn, hp _ (by omega), hp _ (by omega), hp _ (by omega), hp _ (by omega)]
  unfold nextW
  rw [ext_length, hl, show 16 + (n - 16) = n by omega, UInt32.add_assoc, UInt32.add_assoc]
  congr 1
  rw [UInt32.add_assoc]
theorem sched_high (b : List UInt8) (n : Nat) (h : 16 ≤ n) (h2 : n < 64) : (sched b).getD n 0 = (sched b).getD (n - 16) 0 + ((sched b).getD (n - 7) 0 + sig0 ((sched b).getD (n - 15) 0) + sig1 ((sched b).getD (n - 2) 0)) :=
  ext_high _ (firstW_length b 16) 48 n h h2
end Go.Proofs.Ytmjhfgnonafknaa
