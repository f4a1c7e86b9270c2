/-
  Plain: a number's bytes.
-/
import Derived.Test.YtepedabpnchajaaBase

namespace Go.Proofs.Ytepedabpnchajaa
set_option linter.unusedVariables false
namespace Word
/-- The bytes of a number: seven bits each. -/
def enc (n : Nat) : List UInt8 := if h : n < 128 then [UInt8.ofNat n] else UInt8.ofNat (n % 128 + 128) :: enc (n / 128)
termination_by n
theorem enc_low {n : Nat} (h : n < 128) : enc n = [UInt8.ofNat n] := by rw [enc]; simp [h]
theorem enc_high {n : Nat} (h : 128 ≤ n) : enc n = UInt8.ofNat (n % 128 + 128) :: enc (n / 128) := by rw [enc, dif_neg (by omega)]
theorem enc_pos (n : Nat) : 0 < (enc n).length := by
  by_cases h : n < 128
  · rw [enc_low h]; simp
  · rw [enc_high (by omega)]; simp
theorem enc_le (k : Nat) : ∀ n, n < 128 ^ (k + 1) → (enc n).length ≤ k + 1 := by
  induction k with
  | zero => intro n h; rw [enc_low (by omega)]; simp
  | succ k ih =>
    intro n h
    by_cases hl : n < 128
    · rw [enc_low hl]; simp
    · rw [enc_high (by omega)]
      have := ih (n / 128) (by rw [Nat.pow_succ] at h; omega)
      simp only [List.length_cons]
      omega
/-- What a list begins with: the number, its last byte, and what is left. -/
def dec : Nat → List UInt8 → Option (Nat × UInt8 × List UInt8)
  | 0, _ => none
  | _, [] => none
  | k + 1, c :: r => if c.toNat < 128 then some (c.toNat, c, r) else (dec k r).map fun x => (c.toNat % 128 + 128 * x.1, x.2)
theorem dec_none (k : Nat) : dec k [] = none := by cases k <;> rfl
theorem dec_lt {k : Nat} {c : UInt8} {r : List UInt8} (h : c.toNat < 128) : dec (k + 1) (c :: r) = some (c.toNat, c, r) := by simp [dec, h]
theorem dec_ge {k : Nat} {c : UInt8} {r : List UInt8} (h : ¬ c.toNat < 128) : dec (k + 1) (c :: r) = (dec k r).map fun x => (c.toNat % 128 + 128 * x.1, x.2) := by simp [dec, h]
/-- After some bytes that go on. -/
theorem dec_step (l : List UInt8) (k A : Nat) (hk : k < l.length) (hk9 : k < 9) (hc : ¬ l[k].toNat < 128) (h : dec 9 l = (dec (9 - k) (l.drop k)).map fun x => (A + 128 ^ k * x.1, x.2)) :
    dec 9 l = (dec (9 - (k + 1)) (l.drop (k + 1))).map fun x => ((A + 128 ^ k * (l[k].toNat % 128)) + 128 ^ (k + 1) * x.1, x.2) := by
  rw [h, List.drop_eq_getElem_cons hk, show 9 - k = (9 - (k + 1)) + 1 by omega, dec_ge hc, Option.map_map]
  congr 1
  funext x
  simp only [Function.comp, Nat.mul_add, Nat.pow_succ, Nat.mul_assoc, Nat.add_assoc]
theorem dec_end (l : List UInt8) (k A : Nat) (hk : k < l.length) (hk9 : k < 9) (hc : l[k].toNat < 128) (h : dec 9 l = (dec (9 - k) (l.drop k)).map fun x => (A + 128 ^ k * x.1, x.2)) :
    dec 9 l = some (A + 128 ^ k * l[k].toNat, l[k], l.drop (k + 1)) := by
  rw [h, List.drop_eq_getElem_cons hk, show 9 - k = (9 - (k + 1)) + 1 by omega, dec_lt hc]
  rfl
theorem dec_out (l : List UInt8) (k A : Nat) (hk : k = l.length ∨ k = 9) (h : dec 9 l = (dec (9 - k) (l.drop k)).map fun x => (A + 128 ^ k * x.1, x.2)) : dec 9 l = none := by
  rw [h]
  rcases hk with rfl | rfl
  · rw [List.drop_length, dec_none]; rfl
  · rfl
/-- The sum of a round. -/
theorem or_sum (A c k : Nat) (hA : A < 128 ^ k) : A ||| c * 2 ^ (7 * k) = A + 128 ^ k * c := by
  have e : 128 ^ k = 2 ^ (7 * k) := by rw [show (128 : Nat) = 2 ^ 7 by rfl, ← Nat.pow_mul]
  rw [e] at hA ⊢
  rw [Nat.or_comm, Nat.mul_comm c, ← Nat.two_pow_add_eq_or_of_lt hA, Nat.add_comm]
theorem sum_lt (A c k : Nat) (hA : A < 128 ^ k) (hc : c < 128) : A + 128 ^ k * c < 128 ^ (k + 1) := by
  rw [Nat.pow_succ]
  have : 128 ^ k * c ≤ 128 ^ k * 127 := Nat.mul_le_mul_left _ (by omega)
  omega
/-- The number that 'next' gives, and what is left. -/
def next (l : List UInt8) : Nat × Bool × List UInt8 :=
  match dec 9 l with
  | none => (0, false, l)
  | some (n, z, r) => (n, r.length + 1 == l.length || z != 0, r)
theorem dec_bound (k : Nat) : ∀ l x, dec k l = some x → x.1 < 128 ^ k ∧ x.2.2.length < l.length := by
  induction k with
  | zero => intro l x h; simp [dec] at h
  | succ k ih =>
    intro l x h
    cases l with
    | nil => simp [dec] at h
    | cons c r =>
      by_cases hc : c.toNat < 128
      · rw [dec_lt hc] at h
        cases h
        have : 0 < 128 ^ k := Nat.pow_pos (by decide)
        exact ⟨by rw [Nat.pow_succ]; show c.toNat < _; omega, by simp⟩
      · rw [dec_ge hc] at h
        obtain ⟨y, hy, rfl⟩ := Option.map_eq_some_iff.1 h
        have := ih r y hy
        refine ⟨?_, by simp; omega⟩
        rw [Nat.pow_succ]
        have : c.toNat % 128 < 128 := Nat.mod_lt _ (by decide)
        show c.toNat % 128 + 128 * y.1 < _
        omega
theorem next_bound (l : List UInt8) : (next l).1 < 9223372036854775808 := by
  unfold next
  cases h : dec 9 l with
  | none => simp
  | some x => exact (dec_bound 9 l x h).1
/-- A question for a number: the answer, what is left, and whether it is bad now. -/
def get (most : Int) (l : List UInt8) (bad : Bool) : Nat × List UInt8 × Bool :=
  if bad then (0, l, true) else if (next l).2.1 && decide (0 ≤ most) && decide (((next l).1 : Int) ≤ most) then ((next l).1, (next l).2.2, false) else (0, (next l).2.2, true)
/-- For a text. -/
def text (most : Int) (l : List UInt8) (bad : Bool) : List UInt8 × List UInt8 × Bool :=
  if (get most l bad).2.2 then ([], (get most l bad).2.1, true) else if (get most l bad).1 ≤ (get most l bad).2.1.length then ((get most l bad).2.1.take (get most l bad).1, (get most l bad).2.1.drop (get most l bad).1, false) else ([], (get most l bad).2.1, true)
theorem get_bound (most : Int) (l : List UInt8) (bad : Bool) : (get most l bad).1 < 9223372036854775808 := by
  have := next_bound l
  unfold get
  split
  · show 0 < 9223372036854775808; decide
  · split
    · exact this
    · show 0 < 9223372036854775808; decide
theorem enc_last (k : Nat) : ∀ n, n < 128 ^ k → 128 ≤ n → (enc n).getLast? ≠ some 0 := by
  induction k with
  | zero => intro n h h'; simp at h; omega
  | succ k ih =>
    intro n h h'
    rw [enc_high h']
    by_cases hl : n / 128 < 128
    · rw [enc_low hl]
      simp
      intro e
      have := congrArg UInt8.toNat e
      simp at this
      omega
    · have := ih (n / 128) (by rw [Nat.pow_succ] at h; omega) (by omega)
      have hp := enc_pos (n / 128)
      cases he : enc (n / 128) with
      | nil => rw [he] at hp; simp at hp
      | cons a r => rw [he] at this; rw [List.getLast?_cons_cons]; exact this
theorem enc_dec (k : Nat) : ∀ (n : Nat) (r : List UInt8), n < 128 ^ (k + 1) → ∃ z, dec (k + 1) (enc n ++ r) = some (n, z, r) ∧ (enc n).getLast? = some z := by
  induction k with
  | zero =>
    intro n r h
    have hl : n < 128 := by simpa using h
    have hc : (UInt8.ofNat n).toNat = n := by simp; omega
    rw [enc_low hl]
    refine ⟨UInt8.ofNat n, ?_, by simp⟩
    rw [List.singleton_append, dec_lt (by omega), hc]
  | succ k ih =>
    intro n r h
    by_cases hl : n < 128
    · have hc : (UInt8.ofNat n).toNat = n := by simp; omega
      rw [enc_low hl]
      refine ⟨UInt8.ofNat n, ?_, by simp⟩
      rw [List.singleton_append, dec_lt (by omega), hc]
    · have hc : (UInt8.ofNat (n % 128 + 128)).toNat = n % 128 + 128 := by simp; omega
      rw [enc_high (by omega)]
      obtain ⟨z, hz, hz'⟩ := ih (n / 128) r (by rw [Nat.pow_succ] at h; omega)
      refine ⟨z, ?_, ?_⟩
      · rw [List.cons_append, dec_ge (by omega), hz, hc]
        simp
        omega
      · have hp := enc_pos (n / 128)
        cases he : enc (n / 128) with
        | nil => rw [he] at hp; simp at hp
        | cons a r => rw [he] at hz'; rw [List.getLast?_cons_cons]; exact hz'
/-- What was put is got again. -/
theorem next_enc (n : Nat) (r : List UInt8) (h : n < 9223372036854775808) : next (enc n ++ r) = (n, true, r) := by
  obtain ⟨z, hz, hz'⟩ := enc_dec 8 n r (by omega)
  unfold next
  rw [hz]
  simp only [Prod.mk.injEq, true_and, and_true, Bool.or_eq_true, beq_iff_eq, bne_iff_ne, ne_eq]
  by_cases hl : n < 128
  · left; rw [enc_low hl]; simp
  · right
    intro e
    subst e
    exact enc_last 9 n (by omega) (by omega) hz'
theorem get_enc (m : Int) (n : Nat) (r : List UInt8) (h : n < 9223372036854775808) (hm : (n : Int) ≤ m) : get m (enc n ++ r) false = (n, r, false) := by
  unfold get
  rw [next_enc n r h]
  simp
  omega
theorem get_enc_less (m : Int) (n : Nat) (r : List UInt8) (h : n < 9223372036854775808) (hm : m < n) : get m (enc n ++ r) false = (0, r, true) := by
  unfold get
  rw [next_enc n r h]
  simp
  omega
theorem text_enc (m : Int) (s r : List UInt8) (h : s.length < 9223372036854775808) (hm : (s.length : Int) ≤ m) : text m (enc s.length ++ (s ++ r)) false = (s, r, false) := by
  unfold text
  rw [get_enc m s.length (s ++ r) h hm]
  simp
theorem enc_inj {m n : Nat} (hm : m < 9223372036854775808) (hn : n < 9223372036854775808) (h : enc m = enc n) : m = n := by
  have h1 := next_enc m [] hm
  rw [h, next_enc n [] hn] at h1
  simp at h1
  exact h1.symm
/-- It has as many bytes as it needs. -/
theorem enc_size (k : Nat) : ∀ n, n < 128 ^ k → n < 128 ^ (enc n).length ∧ (1 < (enc n).length → 128 ^ ((enc n).length - 1) ≤ n) := by
  induction k with
  | zero =>
    intro n h
    have : n = 0 := by simpa using h
    subst this
    rw [enc_low (by decide)]
    simp
  | succ k ih =>
    intro n h
    by_cases hl : n < 128
    · rw [enc_low hl]; simp; omega
    · rw [enc_high (by omega)]
      obtain ⟨h1, h2⟩ := ih (n / 128) (by rw [Nat.pow_succ] at h; omega)
      have hp := enc_pos (n / 128)
      simp only [List.length_cons, Nat.add_sub_cancel]
      refine ⟨by rw [Nat.pow_succ]; omega, fun _ => ?_⟩
      by_cases h3 : 1 < (enc (n / 128)).length
      · have := h2 h3
        rw [show (enc (n / 128)).length = ((enc (n / 128)).length - 1) + 1 by omega, Nat.pow_succ]
        omega
      · rw [show (enc (n / 128)).length = 1 by omega]
        omega
end Word
end Go.Proofs.Ytepedabpnchajaa
