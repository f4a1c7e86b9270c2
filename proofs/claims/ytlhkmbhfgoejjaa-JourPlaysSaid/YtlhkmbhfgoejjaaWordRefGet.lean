/-
  The reference's Number and Word: the same answers as a reader's.
-/
import Derived.Test.YtlhkmbhfgoejjaaWText

namespace Go.Proofs.Ytlhkmbhfgoejjaa
open Go.RowKit
set_option linter.unusedVariables false
namespace Word
/-- The place that a rest stands for; below 0: bad. -/
def pos (b r : List UInt8) (bad : Bool) : Int := if bad then -1 else (b.length : Int) - r.length
theorem next_none {l : List UInt8} (h : dec 9 l = none) : next l = (0, false, l) := by unfold next; rw [h]
theorem next_some {l : List UInt8} {n : Nat} {z : UInt8} {k : Nat} (hk : k < l.length) (h : dec 9 l = some (n, z, l.drop (k + 1))) : next l = (n, k == 0 || z != 0, l.drop (k + 1)) := by
  unfold next
  rw [h]
  have : ((l.drop (k + 1)).length + 1 == l.length) = (k == 0) := by
    rw [Bool.eq_iff_iff, beq_iff_eq, beq_iff_eq, List.length_drop]
    omega
  simp only [this]
theorem get_none (m : Int) {l : List UInt8} (h : dec 9 l = none) : get m l false = (0, l, true) := by
  unfold get
  rw [next_none h]
  simp
theorem get_some (m : Int) {l : List UInt8} {n : Nat} {z : UInt8} {k : Nat} (hk : k < l.length) (h : dec 9 l = some (n, z, l.drop (k + 1))) :
    get m l false = if m < 0 ∨ m < n ∨ (0 < k ∧ z = 0) then (0, l.drop (k + 1), true) else (n, l.drop (k + 1), false) := by
  unfold get
  rw [next_some hk h]
  by_cases h1 : m < 0 ∨ m < n ∨ (0 < k ∧ z = 0)
  · rw [if_pos h1]
    have : ((k == 0 || z != 0) && decide (0 ≤ m) && decide ((n : Int) ≤ m)) = false := by
      rcases h1 with h1 | h1 | ⟨h1, rfl⟩
      · simp; omega
      · simp; omega
      · have : (k == 0) = false := by simp; omega
        simp [this]
    simp [this]
  · rw [if_neg h1]
    have e1 : (k == 0 || z != 0) = true := by
      simp
      by_cases hk0 : k = 0
      · exact .inl hk0
      · exact .inr (fun hz => h1 (.inr (.inr ⟨by omega, hz⟩)))
    have e2 : 0 ≤ m := by omega
    have e3 : (n : Int) ≤ m := by omega
    simp only [e1, e2, e3, decide_true, Bool.and_self, Bool.false_eq_true, if_false, if_true]
theorem dec_suffix (k : Nat) : ∀ l x, dec k l = some x → x.2.2 <:+ l := by
  induction k with
  | zero => intro l x h; simp [dec] at h
  | succ k ih =>
    intro l x h
    cases l with
    | nil => simp [dec] at h
    | cons c r =>
      by_cases hc : c.toNat < 128
      · rw [dec_lt hc] at h
        simp only [Option.some.injEq] at h
        subst h
        exact List.suffix_cons c r
      · rw [dec_ge hc] at h
        simp only [Option.map_eq_some_iff] at h
        obtain ⟨y, hy, rfl⟩ := h
        exact (ih r y hy).trans (List.suffix_cons c r)
theorem next_suffix (l : List UInt8) : (next l).2.2 <:+ l := by
  unfold next
  cases h : dec 9 l with
  | none => exact List.suffix_refl l
  | some x => exact dec_suffix 9 l x h
theorem get_suffix (m : Int) (l : List UInt8) (bad : Bool) : (get m l bad).2.1 <:+ l := by
  have := next_suffix l
  unfold get
  split
  · exact List.suffix_refl l
  · split <;> exact this
theorem text_suffix (m : Int) (l : List UInt8) (bad : Bool) : (text m l bad).2.1 <:+ l := by
  have := get_suffix m l bad
  unfold text
  split
  · exact this
  · split
    · exact (List.drop_suffix _ _).trans this
    · exact this
theorem suffix_drop {l b : List UInt8} (h : l <:+ b) : l = b.drop (b.length - l.length) ∧ l.length ≤ b.length := by
  obtain ⟨t, rfl⟩ := h
  simp
theorem shl_add (A c k : Nat) (hA : A < 128 ^ k) (hc : c < 256) (hk : k < 9) : IntKind.i64.wrap ((A : Int) + IntKind.i64.wrap ((c : Int) % 128 * 2 ^ (7 * k))) = ((A + 128 ^ k * (c % 128) : Nat) : Int) := by
  have h1 := sum_lt A (c % 128) k hA (Nat.mod_lt _ (by decide))
  have h2 : 128 ^ (k + 1) ≤ 128 ^ 9 := Nat.pow_le_pow_right (by decide) (by omega)
  have e : (c : Int) % 128 * 2 ^ (7 * k) = ((128 ^ k * (c % 128) : Nat) : Int) := by
    have e2 : (128 : Nat) ^ k = 2 ^ (7 * k) := by rw [show (128 : Nat) = 2 ^ 7 by rfl, ← Nat.pow_mul]
    rw [e2]
    push_cast
    exact Int.mul_comm _ _
  obtain ⟨X, hX⟩ : ∃ X, X = 128 ^ k * (c % 128) := ⟨_, rfl⟩
  rw [e, ← hX]
  rw [← hX] at h1
  have h3 : A + X < 9223372036854775808 := by omega
  rw [IntWalk.i64_in (X : Int) (by omega), IntWalk.i64_in _ (by omega)]
  omega
end Word

theorem wrap64_is (n : Int) : IntKind.i64.wrap n = wrap64 n := by
  simp [IntKind.wrap, wrap64, IntKind.bits, IntKind.signed]
  split <;> omega

set_option maxRecDepth 20000 in
set_option maxHeartbeats 1000000 in
theorem Number_any (v : Value) (b : List UInt8) (q : Nat) (m : Int) (w : World) (h : RB w v b) (hb : b.length ≤ 140737488355328) (hq : q ≤ b.length) :
    Calls Try.prog 74 #[v, .int .i64 (q : Int), .int .i64 m] w fun e w' => e = .returned (.tuple #[.int .i64 ((Word.get m (b.drop q) false).1 : Nat), .int .i64 (Word.pos b (Word.get m (b.drop q) false).2.1 (Word.get m (b.drop q) false).2.2)]) ∧ w = w' := by
  obtain ⟨l, hl⟩ := hid_of (b.drop q)
  have hll : l.length + q = b.length := by rw [← hl.out, List.length_drop]; omega
  have hget : Hid (∀ i (hi : i < l.length), ∃ (hj : q + i < b.length), b[q + i] = l[i]) := by
    refine Lib.hid fun i hi => ?_
    have h0 := hl.out
    subst h0
    rw [List.length_drop] at hi
    exact ⟨by omega, by rw [List.getElem_drop]⟩
  rw [hl.out]
  obtain ⟨a, cap, rfl, e1, e2, e3, e4⟩ := h
  simp only [maxLen] at e2
  have H4 := Lib.hid e4
  clear e3 e4
  go_enter Try.func74, Try.ntmps74
  go_wp2
  go_loop [8, 9] (fun su i => ∃ (k A : Nat), k ≤ 9 ∧ k ≤ l.length ∧ i = .int .i64 k ∧ su = .int .i64 A ∧ A < 128 ^ k ∧ Hid (Word.dec 9 l = (Word.dec (9 - k) (l.drop k)).map fun x => (A + 128 ^ k * x.1, x.2))) (fun _ i => 10 - (intOf i).toNat)
  case atStart => exact ⟨0, 0, by omega, by omega, rfl, rfl, by simp, Lib.hid (by simp)⟩
  case round =>
    obtain ⟨k, A, hk9, hkl, rfl, rfl, hA, HD⟩ := hrel
    have HA := Lib.hid hA
    clear hA
    by_cases h9 : k = 9
    · subst h9
      go_wp2
      go_ret2
      rw [Word.get_none m (Word.dec_out l 9 A (.inr rfl) HD.out)]
      exact ⟨rfl, rfl⟩
    · have h9' : k < 9 := by omega
      have H9 := Lib.hid h9
      clear h9
      have hwq : IntKind.i64.wrap ((q : Int) + (k : Int)) = ((q + k : Nat) : Int) := by rw [IntWalk.i64_in _ (by omega)]; omega
      obtain ⟨qk, Hqk⟩ := hid_of (q + k)
      rw [Hqk.out] at hwq
      by_cases hlt : k < l.length
      · obtain ⟨hj, hbl⟩ := hget.out k hlt
        rcases H4.out with rfl | ⟨bb, off, rfl, hc⟩
        · simp at hj
        · have hck := hc (q + k) hj
          rw [hbl] at hck
          have hb8 := l[k].toNat_lt
          have hsum : wrap64 ((A : Int) + wrap64 ((l[k].toNat : Int) % 128 * 2 ^ (7 * k))) = ((A + 128 ^ k * (l[k].toNat % 128) : Nat) : Int) := by
            rw [← wrap64_is, ← wrap64_is]
            exact Word.shl_add A l[k].toNat k HA.out (by omega) h9'
          obtain ⟨N', hN⟩ := hid_of (A + 128 ^ k * (l[k].toNat % 128))
          rw [hN.out] at hsum
          simp only [Hqk.out] at hck
          have hqk : qk < b.length := by rw [← Hqk.out]; exact hj
          clear hc hbl hj
          obtain ⟨c, Hc⟩ := hid_of l[k].toNat
          simp only [Hc.out] at hck hsum hb8
          have HSum := Lib.hid hsum
          by_cases hm : c < 128
          · have hdone := Lib.hid (Word.get_some m hlt (Word.dec_end l k A hlt h9' (by rw [Hc.out]; exact hm) HD.out))
            have hNe : A + 128 ^ k * l[k].toNat = N' := by rw [← hN.out, Nat.mod_eq_of_lt (by rw [Hc.out]; exact hm)]
            have HDone : Hid (Word.get m l false = if m < 0 ∨ m < N' ∨ (0 < k ∧ l[k] = 0) then (0, l.drop (k + 1), true) else (N', l.drop (k + 1), false)) := by
              rw [← hNe]
              exact hdone.out
            have hz : c = 0 ↔ l[k] = 0 := by
              rw [← Hc.out]
              constructor
              · intro h
                exact UInt8.toNat_inj.1 (by simpa using h)
              · intro h
                rw [h]
                rfl
            have HZ := Lib.hid hz
            clear hdone hNe hz
            have hpos : (b.length : Int) - ((l.drop (k + 1)).length : Int) = (qk : Int) + 1 := by
              rw [List.length_drop, ← Hqk.out]
              omega
            have HP := Lib.hid hpos
            have hbad : ∀ r, Word.pos b r true = -1 := fun r => rfl
            have HBad := Lib.hid hbad
            clear hpos hbad
            have hbound : N' < 9223372036854775808 := by
              rw [← hN.out]
              have h1 := Word.sum_lt A (l[k].toNat % 128) k HA.out (Nat.mod_lt _ (by decide))
              have h2 : 128 ^ (k + 1) ≤ 128 ^ 9 := Nat.pow_le_pow_right (by decide) (by omega)
              omega
            by_cases h0 : m < 0
            · have HF : Hid (Word.get m l false = (0, l.drop (k + 1), true)) := by rw [HDone.out, if_pos (.inl h0)]; exact Lib.hid rfl
              clear HDone HZ HD
              go_wp2
              go_ret2
              rw [HF.out, HBad.out]
              exact ⟨rfl, rfl⟩
            · by_cases h1 : m < N'
              · have HF : Hid (Word.get m l false = (0, l.drop (k + 1), true)) := by rw [HDone.out, if_pos (.inr (.inl h1))]; exact Lib.hid rfl
                clear HDone HZ HD
                go_wp2
                go_ret2
                rw [HF.out, HBad.out]
                exact ⟨rfl, rfl⟩
              · by_cases hk0 : k = 0
                · have HF : Hid (Word.get m l false = (N', l.drop (k + 1), false)) := by
                    rw [HDone.out, if_neg (by omega)]
                    exact Lib.hid rfl
                  have hk0' : ¬ (0 : Int) < (k : Int) := by omega
                  clear HDone HZ HD hk0
                  go_wp2
                  go_ret2
                  rw [HF.out]
                  exact ⟨by unfold Word.pos; rw [if_neg Bool.false_ne_true, HP.out]; rfl, rfl⟩
                · have hk0' : (0 : Int) < (k : Int) := by omega
                  by_cases hc0 : c = 0
                  · have HF : Hid (Word.get m l false = (0, l.drop (k + 1), true)) := by rw [HDone.out, if_pos (.inr (.inr ⟨by omega, HZ.out.1 hc0⟩))]; exact Lib.hid rfl
                    have hcb : ((c : Int) == 0) = true := by simp [hc0]
                    clear HDone HZ HD hk0 hc0
                    go_wp2
                    go_ret2
                    rw [HF.out, HBad.out]
                    exact ⟨rfl, rfl⟩
                  · have HF : Hid (Word.get m l false = (N', l.drop (k + 1), false)) := by
                      rw [HDone.out, if_neg]
                      · exact Lib.hid rfl
                      · rintro (h | h | ⟨h, h'⟩)
                        · omega
                        · omega
                        · exact hc0 (HZ.out.2 h')
                    have hcb : ((c : Int) == 0) = false := by simp; omega
                    clear HDone HZ HD hk0 hc0
                    go_wp2
                    go_ret2
                    rw [HF.out]
                    exact ⟨by unfold Word.pos; rw [if_neg Bool.false_ne_true, HP.out]; rfl, rfl⟩
          · have hs := Word.dec_step l k A hlt h9' (by rw [Hc.out]; exact hm) HD.out
            have HS := Lib.hid hs
            have hnew := Word.sum_lt _ _ k HA.out (Nat.mod_lt l[k].toNat (by decide : 0 < 128))
            have HNew := Lib.hid hnew
            clear hs hnew HD
            go_wp2
            go_round
            case rel => exact ⟨k + 1, A + 128 ^ k * (l[k].toNat % 128), by omega, by omega, by go_num, by rw [hN.out, HSum.out], HNew.out, HS⟩
            case measure => simp [intOf]; omega
      · have hk : k = l.length := by omega
        have HK := Lib.hid hk
        have hge : (b.length : Int) ≤ (qk : Int) := by rw [← Hqk.out]; omega
        clear hk
        go_wp2
        go_ret2
        rw [Word.get_none m (Word.dec_out l k A (.inl HK.out) HD.out)]
        exact ⟨rfl, rfl⟩
end Go.Proofs.Ytlhkmbhfgoejjaa
