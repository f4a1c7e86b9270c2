/-
  The walk of kistlaw04.SumOne.
-/
import Derived.Test.YtmjnbmkbnccokaaSumLaws
namespace Go.Proofs.Ytmjnbmkbnccokaa
open Go.RowKit
set_option linter.unusedVariables false

theorem crc_ne {l r : List UInt8} (hl : l.length = r.length) (h4 : l.length ≤ 4) (h : l ≠ r) : (((Sum.crc l).toNat : Int) == ((Sum.crc r).toNat : Int)) = false := by
  apply beq_eq_false_iff_ne.2
  intro e
  apply h
  apply (Sum.crc_burst [] l r [] hl h4).1
  simpa using BitVec.eq_of_toNat_eq (by omega : (Sum.crc l).toNat = (Sum.crc r).toNat)

set_option maxHeartbeats 1000000 in
theorem sumOne_core (a b c d : UInt8) (w : World) (x1 x2 x3 x4 : Int) (p q r : Bool)
    (h1 : Hid (((Sum.crc [a, b]).toNat : Int) = x1)) (h2 : Hid (((Sum.crc [c, d]).toNat : Int) = x2)) (h3 : Hid (((Sum.crc [a]).toNat : Int) = x3)) (h4 : Hid (((Sum.crc [b]).toNat : Int) = x4))
    (hp : ((a.toNat : Int) == (c.toNat : Int)) = p) (hq : ((b.toNat : Int) == (d.toNat : Int)) = q) (hr : ((a.toNat : Int) == (b.toNat : Int)) = r)
    (e1 : (x1 == x2) = (p && q)) (e2 : (x3 == x4) = r) :
    Calls Try.prog 7 #[.int .u8 (a.toNat : Int), .int .u8 (b.toNat : Int), .int .u8 (c.toNat : Int), .int .u8 (d.toNat : Int)] w fun e w' => e = .returned (.bool true) ∧ Below w.heap.size w w' := by
  cases p
  all_goals simp only [Bool.true_and, Bool.false_and] at e1
  all_goals
    go_enter Try.func7, Try.ntmps7
    go_wp2_with fail
    refine (awake_any w).mono ?_
    rintro e w2 ⟨rfl, hb2⟩
    go_wp2_with fail
    refine (of_any _ [a, b] _ (RB.lit _ _ _ rfl (by simp [maxLen]) rfl (by simp))).mono ?_
    rintro e w' ⟨rfl, rfl⟩
    rw [h1.out]
    go_wp2_with fail
    refine (of_any _ [c, d] _ (RB.lit _ _ _ rfl (by simp [maxLen]) rfl (by simp))).mono ?_
    rintro e w' ⟨rfl, rfl⟩
    rw [h2.out]
    go_wp2_with fail
    refine (of_any _ [a] _ (RB.lit _ _ _ rfl (by simp [maxLen]) rfl (by simp))).mono ?_
    rintro e w' ⟨rfl, rfl⟩
    rw [h3.out]
    go_wp2_with fail
    refine (of_any _ [b] _ (RB.lit _ _ _ rfl (by simp [maxLen]) rfl (by simp))).mono ?_
    rintro e w' ⟨rfl, rfl⟩
    rw [h4.out]
    go_wp2
    go_ret
    exact ⟨rfl, ((((hb2.alloc hb2.size _).alloc (by have := hb2.size; simp; omega) _).alloc (by have := hb2.size; simp; omega) _).alloc (by have := hb2.size; simp; omega) _)⟩

theorem sumOne_walk (a b c d : Int) (w : World) (ha : (Lit.int .u8 a).wf = true) (hb : (Lit.int .u8 b).wf = true) (hc : (Lit.int .u8 c).wf = true) (hd : (Lit.int .u8 d).wf = true) :
    Calls Try.prog 7 #[.int .u8 a, .int .u8 b, .int .u8 c, .int .u8 d] w fun e w' => e = .returned (.bool true) ∧ Below w.heap.size w w' := by
  obtain ⟨a, rfl⟩ := u8_of ha
  obtain ⟨b, rfl⟩ := u8_of hb
  obtain ⟨c, rfl⟩ := u8_of hc
  obtain ⟨d, rfl⟩ := u8_of hd
  refine sumOne_core a b c d w _ _ _ _ _ _ _ rfl rfl rfl rfl rfl rfl rfl ?_ ?_
  · by_cases h : a = c ∧ b = d
    · obtain ⟨rfl, rfl⟩ := h
      simp
    · rw [crc_ne (l := [a, b]) (r := [c, d]) rfl (by simp) (by simpa using h)]
      by_cases h' : a = c
      · subst h'
        rw [u8_ne (x := b) (y := d) (by simpa using h)]
        simp
      · rw [u8_ne h']
        simp
  · by_cases h : a = b
    · subst h
      simp
    · rw [crc_ne (l := [a]) (r := [b]) rfl (by simp) (by simpa using h), u8_ne h]
end Go.Proofs.Ytmjnbmkbnccokaa
