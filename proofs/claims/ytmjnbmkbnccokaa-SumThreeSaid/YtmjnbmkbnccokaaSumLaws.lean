/-
  kistlaw04: the helpers short, sealed, awake.
-/
import Derived.Test.YtmjnbmkbnccokaaSumRef
namespace Go.Proofs.Ytmjnbmkbnccokaa
open Go.RowKit
set_option linter.unusedVariables false

theorem infoU8 : (Try.prog.info? 5).map (fun i => (i.zero, i.size, i.bytes)) = some (some (.int .u8 0), 1, 1) := by kernel_rfl

set_option maxHeartbeats 400000 in
theorem short_any (v : Value) (l : List UInt8) (most : Nat) (w : World) (h : RB w v l) (hm : most ≤ 2000) :
    Calls Try.prog 8 #[v, .int .i64 most] w (Makes 5 w (l.take most)) := by
  obtain ⟨a, cap, rfl, h1, h2⟩ := h.shape
  have hcap := h2
  simp only [maxLen] at hcap
  by_cases hlt : most < l.length
  · have hs := h.sliced 0 most (Nat.zero_le _) (by omega)
    have H : Hid (RB w (.slice a most cap) (l.take most)) := by
      have : sliced a 0 most cap 1 = .slice a most cap := by simp [sliced, Addr.add]
      rw [this] at hs
      exact hs
    clear h hs
    go_enter Try.func8, Try.ntmps8
    go_wp2_with (at_builtin; go_must (refine wpList_append_bytes _ rfl _ _ 22 22 rfl w.heap.size 5 5 Try.underlying22 Try.underlying22 infoU8 _ [] 0 rfl (own_empty w (Nat.le_refl _) rfl) (.slice a most cap) (l.take most) rfl ?c1 ?c2 ?c3 ?_; rotate_left 3; intro v' w1 hown hb _))
    case c1 => exact H.out.below ((Below.refl _ _).alloc (Nat.le_refl _) _) rfl
    case c2 => simp; omega
    case c3 => simp
    rw [List.nil_append] at hown
    go_wp2
    go_ret
    exact ⟨v', rfl, hown, ((Below.refl _ _).alloc (Nat.le_refl _) _).trans hb⟩
  · have H := Lib.hid h
    have H2 := Lib.hid (List.take_of_length_le (show l.length ≤ most by omega))
    clear h
    go_enter Try.func8, Try.ntmps8
    go_wp2_with (at_builtin; go_must (refine wpList_append_bytes _ rfl _ _ 22 22 rfl w.heap.size 5 5 Try.underlying22 Try.underlying22 infoU8 _ [] 0 rfl (own_empty w (Nat.le_refl _) rfl) (.slice a l.length cap) l rfl ?c1 ?c2 ?c3 ?_; rotate_left 3; intro v' w1 hown hb _))
    case c1 => exact H.out.below ((Below.refl _ _).alloc (Nat.le_refl _) _) rfl
    case c2 => simp; omega
    case c3 => simp
    rw [List.nil_append] at hown
    go_wp2
    go_ret
    exact ⟨v', rfl, by rw [H2.out]; exact hown, ((Below.refl _ _).alloc (Nat.le_refl _) _).trans hb⟩
theorem crc_nil : Sum.crc [] = 0#32 := by decide
theorem crc_nine : Sum.crc [49, 50, 51, 52, 53, 54, 55, 56, 57] = 3808858755#32 := by decide +kernel
theorem awake_any (w : World) : Calls Try.prog 9 #[] w fun e w' => e = .returned (.bool true) ∧ Below w.heap.size w w' := by
  go_enter Try.func9, Try.ntmps9
  go_wp2_with fail
  refine (of_any _ [] _ (RB.nil _)).mono ?_
  rintro e w' ⟨rfl, rfl⟩
  rw [crc_nil]
  go_wp2_with fail
  refine (of_any _ [49, 50, 51, 52, 53, 54, 55, 56, 57] _ (RB.lit _ _ _ rfl (by decide) rfl rfl)).mono ?_
  rintro e w' ⟨rfl, rfl⟩
  rw [crc_nine]
  go_wp2
  go_ret
  exact ⟨rfl, (Below.refl _ _).alloc (Nat.le_refl _) _⟩
end Go.Proofs.Ytmjnbmkbnccokaa
