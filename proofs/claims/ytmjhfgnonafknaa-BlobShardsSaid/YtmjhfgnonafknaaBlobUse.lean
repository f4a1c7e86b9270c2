/-
  kistlaw18: short.
-/
import Derived.Test.YtmjhfgnonafknaaRefRecords

namespace Go.Proofs.Ytmjhfgnonafknaa
open Go.RowKit
set_option linter.unusedVariables false
set_option linter.unusedSimpArgs false

set_option maxHeartbeats 400000 in
theorem short_any (v : Value) (l : List UInt8) (most : Nat) (w : World) (h : RB w v l) (hm : most ≤ 2000) :
    Calls Try.prog 8 #[v, .int .i64 most] w (Makes 5 w (l.take most)) := by
  obtain ⟨a, cap, rfl, h1, h2⟩ := h.shape
  have hcap := h2
  simp only [maxLen] at hcap
  by_cases hlt : most < l.length
  · have hs := h.sliced 0 most (Nat.zero_le _) (by omega)
    have H : Hid (RB w (.slice a most cap) (l.take most)) := by
      have : sliced a 0 most cap 1 = .slice a most cap := by simp [sliced, Addr.add]
      rw [this] at hs
      exact hs
    clear h hs
    go_enter Try.func8, Try.ntmps8
    go_wp2_with (at_builtin; go_must (refine wpList_append_bytes _ rfl _ _ 22 22 rfl w.heap.size 5 5 Try.underlying22 Try.underlying22 infoByte _ [] 0 rfl (own_empty w (Nat.le_refl _) rfl) (.slice a most cap) (l.take most) rfl ?c1 ?c2 ?c3 ?_; rotate_left 3; intro v' w1 hown hb _))
    case c1 => exact H.out.below ((Below.refl _ _).alloc (Nat.le_refl _) _) rfl
    case c2 => simp; omega
    case c3 => simp
    rw [List.nil_append] at hown
    go_wp2
    go_ret
    exact ⟨v', rfl, hown, ((Below.refl _ _).alloc (Nat.le_refl _) _).trans hb⟩
  · have H := Lib.hid h
    have H2 := Lib.hid (List.take_of_length_le (show l.length ≤ most by omega))
    clear h
    go_enter Try.func8, Try.ntmps8
    go_wp2_with (at_builtin; go_must (refine wpList_append_bytes _ rfl _ _ 22 22 rfl w.heap.size 5 5 Try.underlying22 Try.underlying22 infoByte _ [] 0 rfl (own_empty w (Nat.le_refl _) rfl) (.slice a l.length cap) l rfl ?c1 ?c2 ?c3 ?_; rotate_left 3; intro v' w1 hown hb _))
    case c1 => exact H.out.below ((Below.refl _ _).alloc (Nat.le_refl _) _) rfl
    case c2 => simp; omega
    case c3 => simp
    rw [List.nil_append] at hown
    go_wp2
    go_ret
    exact ⟨v', rfl, by rw [H2.out]; exact hown, ((Below.refl _ _).alloc (Nat.le_refl _) _).trans hb⟩
def Z130 : List UInt8 := List.replicate 130 0
theorem Z_len : Z130.length = 130 := by simp [Z130]
theorem Z_gN : Blob.gN Z130.length = 2 := by rw [Z_len]; decide
theorem z_made (w : World) {g : Nat} (hg : g = w.heap.size) : RB (w.alloc (.cells (madeCells #[.int .u8 0] 130) 5)) (.slice (some ⟨g, 0, none⟩) 130 130) Z130 := by
  have := RB.lit (w := w) (e := 5) (madeCells #[.int .u8 0] 130) Z130 (by
    apply Array.ext'
    rw [toList_madeCells_one]
    simp [Z130, Bs, B]) (by rw [Z_len]; simp [maxLen]) Z_len.symm hg
  exact this
theorem z_split : Blob.JoinOk (Blob.split Z130) 130 := by
  refine ⟨⟨?_, ?_⟩, fun j hj => ?_⟩
  · rw [Blob.split_length, Z_gN]; decide
  · rw [Blob.split_length, Z_gN]; decide
  · rw [Blob.split_length] at hj
    rw [Blob.split_get hj, Blob.grp_length hj]
theorem z_join : Blob.join (Blob.split Z130) 130 = Z130 := by
  rw [Blob.join_yes z_split, Blob.split_flat]
  have := Blob.all_take (l := Z130) (by rw [Z_len]; decide)
  rw [Z_len] at this
  exact this
theorem z_rec : Blob.RecOk [97] 3 Z130 := ⟨by rw [Z_len]; decide, by decide, by decide⟩
theorem z_no : ¬ Blob.RecOk [] 3 [] := fun h => by have := h.2.1.1; simp at this
set_option maxRecDepth 100000 in
set_option maxHeartbeats 4000000 in
theorem awake18_any (w : World) : Calls Try.prog 9 #[] w fun e w' => e = .returned (.bool true) ∧ Below w.heap.size w w' := by
  have hmk := make_bytes 130 (by omega)
  rw [show ((130 : Nat) : Int) = 130 from rfl] at hmk
  have hl2 : (Blob.split Z130).length = 2 := by rw [Blob.split_length, Z_gN]
  have HSp : Hid (∀ wx v, RB wx v Z130 → Calls Try.prog 13 #[v] wx fun e w' => ∃ a c, e = .returned (.slice a 2 c) ∧ RT w' (.slice a 2 c) (Blob.split Z130) ∧ Below wx.heap.size wx w') := fun wx v hx => (split_any v Z130 wx hx (by rw [Z_len]; decide)).mono fun e w' ⟨v', h1, h2, h3⟩ => by
    obtain ⟨a, c, rfl, _, _⟩ := h2.shape
    rw [hl2] at h1 h2
    exact ⟨a, c, h1, h2, h3⟩
  have HJo : Hid (∀ wx v, RT wx v (Blob.split Z130) → Calls Try.prog 15 #[v, .int .i64 130] wx fun e w' => ∃ a c, e = .returned (.tuple #[.slice a 130 c, .bool true]) ∧ Below wx.heap.size wx w') := fun wx v hx => (join_any v (Blob.split Z130) 130 wx hx).mono fun e w' ⟨a, n, c, h1, h2, h3⟩ => by
    rw [Blob.okB_yes z_split] at h1
    rw [z_join] at h2
    obtain ⟨_, _, he, _⟩ := h2.shape
    simp only [Value.slice.injEq] at he
    obtain ⟨-, rfl, -⟩ := he
    rw [Z_len] at h1
    exact ⟨a, c, h1, h3⟩
  have HRe : Hid (∀ wx v, RB wx v Z130 → Calls Try.prog 17 #[.string ⟨#[97]⟩, .int .i64 3, v] wx fun e w' => ∃ g c, e = .returned (.tuple #[.slice (some ⟨g, 0, none⟩) 20 c, .int .i64 0]) ∧ w'.cell? ⟨g, 194, none⟩ = some (.int .i64 1) ∧ w'.cell? ⟨g, 196, none⟩ = some (.int .i64 9) ∧ Below wx.heap.size wx w') := fun wx v hx => (records_any [97] 3 v Z130 wx hx (by rw [Z_len]; decide) (by simp [maxLen])).mono fun e w' ⟨h, h3⟩ => by
    rcases h with ⟨_, a, c, h1, h2⟩ | ⟨h, _⟩
    · rw [Z_gN] at h1 h2
      obtain ⟨a', c', he, hr⟩ := h2
      simp only [Value.slice.injEq] at he
      obtain ⟨rfl, -, rfl⟩ := he
      obtain ⟨g, d, rfl, _, _, hc⟩ := hr 19 (by rw [Blob.recs_length]; decide)
      rw [Blob.recs_get (by decide)] at hc
      exact ⟨g, c, h1, hc 4 (by omega), hc 6 (by omega), h3⟩
    · exact absurd z_rec h
  have HRn : Hid (∀ wx, Calls Try.prog 17 #[.string ⟨#[]⟩, .int .i64 3, .slice none 0 0] wx fun e w' => e = .returned (.tuple #[.slice none 0 0, .int .i64 12]) ∧ Below wx.heap.size wx w') := fun wx => (records_any [] 3 (.slice none 0 0) [] wx (RB.nil wx) (by simp) (by simp [maxLen])).mono fun e w' ⟨h, h3⟩ => by
    rcases h with ⟨h, _⟩ | ⟨_, h⟩
    · exact absurd h z_no
    · exact ⟨h, h3⟩
  have HG : Hid (∀ wx n r, Blob.gI n = r → Calls Try.prog 10 #[.int .i64 n] wx fun e w' => e = .returned (.int .i64 r) ∧ wx = w') := fun wx n r hr => by subst hr; exact bgroups_any n wx
  have HZ0 := Lib.hid (fun (wx : World) => z_made wx rfl)
  clear hl2
  go_enter Try.func9, Try.ntmps9
  go_wp2_with fail
  refine (HSp.out _ _ (HZ0.out _)).mono ?_
  rintro e w1 ⟨a1, c1, rfl, hr1, hb1⟩
  have HB1 := Lib.hid (((Below.refl w.heap.size w).alloc (Nat.le_refl _) _).trans (hb1.mono (by simp)))
  have HR1 := Lib.hid hr1
  clear hr1 hb1
  go_wp2_with fail
  refine (HJo.out _ _ HR1.out).mono ?_
  rintro e w2 ⟨a2, c2, rfl, hb2⟩
  have HB2 := Lib.hid (HB1.out.trans (hb2.mono HB1.out.size))
  clear hb2
  go_wp2_with fail
  refine (HRe.out _ _ (HZ0.out _)).mono ?_
  rintro e w3 ⟨g, c3, rfl, hx1, hx2, hb3⟩
  have HB3 := Lib.hid ((HB2.out.alloc HB2.out.size _).trans (hb3.mono (by have := HB2.out.size; simp; omega)))
  have HX1 := Lib.hid hx1
  have HX2 := Lib.hid hx2
  have hgl := World.block_lt_of_cell? w3 _ hx1
  clear hb3 hx1 hx2
  go_wp2_with fail
  refine (HRn.out _).mono ?_
  rintro e w4 ⟨rfl, hb4⟩
  have hy1 : w4.cell? ⟨g, 194, none⟩ = some (.int .i64 1) := by rw [hb4.cell (p := ⟨g, 194, none⟩) hgl]; exact HX1.out
  have hy2 : w4.cell? ⟨g, 196, none⟩ = some (.int .i64 9) := by rw [hb4.cell (p := ⟨g, 196, none⟩) hgl]; exact HX2.out
  have HB4 := Lib.hid (HB3.out.trans (hb4.mono HB3.out.size))
  clear hb4
  go_wp2_with (first
    | ((with_reducible refine (HG.out _ 0 1 (by decide)).mono ?_); rintro e w' ⟨rfl, rfl⟩)
    | ((with_reducible refine (HG.out _ 129 2 (by decide)).mono ?_); rintro e w' ⟨rfl, rfl⟩)
    | ((with_reducible refine (HG.out _ 513 0 (by decide)).mono ?_); rintro e w' ⟨rfl, rfl⟩))
  go_ret
  exact ⟨rfl, HB4.out⟩
/-- its cells, as they are read -/
theorem rec_at {w : World} {g i : Nat} {r : Rc} {d : Value} (h : ∀ j, j < 10 → w.cell? ⟨g, i * 10 + j, none⟩ = (recC r d).toList[j]?) :
    w.cell? ⟨g, i * 10, none⟩ = some (.int .i64 r.kind) ∧ w.cell? ⟨g, i * 10 + 1, none⟩ = some (.int .i64 r.cart) ∧ w.cell? ⟨g, i * 10 + 2, none⟩ = some (.string (S r.key)) ∧ w.cell? ⟨g, i * 10 + 3, none⟩ = some (.int .i64 r.gen) ∧ w.cell? ⟨g, i * 10 + 4, none⟩ = some (.int .i64 r.group) ∧ w.cell? ⟨g, i * 10 + 5, none⟩ = some (.int .i64 r.groups) ∧ w.cell? ⟨g, i * 10 + 6, none⟩ = some (.int .i64 r.index) ∧ w.cell? ⟨g, i * 10 + 7, none⟩ = some (.int .i64 r.size) ∧ w.cell? ⟨g, i * 10 + 8, none⟩ = some (.string (S r.sum)) ∧ w.cell? ⟨g, i * 10 + 9, none⟩ = some d :=
  ⟨h 0 (by omega), h 1 (by omega), h 2 (by omega), h 3 (by omega), h 4 (by omega), h 5 (by omega), h 6 (by omega), h 7 (by omega), h 8 (by omega), h 9 (by omega)⟩
/-- one of the records, by its cells -/
theorem RR.rec {w : World} {a : Option Addr} {n c : Nat} {rs : List Rc} (h : RR w (.slice a n c) rs) {i : Nat} (hi : i < rs.length) :
    ∃ g d, a = some ⟨g, 0, none⟩ ∧ g < w.heap.size ∧ RB w d (rs.getD i Rc.zero).data ∧ ∀ j, j < 10 → w.cell? ⟨g, i * 10 + j, none⟩ = (recC (rs.getD i Rc.zero) d).toList[j]? := by
  obtain ⟨a', c', he, hr⟩ := h
  simp only [Value.slice.injEq] at he
  obtain ⟨rfl, -, rfl⟩ := he
  exact hr i hi
end Go.Proofs.Ytmjhfgnonafknaa
