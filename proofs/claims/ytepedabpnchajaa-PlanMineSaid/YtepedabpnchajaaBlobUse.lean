/-
  kistlaw18: short.
-/
import Derived.Test.YtepedabpnchajaaRefRecords

namespace Go.Proofs.Ytepedabpnchajaa
open Go.RowKit
set_option linter.unusedVariables false
set_option linter.unusedSimpArgs false

def Z130 : List UInt8 := List.replicate 130 0
theorem Z_len : Z130.length = 130 := by simp [Z130]
theorem Z_gN : Blob.gN Z130.length = 2 := by rw [Z_len]; decide
theorem z_made (w : World) {g : Nat} (hg : g = w.heap.size) : RB (w.alloc (.cells (madeCells #[.int .u8 0] 130) 5)) (.slice (some ⟨g, 0, none⟩) 130 130) Z130 := by
  have := RB.lit (w := w) (e := 5) (madeCells #[.int .u8 0] 130) Z130 (by
    apply Array.ext'
    rw [toList_madeCells_one]
    simp [Z130, Bs, B]) (by rw [Z_len]; simp [maxLen]) Z_len.symm hg
  exact this
theorem z_split : Blob.JoinOk (Blob.split Z130) 130 := by
  refine ⟨⟨?_, ?_⟩, fun j hj => ?_⟩
  · rw [Blob.split_length, Z_gN]; decide
  · rw [Blob.split_length, Z_gN]; decide
  · rw [Blob.split_length] at hj
    rw [Blob.split_get hj, Blob.grp_length hj]
theorem z_join : Blob.join (Blob.split Z130) 130 = Z130 := by
  rw [Blob.join_yes z_split, Blob.split_flat]
  have := Blob.all_take (l := Z130) (by rw [Z_len]; decide)
  rw [Z_len] at this
  exact this
theorem z_rec : Blob.RecOk [97] 3 Z130 := ⟨by rw [Z_len]; decide, by decide, by decide⟩
theorem z_no : ¬ Blob.RecOk [] 3 [] := fun h => by have := h.2.1.1; simp at this
/-- its cells, as they are read -/
theorem rec_at {w : World} {g i : Nat} {r : Rc} {d : Value} (h : ∀ j, j < 10 → w.cell? ⟨g, i * 10 + j, none⟩ = (recC r d).toList[j]?) :
    w.cell? ⟨g, i * 10, none⟩ = some (.int .i64 r.kind) ∧ w.cell? ⟨g, i * 10 + 1, none⟩ = some (.int .i64 r.cart) ∧ w.cell? ⟨g, i * 10 + 2, none⟩ = some (.string (S r.key)) ∧ w.cell? ⟨g, i * 10 + 3, none⟩ = some (.int .i64 r.gen) ∧ w.cell? ⟨g, i * 10 + 4, none⟩ = some (.int .i64 r.group) ∧ w.cell? ⟨g, i * 10 + 5, none⟩ = some (.int .i64 r.groups) ∧ w.cell? ⟨g, i * 10 + 6, none⟩ = some (.int .i64 r.index) ∧ w.cell? ⟨g, i * 10 + 7, none⟩ = some (.int .i64 r.size) ∧ w.cell? ⟨g, i * 10 + 8, none⟩ = some (.string (S r.sum)) ∧ w.cell? ⟨g, i * 10 + 9, none⟩ = some d :=
  ⟨h 0 (by omega), h 1 (by omega), h 2 (by omega), h 3 (by omega), h 4 (by omega), h 5 (by omega), h 6 (by omega), h 7 (by omega), h 8 (by omega), h 9 (by omega)⟩
/-- one of the records, by its cells -/
theorem RR.rec {w : World} {a : Option Addr} {n c : Nat} {rs : List Rc} (h : RR w (.slice a n c) rs) {i : Nat} (hi : i < rs.length) :
    ∃ g d, a = some ⟨g, 0, none⟩ ∧ g < w.heap.size ∧ RB w d (rs.getD i Rc.zero).data ∧ ∀ j, j < 10 → w.cell? ⟨g, i * 10 + j, none⟩ = (recC (rs.getD i Rc.zero) d).toList[j]? := by
  obtain ⟨a', c', he, hr⟩ := h
  simp only [Value.slice.injEq] at he
  obtain ⟨rfl, -, rfl⟩ := he
  exact hr i hi
end Go.Proofs.Ytepedabpnchajaa
