/-
  What the laws of layer 9 use: Decode by cases; kistlaw09.awake.
-/
import Derived.Test.YtmjhfgnonafknaaLabDec
import Derived.Test.YtmjhfgnonafknaaLabSame

namespace Go.Proofs.Ytmjhfgnonafknaa
open Go.RowKit
set_option linter.unusedVariables false
set_option linter.unusedSimpArgs false

theorem dec_yes (v : Value) (r : Rc) (b : List UInt8) (w : World) (h : RB w v b) (hg : Lab.Good r) (hb : Lab.code r = b) :
    Calls Try.prog 21 #[v] w fun e w' => ∃ a c, e = .returned (.tuple #[recV r (.slice a r.data.length c), .int .i64 0]) ∧ Rec w' (.slice a r.data.length c) r ∧ (∀ k, (Value.slice a r.data.length c).ownBlock = some k → w.heap.size ≤ k) ∧ Below w.heap.size w w' := by
  subst hb
  have hf := Lab.found_code hg
  refine (ldecode_any v (Lab.code r) w h).mono ?_
  rintro e w' ⟨hd | hd, hb⟩
  · obtain ⟨_, d, he, hr, hfr⟩ := hd
    rw [hf.2] at he hr
    obtain ⟨a, c, rfl, _, _⟩ := hr.shape
    have hk : r.key.length ≤ 16 ∧ r.sum.length ≤ 32 := by
      rcases hg with ⟨_, _, h1, _, h2⟩ | ⟨_, _, h1, _, h2⟩ | ⟨_, _, h1, _, h2⟩
      · rw [h1, h2.2.2.2.2.1]; simp
      · exact ⟨h1.2, by rw [h2.2.2.2.2.1]; simp⟩
      · exact ⟨h1.2, by rw [h2.2.2.2.2.1]; omega⟩
    exact ⟨a, c, he, ⟨hr, by simp only [maxLen]; omega, by simp only [maxLen]; omega⟩, hfr, hb⟩
  · exact absurd hf.1 hd.1
theorem dec_no (v : Value) (b : List UInt8) (w : World) (h : RB w v b) (hn : ∀ r, Lab.Good r → Lab.code r ≠ b) :
    Calls Try.prog 21 #[v] w fun e w' => e = .returned (.tuple #[recV Rc.zero (.slice none 0 0), .int .i64 12]) ∧ Below w.heap.size w w' := by
  refine (ldecode_any v b w h).mono ?_
  rintro e w' ⟨hd | hd, hb⟩
  · exact absurd hd.1 (Lab.not_found hn)
  · exact ⟨hd.2, hb⟩
theorem zero_rec (w : World) : Rec w (.slice none 0 0) Rc.zero := ⟨RB.nil w, by simp [Rc.zero], by simp [Rc.zero]⟩
/-- the same behind one more block -/
theorem rec_cells_o {w : World} {p : Nat} {r : Rc} {d : Value} {t : TypeId} (h : Blk w p (recC r d).toList t) :
    (∀ o, (w.alloc o).cell? ⟨p, 0, none⟩ = some (.int .i64 r.kind)) ∧ (∀ o, (w.alloc o).cell? ⟨p, 1, none⟩ = some (.int .i64 r.cart)) ∧ (∀ o, (w.alloc o).cell? ⟨p, 2, none⟩ = some (.string (S r.key))) ∧ (∀ o, (w.alloc o).cell? ⟨p, 3, none⟩ = some (.int .i64 r.gen)) ∧ (∀ o, (w.alloc o).cell? ⟨p, 4, none⟩ = some (.int .i64 r.group)) ∧
    (∀ o, (w.alloc o).cell? ⟨p, 5, none⟩ = some (.int .i64 r.groups)) ∧ (∀ o, (w.alloc o).cell? ⟨p, 6, none⟩ = some (.int .i64 r.index)) ∧ (∀ o, (w.alloc o).cell? ⟨p, 7, none⟩ = some (.int .i64 r.size)) ∧ (∀ o, (w.alloc o).cell? ⟨p, 8, none⟩ = some (.string (S r.sum))) ∧ (∀ o, (w.alloc o).cell? ⟨p, 9, none⟩ = some d) :=
  ⟨fun o => (rec_cells (h.alloc o)).1, fun o => (rec_cells (h.alloc o)).2.1, fun o => (rec_cells (h.alloc o)).2.2.1, fun o => (rec_cells (h.alloc o)).2.2.2.1, fun o => (rec_cells (h.alloc o)).2.2.2.2.1, fun o => (rec_cells (h.alloc o)).2.2.2.2.2.1, fun o => (rec_cells (h.alloc o)).2.2.2.2.2.2.1, fun o => (rec_cells (h.alloc o)).2.2.2.2.2.2.2.1, fun o => (rec_cells (h.alloc o)).2.2.2.2.2.2.2.2.1, fun o => (rec_cells (h.alloc o)).2.2.2.2.2.2.2.2.2⟩
theorem RB.one {w : World} {d : Value} {l : List UInt8} (h : RB w d l) (o : Obj) : RB (w.alloc o) d l := h.below (w' := w.alloc o) ((Below.refl _ _).alloc (Nat.le_refl _) _) rfl
theorem Rec.one {w : World} {d : Value} {r : Rc} (h : Rec w d r) (o : Obj) : Rec (w.alloc o) d r := ⟨h.1.one o, h.2⟩
def rec1 : Rc := { Rc.zero with kind := 1, cart := 5 }
def rec2 : Rc := { Rc.zero with kind := 1, cart := 32 }
def rec3 : Rc := { Rc.zero with kind := 3, key := [97], gen := 300 }
theorem rec1_good : Lab.Good rec1 := by decide
theorem rec2_bad : ¬ Lab.Good rec2 := by decide
theorem rec3_good : Lab.Good rec3 := by decide
theorem rec3_zero : decide (rec3 = Rc.zero) = false := by decide
theorem rec1_code : (Lab.code rec1).length = 7 ∧ (Lab.code rec1).getD 0 0 = 107 ∧ (Lab.code rec1).getD 1 0 = 1 ∧ (Lab.code rec1).getD 2 0 = 5 := by
  have e : Lab.code rec1 = 107 :: 1 :: 5 :: Sum.ends (Sum.crc (Lab.body rec1)) := by
    show (107 :: 1 :: Lab.rest rec1) ++ Sum.ends (Sum.crc (Lab.body rec1)) = _
    rw [show Lab.rest rec1 = [5] from by unfold Lab.rest; rw [if_pos (show rec1.kind = 1 from rfl)]; exact Word.enc_low (by decide)]
    rfl
  rw [e]
  exact ⟨rfl, rfl, rfl, rfl⟩
end Go.Proofs.Ytmjhfgnonafknaa
