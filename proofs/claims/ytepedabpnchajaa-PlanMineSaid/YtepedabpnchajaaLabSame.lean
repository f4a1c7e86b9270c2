/-
  kist/label.parse.
-/
import Derived.Test.YtepedabpnchajaaLabEnc
import Derived.Test.YtepedabpnchajaaReader
import Derived.StillTailTactics
import Derived.Laws.ResultCell

namespace Go.Proofs.Ytepedabpnchajaa
open Go.RowKit
set_option linter.unusedVariables false
set_option linter.unusedSimpArgs false

theorem getD_one {b : List UInt8} (h : 2 ≤ b.length) : b[1] = b.getD 1 0 := by simp [List.getD_eq_getElem?_getD, show 1 < b.length by omega]
theorem take_all {α : Type} (l : List α) : l.take l.length = l := List.take_length
theorem Fr.one (w : World) (p i : Nat) (u : Value) : Fr (fun k => k = p) w (w.setCell ⟨p, i, none⟩ u) := Fr.setCell (S := fun k => k = p) (Fr.refl _ w) (p := ⟨p, i, none⟩) (fun _ => rfl) u
/-- a whole record is stored -/
theorem Blk.put10 {w : World} {p : Nat} {l : List Value} {t : TypeId} (h : Blk w p l t) (hl : l.length = 10) (v0 v1 v2 v3 v4 v5 v6 v7 v8 v9 : Value) :
    Blk ((((((((((w.setCell ⟨p, 0, none⟩ v0).setCell ⟨p, 1, none⟩ v1).setCell ⟨p, 2, none⟩ v2).setCell ⟨p, 3, none⟩ v3).setCell ⟨p, 4, none⟩ v4).setCell ⟨p, 5, none⟩ v5).setCell ⟨p, 6, none⟩ v6).setCell ⟨p, 7, none⟩ v7).setCell ⟨p, 8, none⟩ v8).setCell ⟨p, 9, none⟩ v9) p [v0, v1, v2, v3, v4, v5, v6, v7, v8, v9] t := by
  have h1 := (((((((((h.set 0 v0).set 1 v1).set 2 v2).set 3 v3).set 4 v4).set 5 v5).set 6 v6).set 7 v7).set 8 v8).set 9 v9
  match l, hl with
  | [_, _, _, _, _, _, _, _, _, _], _ => exact h1
theorem Below.put10 {B : Nat} {w0 w : World} {p : Nat} (h : Below B w0 w) (hp : B ≤ p) (v0 v1 v2 v3 v4 v5 v6 v7 v8 v9 : Value) :
    Below B w0 ((((((((((w.setCell ⟨p, 0, none⟩ v0).setCell ⟨p, 1, none⟩ v1).setCell ⟨p, 2, none⟩ v2).setCell ⟨p, 3, none⟩ v3).setCell ⟨p, 4, none⟩ v4).setCell ⟨p, 5, none⟩ v5).setCell ⟨p, 6, none⟩ v6).setCell ⟨p, 7, none⟩ v7).setCell ⟨p, 8, none⟩ v8).setCell ⟨p, 9, none⟩ v9) :=
  (((((((((h.setCell hp v0).setCell hp v1).setCell hp v2).setCell hp v3).setCell hp v4).setCell hp v5).setCell hp v6).setCell hp v7).setCell hp v8).setCell hp v9
theorem RB.put10 {w : World} {p : Nat} {v : Value} {l : List UInt8} (h : RB w v l) (hp : ∀ k, v.ownBlock = some k → k ≠ p) (v0 v1 v2 v3 v4 v5 v6 v7 v8 v9 : Value) :
    RB ((((((((((w.setCell ⟨p, 0, none⟩ v0).setCell ⟨p, 1, none⟩ v1).setCell ⟨p, 2, none⟩ v2).setCell ⟨p, 3, none⟩ v3).setCell ⟨p, 4, none⟩ v4).setCell ⟨p, 5, none⟩ v5).setCell ⟨p, 6, none⟩ v6).setCell ⟨p, 7, none⟩ v7).setCell ⟨p, 8, none⟩ v8).setCell ⟨p, 9, none⟩ v9) v l := by
  have st : ∀ (w : World) (i : Nat) (u : Value), RB w v l → RB (w.setCell ⟨p, i, none⟩ u) v l := fun w i u h => h.fr (Fr.one w p i u) (fun _ k hk => hp k hk)
  exact st _ _ _ (st _ _ _ (st _ _ _ (st _ _ _ (st _ _ _ (st _ _ _ (st _ _ _ (st _ _ _ (st _ _ _ (st _ _ _ h)))))))))
theorem Blk.row {w : World} {p : Nat} {cs : Array Value} {t : TypeId} (h : Blk w p cs.toList t) : w.heap[p]? = some (.cells cs t (0, 0)) := h
theorem kind_byte64 (k : UInt8) : wrap64 (k.toNat : Int) = (k.toNat : Int) := by
  have := k.toNat_lt
  unfold wrap64; omega
/-- the reader's block and those of the record stay apart -/
theorem not_base {p base k : Nat} (h : base ≤ p) (hk : k < base) : ¬ k = p := by omega
end Go.Proofs.Ytepedabpnchajaa

/-
  kist/label.Decode, Same.
-/
namespace Go.Proofs.Ytepedabpnchajaa
open Go.RowKit
set_option linter.unusedVariables false
set_option linter.unusedSimpArgs false

theorem results_row_tmp {P : Program} {fn : Func} {p u : Tmp} {ty : TypeId} (h : fn.results = #[.cell p ty, .tmp u]) (tmps : Array Value) (w : World) (g : Nat) (t : TypeId) (cs : Array Value) (fr : Nat × Nat) (d : TypeDesc) (x : Value)
    (hp : tmps.getD p undef = .pointer (some ⟨g, 0, none⟩)) (hg : w.heap[g]? = some (.cells cs t fr))
    (hu : P.underlying ty = some d) (hd : (match d with | .struct _ | .array _ _ => true | _ => false) = true) (hi : (P.info? ty).map (·.size) = some cs.size) (hx : tmps.getD u undef = x) :
    (results fn tmps).run P w = .ok (.tuple #[.agg cs, x]) w := by
  rw [results_cell_tmp h, hp, hx]
  simp [asAddr, run_loadVar_row w g t ty cs fr d hg hu hd hi]
namespace Word
theorem next_le (l : List UInt8) : (next l).2.2.length ≤ l.length := by
  unfold next
  cases h : dec 9 l with
  | none => exact Nat.le_refl _
  | some x => exact Nat.le_of_lt (dec_bound 9 l x h).2
theorem get_le (m : Int) (l : List UInt8) (bad : Bool) : (get m l bad).2.1.length ≤ l.length := by
  have := next_le l
  unfold get
  split
  · exact Nat.le_refl _
  · split <;> exact this
theorem text_le (m : Int) (l : List UInt8) (bad : Bool) : (text m l bad).1.length ≤ l.length := by
  have := get_le m l bad
  unfold text
  split
  · simp
  · split
    · simp only [List.length_take]; omega
    · simp
end Word
namespace Lab
theorem parse_key (b : List UInt8) : (parse b).key.length ≤ b.length := by
  have := Word.text_le 16 (b.drop 2) false
  have h2 : (b.drop 2).length ≤ b.length := by simp
  unfold parse
  split
  · simp [Rc.zero]
  · split
    · exact Nat.le_trans this h2
    · exact Nat.le_trans this h2
theorem parse_sum (b : List UInt8) : (parse b).sum.length ≤ b.length := by
  unfold parse
  split
  · simp [Rc.zero]
  · split
    · simp [Rc.zero]
    · dsimp only
      split
      · simp only [List.length_take, List.length_drop]; omega
      · simp
/-- what Decode finds -/
def Found (b : List UInt8) : Prop := (6 ≤ b.length ∧ b.length ≤ 256) ∧ b.getD 0 0 = 107 ∧ Good (parse (b.take (b.length - 4))) ∧ code (parse (b.take (b.length - 4))) = b
theorem found_code {r : Rc} (h : Good r) : Found (code r) ∧ parse ((code r).take ((code r).length - 4)) = r := by
  have hl := code_len h
  have e : parse ((code r).take ((code r).length - 4)) = r := by rw [code_take, parse_body h]
  refine ⟨⟨⟨by omega, by omega⟩, rfl, ?_, ?_⟩, e⟩
  · rw [e]; exact h
  · rw [e]
theorem not_found {b : List UInt8} (h : ∀ r, Good r → code r ≠ b) : ¬ Found b := fun hf => h _ hf.2.2.1 hf.2.2.2
end Lab
end Go.Proofs.Ytepedabpnchajaa

/-
  kist/label.Same, kistref09.Same.
-/
namespace Go.Proofs.Ytepedabpnchajaa
open Go.RowKit
set_option linter.unusedVariables false
set_option linter.unusedSimpArgs false

theorem S_beq (a b : List UInt8) : ((S a).toList == (S b).toList) = decide (a = b) := by
  rw [S_list, S_list]
  by_cases h : a = b <;> simp [h]
theorem S_eqs (a b : List UInt8) : ((S a).toList = (S b).toList) = (a = b) := by rw [S_list, S_list]
theorem RB.two {w : World} {d : Value} {l : List UInt8} (h : RB w d l) (o o' : Obj) : RB ((w.alloc o).alloc o') d l := h.below (((Below.refl w.heap.size w).alloc (Nat.le_refl _) o).alloc (by simp) o') rfl
end Go.Proofs.Ytepedabpnchajaa

/-
  What the laws of layer 9 use: Decode by cases; kistlaw09.awake.
-/
namespace Go.Proofs.Ytepedabpnchajaa
open Go.RowKit
set_option linter.unusedVariables false
set_option linter.unusedSimpArgs false

theorem zero_rec (w : World) : Rec w (.slice none 0 0) Rc.zero := ⟨RB.nil w, by simp [Rc.zero], by simp [Rc.zero]⟩
/-- the same behind one more block -/
theorem rec_cells_o {w : World} {p : Nat} {r : Rc} {d : Value} {t : TypeId} (h : Blk w p (recC r d).toList t) :
    (∀ o, (w.alloc o).cell? ⟨p, 0, none⟩ = some (.int .i64 r.kind)) ∧ (∀ o, (w.alloc o).cell? ⟨p, 1, none⟩ = some (.int .i64 r.cart)) ∧ (∀ o, (w.alloc o).cell? ⟨p, 2, none⟩ = some (.string (S r.key))) ∧ (∀ o, (w.alloc o).cell? ⟨p, 3, none⟩ = some (.int .i64 r.gen)) ∧ (∀ o, (w.alloc o).cell? ⟨p, 4, none⟩ = some (.int .i64 r.group)) ∧
    (∀ o, (w.alloc o).cell? ⟨p, 5, none⟩ = some (.int .i64 r.groups)) ∧ (∀ o, (w.alloc o).cell? ⟨p, 6, none⟩ = some (.int .i64 r.index)) ∧ (∀ o, (w.alloc o).cell? ⟨p, 7, none⟩ = some (.int .i64 r.size)) ∧ (∀ o, (w.alloc o).cell? ⟨p, 8, none⟩ = some (.string (S r.sum))) ∧ (∀ o, (w.alloc o).cell? ⟨p, 9, none⟩ = some d) :=
  ⟨fun o => (rec_cells (h.alloc o)).1, fun o => (rec_cells (h.alloc o)).2.1, fun o => (rec_cells (h.alloc o)).2.2.1, fun o => (rec_cells (h.alloc o)).2.2.2.1, fun o => (rec_cells (h.alloc o)).2.2.2.2.1, fun o => (rec_cells (h.alloc o)).2.2.2.2.2.1, fun o => (rec_cells (h.alloc o)).2.2.2.2.2.2.1, fun o => (rec_cells (h.alloc o)).2.2.2.2.2.2.2.1, fun o => (rec_cells (h.alloc o)).2.2.2.2.2.2.2.2.1, fun o => (rec_cells (h.alloc o)).2.2.2.2.2.2.2.2.2⟩
theorem RB.one {w : World} {d : Value} {l : List UInt8} (h : RB w d l) (o : Obj) : RB (w.alloc o) d l := h.below (w' := w.alloc o) ((Below.refl _ _).alloc (Nat.le_refl _) _) rfl
theorem Rec.one {w : World} {d : Value} {r : Rc} (h : Rec w d r) (o : Obj) : Rec (w.alloc o) d r := ⟨h.1.one o, h.2⟩
def rec1 : Rc := { Rc.zero with kind := 1, cart := 5 }
def rec2 : Rc := { Rc.zero with kind := 1, cart := 32 }
def rec3 : Rc := { Rc.zero with kind := 3, key := [97], gen := 300 }
theorem rec1_good : Lab.Good rec1 := by decide
theorem rec2_bad : ¬ Lab.Good rec2 := by decide
theorem rec3_good : Lab.Good rec3 := by decide
theorem rec3_zero : decide (rec3 = Rc.zero) = false := by decide
theorem rec1_code : (Lab.code rec1).length = 7 ∧ (Lab.code rec1).getD 0 0 = 107 ∧ (Lab.code rec1).getD 1 0 = 1 ∧ (Lab.code rec1).getD 2 0 = 5 := by
  have e : Lab.code rec1 = 107 :: 1 :: 5 :: Sum.ends (Sum.crc (Lab.body rec1)) := by
    show (107 :: 1 :: Lab.rest rec1) ++ Sum.ends (Sum.crc (Lab.body rec1)) = _
    rw [show Lab.rest rec1 = [5] from by unfold Lab.rest; rw [if_pos (show rec1.kind = 1 from rfl)]; exact Word.enc_low (by decide)]
    rfl
  rw [e]
  exact ⟨rfl, rfl, rfl, rfl⟩
end Go.Proofs.Ytepedabpnchajaa
