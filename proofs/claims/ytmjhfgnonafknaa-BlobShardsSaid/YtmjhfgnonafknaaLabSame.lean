/-
  kist/label.Same, kistref09.Same.
-/
import Derived.Test.YtmjhfgnonafknaaLabEnc

namespace Go.Proofs.Ytmjhfgnonafknaa
open Go.RowKit
set_option linter.unusedVariables false
set_option linter.unusedSimpArgs false

theorem S_beq (a b : List UInt8) : ((S a).toList == (S b).toList) = decide (a = b) := by
  rw [S_list, S_list]
  by_cases h : a = b <;> simp [h]
theorem S_eqs (a b : List UInt8) : ((S a).toList = (S b).toList) = (a = b) := by rw [S_list, S_list]
theorem RB.two {w : World} {d : Value} {l : List UInt8} (h : RB w d l) (o o' : Obj) : RB ((w.alloc o).alloc o') d l := h.below (((Below.refl w.heap.size w).alloc (Nat.le_refl _) o).alloc (by simp) o') rfl
set_option maxRecDepth 100000 in
set_option maxHeartbeats 4000000 in
theorem lsame_any (r r' : Rc) (d d' : Value) (w : World) (h : RB w d r.data) (h' : RB w d' r'.data) :
    Calls Try.prog 23 #[recV r d, recV r' d'] w fun e w' => e = .returned (.bool (decide (r = r'))) ∧ Below w.heap.size w w' := by
  have HE : Hid (∀ o o', Calls Try.prog 37 #[d, d'] ((w.alloc o).alloc o') fun e w' => e = .returned (.bool (decide (r.data = r'.data))) ∧ (w.alloc o).alloc o' = w') := fun o o' => bequal_any d d' r.data r'.data _ (h.two o o') (h'.two o o')
  obtain ⟨kind, cart, key, gen, group, groups, index, size, sum, data⟩ := r
  obtain ⟨kind', cart', key', gen', group', groups', index', size', sum', data'⟩ := r'
  clear h h'
  unfold recV
  go_enter Try.func23, Try.ntmps23
  go_wp2_with (go_at_call 37; refine (HE.out _ _).mono ?_; rintro e w1 ⟨rfl, rfl⟩)
  all_goals
    go_ret
    refine ⟨ret_bool ?_, ((Below.refl _ _).alloc (Nat.le_refl _) _).alloc (by simp) _⟩
    clear HE
    (try simp only [S_eqs] at *) <;> simp_all [S_beq]
set_option maxRecDepth 100000 in
set_option maxHeartbeats 4000000 in
theorem refSame_any (r r' : Rc) (d d' : Value) (w : World) (h : RB w d r.data) (h' : RB w d' r'.data) :
    Calls Try.prog 19 #[recV r d, recV r' d'] w fun e w' => e = .returned (.bool (decide (r = r'))) ∧ Below w.heap.size w w' := by
  have hcv1 := fun o o' => run_convert_S (P := Try.prog) (h.two o o') 22 9 5 Try.underlying22 Try.underlying5 Try.underlying9
  have hcv2 := fun o o' => run_convert_S (P := Try.prog) (h'.two o o') 22 9 5 Try.underlying22 Try.underlying5 Try.underlying9
  obtain ⟨kind, cart, key, gen, group, groups, index, size, sum, data⟩ := r
  obtain ⟨kind', cart', key', gen', group', groups', index', size', sum', data'⟩ := r'
  clear h h'
  unfold recV
  go_enter Try.func19, Try.ntmps19
  go_wp2
  all_goals
    go_ret
    refine ⟨ret_bool ?_, ((Below.refl _ _).alloc (Nat.le_refl _) _).alloc (by simp) _⟩
    clear hcv1 hcv2
    (try simp only [S_eqs] at *) <;> simp_all [S_beq]
end Go.Proofs.Ytmjhfgnonafknaa
