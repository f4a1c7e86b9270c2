/-
  kist/plan.More, kistref19.More.
-/
import Derived.Test.YtepedabpnchajaaPlanFlag
namespace Go.Proofs.Ytepedabpnchajaa
open Go.RowKit
set_option linter.unusedVariables false
set_option linter.unusedSimpArgs false

set_option maxRecDepth 100000 in
set_option maxHeartbeats 4000000 in
theorem more_any (key sum : ByteArray) (gen size : Int) (pa : Option Addr) (n pc : Nat) (bv : Value) (asked : List Bool) (slot : Int) (w : World) (h : RF w bv asked) (hn : n ≤ 1000) :
    Calls Try.prog 12 #[.agg #[.string key, .int .i64 gen, .int .i64 size, .string sum, .slice pa n pc], bv, .int .i64 slot] w fun e w' => e = .returned (.tuple #[.int .i64 (Plan.moreR n asked slot).1, .bool (Plan.moreR n asked slot).2]) ∧ Below w.heap.size w w' := by
  have HF : Hid (∀ (wx : World) (s : Nat), Below w.heap.size w wx → s ≤ 1000000 → Calls Try.prog 22 #[bv, .int .i64 (s : Int)] wx fun e w' => e = .returned (.bool (Plan.said asked s)) ∧ ∃ d, w' = wx.drewN d) := fun wx s hb hs => flag_any bv asked s wx (h.below hb rfl) hs
  have hnd : (n : Int) ≤ 1000 := by omega
  clear h
  have HB0 : Hid (Below w.heap.size w (w.alloc (.cells #[.string key, .int .i64 gen, .int .i64 size, .string sum, .slice pa n pc] 24))) := (Below.refl _ _).alloc (Nat.le_refl _) _
  by_cases h0 : slot < 0
  · have HM := Lib.hid (Plan.more_out (n := n) (asked := asked) (slot := slot) (.inl h0))
    rw [HM.out]
    go_enter Try.func12, Try.ntmps12
    go_wp2
    go_ret2
    exact ⟨rfl, HB0.out⟩
  by_cases h1 : (n : Int) ≤ slot
  · have HM := Lib.hid (Plan.more_out (n := n) (asked := asked) (slot := slot) (.inr h1))
    rw [HM.out]
    go_enter Try.func12, Try.ntmps12
    go_wp2
    go_ret2
    exact ⟨rfl, HB0.out⟩
  obtain ⟨s, rfl⟩ : ∃ s : Nat, slot = (s : Int) := ⟨slot.toNat, by omega⟩
  have hlt : s < n := by omega
  have HNO : Hid (¬ ((s : Int) < 0 ∨ (n : Int) ≤ (s : Int))) := fun h => by omega
  obtain ⟨q, Hq⟩ := hid_of (s / 10)
  have hq : (s : Int) / 10 = (q : Int) := by rw [← Hq.out]; omega
  have hqn : 10 * q ≤ s ∧ s < 10 * q + 10 := by rw [← Hq.out]; omega
  have HMY : Hid (∀ k, k < n → k / 10 = q → Plan.said asked k = false → (∀ j, j < k → j / 10 = q → Plan.said asked j = true) → Plan.moreR n asked (s : Int) = ((k : Int), true)) := fun k h1 h2 h3 h4 => Plan.more_yes HNO.out h1 (by rw [h2, ← Hq.out]; rfl) h3 (fun j hj he => h4 j hj (by rw [he, ← Hq.out]; rfl))
  have HMN : Hid ((∀ j, j < n → j / 10 = q → Plan.said asked j = true) → Plan.moreR n asked (s : Int) = (0, false)) := fun h4 => Plan.more_no (fun j hj he => h4 j hj (by rw [he, ← Hq.out]; rfl))
  have hcell : (w.alloc (.cells #[.string key, .int .i64 gen, .int .i64 size, .string sum, .slice pa n pc] 24)).cell? ⟨w.heap.size, 4, none⟩ = some (.slice pa n pc) := by rw [cell_of_row _ _ 4 _ _ _ (heap_alloc_new w _)]; rfl
  have HCe := Lib.hid hcell
  have hs0 : ¬ ((s : Int) < 0) := h0
  clear hcell h0
  go_enter Try.func12, Try.ntmps12
  go_wp2
  go_loopw [9] (fun x wr => ∃ i : Nat, i ≤ 10 ∧ x = .int .i64 ((q : Int) * 10 + (i : Int)) ∧ (∀ j, j < 10 * q + i → j / 10 = q → Plan.said asked j = true) ∧ wr.cell? ⟨w.heap.size, 4, none⟩ = some (.slice pa n pc) ∧ Below w.heap.size w wr) (fun x _ => 10 * q + 10 - (intOf x).toNat)
  case atStart => exact ⟨0, by omega, by go_num, fun j hj he => by omega, HCe.out, HB0.out⟩
  case round =>
    clear HB0 HCe
    obtain ⟨i, hi, rfl, hall, hcell, hbe⟩ := hrel
    have HAll := Lib.hid hall
    have HCe := Lib.hid hcell
    have HBe := Lib.hid hbe
    clear hall hbe
    by_cases hgo : i < 10 ∧ 10 * q + i < n
    · obtain ⟨hi10, hin⟩ := hgo
      have hmin : (q : Int) * 10 + (i : Int) < (if (n : Int) < (q : Int) * 10 + 10 then (n : Int) else (q : Int) * 10 + 10) := by split <;> omega
      have HFi : Hid (Calls Try.prog 22 #[bv, .int .i64 ((q : Int) * 10 + (i : Int))] wr fun e w' => e = .returned (.bool (Plan.said asked (10 * q + i))) ∧ ∃ d, w' = wr.drewN d) := by
        have := HF.out wr (10 * q + i) HBe.out (by omega)
        rw [show (((10 * q + i : Nat) : Nat) : Int) = (q : Int) * 10 + (i : Int) by omega] at this
        exact this
      cases hsd : Plan.said asked (10 * q + i)
      · have HM := Lib.hid (HMY.out (10 * q + i) hin (by omega) hsd HAll.out)
        rw [hsd] at HFi
        have HPo : Hid (∀ (e : Ending) (w' : World), (e = .returned (.tuple #[.int .i64 ((q : Int) * 10 + (i : Int)), .bool true]) ∧ Below w.heap.size w w') → (e = .returned (.tuple #[.int .i64 (Plan.moreR n asked (s : Int)).1, .bool (Plan.moreR n asked (s : Int)).2]) ∧ Below w.heap.size w w')) := fun e w' h => by
          rw [HM.out, show (((10 * q + i : Nat) : Nat) : Int) = (q : Int) * 10 + (i : Int) by omega]
          exact h
        clear hsd
        go_wp2_with fail
        all_goals
          refine HFi.out.mono ?_
          rintro e w1 ⟨rfl, d, rfl⟩
          have HB1 : Hid (Below w.heap.size w (wr.drewN d)) := Below.drewN2 HBe.out d
          go_wp2
          go_ret2
          exact HPo.out _ _ ⟨rfl, HB1.out⟩
      · have HAl2 : Hid (∀ j, j < 10 * q + (i + 1) → j / 10 = q → Plan.said asked j = true) := fun j hj he => by
          by_cases e : j = 10 * q + i
          · rw [e]; exact hsd
          · exact HAll.out j (by omega) he
        rw [hsd] at HFi
        clear hsd
        go_wp2_with fail
        all_goals
          refine HFi.out.mono ?_
          rintro e w1 ⟨rfl, d, rfl⟩
          have HB1 : Hid (Below w.heap.size w (wr.drewN d)) := Below.drewN2 HBe.out d
          go_wp2
          go_roundw
          case rel => exact ⟨i + 1, by omega, by go_num, HAl2.out, HCe.out, HB1.out⟩
          case measure => simp [intOf]; omega
    · have hmin : ¬ (q : Int) * 10 + (i : Int) < (if (n : Int) < (q : Int) * 10 + 10 then (n : Int) else (q : Int) * 10 + 10) := by split <;> omega
      have HM := Lib.hid (HMN.out (fun j hj he => HAll.out j (by omega) he))
      have HPo : Hid (∀ (e : Ending) (w' : World), (e = .returned (.tuple #[.int .i64 0, .bool false]) ∧ Below w.heap.size w w') → (e = .returned (.tuple #[.int .i64 (Plan.moreR n asked (s : Int)).1, .bool (Plan.moreR n asked (s : Int)).2]) ∧ Below w.heap.size w w')) := fun e w' h => by
        rw [HM.out]
        exact h
      go_wp2
      all_goals
        go_ret2
        exact HPo.out _ _ ⟨rfl, HBe.out⟩
set_option maxRecDepth 100000 in
set_option maxHeartbeats 4000000 in
theorem refMore_any (key sum : ByteArray) (gen size : Int) (pa : Option Addr) (n pc : Nat) (bv : Value) (asked : List Bool) (slot : Int) (w : World) (h : RF w bv asked) (hn : n ≤ 1000) :
    Calls Try.prog 13 #[.agg #[.string key, .int .i64 gen, .int .i64 size, .string sum, .slice pa n pc], bv, .int .i64 slot] w fun e w' => e = .returned (.tuple #[.int .i64 (Plan.moreR n asked slot).1, .bool (Plan.moreR n asked slot).2]) ∧ Below w.heap.size w w' := by
  have HF : Hid (∀ (wx : World) (s : Nat), Below w.heap.size w wx → s ≤ 1000000 → Calls Try.prog 23 #[bv, .int .i64 (s : Int)] wx fun e w' => e = .returned (.bool (Plan.said asked s)) ∧ ∃ d, w' = wx.drewN d) := fun wx s hb hs => said_any bv asked s wx (h.below hb rfl) hs
  have hnd : (n : Int) ≤ 1000 := by omega
  clear h
  have HB0 : Hid (Below w.heap.size w (w.alloc (.cells #[.string key, .int .i64 gen, .int .i64 size, .string sum, .slice pa n pc] 24))) := (Below.refl _ _).alloc (Nat.le_refl _) _
  by_cases h0 : slot < 0
  · have HM := Lib.hid (Plan.more_out (n := n) (asked := asked) (slot := slot) (.inl h0))
    rw [HM.out]
    go_enter Try.func13, Try.ntmps13
    go_wp2
    go_ret2
    exact ⟨rfl, HB0.out⟩
  by_cases h1 : (n : Int) ≤ slot
  · have HM := Lib.hid (Plan.more_out (n := n) (asked := asked) (slot := slot) (.inr h1))
    rw [HM.out]
    go_enter Try.func13, Try.ntmps13
    go_wp2
    go_ret2
    exact ⟨rfl, HB0.out⟩
  obtain ⟨s, rfl⟩ : ∃ s : Nat, slot = (s : Int) := ⟨slot.toNat, by omega⟩
  have hlt : s < n := by omega
  have HNO : Hid (¬ ((s : Int) < 0 ∨ (n : Int) ≤ (s : Int))) := fun h => by omega
  obtain ⟨q, Hq⟩ := hid_of (s / 10)
  have hq : (s : Int) / 10 = (q : Int) := by rw [← Hq.out]; omega
  have hqn : 10 * q ≤ s ∧ s < 10 * q + 10 := by rw [← Hq.out]; omega
  have HMY : Hid (∀ k, k < n → k / 10 = q → Plan.said asked k = false → (∀ j, j < k → j / 10 = q → Plan.said asked j = true) → Plan.moreR n asked (s : Int) = ((k : Int), true)) := fun k h1 h2 h3 h4 => Plan.more_yes HNO.out h1 (by rw [h2, ← Hq.out]; rfl) h3 (fun j hj he => h4 j hj (by rw [he, ← Hq.out]; rfl))
  have HMN : Hid ((∀ j, j < n → j / 10 = q → Plan.said asked j = true) → Plan.moreR n asked (s : Int) = (0, false)) := fun h4 => Plan.more_no (fun j hj he => h4 j hj (by rw [he, ← Hq.out]; rfl))
  have hcell : (w.alloc (.cells #[.string key, .int .i64 gen, .int .i64 size, .string sum, .slice pa n pc] 24)).cell? ⟨w.heap.size, 4, none⟩ = some (.slice pa n pc) := by rw [cell_of_row _ _ 4 _ _ _ (heap_alloc_new w _)]; rfl
  have HCe := Lib.hid hcell
  have hs0 : ¬ ((s : Int) < 0) := h0
  clear hcell h0
  go_enter Try.func13, Try.ntmps13
  go_wp2
  go_loopw [8] (fun x wr => ∃ i : Nat, i ≤ n ∧ x = .int .i64 (i : Int) ∧ (∀ j, j < i → j / 10 = q → Plan.said asked j = true) ∧ wr.cell? ⟨w.heap.size, 4, none⟩ = some (.slice pa n pc) ∧ Below w.heap.size w wr) (fun x _ => n - (intOf x).toNat)
  case atStart => exact ⟨0, by omega, rfl, fun j hj he => by omega, HCe.out, HB0.out⟩
  case round =>
    clear HB0 HCe
    obtain ⟨i, hi, rfl, hall, hcell, hbe⟩ := hrel
    have HAll := Lib.hid hall
    have HCe := Lib.hid hcell
    have HBe := Lib.hid hbe
    clear hall hbe
    by_cases hin : i < n
    · have hin' : (i : Int) < (n : Int) := by omega
      have HFi : Hid (Calls Try.prog 23 #[bv, .int .i64 (i : Int)] wr fun e w' => e = .returned (.bool (Plan.said asked i)) ∧ ∃ d, w' = wr.drewN d) := HF.out wr i HBe.out (by omega)
      by_cases hgrp : i / 10 = q
      · have heq : (((i : Int) / 10) == (q : Int)) = true := by rw [beq_iff_eq]; omega
        have heq2 : (i : Int) / 10 = (q : Int) := by omega
        cases hsd : Plan.said asked i
        · have HM := Lib.hid (HMY.out i hin hgrp hsd HAll.out)
          rw [hsd] at HFi
          have HPo : Hid (∀ (e : Ending) (w' : World), (e = .returned (.tuple #[.int .i64 (i : Int), .bool true]) ∧ Below w.heap.size w w') → (e = .returned (.tuple #[.int .i64 (Plan.moreR n asked (s : Int)).1, .bool (Plan.moreR n asked (s : Int)).2]) ∧ Below w.heap.size w w')) := fun e w' h => by
            rw [HM.out]
            exact h
          clear hsd
          go_wp2_with fail
          refine HFi.out.mono ?_
          rintro e w1 ⟨rfl, d, rfl⟩
          have HB1 : Hid (Below w.heap.size w (wr.drewN d)) := Below.drewN2 HBe.out d
          go_wp2
          go_ret2
          exact HPo.out _ _ ⟨rfl, HB1.out⟩
        · have HAl2 : Hid (∀ j, j < i + 1 → j / 10 = q → Plan.said asked j = true) := fun j hj he => by
            by_cases e : j = i
            · rw [e]; exact hsd
            · exact HAll.out j (by omega) he
          rw [hsd] at HFi
          clear hsd
          go_wp2_with fail
          refine HFi.out.mono ?_
          rintro e w1 ⟨rfl, d, rfl⟩
          have HB1 : Hid (Below w.heap.size w (wr.drewN d)) := Below.drewN2 HBe.out d
          go_wp2
          go_roundw
          case rel => exact ⟨i + 1, by omega, by go_num, HAl2.out, HCe.out, HB1.out⟩
          case measure => simp [intOf]; omega
      · have heq : (((i : Int) / 10) == (q : Int)) = false := by rw [beq_eq_false_iff_ne]; omega
        have HAl2 : Hid (∀ j, j < i + 1 → j / 10 = q → Plan.said asked j = true) := fun j hj he => by
          by_cases e : j = i
          · rw [e] at he; exact absurd he hgrp
          · exact HAll.out j (by omega) he
        go_wp2
        go_roundw
        case rel => exact ⟨i + 1, by omega, by go_num, HAl2.out, HCe.out, HBe.out⟩
        case measure => simp [intOf]; omega
    · have HM := Lib.hid (HMN.out (fun j hj he => HAll.out j (by omega) he))
      have hin' : ¬ (i : Int) < (n : Int) := by omega
      have HPo : Hid (∀ (e : Ending) (w' : World), (e = .returned (.tuple #[.int .i64 0, .bool false]) ∧ Below w.heap.size w w') → (e = .returned (.tuple #[.int .i64 (Plan.moreR n asked (s : Int)).1, .bool (Plan.moreR n asked (s : Int)).2]) ∧ Below w.heap.size w w')) := fun e w' h => by
        rw [HM.out]
        exact h
      go_wp2
      go_ret2
      exact HPo.out _ _ ⟨rfl, HBe.out⟩
end Go.Proofs.Ytepedabpnchajaa
