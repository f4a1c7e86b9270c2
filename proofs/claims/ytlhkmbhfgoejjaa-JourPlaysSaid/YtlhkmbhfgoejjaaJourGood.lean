/-
  kist/jour.good, kistref12.Good.
-/
import Derived.Test.YtlhkmbhfgoejjaaJourFn

namespace Go.Proofs.Ytlhkmbhfgoejjaa
open Go.RowKit
set_option linter.unusedVariables false
set_option linter.unusedSimpArgs false

theorem goodB_parts (n : Nt) : Jour.goodB n = decide (((((0 ≤ n.kind - 1 ∧ n.kind - 1 ≤ 5) ∧ (0 ≤ n.gen ∧ n.gen ≤ 1099511627776)) ∧ (0 ≤ n.cart ∧ n.cart ≤ 31)) ∧ (0 ≤ n.size ∧ n.size ≤ 512)) ∧ ((n.key.length ≤ 16 ∧ n.data.length ≤ 512) ∧ n.sum.length ≤ 32) ∧ (n.places.length ≤ 40 ∧ ∀ p ∈ n.places, Jour.PlOk p)) := by
  unfold Jour.goodB
  rw [decide_eq_decide]
  unfold Jour.Good
  constructor
  · rintro ⟨h1, h2, h3, h4, h5, h6, h7, h8, h9⟩
    exact ⟨⟨⟨⟨by omega, h3⟩, h4⟩, h7⟩, ⟨⟨h2, h5⟩, h6⟩, h8, h9⟩
  · rintro ⟨⟨⟨⟨h1, h3⟩, h4⟩, h7⟩, ⟨⟨h2, h5⟩, h6⟩, h8, h9⟩
    exact ⟨by omega, h2, h3, h4, h5, h6, h7, h8, h9⟩
set_option maxRecDepth 100000 in
set_option maxHeartbeats 4000000 in
theorem good_any (n : Nt) (d p : Value) (b : Bool) (w : World) (h : NtR w d p n) (hb : Jour.goodB n = b) :
    Calls Try.prog 43 #[ntV n d p] w fun e w' => e = .returned (.bool b) ∧ Below w.heap.size w w' := by
  obtain ⟨⟨hd, hp⟩, ⟨hk1, hk2⟩, hw1, hw2, hw3, hw4⟩ := h
  obtain ⟨da, dc, rfl, -, hd2⟩ := hd.shape
  obtain ⟨pa, pc, rfl, -, -⟩ := hp.shape
  rw [goodB_parts] at hb
  obtain ⟨k, key, g, c, dat, sm, z, pl⟩ := n
  simp only at hd hp hk1 hk2 hw1 hb hd2
  have hb0 : Below w.heap.size w (w.alloc (.cells #[.int .i64 k, .string (S key), .int .i64 g, .int .i64 c, .slice da dat.length dc, .string (S sm), .int .i64 z, .slice pa pl.length pc] 25)) := (Below.refl _ _).alloc (Nat.le_refl _) _
  have HB0 := Lib.hid hb0
  have HSp : Hid (Calls Try.prog 70 #[.slice pa pl.length pc] (w.alloc (.cells #[.int .i64 k, .string (S key), .int .i64 g, .int .i64 c, .slice da dat.length dc, .string (S sm), .int .i64 z, .slice pa pl.length pc] 25)) fun e w' => e = .returned (.bool (decide (pl.length ≤ 40 ∧ ∀ q ∈ pl, Jour.PlOk q))) ∧ Below w.heap.size w w') := (spots_any _ pl _ _ (hp.below hb0 rfl) rfl).mono fun e w' ⟨h1, h2⟩ => ⟨h1, hb0.trans (h2.mono (by simp))⟩
  have hkw : -9223372036854775808 ≤ k ∧ k ≤ 9223372036854775807 := by
    simp only [Lit.wf, IntKind.min, IntKind.max, IntKind.bits, IntKind.signed] at hw1
    simp at hw1
    exact hw1
  have hz1 := S_size key
  have hz2 := S_size sm
  simp only [maxLen] at hk1 hk2 hd2
  unfold ntV ntC
  simp only
  by_cases hmin : k = -9223372036854775808
  · subst hmin
    have hbf : b = false := by
      rw [← hb]
      exact decide_eq_false (fun h => by have := h.1.1.1.1; omega)
    subst hbf
    clear hd hp hw1 hw2 hw3 hw4 hb hb0
    have hwm : wrap64 (-9223372036854775809) = 9223372036854775807 := by unfold wrap64; decide
    go_enter Try.func43, Try.ntmps43
    go_wp2_with (refine (jwithin_any _ _ _ _ rfl).mono ?_; rintro e w' ⟨rfl, rfl⟩)
    all_goals
      first
      | (go_ret
         exact ⟨rfl, HB0.out⟩)
      | (exfalso; simp_all; done)
      | (exfalso; simp_all; omega)
  · have hk3 : -9223372036854775808 ≤ k - 1 ∧ k - 1 ≤ 9223372036854775807 := by omega
    have Hb := Lib.hid hb
    clear hd hp hw1 hw2 hw3 hw4 hb0 hb
    go_enter Try.func43, Try.ntmps43
    go_wp2_with (first
      | ((with_reducible refine HSp.out.mono ?_); rintro e w' ⟨rfl, hb1⟩; have HB1 := Lib.hid hb1; clear hb1)
      | (refine (jwithin_any _ _ _ _ rfl).mono ?_; rintro e w' ⟨rfl, rfl⟩))
    all_goals
      go_ret
      refine ⟨ret_bool ?_, by first | exact HB1.out | exact HB0.out⟩
      rw [← Hb.out]
      refine bool_of ?_
      first
      | (simp_all; done)
      | (simp_all; omega)
set_option maxRecDepth 100000 in
set_option maxHeartbeats 4000000 in
theorem refGood_any (n : Nt) (d p : Value) (b : Bool) (w : World) (h : NtR w d p n) (hb : Jour.goodB n = b) :
    Calls Try.prog 47 #[ntV n d p] w fun e w' => e = .returned (.bool b) ∧ Below w.heap.size w w' := by
  obtain ⟨⟨hd, hp⟩, ⟨hk1, hk2⟩, hw1, hw2, hw3, hw4⟩ := h
  obtain ⟨da, dc, rfl, -, hd2⟩ := hd.shape
  obtain ⟨pa, pc, rfl, hp1, hp2⟩ := hp.shape
  obtain ⟨k, key, g, c, dat, sm, z, pl⟩ := n
  simp only at hd hp hk1 hk2 hw1 hb hd2
  obtain ⟨m, Hm⟩ := hid_of pl.length
  have HPl : Hid (RP w (.slice pa m pc) pl) := by rw [← Hm.out]; exact hp
  have hz1 := S_size key
  have hz2 := S_size sm
  simp only [maxLen] at hk1 hk2 hd2 hp2
  unfold ntV ntC
  simp only
  rw [Hm.out] at hp1 ⊢
  have hb0 : Below w.heap.size w (w.alloc (.cells #[.int .i64 k, .string (S key), .int .i64 g, .int .i64 c, .slice da dat.length dc, .string (S sm), .int .i64 z, .slice pa m pc] 25)) := (Below.refl _ _).alloc (Nat.le_refl _) _
  have HB0 := Lib.hid hb0
  by_cases hall : (1 ≤ k ∧ k ≤ 6) ∧ key.length ≤ 16 ∧ (0 ≤ g ∧ g ≤ 1099511627776) ∧ (0 ≤ c ∧ c ≤ 31) ∧ dat.length ≤ 512 ∧ sm.length ≤ 32 ∧ (0 ≤ z ∧ z ≤ 512) ∧ m ≤ 40
  case neg =>
    have hbf : b = false := by
      rw [← hb]
      refine decide_eq_false (fun hg => hall ?_)
      obtain ⟨h1, h2, h3, h4, h5, h6, h7, h8, h9⟩ := hg
      rw [Hm.out] at h8
      exact ⟨h1, h2, h3, h4, h5, h6, h7, h8⟩
    subst hbf
    clear hd hp hw1 hw2 hw3 hw4 hb hb0
    go_enter Try.func47, Try.ntmps47
    go_wp2
    all_goals
      first
      | (exfalso; omega)
      | (go_ret
         exact ⟨rfl, HB0.out⟩)
  case pos =>
  have HAll := Lib.hid hall
  have hall2 := hall
  obtain ⟨h1, h2, h3, h4, h5, h6, h7, h8⟩ := hall2
  have n1 : ¬ k < 1 := by omega
  have n2 : ¬ k > 6 := by omega
  have n3 : ¬ (key.length : Int) > 16 := by omega
  have n4 : ¬ g < 0 := by omega
  have n5 : ¬ g > 1099511627776 := by omega
  have n6 : ¬ c < 0 := by omega
  have n7 : ¬ c > 31 := by omega
  have n8 : ¬ (dat.length : Int) > 512 := by omega
  have n9 : ¬ (sm.length : Int) > 32 := by omega
  have n10 : ¬ z < 0 := by omega
  have n11 : ¬ z > 512 := by omega
  have n12 : ¬ (m : Int) > 40 := by omega
  have hcell : (w.alloc (.cells #[.int .i64 k, .string (S key), .int .i64 g, .int .i64 c, .slice da dat.length dc, .string (S sm), .int .i64 z, .slice pa m pc] 25)).cell? ⟨w.heap.size, 7, none⟩ = some (.slice pa m pc) := by rw [cell_of_row _ _ 7 _ _ _ (heap_alloc_new w _)]; rfl
  obtain ⟨W0, HW0⟩ := hid_of (w.alloc (.cells #[.int .i64 k, .string (S key), .int .i64 g, .int .i64 c, .slice da dat.length dc, .string (S sm), .int .i64 z, .slice pa m pc] 25))
  rw [HW0.out] at hcell hb0
  have HCe : Hid (∀ wx, Below W0.heap.size W0 wx → wx.cell? ⟨w.heap.size, 7, none⟩ = some (.slice pa m pc)) := fun wx hx => (hx.cell (p := ⟨w.heap.size, 7, none⟩) (World.block_lt_of_cell? W0 _ hcell)).trans hcell
  have HP0 := Lib.hid (HPl.out.below hb0 rfl)
  have HBw := Lib.hid hb0
  have HYes : Hid ((∀ q ∈ pl, Jour.PlOk q) → b = true) := fun hx => by
    rw [← hb]
    obtain ⟨h1, h2, h3, h4, h5, h6, h7, h8⟩ := HAll.out
    exact decide_eq_true ⟨h1, h2, h3, h4, h5, h6, h7, by rw [Hm.out]; exact h8, hx⟩
  have HNo : Hid ((¬ ∀ q ∈ pl, Jour.PlOk q) → b = false) := fun hx => by
    rw [← hb]
    exact decide_eq_false (fun hg => hx hg.2.2.2.2.2.2.2.2)
  clear hd hp hw1 hw2 hw3 hw4 hb hb0 hcell hall h1 h2 h3 h4 h5 h6 h7
  go_enter Try.func47, Try.ntmps47
  go_wp2
  rw [HW0.out]
  go_loopw [3] (fun x wr => ∃ i : Nat, i ≤ m ∧ x = .int .i64 (i : Int) ∧ (∀ j, j < i → Jour.PlOk (pl.getD j (0, 0))) ∧ Below W0.heap.size W0 wr) (fun x _ => m - (intOf x).toNat)
  case atStart => exact ⟨0, by omega, rfl, fun j hj => by omega, Below.refl _ _⟩
  case round =>
    obtain ⟨i, hi, rfl, hal, hbe⟩ := hrel
    have HAl := Lib.hid hal
    have HBe := Lib.hid hbe
    have hq7 := HCe.out _ hbe
    clear hal hbe
    by_cases hlt : i < m
    · have hin : (i : Int) < (m : Int) := by omega
      obtain ⟨bb, off, rfl, hbb, hc0, hc1⟩ := HP0.out.at (i := i) (by rw [Hm.out]; exact hlt)
      obtain ⟨q, Hq⟩ := hid_of (pl.getD i (0, 0))
      rw [Hq.out] at hc0 hc1
      obtain ⟨qc, qp⟩ := q
      have c0 : wr.cell? ⟨bb, off + i * 2, none⟩ = some (.int .i64 qc) := (HBe.out.cell (p := ⟨bb, off + i * 2, none⟩) hbb).trans hc0
      have c1 : wr.cell? ⟨bb, off + i * 2 + 1, none⟩ = some (.int .i64 qp) := (HBe.out.cell (p := ⟨bb, off + i * 2 + 1, none⟩) hbb).trans hc1
      clear hc0 hc1 hbb
      by_cases hok : Jour.PlOk (qc, qp)
      · have HAl2 : Hid (∀ j, j < i + 1 → Jour.PlOk (pl.getD j (0, 0))) := fun j hj => by
          by_cases e : j = i
          · rw [e, Hq.out]; exact hok
          · exact HAl.out j (by omega)
        simp only [Jour.PlOk] at hok
        have m1 : ¬ qc < 0 := by omega
        have m2 : ¬ qc > 31 := by omega
        have m3 : ¬ qp < 0 := by omega
        have m4 : ¬ qp > 1024 := by omega
        have HB1 := Lib.hid (HBe.out.alloc HBe.out.size (.cells #[.int .i64 qc, .int .i64 qp] 85))
        clear hok
        go_wp2
        go_roundw
        case rel => exact ⟨i + 1, by omega, by go_num, HAl2.out, HB1.out⟩
        case measure => simp [intOf]; omega
      · have HF := Lib.hid (HNo.out (fun hx => hok (by
          have hil : i < pl.length := by rw [Hm.out]; exact hlt
          have := hx (pl.getD i (0, 0)) (by rw [List.getD_eq_getElem?_getD, List.getElem?_eq_getElem hil]; exact List.getElem_mem _)
          rw [Hq.out] at this
          exact this)))
        simp only [Jour.PlOk] at hok
        have HB1 := Lib.hid (HBw.out.trans ((HBe.out.alloc HBe.out.size (.cells #[.int .i64 qc, .int .i64 qp] 85)).mono HBw.out.size))
        go_wp2
        all_goals
          first
          | (exfalso; omega)
          | (go_ret
             exact ⟨by rw [HF.out]; rfl, HB1.out⟩)
    · obtain rfl : i = m := by omega
      have HT := Lib.hid (HYes.out (fun p hp => by
        obtain ⟨j, hj, rfl⟩ := List.getElem_of_mem hp
        have := HAl.out j (by rw [Hm.out] at hj; exact hj)
        rw [List.getD_eq_getElem?_getD, List.getElem?_eq_getElem hj] at this
        exact this))
      go_wp2
      go_ret
      exact ⟨by rw [HT.out]; rfl, HBw.out.trans (HBe.out.mono HBw.out.size)⟩
end Go.Proofs.Ytlhkmbhfgoejjaa
