/-
  kistlaw03.RsWrong: its walk.
-/
import Derived.Test.YtkdmagochimjeaaRsAwake
import Derived.Test.YtkdmagochimjeaaRsRefEnc
namespace Go.Proofs.Ytkdmagochimjeaa
open Go.RowKit
set_option linter.unusedVariables false

/-- unlike shards before i -/
def unlikeN (x y : List UInt8) (i : Nat) : Nat := ((List.range i).filter fun i => !decide (line 16 (encF x i) = line 16 (encF y i))).length
theorem unlikeN_succ (x y : List UInt8) (i : Nat) : unlikeN x y (i + 1) = if line 16 (encF x i) = line 16 (encF y i) then unlikeN x y i else unlikeN x y i + 1 := by
  unfold unlikeN
  rw [List.range_succ, List.filter_append]
  by_cases h : line 16 (encF x i) = line 16 (encF y i) <;> simp [h]
theorem unlikeN_le (x y : List UInt8) (i : Nat) : unlikeN x y i ≤ i := by
  unfold unlikeN
  exact Nat.le_trans (List.length_filter_le _ _) (by simp)
theorem unlikeN_end (x y : List UInt8) (hx : x.length = 128) (hy : y.length = 128) : (x = y ∧ unlikeN x y 10 = 0) ∨ (x ≠ y ∧ 3 ≤ unlikeN x y 10) := by
  by_cases h : x = y
  · subst h
    exact .inl ⟨rfl, by simp [unlikeN]⟩
  · refine .inr ⟨h, ?_⟩
    by_cases h3 : unlikeN x y 10 < 3
    · exact absurd (unlike_three x y hx hy h3) h
    · omega
set_option maxRecDepth 100000 in
set_option maxHeartbeats 4000000 in
theorem rsWrong_walk (va : Value) (a : List UInt8) (vb : Value) (b : List UInt8) (w : World) (ha : RB w va a) (hal : a.length ≤ 140737488351232) (hb : RB w vb b) (hbl : b.length ≤ 140737488351232) :
    Calls Try.prog 6 #[va, vb] w fun e w' => e = .returned (.bool true) ∧ Below w.heap.size w w' := by
  have HAl := Lib.hid hal
  have HBl := Lib.hid hbl
  have HA := Lib.hid ha
  have HB := Lib.hid hb
  obtain ⟨x, Hx⟩ := hid_of (grp a)
  obtain ⟨y, Hy⟩ := hid_of (grp b)
  have HXl : Hid (x.length = 128) := by rw [← Hx.out]; exact grp_length a
  have HYl : Hid (y.length = 128) := by rw [← Hy.out]; exact grp_length b
  have HGx : Hid (∀ wx, RB wx va a → Calls Try.prog 11 #[va] wx fun e w' => ∃ v, e = .returned v ∧ RB w' v x ∧ Below wx.heap.size wx w') := fun wx h => by rw [← Hx.out]; exact group_any _ a _ h HAl.out
  have HGy : Hid (∀ wx, RB wx vb b → Calls Try.prog 11 #[vb] wx fun e w' => ∃ v, e = .returned v ∧ RB w' v y ∧ Below wx.heap.size wx w') := fun wx h => by rw [← Hy.out]; exact group_any _ b _ h HBl.out
  clear ha hb hal hbl
  go_enter Try.func6, Try.ntmps6
  go_wp2_with fail
  refine (HGx.out _ HA.out).mono ?_
  rintro e w1 ⟨v1, rfl, hr1, hb1⟩
  have HX1 := Lib.hid hr1
  have HB1 := Lib.hid (HB.out.below hb1 rfl)
  have HW1 := Lib.hid hb1
  clear hr1 hb1
  go_wp2_with fail
  refine (HGy.out _ HB1.out).mono ?_
  rintro e w2 ⟨v2, rfl, hr2, hb2⟩
  have HY2 := Lib.hid hr2
  have HX2 := Lib.hid (HX1.out.below hb2 rfl)
  have HW2 := Lib.hid (HW1.out.trans (hb2.mono HW1.out.size))
  clear hr2 hb2 HX1 HB1 HW1
  go_wp2_with fail
  refine (encode_yes _ x _ HX2.out HXl.out).mono ?_
  rintro e w3 ⟨v3, rfl, hr3, hb3⟩
  have HP3 := Lib.hid hr3
  have HX3 := Lib.hid (HX2.out.below hb3 rfl)
  have HY3 := Lib.hid (HY2.out.below hb3 rfl)
  have HW3 := Lib.hid (HW2.out.trans (hb3.mono HW2.out.size))
  clear hr3 hb3 HX2 HY2 HW2
  go_wp2_with fail
  refine (encode_yes _ y _ HY3.out HYl.out).mono ?_
  rintro e w4 ⟨v4, rfl, hr4, hb4⟩
  have HS4 := Lib.hid hr4
  have HP4 := Lib.hid (HP3.out.below hb4 rfl)
  have HX4 := Lib.hid (HX3.out.below hb4 rfl)
  have HY4 := Lib.hid (HY3.out.below hb4 rfl)
  have HW4 := Lib.hid (HW3.out.trans (hb4.mono HW3.out.size))
  obtain ⟨pa, pc, rfl, hp1, hp2⟩ := HP4.out.shape
  obtain ⟨sa, sc, rfl, hs1, hs2⟩ := HS4.out.shape
  rw [show (encT x).length = 10 from tab_length _ _ _] at hp1 HP4 ⊢
  rw [show (encT y).length = 10 from tab_length _ _ _] at hs1 HS4 ⊢
  obtain ⟨pg, po, rfl, hpg, hprow⟩ := HP4.out.row (by rw [show (encT x).length = 10 from tab_length _ _ _]; omega)
  obtain ⟨sg, so, rfl, hsg, hsrow⟩ := HS4.out.row (by rw [show (encT y).length = 10 from tab_length _ _ _]; omega)
  have HPr := Lib.hid hprow
  have HSr := Lib.hid hsrow
  clear hr4 hb4 HP3 HX3 HY3 HW3 hprow hsrow hpg hsg
  go_wp2
  go_loopw [11, 12] (fun v x' wr => ∃ i : Nat, i ≤ 10 ∧ v = .int .i64 (unlikeN x y i : Int) ∧ x' = .int .i64 (i : Int) ∧ ∃ d, wr = w4.drewN d) (fun _ x _ => 10 - (intOf x).toNat)
  case atStart => exact ⟨0, by omega, rfl, rfl, 0, rfl⟩
  case round =>
    obtain ⟨i, hi, rfl, rfl, d, rfl⟩ := hrel
    have HU := unlikeN_le x y i
    have HUs := unlikeN_succ x y i
    obtain ⟨U, Hu⟩ := hid_of (unlikeN x y i)
    rw [Hu.out] at HU HUs ⊢
    by_cases hlt : i < 10
    · obtain ⟨u, hc, hr⟩ := HPr.out i (by rw [show (encT x).length = 10 from tab_length _ _ _]; exact hlt)
      obtain ⟨u2, hc2, hr2⟩ := HSr.out i (by rw [show (encT y).length = 10 from tab_length _ _ _]; exact hlt)
      rw [show (encT x).getD i [] = line 16 (encF x i) from tab_getD _ _ _ _ hlt] at hr
      rw [show (encT y).getD i [] = line 16 (encF y i) from tab_getD _ _ _ _ hlt] at hr2
      have HS : Hid (((convert 22 9 u).run Try.prog (w4.drewN d).drew = .ok (.string (S (line 16 (encF x i)))) (w4.drewN d).drew ∧ (convert 22 9 u2).run Try.prog (w4.drewN d).drew = .ok (.string (S (line 16 (encF y i)))) (w4.drewN d).drew) ∧ (w4.drewN d).drew.cell? ⟨pg, po + i, none⟩ = some u ∧ (w4.drewN d).drew.cell? ⟨sg, so + i, none⟩ = some u2) :=
        ⟨⟨run_convert_S (hr.drewN d).drew _ _ _ Try.underlying22 Try.underlying5 Try.underlying9, run_convert_S (hr2.drewN d).drew _ _ _ Try.underlying22 Try.underlying5 Try.underlying9⟩, hc, hc2⟩
      clear hr hr2 hc hc2
      have HD : Hid (∀ j, (w4.drewN d).drewN j = w4.drewN (d + j)) := fun j => by rw [World.drewN_drewN]
      obtain ⟨wd, Hwd⟩ := hid_of (w4.drewN d)
      rw [Hwd.out] at HS HD ⊢
      have hi10 : (i : Int) < 10 := by omega
      have hu10 : (U : Int) ≤ 10 := by omega
      by_cases he : line 16 (encF x i) = line 16 (encF y i)
      · rw [if_pos he] at HUs
        rw [he] at HS
        obtain ⟨E, HE⟩ := hid_of (S (line 16 (encF y i)))
        rw [HE.out] at HS
        have HU' := Lib.hid HUs
        clear he HUs
        go_wp2
        go_region_held (fun wx => ((convert 22 9 u).run Try.prog wx = .ok (.string E) wx ∧ (convert 22 9 u2).run Try.prog wx = .ok (.string E) wx) ∧ wx.cell? ⟨pg, po + i, none⟩ = some u ∧ wx.cell? ⟨sg, so + i, none⟩ = some u2) (exact HS.out) (fail)
        go_wp2
        go_roundw
        case rel => exact ⟨i + 1, by omega, by rw [HU'.out], by go_num, _, HD.out 1⟩
        case measure => simp [intOf]; omega
      · rw [if_neg he] at HUs
        have he2 : ((S (line 16 (encF x i))).toList == (S (line 16 (encF y i))).toList) = false := by rw [S_list, S_list]; exact beq_eq_false_iff_ne.2 he
        obtain ⟨E1, HE1⟩ := hid_of (S (line 16 (encF x i)))
        obtain ⟨E2, HE2⟩ := hid_of (S (line 16 (encF y i)))
        rw [HE1.out, HE2.out] at HS he2
        have HU' := Lib.hid HUs
        clear he HUs
        go_wp2
        go_region_held (fun wx => ((convert 22 9 u).run Try.prog wx = .ok (.string E1) wx ∧ (convert 22 9 u2).run Try.prog wx = .ok (.string E2) wx) ∧ wx.cell? ⟨pg, po + i, none⟩ = some u ∧ wx.cell? ⟨sg, so + i, none⟩ = some u2) (exact HS.out) (fail)
        go_wp2
        go_roundw
        case rel => exact ⟨i + 1, by omega, by rw [HU'.out]; go_num, by go_num, _, HD.out 1⟩
        case measure => simp [intOf]; omega
    · obtain rfl : i = 10 := by omega
      have HEnd := unlikeN_end x y HXl.out HYl.out
      rw [Hu.out] at HEnd
      have HW5 := Lib.hid (Below.drewN2 HW4.out d)
      have HX5 := Lib.hid (HX4.out.drewN d)
      have HY5 := Lib.hid (HY4.out.drewN d)
      obtain ⟨wd, Hwd⟩ := hid_of (w4.drewN d)
      rw [Hwd.out] at HW5 HX5 HY5 ⊢
      clear HU HUs HPr HSr HX4 HY4 HW4
      rw [show ((10 : Nat) : Int) = 10 from rfl]
      go_wp2_with fail
      refine (awake3_any _).mono ?_
      rintro e w6 ⟨rfl, hb6⟩
      have HW6 := Lib.hid (HW5.out.trans (hb6.mono HW5.out.size))
      have hcv1 := run_convert_S (P := Try.prog) (HX5.out.below hb6 rfl) 22 9 5 Try.underlying22 Try.underlying5 Try.underlying9
      have hcv2 := run_convert_S (P := Try.prog) (HY5.out.below hb6 rfl) 22 9 5 Try.underlying22 Try.underlying5 Try.underlying9
      clear hb6 HW5 HX5 HY5
      rcases HEnd with ⟨he, h0⟩ | ⟨he, h3⟩
      · rw [he] at hcv1
        subst h0
        obtain ⟨E, HE⟩ := hid_of (S y)
        rw [HE.out] at hcv1 hcv2
        clear he
        go_wp2
        go_ret
        exact ⟨rfl, HW6.out⟩
      · have he2 : ((S x).toList == (S y).toList) = false := by rw [S_list, S_list]; exact beq_eq_false_iff_ne.2 he
        obtain ⟨E1, HE1⟩ := hid_of (S x)
        obtain ⟨E2, HE2⟩ := hid_of (S y)
        rw [HE1.out, HE2.out] at he2
        rw [HE1.out] at hcv1
        rw [HE2.out] at hcv2
        have hz : ((U : Int) == 0) = false := by simp; omega
        have h3' : (3 : Int) ≤ (U : Int) := by omega
        clear he
        go_wp2
        go_ret
        exact ⟨rfl, HW6.out⟩
end Go.Proofs.Ytkdmagochimjeaa
