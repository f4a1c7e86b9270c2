/-
  The walk of kistlaw12.JourDecodes.
-/
import Derived.Test.YtlhkmbhfgoejjaaJourArg
namespace Go.Proofs.Ytlhkmbhfgoejjaa
open Go.RowKit
set_option linter.unusedVariables false
set_option linter.unusedSimpArgs false

set_option maxRecDepth 100000 in
set_option maxHeartbeats 4000000 in
theorem jourDecodes_walk (v : Value) (b : List UInt8) (w : World) (h : RB w v b) (hb : b.length ≤ 140737488351232) :
    Calls Try.prog 4 #[v] w fun e w' => e = .returned (.bool true) ∧ Below w.heap.size w w' := by
  have H := Lib.hid h
  have HJ := Lib.hid (jdecode_any v b w h (by omega))
  have HL := Lib.hid hb
  clear h hb
  go_enter Try.func4, Try.ntmps4
  go_wp2_with fail
  refine HJ.out.mono ?_
  rintro e w1 ⟨hd, hb1⟩
  have H1 := Lib.hid (H.out.below hb1 rfl)
  have HB1 := Lib.hid hb1
  clear hb1
  rcases hd with ⟨n, d, p, hg, hc, rfl, hr, -, -⟩ | ⟨hno, rfl⟩
  · obtain ⟨da, dc, rfl, -, -⟩ := hr.1.1.shape
    obtain ⟨pa, pc, rfl, -, -⟩ := hr.1.2.shape
    obtain ⟨dl, Hdl⟩ := hid_of n.data.length
    obtain ⟨pl, Hpl⟩ := hid_of n.places.length
    rw [Hdl.out, Hpl.out] at hr ⊢
    have HGn := Lib.hid hg
    have HCn := Lib.hid hc
    obtain ⟨W, HW⟩ := hid_of (w1.alloc (.cells (ntC n (.slice da dl dc) (.slice pa pl pc)) 25))
    have hba : Below w1.heap.size w1 W := by rw [← HW.out]; exact (Below.refl _ _).alloc (Nat.le_refl _) _
    have HX : Hid (Blk W w1.heap.size (ntC n (.slice da dl dc) (.slice pa pl pc)).toList 25) := by rw [← HW.out]; exact Blk.new _ _ _ rfl
    have HN := Lib.hid (hr.below hba rfl)
    have HBw := Lib.hid (HB1.out.trans (hba.mono HB1.out.size))
    have HR := Lib.hid (rdecode_any v b W (H1.out.below hba rfl) (by have := HL.out; omega))
    unfold ntC at HW
    unfold ntV ntC
    clear hg hc hr hba
    go_wp2_with fail
    rw [HW.out]
    refine HR.out.mono ?_
    rintro e w2 ⟨hd, hb2⟩
    have HX2 := Lib.hid (HX.out.below hb2 HX.out.lt)
    have HN2 := Lib.hid (HN.out.below hb2 rfl)
    have HB2 := Lib.hid (HBw.out.trans (hb2.mono HBw.out.size))
    clear hb2
    rcases hd with ⟨m, d2, p2, hg, hc, rfl, hr, -, -⟩ | ⟨hno, -⟩
    case inr => exact absurd ⟨n, HGn.out, HCn.out⟩ hno
    obtain rfl : m = n := Jour.code_inj hg HGn.out (hc.trans HCn.out.symm)
    obtain ⟨da2, dc2, rfl, -, -⟩ := hr.1.1.shape
    obtain ⟨pa2, pc2, rfl, -, -⟩ := hr.1.2.shape
    rw [Hdl.out, Hpl.out] at hr ⊢
    obtain ⟨W3, HW3⟩ := hid_of (w2.alloc (.cells (ntC m (.slice da2 dl dc2) (.slice pa2 pl pc2)) 25))
    have hba : Below w2.heap.size w2 W3 := by rw [← HW3.out]; exact (Below.refl _ _).alloc (Nat.le_refl _) _
    have HY3 : Hid (Blk W3 w2.heap.size (ntC m (.slice da2 dl dc2) (.slice pa2 pl pc2)).toList 25) := by rw [← HW3.out]; exact Blk.new _ _ _ rfl
    have HX3 := Lib.hid (HX2.out.below hba HX2.out.lt)
    have HN3 := Lib.hid (HN2.out.below hba rfl)
    have HM3 := Lib.hid (hr.below hba rfl)
    have HB3 := Lib.hid (HB2.out.trans (hba.mono HB2.out.size))
    unfold ntC at HW3
    unfold ntV ntC
    clear hg hc hr hba
    go_wp2_with fail
    rw [HW3.out]
    refine (awake12_any _).mono ?_
    rintro e w4 ⟨rfl, hb4⟩
    have HS : Hid (Calls Try.prog 19 #[ntV m (.slice da dl dc) (.slice pa pl pc), ntV m (.slice da2 dl dc2) (.slice pa2 pl pc2)] w4 fun e w' => e = .returned (.bool true) ∧ Below w4.heap.size w4 w') := by
      have := rsame_any m m _ _ _ _ w4 (HN3.out.below hb4 rfl) (HM3.out.below hb4 rfl)
      rw [decide_eq_true rfl] at this
      exact this
    obtain ⟨x0, x1, x2, x3, x4, x5, x6, x7⟩ := nt_cells (HX3.out.below hb4 HX3.out.lt)
    obtain ⟨z0, z1, z2, z3, z4, z5, z6, z7⟩ := nt_cells (HY3.out.below hb4 HY3.out.lt)
    have HB4 := Lib.hid (HB3.out.trans (hb4.mono HB3.out.size))
    unfold ntV ntC at HS
    clear hb4
    go_wp2_with fail
    refine HS.out.mono ?_
    rintro e w5 ⟨rfl, hb5⟩
    have HB5 := Lib.hid (HB4.out.trans (hb5.mono HB4.out.size))
    clear hb5
    go_wp2
    go_ret
    exact ⟨rfl, HB5.out⟩
  · obtain ⟨W, HW⟩ := hid_of (w1.alloc (.cells (ntC Nt.zero (.slice none 0 0) (.slice none 0 0)) 25))
    have hba : Below w1.heap.size w1 W := by rw [← HW.out]; exact (Below.refl _ _).alloc (Nat.le_refl _) _
    have HX : Hid (Blk W w1.heap.size (ntC Nt.zero (.slice none 0 0) (.slice none 0 0)).toList 25) := by rw [← HW.out]; exact Blk.new _ _ _ rfl
    have HBw := Lib.hid (HB1.out.trans (hba.mono HB1.out.size))
    have HR := Lib.hid (rdecode_any v b W (H1.out.below hba rfl) (by have := HL.out; omega))
    unfold ntC at HW
    unfold ntV ntC
    clear hba
    go_wp2_with fail
    rw [HW.out]
    refine HR.out.mono ?_
    rintro e w2 ⟨hd, hb2⟩
    have HX2 := Lib.hid (HX.out.below hb2 HX.out.lt)
    have HB2 := Lib.hid (HBw.out.trans (hb2.mono HBw.out.size))
    clear hb2
    rcases hd with ⟨m, d2, p2, hg, hc, rfl, hr, -, -⟩ | ⟨-, rfl⟩
    case inl => exact absurd ⟨m, hg, hc⟩ hno
    obtain ⟨W3, HW3⟩ := hid_of (w2.alloc (.cells (ntC Nt.zero (.slice none 0 0) (.slice none 0 0)) 25))
    have hba : Below w2.heap.size w2 W3 := by rw [← HW3.out]; exact (Below.refl _ _).alloc (Nat.le_refl _) _
    have HY3 : Hid (Blk W3 w2.heap.size (ntC Nt.zero (.slice none 0 0) (.slice none 0 0)).toList 25) := by rw [← HW3.out]; exact Blk.new _ _ _ rfl
    have HX3 := Lib.hid (HX2.out.below hba HX2.out.lt)
    have HB3 := Lib.hid (HB2.out.trans (hba.mono HB2.out.size))
    unfold ntC at HW3
    unfold ntV ntC
    clear hba
    go_wp2_with fail
    rw [HW3.out]
    refine (awake12_any _).mono ?_
    rintro e w4 ⟨rfl, hb4⟩
    have HS : Hid (Calls Try.prog 19 #[ntV Nt.zero (.slice none 0 0) (.slice none 0 0), ntV Nt.zero (.slice none 0 0) (.slice none 0 0)] w4 fun e w' => e = .returned (.bool true) ∧ Below w4.heap.size w4 w') := by
      have := rsame_any Nt.zero Nt.zero _ _ _ _ w4 (nz_r w4) (nz_r w4)
      rw [decide_eq_true rfl] at this
      exact this
    obtain ⟨x0, x1, x2, x3, x4, x5, x6, x7⟩ := nt_cells (HX3.out.below hb4 HX3.out.lt)
    obtain ⟨z0, z1, z2, z3, z4, z5, z6, z7⟩ := nt_cells (HY3.out.below hb4 HY3.out.lt)
    have HB4 := Lib.hid (HB3.out.trans (hb4.mono HB3.out.size))
    unfold ntV ntC at HS
    clear hb4
    go_wp2_with fail
    refine HS.out.mono ?_
    rintro e w5 ⟨rfl, hb5⟩
    have HB5 := Lib.hid (HB4.out.trans (hb5.mono HB4.out.size))
    clear hb5
    go_wp2
    go_ret
    exact ⟨rfl, HB5.out⟩
end Go.Proofs.Ytlhkmbhfgoejjaa
