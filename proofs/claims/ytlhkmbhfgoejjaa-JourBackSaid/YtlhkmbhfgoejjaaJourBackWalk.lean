/-
  The walk of kistlaw12.JourBack.
-/
import Derived.Test.YtlhkmbhfgoejjaaJourArg
namespace Go.Proofs.Ytlhkmbhfgoejjaa
open Go.RowKit
set_option linter.unusedVariables false
set_option linter.unusedSimpArgs false

set_option maxRecDepth 100000 in
set_option maxHeartbeats 4000000 in
theorem jourBack_walk (n : Nt) (d p : Value) (v : Value) (b : List UInt8) (w : World) (h : NtR w d p n) (hv : RB w v b) (hb : b.length ≤ 140737488351232) :
    Calls Try.prog 6 #[ntV n d p, v] w fun e w' => e = .returned (.bool true) ∧ Below w.heap.size w w' := by
  obtain ⟨da, dc, rfl, -, -⟩ := h.1.1.shape
  obtain ⟨pa, pc, rfl, -, -⟩ := h.1.2.shape
  obtain ⟨dl, Hdl⟩ := hid_of n.data.length
  obtain ⟨pl, Hpl⟩ := hid_of n.places.length
  rw [Hdl.out, Hpl.out] at h ⊢
  obtain ⟨va, vc, rfl, -, -⟩ := hv.shape
  obtain ⟨bl, Hbl⟩ := hid_of b.length
  rw [Hbl.out] at hv ⊢
  have HLb := Lib.hid hb
  obtain ⟨W, HW⟩ := hid_of (w.alloc (.cells (ntC n (.slice da dl dc) (.slice pa pl pc)) 25))
  have HB0 : Hid (Below w.heap.size w W) := by rw [← HW.out]; exact (Below.refl _ _).alloc (Nat.le_refl _) _
  have HX0 : Hid (Blk W w.heap.size (ntC n (.slice da dl dc) (.slice pa pl pc)).toList 25) := by rw [← HW.out]; exact Blk.new _ _ _ rfl
  have HN0 := Lib.hid (h.below HB0.out rfl)
  have HV0 := Lib.hid (hv.below HB0.out rfl)
  -- the second half: what came of bytes has just these bytes
  have Tail : Hid (∀ wx, RB wx (.slice va bl vc) b → Calls Try.prog 17 #[.slice va bl vc] wx fun e w' => DecOk2 wx.heap.size w' b e ∧ Below wx.heap.size wx w') := fun wx hx => jdecode_any _ b wx hx (by have := HLb.out; omega)
  unfold ntC at HW
  unfold ntV ntC
  clear h hv hb
  go_enter Try.func6, Try.ntmps6
  by_cases hg : Jour.Good n
  case neg =>
    have HE := Lib.hid (jencode_no n _ _ _ HN0.out hg)
    unfold ntV ntC at HE
    clear hg
    go_wp2_with fail
    rw [HW.out]
    refine HE.out.mono ?_
    rintro e w1 ⟨rfl, hb1⟩
    have HV1 := Lib.hid (HV0.out.below hb1 rfl)
    have HB1 := Lib.hid (HB0.out.trans (hb1.mono HB0.out.size))
    clear hb1
    go_wp2_with fail
    refine (Tail.out _ HV1.out).mono ?_
    rintro e wa ⟨hd, hba⟩
    have HVa := Lib.hid (HV1.out.below hba rfl)
    have HBa := Lib.hid (HB1.out.trans (hba.mono HB1.out.size))
    clear hba
    rcases hd with ⟨m2, d2, p2, hg2, hc2, rfl, hr2, -, -⟩ | ⟨hno, rfl⟩
    · obtain ⟨da2, dc2, rfl, -, -⟩ := hr2.1.1.shape
      obtain ⟨pa2, pc2, rfl, -, -⟩ := hr2.1.2.shape
      obtain ⟨dl2, Hdl2⟩ := hid_of m2.data.length
      obtain ⟨pl2, Hpl2⟩ := hid_of m2.places.length
      rw [Hdl2.out, Hpl2.out] at hr2 ⊢
      obtain ⟨Wb, HWb⟩ := hid_of (wa.alloc (.cells (ntC m2 (.slice da2 dl2 dc2) (.slice pa2 pl2 pc2)) 25))
      have hbb : Below wa.heap.size wa Wb := by rw [← HWb.out]; exact (Below.refl _ _).alloc (Nat.le_refl _) _
      have HXb : Hid (Blk Wb wa.heap.size (ntC m2 (.slice da2 dl2 dc2) (.slice pa2 pl2 pc2)).toList 25) := by rw [← HWb.out]; exact Blk.new _ _ _ rfl
      have HVb := Lib.hid (HVa.out.below hbb rfl)
      have HBb := Lib.hid (HBa.out.trans (hbb.mono HBa.out.size))
      have HE2 := Lib.hid (jencode_yes m2 _ _ _ (hr2.below hbb rfl) hg2)
      rw [hc2] at HE2
      have HBl2 := Hbl
      rw [Hbl.out] at HE2
      unfold ntC at HWb
      unfold ntV ntC at HE2
      unfold ntV ntC
      clear hg2 hc2 hr2 hbb
      go_wp2_with (go_at_call 14; refine stopped ?_)
      rw [HWb.out]
      refine going (HE2.out.mono ?_)
      rintro e wc ⟨⟨a5, c5, rfl, hr5⟩, hb5⟩
      have HR5 := Lib.hid hr5
      have HVc := Lib.hid (HVb.out.below hb5 rfl)
      have HBc := Lib.hid (HBb.out.trans (hb5.mono HBb.out.size))
      clear hr5 hb5
      go_wp2_with fail
      refine (awake12_any _).mono ?_
      rintro e wd ⟨rfl, hb6⟩
      have HBd := Lib.hid (HBc.out.trans (hb6.mono HBc.out.size))
      have hcv1 := run_convert_S (P := Try.prog) (HR5.out.below hb6 rfl) 22 9 5 Try.underlying22 Try.underlying5 Try.underlying9
      have hcv2 := run_convert_S (P := Try.prog) (HVc.out.below hb6 rfl) 22 9 5 Try.underlying22 Try.underlying5 Try.underlying9
      obtain ⟨E, HE⟩ := hid_of (S b)
      rw [HE.out] at hcv1 hcv2
      clear hb6
      go_wp2
      go_ret
      exact ⟨by simp, HBd.out⟩
    · unfold ntV ntC
      have HBz : Hid (Below w.heap.size w (wa.alloc (.cells (ntC Nt.zero (.slice none 0 0) (.slice none 0 0)) 25))) := HBa.out.alloc HBa.out.size _
      unfold ntC at HBz
      clear hno
      go_wp2_with fail
      refine (awake12_any _).mono ?_
      rintro e wd ⟨rfl, hb6⟩
      have HBd := Lib.hid (HBz.out.trans (hb6.mono HBz.out.size))
      clear hb6
      go_wp2
      go_ret
      exact ⟨rfl, HBd.out⟩
  case pos =>
    have HE := Lib.hid (jencode_yes n _ _ _ HN0.out hg)
    have HDe : Hid (∀ wx u, RB wx u (Jour.code n) → Calls Try.prog 17 #[u] wx fun e w' => (∃ d p, e = .returned (.tuple #[ntV n d p, .int .i64 0]) ∧ NtR w' d p n) ∧ Below wx.heap.size wx w') := fun wx u hx => (jdecode_any u _ wx hx (by have := (Jour.code_len hg).2; omega)).mono fun e w' ⟨hd, hbx⟩ => ⟨by
      rcases hd with ⟨m, d, p, hgm, hc, he, hr, -, -⟩ | ⟨hno, -⟩
      · obtain rfl := Jour.code_inj hgm hg hc
        exact ⟨d, p, he, hr⟩
      · exact absurd ⟨n, hg, rfl⟩ hno, hbx⟩
    unfold ntV ntC at HE
    obtain ⟨L, HL⟩ := hid_of (Jour.code n)
    rw [HL.out] at HE HDe
    obtain ⟨ll, Hll⟩ := hid_of L.length
    rw [Hll.out] at HE
    clear hg
    go_wp2_with fail
    rw [HW.out]
    refine HE.out.mono ?_
    rintro e w1 ⟨⟨a1, c1, rfl, hr1⟩, hb1⟩
    have HD1 := Lib.hid (HDe.out _ _ hr1)
    have HV1 := Lib.hid (HV0.out.below hb1 rfl)
    have HN1 := Lib.hid (HN0.out.below hb1 rfl)
    have HX1 := Lib.hid (HX0.out.below hb1 HX0.out.lt)
    have HB1 := Lib.hid (HB0.out.trans (hb1.mono HB0.out.size))
    clear hb1 hr1
    go_wp2_with fail
    refine HD1.out.mono ?_
    rintro e w2 ⟨⟨d2, p2, rfl, hr2⟩, hb2⟩
    obtain ⟨da2, dc2, rfl, -, -⟩ := hr2.1.1.shape
    obtain ⟨pa2, pc2, rfl, -, -⟩ := hr2.1.2.shape
    rw [Hdl.out, Hpl.out] at hr2 ⊢
    have HV2 := Lib.hid (HV1.out.below hb2 rfl)
    have HN2 := Lib.hid (HN1.out.below hb2 rfl)
    have HX2 := Lib.hid (HX1.out.below hb2 HX1.out.lt)
    have HB2 := Lib.hid (HB1.out.trans (hb2.mono HB1.out.size))
    obtain ⟨W3, HW3⟩ := hid_of (w2.alloc (.cells (ntC n (.slice da2 dl dc2) (.slice pa2 pl pc2)) 25))
    have hba : Below w2.heap.size w2 W3 := by rw [← HW3.out]; exact (Below.refl _ _).alloc (Nat.le_refl _) _
    have HY3 : Hid (Blk W3 w2.heap.size (ntC n (.slice da2 dl dc2) (.slice pa2 pl pc2)).toList 25) := by rw [← HW3.out]; exact Blk.new _ _ _ rfl
    have HV3 := Lib.hid (HV2.out.below hba rfl)
    have HB3 := Lib.hid (HB2.out.trans (hba.mono HB2.out.size))
    have HS : Hid (Calls Try.prog 20 #[ntV n (.slice da2 dl dc2) (.slice pa2 pl pc2), ntV n (.slice da dl dc) (.slice pa pl pc)] W3 fun e w' => e = .returned (.bool true) ∧ Below W3.heap.size W3 w') := by
      have := jsame_any n n _ _ _ _ W3 (hr2.below hba rfl) (HN2.out.below hba rfl)
      rw [decide_eq_true rfl] at this
      exact this
    obtain ⟨x0, x1, x2, x3, x4, x5, x6, x7⟩ := nt_cells HX2.out
    have hlt2 : w.heap.size < w2.heap.size := HX2.out.lt
    have hne2 : ¬ w.heap.size = w2.heap.size := by omega
    have hne3 : ¬ w2.heap.size = w.heap.size := by omega
    unfold ntC at HW3
    unfold ntV ntC at HS
    unfold ntV ntC
    clear hr2 hb2 hba
    go_wp2_with (go_at_call 20; refine stopped ?_)
    rw [HW3.out]
    refine going (HS.out.mono ?_)
    rintro e w4 ⟨rfl, hb4⟩
    have HV4 := Lib.hid (HV3.out.below hb4 rfl)
    have HB4 := Lib.hid (HB3.out.trans (hb4.mono HB3.out.size))
    clear hb4 x0 x1 x2 x3 x4 x5 x6 x7
    go_wp2_with fail
    refine (Tail.out _ HV4.out).mono ?_
    rintro e wa ⟨hd, hba⟩
    have HVa := Lib.hid (HV4.out.below hba rfl)
    have HBa := Lib.hid (HB4.out.trans (hba.mono HB4.out.size))
    clear hba
    rcases hd with ⟨m2, d2, p2, hg2, hc2, rfl, hr2, -, -⟩ | ⟨hno, rfl⟩
    · obtain ⟨da2, dc2, rfl, -, -⟩ := hr2.1.1.shape
      obtain ⟨pa2, pc2, rfl, -, -⟩ := hr2.1.2.shape
      obtain ⟨dl2, Hdl2⟩ := hid_of m2.data.length
      obtain ⟨pl2, Hpl2⟩ := hid_of m2.places.length
      rw [Hdl2.out, Hpl2.out] at hr2 ⊢
      obtain ⟨Wb, HWb⟩ := hid_of (wa.alloc (.cells (ntC m2 (.slice da2 dl2 dc2) (.slice pa2 pl2 pc2)) 25))
      have hbb : Below wa.heap.size wa Wb := by rw [← HWb.out]; exact (Below.refl _ _).alloc (Nat.le_refl _) _
      have HXb : Hid (Blk Wb wa.heap.size (ntC m2 (.slice da2 dl2 dc2) (.slice pa2 pl2 pc2)).toList 25) := by rw [← HWb.out]; exact Blk.new _ _ _ rfl
      have HVb := Lib.hid (HVa.out.below hbb rfl)
      have HBb := Lib.hid (HBa.out.trans (hbb.mono HBa.out.size))
      have HE2 := Lib.hid (jencode_yes m2 _ _ _ (hr2.below hbb rfl) hg2)
      rw [hc2] at HE2
      have HBl2 := Hbl
      rw [Hbl.out] at HE2
      unfold ntC at HWb
      unfold ntV ntC at HE2
      unfold ntV ntC
      clear hg2 hc2 hr2 hbb
      go_wp2_with (go_at_call 14; refine stopped ?_)
      rw [HWb.out]
      refine going (HE2.out.mono ?_)
      rintro e wc ⟨⟨a5, c5, rfl, hr5⟩, hb5⟩
      have HR5 := Lib.hid hr5
      have HVc := Lib.hid (HVb.out.below hb5 rfl)
      have HBc := Lib.hid (HBb.out.trans (hb5.mono HBb.out.size))
      clear hr5 hb5
      go_wp2_with fail
      refine (awake12_any _).mono ?_
      rintro e wd ⟨rfl, hb6⟩
      have HBd := Lib.hid (HBc.out.trans (hb6.mono HBc.out.size))
      have hcv1 := run_convert_S (P := Try.prog) (HR5.out.below hb6 rfl) 22 9 5 Try.underlying22 Try.underlying5 Try.underlying9
      have hcv2 := run_convert_S (P := Try.prog) (HVc.out.below hb6 rfl) 22 9 5 Try.underlying22 Try.underlying5 Try.underlying9
      obtain ⟨E, HE⟩ := hid_of (S b)
      rw [HE.out] at hcv1 hcv2
      clear hb6
      go_wp2
      go_ret
      exact ⟨by simp, HBd.out⟩
    · unfold ntV ntC
      have HBz : Hid (Below w.heap.size w (wa.alloc (.cells (ntC Nt.zero (.slice none 0 0) (.slice none 0 0)) 25))) := HBa.out.alloc HBa.out.size _
      unfold ntC at HBz
      clear hno
      go_wp2_with fail
      refine (awake12_any _).mono ?_
      rintro e wd ⟨rfl, hb6⟩
      have HBd := Lib.hid (HBz.out.trans (hb6.mono HBz.out.size))
      clear hb6
      go_wp2
      go_ret
      exact ⟨rfl, HBd.out⟩
end Go.Proofs.Ytlhkmbhfgoejjaa
