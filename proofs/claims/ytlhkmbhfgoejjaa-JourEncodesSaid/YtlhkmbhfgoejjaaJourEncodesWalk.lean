/-
  The walk of kistlaw12.JourEncodes.
-/
import Derived.Test.YtlhkmbhfgoejjaaJourArg
namespace Go.Proofs.Ytlhkmbhfgoejjaa
open Go.RowKit
set_option linter.unusedVariables false
set_option linter.unusedSimpArgs false

set_option maxRecDepth 100000 in
set_option maxHeartbeats 2000000 in
theorem jourEncodes_walk (n : Nt) (d p : Value) (w : World) (h : NtR w d p n) :
    Calls Try.prog 3 #[ntV n d p] w fun e w' => e = .returned (.bool true) ∧ Below w.heap.size w w' := by
  obtain ⟨da, dc, rfl, -, -⟩ := h.1.1.shape
  obtain ⟨pa, pc, rfl, -, -⟩ := h.1.2.shape
  obtain ⟨dl, Hdl⟩ := hid_of n.data.length
  obtain ⟨pl, Hpl⟩ := hid_of n.places.length
  rw [Hdl.out, Hpl.out] at h ⊢
  have HB0 : Hid (Below w.heap.size w (w.alloc (.cells (ntC n (.slice da dl dc) (.slice pa pl pc)) 25))) := (Below.refl _ _).alloc (Nat.le_refl _) _
  have HX0 : Hid (Blk (w.alloc (.cells (ntC n (.slice da dl dc) (.slice pa pl pc)) 25)) w.heap.size (ntC n (.slice da dl dc) (.slice pa pl pc)).toList 25) := Blk.new _ _ _ rfl
  have HN0 := Lib.hid (h.below HB0.out rfl)
  unfold ntV
  unfold ntC at HB0 HX0 HN0 ⊢
  clear h
  by_cases hg : Jour.Good n
  case neg =>
    have HE := Lib.hid (jencode_no n _ _ _ HN0.out hg)
    have HF : Hid (∀ wx, NtR wx (.slice da dl dc) (.slice pa pl pc) n → Calls Try.prog 15 #[ntV n (.slice da dl dc) (.slice pa pl pc)] wx fun e w' => e = .returned (.tuple #[.slice none 0 0, .int .i64 12]) ∧ Below wx.heap.size wx w') := fun wx hx => rencode_no n _ _ wx hx hg
    unfold ntV ntC at HE HF
    clear hg
    go_enter Try.func3, Try.ntmps3
    go_wp2_with fail
    refine HE.out.mono ?_
    rintro e w1 ⟨rfl, hb1⟩
    have HN1 := Lib.hid (HN0.out.below hb1 rfl)
    have HB1 := Lib.hid (HB0.out.trans (hb1.mono HB0.out.size))
    obtain ⟨x0, x1, x2, x3, x4, x5, x6, x7⟩ := nt_cells (HX0.out.below hb1 HX0.out.lt)
    clear hb1
    go_wp2_with fail
    refine (HF.out _ HN1.out).mono ?_
    rintro e w2 ⟨rfl, hb2⟩
    have HB2 := Lib.hid (HB1.out.trans (hb2.mono HB1.out.size))
    clear hb2 x0 x1 x2 x3 x4 x5 x6 x7
    go_wp2_with fail
    refine (awake12_any _).mono ?_
    rintro e w3 ⟨rfl, hb3⟩
    have HB3 := Lib.hid (HB2.out.trans (hb3.mono HB2.out.size))
    have hcv1 := run_convert_S (P := Try.prog) (RB.nil w3) 22 9 5 Try.underlying22 Try.underlying5 Try.underlying9
    clear hb3
    go_wp2
    go_ret
    exact ⟨by simp, HB3.out⟩
  case pos =>
    have HE := Lib.hid (jencode_yes n _ _ _ HN0.out hg)
    have HF : Hid (∀ wx, NtR wx (.slice da dl dc) (.slice pa pl pc) n → Calls Try.prog 15 #[ntV n (.slice da dl dc) (.slice pa pl pc)] wx fun e w' => (∃ a c, e = .returned (.tuple #[.slice a (Jour.code n).length c, .int .i64 0]) ∧ RB w' (.slice a (Jour.code n).length c) (Jour.code n)) ∧ Below wx.heap.size wx w') := fun wx hx => rencode_yes n _ _ wx hx hg
    unfold ntV ntC at HE HF
    obtain ⟨L, HL⟩ := hid_of (Jour.code n)
    rw [HL.out] at HE HF
    obtain ⟨ll, Hll⟩ := hid_of L.length
    rw [Hll.out] at HE HF
    clear hg
    go_enter Try.func3, Try.ntmps3
    go_wp2_with fail
    refine HE.out.mono ?_
    rintro e w1 ⟨⟨a1, c1, rfl, hr1⟩, hb1⟩
    have HN1 := Lib.hid (HN0.out.below hb1 rfl)
    have HR1 := Lib.hid hr1
    have HB1 := Lib.hid (HB0.out.trans (hb1.mono HB0.out.size))
    obtain ⟨x0, x1, x2, x3, x4, x5, x6, x7⟩ := nt_cells (HX0.out.below hb1 HX0.out.lt)
    clear hb1 hr1
    go_wp2_with fail
    refine (HF.out _ HN1.out).mono ?_
    rintro e w2 ⟨⟨a2, c2, rfl, hr2⟩, hb2⟩
    have HR12 := Lib.hid (HR1.out.below hb2 rfl)
    have HR2 := Lib.hid hr2
    have HB2 := Lib.hid (HB1.out.trans (hb2.mono HB1.out.size))
    clear hb2 hr2 x0 x1 x2 x3 x4 x5 x6 x7
    go_wp2_with fail
    refine (awake12_any _).mono ?_
    rintro e w3 ⟨rfl, hb3⟩
    have HB3 := Lib.hid (HB2.out.trans (hb3.mono HB2.out.size))
    have hcv1 := run_convert_S (P := Try.prog) (HR12.out.below hb3 rfl) 22 9 5 Try.underlying22 Try.underlying5 Try.underlying9
    have hcv2 := run_convert_S (P := Try.prog) (HR2.out.below hb3 rfl) 22 9 5 Try.underlying22 Try.underlying5 Try.underlying9
    obtain ⟨E, HE⟩ := hid_of (S L)
    rw [HE.out] at hcv1 hcv2
    clear hb3
    go_wp2
    go_ret
    exact ⟨by simp, HB3.out⟩
end Go.Proofs.Ytlhkmbhfgoejjaa
