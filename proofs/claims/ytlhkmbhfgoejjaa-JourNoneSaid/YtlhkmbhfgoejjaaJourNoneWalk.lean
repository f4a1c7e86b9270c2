/-
  The walk of kistlaw12.JourNone.
-/
import Derived.Test.YtlhkmbhfgoejjaaJourArg
namespace Go.Proofs.Ytlhkmbhfgoejjaa
open Go.RowKit
set_option linter.unusedVariables false
set_option linter.unusedSimpArgs false

set_option maxRecDepth 100000 in
set_option maxHeartbeats 2000000 in
theorem jourNone_walk (n : Nt) (d p : Value) (v : Value) (l : List Nt) (w : World) (h : NtR w d p n) (hl : RN w v l) :
    Calls Try.prog 11 #[ntV n d p, v] w fun e w' => e = .returned (.bool true) ∧ Below w.heap.size w w' := by
  obtain ⟨da, dc, rfl, -, -⟩ := h.1.1.shape
  obtain ⟨pa, pc, rfl, -, -⟩ := h.1.2.shape
  obtain ⟨dl, Hdl⟩ := hid_of n.data.length
  obtain ⟨pl, Hpl⟩ := hid_of n.places.length
  rw [Hdl.out, Hpl.out] at h ⊢
  have HB0 : Hid (Below w.heap.size w (w.alloc (.cells (ntC n (.slice da dl dc) (.slice pa pl pc)) 25))) := (Below.refl _ _).alloc (Nat.le_refl _) _
  have HX0 : Hid (Blk (w.alloc (.cells (ntC n (.slice da dl dc) (.slice pa pl pc)) 25)) w.heap.size (ntC n (.slice da dl dc) (.slice pa pl pc)).toList 25) := Blk.new _ _ _ rfl
  have HN0 := Lib.hid (h.below HB0.out rfl)
  have HAd : Hid (∀ wx, NtR wx (.slice da dl dc) (.slice pa pl pc) n → Calls Try.prog 29 #[.pointer none, ntV n (.slice da dl dc) (.slice pa pl pc)] wx fun e w' => e = .returned (.int .i64 1) ∧ Below wx.heap.size wx w') := fun wx hx => none_add n _ _ wx hx
  unfold ntV ntC at HAd
  unfold ntC at HB0 HX0 HN0
  unfold ntV ntC
  clear h hl
  go_enter Try.func11, Try.ntmps11
  go_wp2_with fail
  refine (open_nil _).mono ?_
  rintro e w1 ⟨rfl, rfl⟩
  go_wp2_with fail
  refine (awake12_any _).mono ?_
  rintro e w2 ⟨rfl, hb2⟩
  have HN2 := Lib.hid (HN0.out.below hb2 rfl)
  have HB2 := Lib.hid (HB0.out.trans (hb2.mono HB0.out.size))
  obtain ⟨x0, x1, x2, x3, x4, x5, x6, x7⟩ := nt_cells (HX0.out.below hb2 HX0.out.lt)
  clear hb2
  go_wp2_with fail
  refine (HAd.out _ HN2.out).mono ?_
  rintro e w3 ⟨rfl, hb3⟩
  have HB3 := Lib.hid (HB2.out.trans (hb3.mono HB2.out.size))
  clear hb3
  go_wp2_with fail
  refine (none_swap v w3).mono ?_
  rintro e w4 ⟨rfl, rfl⟩
  go_wp2_with fail
  refine (none_size w3).mono ?_
  rintro e w4 ⟨rfl, rfl⟩
  go_wp2
  go_ret
  exact ⟨rfl, HB3.out⟩
end Go.Proofs.Ytlhkmbhfgoejjaa
