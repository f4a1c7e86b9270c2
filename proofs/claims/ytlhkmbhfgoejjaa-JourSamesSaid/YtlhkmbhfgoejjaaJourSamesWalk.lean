/-
  The walk of kistlaw12.JourSames.
-/
import Derived.Test.YtlhkmbhfgoejjaaJourArg
namespace Go.Proofs.Ytlhkmbhfgoejjaa
open Go.RowKit
set_option linter.unusedVariables false
set_option linter.unusedSimpArgs false

set_option maxRecDepth 100000 in
set_option maxHeartbeats 4000000 in
theorem jourSames_walk (n : Nt) (d p : Value) (m : Nt) (d2 p2 : Value) (w : World) (h : NtR w d p n) (h' : NtR w d2 p2 m) :
    Calls Try.prog 5 #[ntV n d p, ntV m d2 p2] w fun e w' => e = .returned (.bool true) ∧ Below w.heap.size w w' := by
  obtain ⟨da, dc, rfl, -, -⟩ := h.1.1.shape
  obtain ⟨pa, pc, rfl, -, -⟩ := h.1.2.shape
  obtain ⟨da2, dc2, rfl, -, -⟩ := h'.1.1.shape
  obtain ⟨pa2, pc2, rfl, -, -⟩ := h'.1.2.shape
  obtain ⟨dl, Hdl⟩ := hid_of n.data.length
  obtain ⟨pl, Hpl⟩ := hid_of n.places.length
  obtain ⟨dl2, Hdl2⟩ := hid_of m.data.length
  obtain ⟨pl2, Hpl2⟩ := hid_of m.places.length
  rw [Hdl.out, Hpl.out] at h ⊢
  rw [Hdl2.out, Hpl2.out] at h' ⊢
  obtain ⟨W, HW⟩ := hid_of ((w.alloc (.cells (ntC n (.slice da dl dc) (.slice pa pl pc)) 25)).alloc (.cells (ntC m (.slice da2 dl2 dc2) (.slice pa2 pl2 pc2)) 25))
  have HB0 : Hid (Below w.heap.size w W) := by rw [← HW.out]; exact ((Below.refl _ _).alloc (Nat.le_refl _) _).alloc (by simp) _
  have HX0 : Hid (Blk W w.heap.size (ntC n (.slice da dl dc) (.slice pa pl pc)).toList 25) := by rw [← HW.out]; exact (Blk.new _ _ _ rfl).alloc _
  have HX1 : Hid (Blk W (w.heap.size + 1) (ntC m (.slice da2 dl2 dc2) (.slice pa2 pl2 pc2)).toList 25) := by rw [← HW.out]; exact Blk.new _ _ _ (by simp)
  have HN0 := Lib.hid (h.below HB0.out rfl)
  have HN1 := Lib.hid (h'.below HB0.out rfl)
  have HSt : Hid (∀ wx, Below W.heap.size W wx → (wx.cell? ⟨w.heap.size, 0, none⟩ = some (.int .i64 n.kind) ∧ wx.cell? ⟨w.heap.size, 1, none⟩ = some (.string (S n.key)) ∧ wx.cell? ⟨w.heap.size, 2, none⟩ = some (.int .i64 n.gen) ∧ wx.cell? ⟨w.heap.size, 3, none⟩ = some (.int .i64 n.cart) ∧ wx.cell? ⟨w.heap.size, 4, none⟩ = some (.slice da dl dc) ∧ wx.cell? ⟨w.heap.size, 5, none⟩ = some (.string (S n.sum)) ∧ wx.cell? ⟨w.heap.size, 6, none⟩ = some (.int .i64 n.size) ∧ wx.cell? ⟨w.heap.size, 7, none⟩ = some (.slice pa pl pc) ∧ wx.cell? ⟨w.heap.size + 1, 0, none⟩ = some (.int .i64 m.kind) ∧ wx.cell? ⟨w.heap.size + 1, 1, none⟩ = some (.string (S m.key)) ∧ wx.cell? ⟨w.heap.size + 1, 2, none⟩ = some (.int .i64 m.gen) ∧ wx.cell? ⟨w.heap.size + 1, 3, none⟩ = some (.int .i64 m.cart) ∧ wx.cell? ⟨w.heap.size + 1, 4, none⟩ = some (.slice da2 dl2 dc2) ∧ wx.cell? ⟨w.heap.size + 1, 5, none⟩ = some (.string (S m.sum)) ∧ wx.cell? ⟨w.heap.size + 1, 6, none⟩ = some (.int .i64 m.size) ∧ wx.cell? ⟨w.heap.size + 1, 7, none⟩ = some (.slice pa2 pl2 pc2))) := fun wx hx => by
    obtain ⟨x0, x1, x2, x3, x4, x5, x6, x7⟩ := nt_cells (HX0.out.below hx HX0.out.lt)
    obtain ⟨z0, z1, z2, z3, z4, z5, z6, z7⟩ := nt_cells (HX1.out.below hx HX1.out.lt)
    exact ⟨x0, x1, x2, x3, x4, x5, x6, x7, z0, z1, z2, z3, z4, z5, z6, z7⟩
  have HS1 : Hid (∀ wx, Below W.heap.size W wx → _) := fun wx hx => jsame_any n m _ _ _ _ wx (HN0.out.below hx rfl) (HN1.out.below hx rfl)
  have HS2 : Hid (∀ wx, Below W.heap.size W wx → _) := fun wx hx => rsame_any n m _ _ _ _ wx (HN0.out.below hx rfl) (HN1.out.below hx rfl)
  have HS3 : Hid (∀ wx, Below W.heap.size W wx → Calls Try.prog 20 #[ntV n (.slice da dl dc) (.slice pa pl pc), ntV n (.slice da dl dc) (.slice pa pl pc)] wx fun e w' => e = .returned (.bool true) ∧ Below wx.heap.size wx w') := fun wx hx => by
    have := jsame_any n n _ _ _ _ wx (HN0.out.below hx rfl) (HN0.out.below hx rfl)
    rw [decide_eq_true rfl] at this
    exact this
  have HS4 : Hid (∀ wx, Below W.heap.size W wx → Calls Try.prog 20 #[ntV m (.slice da2 dl2 dc2) (.slice pa2 pl2 pc2), ntV m (.slice da2 dl2 dc2) (.slice pa2 pl2 pc2)] wx fun e w' => e = .returned (.bool true) ∧ Below wx.heap.size wx w') := fun wx hx => by
    have := jsame_any m m _ _ _ _ wx (HN1.out.below hx rfl) (HN1.out.below hx rfl)
    rw [decide_eq_true rfl] at this
    exact this
  obtain ⟨b, Hb⟩ := hid_of (decide (n = m))
  rw [Hb.out] at HS1 HS2
  have hbb : (b == b) = true := by simp
  unfold ntV ntC at HS1 HS2 HS3 HS4
  unfold ntC at HW
  unfold ntV ntC
  clear h h'
  go_enter Try.func5, Try.ntmps5
  go_wp2_with fail
  rw [HW.out]
  have hs0 := HSt.out W.drew ((Below.refl _ _).drew)
  go_region_held (fun wx => (wx.cell? ⟨w.heap.size, 0, none⟩ = some (.int .i64 n.kind) ∧ wx.cell? ⟨w.heap.size, 1, none⟩ = some (.string (S n.key)) ∧ wx.cell? ⟨w.heap.size, 2, none⟩ = some (.int .i64 n.gen) ∧ wx.cell? ⟨w.heap.size, 3, none⟩ = some (.int .i64 n.cart) ∧ wx.cell? ⟨w.heap.size, 4, none⟩ = some (.slice da dl dc) ∧ wx.cell? ⟨w.heap.size, 5, none⟩ = some (.string (S n.sum)) ∧ wx.cell? ⟨w.heap.size, 6, none⟩ = some (.int .i64 n.size) ∧ wx.cell? ⟨w.heap.size, 7, none⟩ = some (.slice pa pl pc) ∧ wx.cell? ⟨w.heap.size + 1, 0, none⟩ = some (.int .i64 m.kind) ∧ wx.cell? ⟨w.heap.size + 1, 1, none⟩ = some (.string (S m.key)) ∧ wx.cell? ⟨w.heap.size + 1, 2, none⟩ = some (.int .i64 m.gen) ∧ wx.cell? ⟨w.heap.size + 1, 3, none⟩ = some (.int .i64 m.cart) ∧ wx.cell? ⟨w.heap.size + 1, 4, none⟩ = some (.slice da2 dl2 dc2) ∧ wx.cell? ⟨w.heap.size + 1, 5, none⟩ = some (.string (S m.sum)) ∧ wx.cell? ⟨w.heap.size + 1, 6, none⟩ = some (.int .i64 m.size) ∧ wx.cell? ⟨w.heap.size + 1, 7, none⟩ = some (.slice pa2 pl2 pc2)))
    (first | exact hs0 | exact hs1 | exact hs2 | exact hs3 | exact hs4 | exact hs5)
    (first
    | (go_at_call 16
       (with_reducible refine (awake12_any _).mono ?_)
       rintro e w1 ⟨rfl, hb1⟩
       have HQ1 := Lib.hid (((Below.refl W.heap.size W).drew).trans hb1)
       have hs1 := HSt.out _ HQ1.out
       clear hb1)
    | (go_at_call 20
       (with_reducible refine (HS1.out _ HQ1.out).mono ?_)
       rintro e w2 ⟨rfl, hb2⟩
       have HQ2 := Lib.hid (HQ1.out.trans (hb2.mono HQ1.out.size))
       have hs2 := HSt.out _ HQ2.out
       clear hb2)
    | (go_at_call 19
       (with_reducible refine (HS2.out _ HQ2.out).mono ?_)
       rintro e w3 ⟨rfl, hb3⟩
       have HQ3 := Lib.hid (HQ2.out.trans (hb3.mono HQ2.out.size))
       have hs3 := HSt.out _ HQ3.out
       clear hb3)
    | (go_at_call 20
       (with_reducible refine (HS3.out _ HQ3.out).mono ?_)
       rintro e w4 ⟨rfl, hb4⟩
       have HQ4 := Lib.hid (HQ3.out.trans (hb4.mono HQ3.out.size))
       have hs4 := HSt.out _ HQ4.out
       clear hb4)
    | (go_at_call 20
       (with_reducible refine (HS4.out _ HQ4.out).mono ?_)
       rintro e w5 ⟨rfl, hb5⟩
       have HQ5 := Lib.hid (HQ4.out.trans (hb5.mono HQ4.out.size))
       have hs5 := HSt.out _ HQ5.out
       clear hb5))
  all_goals
    go_wp2
    go_ret
    exact ⟨rfl, HB0.out.trans (HQ5.out.mono HB0.out.size)⟩
end Go.Proofs.Ytlhkmbhfgoejjaa
