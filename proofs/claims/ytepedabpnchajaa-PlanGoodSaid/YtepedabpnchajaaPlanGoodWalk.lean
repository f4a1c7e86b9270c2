/-
  kistlaw19.PlanGood: its walk.
-/
import Derived.Test.YtepedabpnchajaaPlanArg
import Derived.Test.YtepedabpnchajaaLabArg
import Derived.Deep.RegionHeld
namespace Go.Proofs.Ytepedabpnchajaa
open Go.RowKit
set_option linter.unusedVariables false
set_option linter.unusedSimpArgs false

set_option maxRecDepth 100000 in
set_option maxHeartbeats 4000000 in
theorem planGood_walk (ev : Value) (slot : Int) (r : Rc) (d : Value) (w : World) (he : EntR ev) (hw : (Lit.int .i64 slot).wf = true) (hr : Rec w d r) :
    Calls Try.prog 7 #[ev, .int .i64 slot, recV r d] w fun e w' => e = .returned (.bool true) ∧ Below w.heap.size w w' := by
  obtain ⟨k, s, g, z, pa, n, pc, rfl, h1, h2, hk, hs⟩ := he
  obtain ⟨da, dc, rfl, -, -⟩ := hr.1.shape
  obtain ⟨dn, Hdn⟩ := hid_of r.data.length
  rw [Hdn.out]
  have HSl : Hid (∀ wx, Calls Try.prog 9 #[.agg #[.string (S k), .int .i64 g, .int .i64 z, .string (S s), .slice pa n pc]] wx fun e w' => (∃ m, m ≤ 60 ∧ m ≤ pc ∧ e = .returned (.agg #[.string (S k), .int .i64 g, .int .i64 z, .string (S s), .slice pa m pc])) ∧ Below wx.heap.size wx w') := fun wx => slots_any k s g z pa n pc wx h1 h2
  have HP0 : Hid (Below w.heap.size w ((w.alloc (.cells #[.string (S k), .int .i64 g, .int .i64 z, .string (S s), .slice pa n pc] 24)).alloc (.cells #[.int .i64 r.kind, .int .i64 r.cart, .string (S r.key), .int .i64 r.gen, .int .i64 r.group, .int .i64 r.groups, .int .i64 r.index, .int .i64 r.size, .string (S r.sum), .slice da dn dc] 52))) := ((Below.refl _ _).alloc (Nat.le_refl _) _).alloc (by simp) _
  have HR0 : Hid (Blk ((w.alloc (.cells #[.string (S k), .int .i64 g, .int .i64 z, .string (S s), .slice pa n pc] 24)).alloc (.cells #[.int .i64 r.kind, .int .i64 r.cart, .string (S r.key), .int .i64 r.gen, .int .i64 r.group, .int .i64 r.groups, .int .i64 r.index, .int .i64 r.size, .string (S r.sum), .slice da dn dc] 52)) (w.heap.size + 1) (recC r (.slice da dn dc)).toList 52) := Blk.new _ _ _ (by simp)
  have HWf := Lib.hid hw
  clear h1 h2 hk hs hr hw
  unfold recV
  go_enter Try.func7, Try.ntmps7
  go_wp2_with fail
  refine (HSl.out _).mono ?_
  rintro e w1 ⟨⟨m, hm, -, rfl⟩, hb1⟩
  have HB1 := Lib.hid (HP0.out.trans (hb1.mono HP0.out.size))
  have HR1 := Lib.hid (HR0.out.below hb1 HR0.out.lt)
  have HQ : Hid (Blk (w1.alloc (.cells #[.string (S k), .int .i64 g, .int .i64 z, .string (S s), .slice pa m pc] 24)) w1.heap.size (entC k g z s (.slice pa m pc)).toList 24) := Blk.new w1 _ _ rfl
  have hba : Below w1.heap.size w1 (w1.alloc (.cells #[.string (S k), .int .i64 g, .int .i64 z, .string (S s), .slice pa m pc] 24)) := (Below.refl _ _).alloc (Nat.le_refl _) _
  have HB2 := Lib.hid (HB1.out.trans (hba.mono HB1.out.size))
  obtain ⟨B, HBn⟩ := hid_of (decide (Plan.GoodP m k g z s slot ⟨r.kind, r.cart, r.key, r.gen, r.group, r.groups, r.index, r.size, r.sum, []⟩ dn))
  have HG1 : Hid (∀ wx, Calls Try.prog 19 #[.agg #[.string (S k), .int .i64 g, .int .i64 z, .string (S s), .slice pa m pc], .int .i64 slot, .agg #[.int .i64 r.kind, .int .i64 r.cart, .string (S r.key), .int .i64 r.gen, .int .i64 r.group, .int .i64 r.groups, .int .i64 r.index, .int .i64 r.size, .string (S r.sum), .slice da dn dc]] wx fun e w' => e = .returned (.bool B) ∧ Below wx.heap.size wx w') := fun wx => by
    rw [← HBn.out]; exact pgood_any k s g z pa m pc slot _ _ _ _ _ _ _ _ _ da dn dc wx HWf.out (by omega)
  have HG2 : Hid (∀ wx, Calls Try.prog 20 #[.agg #[.string (S k), .int .i64 g, .int .i64 z, .string (S s), .slice pa m pc], .int .i64 slot, .agg #[.int .i64 r.kind, .int .i64 r.cart, .string (S r.key), .int .i64 r.gen, .int .i64 r.group, .int .i64 r.groups, .int .i64 r.index, .int .i64 r.size, .string (S r.sum), .slice da dn dc]] wx fun e w' => e = .returned (.bool B) ∧ Below wx.heap.size wx w') := fun wx => by
    rw [← HBn.out]; exact refGood_any k s g z pa m pc slot _ _ _ _ _ _ _ _ _ da dn dc wx HWf.out (by omega)
  obtain ⟨W2, HW2⟩ := hid_of (w1.alloc (.cells #[.string (S k), .int .i64 g, .int .i64 z, .string (S s), .slice pa m pc] 24))
  rw [HW2.out] at HQ HB2
  have HR2 := Lib.hid (HR1.out.below hba HR1.out.lt)
  rw [HW2.out] at HR2
  have HS : Hid (∀ wx, Below W2.heap.size W2 wx → (wx.cell? ⟨w1.heap.size, 0, none⟩ = some (.string (S k)) ∧ wx.cell? ⟨w1.heap.size, 1, none⟩ = some (.int .i64 g) ∧ wx.cell? ⟨w1.heap.size, 2, none⟩ = some (.int .i64 z) ∧ wx.cell? ⟨w1.heap.size, 3, none⟩ = some (.string (S s)) ∧ wx.cell? ⟨w1.heap.size, 4, none⟩ = some (.slice pa m pc) ∧ wx.cell? ⟨w.heap.size + 1, 0, none⟩ = some (.int .i64 r.kind) ∧ wx.cell? ⟨w.heap.size + 1, 1, none⟩ = some (.int .i64 r.cart) ∧ wx.cell? ⟨w.heap.size + 1, 2, none⟩ = some (.string (S r.key)) ∧ wx.cell? ⟨w.heap.size + 1, 3, none⟩ = some (.int .i64 r.gen) ∧ wx.cell? ⟨w.heap.size + 1, 4, none⟩ = some (.int .i64 r.group) ∧ wx.cell? ⟨w.heap.size + 1, 5, none⟩ = some (.int .i64 r.groups) ∧ wx.cell? ⟨w.heap.size + 1, 6, none⟩ = some (.int .i64 r.index) ∧ wx.cell? ⟨w.heap.size + 1, 7, none⟩ = some (.int .i64 r.size) ∧ wx.cell? ⟨w.heap.size + 1, 8, none⟩ = some (.string (S r.sum)) ∧ wx.cell? ⟨w.heap.size + 1, 9, none⟩ = some (.slice da dn dc))) := fun wx hx => by
    obtain ⟨q0, q1, q2, q3, q4⟩ := ent_cells (HQ.out.below hx HQ.out.lt)
    obtain ⟨p0, p1, p2, p3, p4, p5, p6, p7, p8, p9⟩ := rec_cells (HR2.out.below hx HR2.out.lt)
    exact ⟨q0, q1, q2, q3, q4, p0, p1, p2, p3, p4, p5, p6, p7, p8, p9⟩
  have hs0 := HS.out W2.drew ((Below.refl _ _).drew)
  have HQ0 : Hid (Below W2.heap.size W2 W2.drew) := (Below.refl _ _).drew
  clear hb1 hba HP0 HSl
  go_wp2_with fail
  rw [HW2.out]
  go_region_held (fun wx => (wx.cell? ⟨w1.heap.size, 0, none⟩ = some (.string (S k)) ∧ wx.cell? ⟨w1.heap.size, 1, none⟩ = some (.int .i64 g) ∧ wx.cell? ⟨w1.heap.size, 2, none⟩ = some (.int .i64 z) ∧ wx.cell? ⟨w1.heap.size, 3, none⟩ = some (.string (S s)) ∧ wx.cell? ⟨w1.heap.size, 4, none⟩ = some (.slice pa m pc) ∧ wx.cell? ⟨w.heap.size + 1, 0, none⟩ = some (.int .i64 r.kind) ∧ wx.cell? ⟨w.heap.size + 1, 1, none⟩ = some (.int .i64 r.cart) ∧ wx.cell? ⟨w.heap.size + 1, 2, none⟩ = some (.string (S r.key)) ∧ wx.cell? ⟨w.heap.size + 1, 3, none⟩ = some (.int .i64 r.gen) ∧ wx.cell? ⟨w.heap.size + 1, 4, none⟩ = some (.int .i64 r.group) ∧ wx.cell? ⟨w.heap.size + 1, 5, none⟩ = some (.int .i64 r.groups) ∧ wx.cell? ⟨w.heap.size + 1, 6, none⟩ = some (.int .i64 r.index) ∧ wx.cell? ⟨w.heap.size + 1, 7, none⟩ = some (.int .i64 r.size) ∧ wx.cell? ⟨w.heap.size + 1, 8, none⟩ = some (.string (S r.sum)) ∧ wx.cell? ⟨w.heap.size + 1, 9, none⟩ = some (.slice da dn dc)))
    (first | exact hs0 | exact hs1 | exact hs2 | exact hs3)
    (first
    | (go_at_call 14
       refine (awake19_any _).mono ?_
       rintro e w3 ⟨rfl, hb3⟩
       have HQ1 := Lib.hid (HQ0.out.trans hb3)
       have hs1 := HS.out _ HQ1.out
       clear hb3)
    | (go_at_call 19
       (with_reducible refine (HG1.out _).mono ?_)
       rintro e w4 ⟨rfl, hb4⟩
       have HQ2 := Lib.hid (HQ1.out.trans (hb4.mono HQ1.out.size))
       have hs2 := HS.out _ HQ2.out
       clear hb4)
    | (go_at_call 20
       (with_reducible refine (HG2.out _).mono ?_)
       rintro e w5 ⟨rfl, hb5⟩
       have HQ3 := Lib.hid (HQ2.out.trans (hb5.mono HQ2.out.size))
       have hs3 := HS.out _ HQ3.out
       clear hb5))
  clear hs0 hs1 hs2 hs3
  go_wp2
  go_ret
  exact ⟨rfl, HB2.out.trans (HQ3.out.mono HB2.out.size)⟩
end Go.Proofs.Ytepedabpnchajaa
