/-
  kistlaw09.LabelSames: its walk.
-/
import Derived.Test.YtlmfjohaejdmcaaLabUse
import Derived.Test.YtlmfjohaejdmcaaLabArg
namespace Go.Proofs.Ytlmfjohaejdmcaa
open Go.RowKit
set_option linter.unusedVariables false
set_option linter.unusedSimpArgs false

set_option maxRecDepth 100000 in
set_option maxHeartbeats 4000000 in
theorem labelSames_walk (r : Rc) (d : Value) (r' : Rc) (d' : Value) (w : World) (hr : Rec w d r) (hr' : Rec w d' r') :
    Calls Try.prog 6 #[recV r d, recV r' d'] w fun e w' => e = .returned (.bool true) ∧ Below w.heap.size w w' := by
  have HS1 : Hid (∀ wx, RB wx d r.data → RB wx d' r'.data → Calls Try.prog 18 #[recV r d, recV r' d'] wx fun e w' => e = .returned (.bool (decide (r = r'))) ∧ Below wx.heap.size wx w') := fun wx h1 h2 => same_any r r' d d' wx h1 h2
  have HS2 : Hid (∀ wx, RB wx d r.data → RB wx d' r'.data → Calls Try.prog 17 #[recV r d, recV r' d'] wx fun e w' => e = .returned (.bool (decide (r = r'))) ∧ Below wx.heap.size wx w') := fun wx h1 h2 => refSame_any r r' d d' wx h1 h2
  have HS3 : Hid (∀ wx, RB wx d r.data → Calls Try.prog 18 #[recV r d, recV r d] wx fun e w' => e = .returned (.bool true) ∧ Below wx.heap.size wx w') := fun wx h1 => by
    have := same_any r r d d wx h1 h1
    rw [show decide (r = r) = true from decide_eq_true rfl] at this
    exact this
  have HS4 : Hid (∀ wx, RB wx d' r'.data → Calls Try.prog 18 #[recV r' d', recV r' d'] wx fun e w' => e = .returned (.bool true) ∧ Below wx.heap.size wx w') := fun wx h1 => by
    have := same_any r' r' d' d' wx h1 h1
    rw [show decide (r' = r') = true from decide_eq_true rfl] at this
    exact this
  obtain ⟨b, Hb⟩ := hid_of (decide (r = r'))
  rw [Hb.out] at HS1 HS2
  have hbb : (b == b) = true := by simp
  have HA0 : Hid (Blk ((w.alloc (.cells (recC r d) 24)).alloc (.cells (recC r' d') 24)).drew w.heap.size (recC r d).toList 24) := ((Blk.new w _ _ rfl).alloc _).drew
  have HB0 : Hid (Blk ((w.alloc (.cells (recC r d) 24)).alloc (.cells (recC r' d') 24)).drew (w.heap.size + 1) (recC r' d').toList 24) := (Blk.new _ _ _ (by simp)).drew
  have HD0 : Hid (RB ((w.alloc (.cells (recC r d) 24)).alloc (.cells (recC r' d') 24)).drew d r.data) := (hr.1.two _ _).drew
  have HE0 : Hid (RB ((w.alloc (.cells (recC r d) 24)).alloc (.cells (recC r' d') 24)).drew d' r'.data) := (hr'.1.two _ _).drew
  have HW0 : Hid (Below w.heap.size w ((w.alloc (.cells (recC r d) 24)).alloc (.cells (recC r' d') 24)).drew) := (((Below.refl _ _).alloc (Nat.le_refl _) _).alloc (by simp) _).drew
  have hs0 := And.intro (rec_cells HA0.out) (rec_cells HB0.out)
  clear hr hr'
  unfold recV at HS1 HS2 HS3 HS4 ⊢
  simp only [recC] at hs0
  go_enter Try.func6, Try.ntmps6
  go_wp2_with fail
  go_region_held (fun wx => (wx.cell? ⟨w.heap.size, 0, none⟩ = some (.int .i64 r.kind) ∧ wx.cell? ⟨w.heap.size, 1, none⟩ = some (.int .i64 r.cart) ∧ wx.cell? ⟨w.heap.size, 2, none⟩ = some (.string (S r.key)) ∧ wx.cell? ⟨w.heap.size, 3, none⟩ = some (.int .i64 r.gen) ∧ wx.cell? ⟨w.heap.size, 4, none⟩ = some (.int .i64 r.group) ∧ wx.cell? ⟨w.heap.size, 5, none⟩ = some (.int .i64 r.groups) ∧ wx.cell? ⟨w.heap.size, 6, none⟩ = some (.int .i64 r.index) ∧ wx.cell? ⟨w.heap.size, 7, none⟩ = some (.int .i64 r.size) ∧ wx.cell? ⟨w.heap.size, 8, none⟩ = some (.string (S r.sum)) ∧ wx.cell? ⟨w.heap.size, 9, none⟩ = some d) ∧ (wx.cell? ⟨w.heap.size + 1, 0, none⟩ = some (.int .i64 r'.kind) ∧ wx.cell? ⟨w.heap.size + 1, 1, none⟩ = some (.int .i64 r'.cart) ∧ wx.cell? ⟨w.heap.size + 1, 2, none⟩ = some (.string (S r'.key)) ∧ wx.cell? ⟨w.heap.size + 1, 3, none⟩ = some (.int .i64 r'.gen) ∧ wx.cell? ⟨w.heap.size + 1, 4, none⟩ = some (.int .i64 r'.group) ∧ wx.cell? ⟨w.heap.size + 1, 5, none⟩ = some (.int .i64 r'.groups) ∧ wx.cell? ⟨w.heap.size + 1, 6, none⟩ = some (.int .i64 r'.index) ∧ wx.cell? ⟨w.heap.size + 1, 7, none⟩ = some (.int .i64 r'.size) ∧ wx.cell? ⟨w.heap.size + 1, 8, none⟩ = some (.string (S r'.sum)) ∧ wx.cell? ⟨w.heap.size + 1, 9, none⟩ = some d'))
    (first | exact hs0 | exact hs1 | exact hs2 | exact hs3 | exact hs4 | exact hs5)
    (first
        | (go_at_call 12
           (with_reducible refine (awake9_any _).mono ?_)
           rintro e w1 ⟨rfl, hb1⟩
           have hs1 : (w1.cell? ⟨w.heap.size, 0, none⟩ = some (.int .i64 r.kind) ∧ w1.cell? ⟨w.heap.size, 1, none⟩ = some (.int .i64 r.cart) ∧ w1.cell? ⟨w.heap.size, 2, none⟩ = some (.string (S r.key)) ∧ w1.cell? ⟨w.heap.size, 3, none⟩ = some (.int .i64 r.gen) ∧ w1.cell? ⟨w.heap.size, 4, none⟩ = some (.int .i64 r.group) ∧ w1.cell? ⟨w.heap.size, 5, none⟩ = some (.int .i64 r.groups) ∧ w1.cell? ⟨w.heap.size, 6, none⟩ = some (.int .i64 r.index) ∧ w1.cell? ⟨w.heap.size, 7, none⟩ = some (.int .i64 r.size) ∧ w1.cell? ⟨w.heap.size, 8, none⟩ = some (.string (S r.sum)) ∧ w1.cell? ⟨w.heap.size, 9, none⟩ = some d) ∧ (w1.cell? ⟨w.heap.size + 1, 0, none⟩ = some (.int .i64 r'.kind) ∧ w1.cell? ⟨w.heap.size + 1, 1, none⟩ = some (.int .i64 r'.cart) ∧ w1.cell? ⟨w.heap.size + 1, 2, none⟩ = some (.string (S r'.key)) ∧ w1.cell? ⟨w.heap.size + 1, 3, none⟩ = some (.int .i64 r'.gen) ∧ w1.cell? ⟨w.heap.size + 1, 4, none⟩ = some (.int .i64 r'.group) ∧ w1.cell? ⟨w.heap.size + 1, 5, none⟩ = some (.int .i64 r'.groups) ∧ w1.cell? ⟨w.heap.size + 1, 6, none⟩ = some (.int .i64 r'.index) ∧ w1.cell? ⟨w.heap.size + 1, 7, none⟩ = some (.int .i64 r'.size) ∧ w1.cell? ⟨w.heap.size + 1, 8, none⟩ = some (.string (S r'.sum)) ∧ w1.cell? ⟨w.heap.size + 1, 9, none⟩ = some d') := ⟨rec_cells (HA0.out.below hb1 HA0.out.lt), rec_cells (HB0.out.below hb1 HB0.out.lt)⟩
           have HA1 := Lib.hid (HA0.out.below hb1 HA0.out.lt)
           have HB1 := Lib.hid (HB0.out.below hb1 HB0.out.lt)
           have HD1 := Lib.hid (HD0.out.below hb1 rfl)
           have HE1 := Lib.hid (HE0.out.below hb1 rfl)
           have HW1 := Lib.hid (HW0.out.trans (hb1.mono HW0.out.size))
           clear hb1)
        | (go_at_call 18
           (with_reducible refine (HS1.out _ HD1.out HE1.out).mono ?_)
           rintro e w2 ⟨rfl, hb2⟩
           have hs2 : (w2.cell? ⟨w.heap.size, 0, none⟩ = some (.int .i64 r.kind) ∧ w2.cell? ⟨w.heap.size, 1, none⟩ = some (.int .i64 r.cart) ∧ w2.cell? ⟨w.heap.size, 2, none⟩ = some (.string (S r.key)) ∧ w2.cell? ⟨w.heap.size, 3, none⟩ = some (.int .i64 r.gen) ∧ w2.cell? ⟨w.heap.size, 4, none⟩ = some (.int .i64 r.group) ∧ w2.cell? ⟨w.heap.size, 5, none⟩ = some (.int .i64 r.groups) ∧ w2.cell? ⟨w.heap.size, 6, none⟩ = some (.int .i64 r.index) ∧ w2.cell? ⟨w.heap.size, 7, none⟩ = some (.int .i64 r.size) ∧ w2.cell? ⟨w.heap.size, 8, none⟩ = some (.string (S r.sum)) ∧ w2.cell? ⟨w.heap.size, 9, none⟩ = some d) ∧ (w2.cell? ⟨w.heap.size + 1, 0, none⟩ = some (.int .i64 r'.kind) ∧ w2.cell? ⟨w.heap.size + 1, 1, none⟩ = some (.int .i64 r'.cart) ∧ w2.cell? ⟨w.heap.size + 1, 2, none⟩ = some (.string (S r'.key)) ∧ w2.cell? ⟨w.heap.size + 1, 3, none⟩ = some (.int .i64 r'.gen) ∧ w2.cell? ⟨w.heap.size + 1, 4, none⟩ = some (.int .i64 r'.group) ∧ w2.cell? ⟨w.heap.size + 1, 5, none⟩ = some (.int .i64 r'.groups) ∧ w2.cell? ⟨w.heap.size + 1, 6, none⟩ = some (.int .i64 r'.index) ∧ w2.cell? ⟨w.heap.size + 1, 7, none⟩ = some (.int .i64 r'.size) ∧ w2.cell? ⟨w.heap.size + 1, 8, none⟩ = some (.string (S r'.sum)) ∧ w2.cell? ⟨w.heap.size + 1, 9, none⟩ = some d') := ⟨rec_cells (HA1.out.below hb2 HA1.out.lt), rec_cells (HB1.out.below hb2 HB1.out.lt)⟩
           have HA2 := Lib.hid (HA1.out.below hb2 HA1.out.lt)
           have HB2 := Lib.hid (HB1.out.below hb2 HB1.out.lt)
           have HD2 := Lib.hid (HD1.out.below hb2 rfl)
           have HE2 := Lib.hid (HE1.out.below hb2 rfl)
           have HW2 := Lib.hid (HW1.out.trans (hb2.mono HW1.out.size))
           clear hb2)
        | (go_at_call 17
           (with_reducible refine (HS2.out _ HD2.out HE2.out).mono ?_)
           rintro e w3 ⟨rfl, hb3⟩
           have hs3 : (w3.cell? ⟨w.heap.size, 0, none⟩ = some (.int .i64 r.kind) ∧ w3.cell? ⟨w.heap.size, 1, none⟩ = some (.int .i64 r.cart) ∧ w3.cell? ⟨w.heap.size, 2, none⟩ = some (.string (S r.key)) ∧ w3.cell? ⟨w.heap.size, 3, none⟩ = some (.int .i64 r.gen) ∧ w3.cell? ⟨w.heap.size, 4, none⟩ = some (.int .i64 r.group) ∧ w3.cell? ⟨w.heap.size, 5, none⟩ = some (.int .i64 r.groups) ∧ w3.cell? ⟨w.heap.size, 6, none⟩ = some (.int .i64 r.index) ∧ w3.cell? ⟨w.heap.size, 7, none⟩ = some (.int .i64 r.size) ∧ w3.cell? ⟨w.heap.size, 8, none⟩ = some (.string (S r.sum)) ∧ w3.cell? ⟨w.heap.size, 9, none⟩ = some d) ∧ (w3.cell? ⟨w.heap.size + 1, 0, none⟩ = some (.int .i64 r'.kind) ∧ w3.cell? ⟨w.heap.size + 1, 1, none⟩ = some (.int .i64 r'.cart) ∧ w3.cell? ⟨w.heap.size + 1, 2, none⟩ = some (.string (S r'.key)) ∧ w3.cell? ⟨w.heap.size + 1, 3, none⟩ = some (.int .i64 r'.gen) ∧ w3.cell? ⟨w.heap.size + 1, 4, none⟩ = some (.int .i64 r'.group) ∧ w3.cell? ⟨w.heap.size + 1, 5, none⟩ = some (.int .i64 r'.groups) ∧ w3.cell? ⟨w.heap.size + 1, 6, none⟩ = some (.int .i64 r'.index) ∧ w3.cell? ⟨w.heap.size + 1, 7, none⟩ = some (.int .i64 r'.size) ∧ w3.cell? ⟨w.heap.size + 1, 8, none⟩ = some (.string (S r'.sum)) ∧ w3.cell? ⟨w.heap.size + 1, 9, none⟩ = some d') := ⟨rec_cells (HA2.out.below hb3 HA2.out.lt), rec_cells (HB2.out.below hb3 HB2.out.lt)⟩
           have HA3 := Lib.hid (HA2.out.below hb3 HA2.out.lt)
           have HB3 := Lib.hid (HB2.out.below hb3 HB2.out.lt)
           have HD3 := Lib.hid (HD2.out.below hb3 rfl)
           have HE3 := Lib.hid (HE2.out.below hb3 rfl)
           have HW3 := Lib.hid (HW2.out.trans (hb3.mono HW2.out.size))
           clear hb3)
        | (go_at_call 18
           (with_reducible refine (HS3.out _ HD3.out).mono ?_)
           rintro e w4 ⟨rfl, hb4⟩
           have hs4 : (w4.cell? ⟨w.heap.size, 0, none⟩ = some (.int .i64 r.kind) ∧ w4.cell? ⟨w.heap.size, 1, none⟩ = some (.int .i64 r.cart) ∧ w4.cell? ⟨w.heap.size, 2, none⟩ = some (.string (S r.key)) ∧ w4.cell? ⟨w.heap.size, 3, none⟩ = some (.int .i64 r.gen) ∧ w4.cell? ⟨w.heap.size, 4, none⟩ = some (.int .i64 r.group) ∧ w4.cell? ⟨w.heap.size, 5, none⟩ = some (.int .i64 r.groups) ∧ w4.cell? ⟨w.heap.size, 6, none⟩ = some (.int .i64 r.index) ∧ w4.cell? ⟨w.heap.size, 7, none⟩ = some (.int .i64 r.size) ∧ w4.cell? ⟨w.heap.size, 8, none⟩ = some (.string (S r.sum)) ∧ w4.cell? ⟨w.heap.size, 9, none⟩ = some d) ∧ (w4.cell? ⟨w.heap.size + 1, 0, none⟩ = some (.int .i64 r'.kind) ∧ w4.cell? ⟨w.heap.size + 1, 1, none⟩ = some (.int .i64 r'.cart) ∧ w4.cell? ⟨w.heap.size + 1, 2, none⟩ = some (.string (S r'.key)) ∧ w4.cell? ⟨w.heap.size + 1, 3, none⟩ = some (.int .i64 r'.gen) ∧ w4.cell? ⟨w.heap.size + 1, 4, none⟩ = some (.int .i64 r'.group) ∧ w4.cell? ⟨w.heap.size + 1, 5, none⟩ = some (.int .i64 r'.groups) ∧ w4.cell? ⟨w.heap.size + 1, 6, none⟩ = some (.int .i64 r'.index) ∧ w4.cell? ⟨w.heap.size + 1, 7, none⟩ = some (.int .i64 r'.size) ∧ w4.cell? ⟨w.heap.size + 1, 8, none⟩ = some (.string (S r'.sum)) ∧ w4.cell? ⟨w.heap.size + 1, 9, none⟩ = some d') := ⟨rec_cells (HA3.out.below hb4 HA3.out.lt), rec_cells (HB3.out.below hb4 HB3.out.lt)⟩
           have HA4 := Lib.hid (HA3.out.below hb4 HA3.out.lt)
           have HB4 := Lib.hid (HB3.out.below hb4 HB3.out.lt)
           have HD4 := Lib.hid (HD3.out.below hb4 rfl)
           have HE4 := Lib.hid (HE3.out.below hb4 rfl)
           have HW4 := Lib.hid (HW3.out.trans (hb4.mono HW3.out.size))
           clear hb4)
        | (go_at_call 18
           (with_reducible refine (HS4.out _ HE4.out).mono ?_)
           rintro e w5 ⟨rfl, hb5⟩
           have hs5 : (w5.cell? ⟨w.heap.size, 0, none⟩ = some (.int .i64 r.kind) ∧ w5.cell? ⟨w.heap.size, 1, none⟩ = some (.int .i64 r.cart) ∧ w5.cell? ⟨w.heap.size, 2, none⟩ = some (.string (S r.key)) ∧ w5.cell? ⟨w.heap.size, 3, none⟩ = some (.int .i64 r.gen) ∧ w5.cell? ⟨w.heap.size, 4, none⟩ = some (.int .i64 r.group) ∧ w5.cell? ⟨w.heap.size, 5, none⟩ = some (.int .i64 r.groups) ∧ w5.cell? ⟨w.heap.size, 6, none⟩ = some (.int .i64 r.index) ∧ w5.cell? ⟨w.heap.size, 7, none⟩ = some (.int .i64 r.size) ∧ w5.cell? ⟨w.heap.size, 8, none⟩ = some (.string (S r.sum)) ∧ w5.cell? ⟨w.heap.size, 9, none⟩ = some d) ∧ (w5.cell? ⟨w.heap.size + 1, 0, none⟩ = some (.int .i64 r'.kind) ∧ w5.cell? ⟨w.heap.size + 1, 1, none⟩ = some (.int .i64 r'.cart) ∧ w5.cell? ⟨w.heap.size + 1, 2, none⟩ = some (.string (S r'.key)) ∧ w5.cell? ⟨w.heap.size + 1, 3, none⟩ = some (.int .i64 r'.gen) ∧ w5.cell? ⟨w.heap.size + 1, 4, none⟩ = some (.int .i64 r'.group) ∧ w5.cell? ⟨w.heap.size + 1, 5, none⟩ = some (.int .i64 r'.groups) ∧ w5.cell? ⟨w.heap.size + 1, 6, none⟩ = some (.int .i64 r'.index) ∧ w5.cell? ⟨w.heap.size + 1, 7, none⟩ = some (.int .i64 r'.size) ∧ w5.cell? ⟨w.heap.size + 1, 8, none⟩ = some (.string (S r'.sum)) ∧ w5.cell? ⟨w.heap.size + 1, 9, none⟩ = some d') := ⟨rec_cells (HA4.out.below hb5 HA4.out.lt), rec_cells (HB4.out.below hb5 HB4.out.lt)⟩
           have HA5 := Lib.hid (HA4.out.below hb5 HA4.out.lt)
           have HB5 := Lib.hid (HB4.out.below hb5 HB4.out.lt)
           have HD5 := Lib.hid (HD4.out.below hb5 rfl)
           have HE5 := Lib.hid (HE4.out.below hb5 rfl)
           have HW5 := Lib.hid (HW4.out.trans (hb5.mono HW4.out.size))
           clear hb5))
  go_wp2
  go_ret
  exact ⟨rfl, HW5.out⟩
end Go.Proofs.Ytlmfjohaejdmcaa
