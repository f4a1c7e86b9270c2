/-
  kistlaw09.LabelEncodes: its walk.
-/
import Derived.Test.YtlmfjohaejdmcaaLabRefEncode
import Derived.Test.YtlmfjohaejdmcaaLabArg
namespace Go.Proofs.Ytlmfjohaejdmcaa
open Go.RowKit
set_option linter.unusedVariables false
set_option linter.unusedSimpArgs false

set_option maxRecDepth 100000 in
set_option maxHeartbeats 4000000 in
theorem labelEncodes_walk (r : Rc) (d : Value) (w : World) (hr : Rec w d r) :
    Calls Try.prog 3 #[recV r d] w fun e w' => e = .returned (.bool true) ∧ Below w.heap.size w w' := by
  have HEx : ∃ (l : List UInt8) (z : Int), Hid ((∀ wx, Rec wx d r → Calls Try.prog 10 #[recV r d] wx fun e w' => ∃ v, e = .returned (.tuple #[v, .int .i64 z]) ∧ RB w' v l ∧ Below wx.heap.size wx w') ∧ (∀ wx, Rec wx d r → Calls Try.prog 11 #[recV r d] wx fun e w' => ∃ v, e = .returned (.tuple #[v, .int .i64 z]) ∧ RB w' v l ∧ Below wx.heap.size wx w')) := by
    by_cases hg : Lab.Good r
    · refine ⟨Lab.code r, 0, fun wx hx => (encode_yes r d wx hx hg).mono ?_, fun wx hx => (rencode_yes r d wx hx hg).mono ?_⟩
      · rintro e w' ⟨v, h1, h2, h3⟩
        exact ⟨v, h1, RB.own h2, h3⟩
      · rintro e w' ⟨v, h1, h2, h3⟩
        exact ⟨v, h1, RB.own h2, h3⟩
    · refine ⟨[], 12, fun wx hx => (encode_no r d wx hx hg).mono ?_, fun wx hx => (rencode_no r d wx hx hg).mono ?_⟩
      · rintro e w' ⟨h1, h2⟩
        exact ⟨_, h1, RB.nil _, h2⟩
      · rintro e w' ⟨h1, h2⟩
        exact ⟨_, h1, RB.nil _, h2⟩
  obtain ⟨l, z, HEE⟩ := HEx
  have HE1 := Lib.hid HEE.out.1
  have HE2 := Lib.hid HEE.out.2
  clear HEE
  obtain ⟨E, HE⟩ := hid_of (S l)
  obtain ⟨b, Hb⟩ := hid_of (Lab.goodB r)
  have HG1 : Hid (∀ wx, Rec wx d r → Calls Try.prog 13 #[recV r d] wx fun e w' => e = .returned (.bool b) ∧ Below wx.heap.size wx w') := fun wx hx => Good_rec r d b wx hx Hb.out
  have HG2 : Hid (∀ wx, Rec wx d r → Calls Try.prog 14 #[recV r d] wx fun e w' => e = .returned (.bool b) ∧ Below wx.heap.size wx w') := fun wx hx => rgood_rec r d b wx hx Hb.out
  have HP0 : Hid (Blk (w.alloc (.cells #[.int .i64 r.kind, .int .i64 r.cart, .string (S r.key), .int .i64 r.gen, .int .i64 r.group, .int .i64 r.groups, .int .i64 r.index, .int .i64 r.size, .string (S r.sum), d] 24)) w.heap.size (recC r d).toList 24) := Blk.new w _ _ rfl
  have HR0 := Lib.hid (hr.one (.cells #[.int .i64 r.kind, .int .i64 r.cart, .string (S r.key), .int .i64 r.gen, .int .i64 r.group, .int .i64 r.groups, .int .i64 r.index, .int .i64 r.size, .string (S r.sum), d] 24))
  have HB0 : Hid (Below w.heap.size w (w.alloc (.cells #[.int .i64 r.kind, .int .i64 r.cart, .string (S r.key), .int .i64 r.gen, .int .i64 r.group, .int .i64 r.groups, .int .i64 r.index, .int .i64 r.size, .string (S r.sum), d] 24))) := (Below.refl _ _).alloc (Nat.le_refl _) _
  clear hr Hb
  unfold recV at HE1 HE2 HG1 HG2 ⊢
  go_enter Try.func3, Try.ntmps3
  go_wp2_with fail
  refine (HE1.out _ HR0.out).mono ?_
  rintro e w1 ⟨v1, rfl, hr1, hb1⟩
  have HV1 := Lib.hid hr1
  have hp1 := HP0.out.below hb1 HP0.out.lt
  have HP1 := Lib.hid hp1
  have HR1 := Lib.hid (HR0.out.below hb1 rfl)
  have HB1 := Lib.hid (HB0.out.trans (hb1.mono HB0.out.size))
  obtain ⟨q0, q1, q2, q3, q4, q5, q6, q7, q8, q9⟩ := rec_cells hp1
  clear hr1 hb1 hp1 HP0 HR0 HB0
  go_wp2_with fail
  refine (HE2.out _ HR1.out).mono ?_
  rintro e w2 ⟨v2, rfl, hr2, hb2⟩
  have HV2 := Lib.hid hr2
  have HV1b := Lib.hid (HV1.out.below hb2 rfl)
  have HP2 := Lib.hid (HP1.out.below hb2 HP1.out.lt)
  have HR2 := Lib.hid (HR1.out.below hb2 rfl)
  have HB2 := Lib.hid (HB1.out.trans (hb2.mono HB1.out.size))
  clear hr2 hb2 HP1 HR1 HB1 q0 q1 q2 q3 q4 q5 q6 q7 q8 q9 HV1
  have HS : Hid (∀ wx, Below w2.heap.size w2 wx → (wx.cell? ⟨w.heap.size, 0, none⟩ = some (.int .i64 r.kind) ∧ wx.cell? ⟨w.heap.size, 1, none⟩ = some (.int .i64 r.cart) ∧ wx.cell? ⟨w.heap.size, 2, none⟩ = some (.string (S r.key)) ∧ wx.cell? ⟨w.heap.size, 3, none⟩ = some (.int .i64 r.gen) ∧ wx.cell? ⟨w.heap.size, 4, none⟩ = some (.int .i64 r.group) ∧ wx.cell? ⟨w.heap.size, 5, none⟩ = some (.int .i64 r.groups) ∧ wx.cell? ⟨w.heap.size, 6, none⟩ = some (.int .i64 r.index) ∧ wx.cell? ⟨w.heap.size, 7, none⟩ = some (.int .i64 r.size) ∧ wx.cell? ⟨w.heap.size, 8, none⟩ = some (.string (S r.sum)) ∧ wx.cell? ⟨w.heap.size, 9, none⟩ = some (d) ∧ (convert 22 9 v1).run Try.prog wx = .ok (.string E) wx ∧ (convert 22 9 v2).run Try.prog wx = .ok (.string E) wx)) := fun wx hx => by
    have hp := HP2.out.below hx HP2.out.lt
    have h1 := run_convert_S (P := Try.prog) (HV1b.out.below hx rfl) 22 9 5 Try.underlying22 Try.underlying5 Try.underlying9
    have h2 := run_convert_S (P := Try.prog) (HV2.out.below hx rfl) 22 9 5 Try.underlying22 Try.underlying5 Try.underlying9
    rw [HE.out] at h1 h2
    obtain ⟨q0, q1, q2, q3, q4, q5, q6, q7, q8, q9⟩ := rec_cells hp
    exact ⟨q0, q1, q2, q3, q4, q5, q6, q7, q8, q9, h1, h2⟩
  have hs0 := HS.out w2.drew ((Below.refl _ _).drew)
  have HQ0 : Hid (Below w2.heap.size w2 w2.drew) := (Below.refl _ _).drew
  go_wp2_with fail
  go_region_held (fun wx => (wx.cell? ⟨w.heap.size, 0, none⟩ = some (.int .i64 r.kind) ∧ wx.cell? ⟨w.heap.size, 1, none⟩ = some (.int .i64 r.cart) ∧ wx.cell? ⟨w.heap.size, 2, none⟩ = some (.string (S r.key)) ∧ wx.cell? ⟨w.heap.size, 3, none⟩ = some (.int .i64 r.gen) ∧ wx.cell? ⟨w.heap.size, 4, none⟩ = some (.int .i64 r.group) ∧ wx.cell? ⟨w.heap.size, 5, none⟩ = some (.int .i64 r.groups) ∧ wx.cell? ⟨w.heap.size, 6, none⟩ = some (.int .i64 r.index) ∧ wx.cell? ⟨w.heap.size, 7, none⟩ = some (.int .i64 r.size) ∧ wx.cell? ⟨w.heap.size, 8, none⟩ = some (.string (S r.sum)) ∧ wx.cell? ⟨w.heap.size, 9, none⟩ = some (d) ∧ (convert 22 9 v1).run Try.prog wx = .ok (.string E) wx ∧ (convert 22 9 v2).run Try.prog wx = .ok (.string E) wx))
    (first | exact hs0 | exact hs1 | exact hs2 | exact hs3)
    (first
    | (go_at_call 12
       refine (awake9_any _).mono ?_
       rintro e w3 ⟨rfl, hb3⟩
       have HQ1 := Lib.hid (HQ0.out.trans hb3)
       have hs1 := HS.out _ HQ1.out
       have HR3 := Lib.hid (HR2.out.below HQ1.out rfl)
       clear hb3)
    | (go_at_call 13
       (with_reducible refine (HG1.out _ HR3.out).mono ?_)
       rintro e w4 ⟨rfl, hb4⟩
       have HQ2 := Lib.hid (HQ1.out.trans (hb4.mono HQ1.out.size))
       have hs2 := HS.out _ HQ2.out
       have HR4 := Lib.hid (HR2.out.below HQ2.out rfl)
       clear hb4)
    | (go_at_call 14
       (with_reducible refine (HG2.out _ HR4.out).mono ?_)
       rintro e w5 ⟨rfl, hb5⟩
       have HQ3 := Lib.hid (HQ2.out.trans (hb5.mono HQ2.out.size))
       have hs3 := HS.out _ HQ3.out
       clear hb5))
  clear hs0 hs1 hs2 hs3
  go_wp2
  go_ret
  exact ⟨rfl, HB2.out.trans (HQ3.out.mono HB2.out.size)⟩
end Go.Proofs.Ytlmfjohaejdmcaa
