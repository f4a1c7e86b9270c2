/-
  kistlaw18.BlobRecords: its walk.
-/
import Derived.Test.YtmjhfgnonafknaaBlobUse
import Derived.Deep.RegionHeld
namespace Go.Proofs.Ytmjhfgnonafknaa
open Go.RowKit
set_option linter.unusedVariables false
set_option linter.unusedSimpArgs false

set_option maxRecDepth 100000 in
set_option maxHeartbeats 4000000 in
theorem blobRecords_core (key : List UInt8) (gen : Int) (v : Value) (l : List UInt8) (w : World) (hk : key.length ≤ 140737488351232) (h : RB w v l) (hl : l.length ≤ 140737488351232) :
    Calls Try.prog 5 #[.string (S key), .int .i64 gen, v] w fun e w' => e = .returned (.bool true) ∧ Below w.heap.size w w' := by
  have HSh : Hid (Calls Try.prog 8 #[v, .int .i64 520] w fun e w' => ∃ d, e = .returned d ∧ RB w' d (l.take 520) ∧ Below w.heap.size w w') := (short_any v l 520 w h (by omega)).mono fun e w' ⟨d, h1, h2, h3⟩ => ⟨d, h1, RB.own h2, h3⟩
  have hdl : (l.take 520).length ≤ 100000 := by rw [List.length_take]; omega
  obtain ⟨L, HL⟩ := hid_of (l.take 520)
  rw [HL.out] at HSh hdl
  have HR1 : Hid (∀ wx d, RB wx d L → Calls Try.prog 17 #[.string (S key), .int .i64 gen, d] wx fun e w' =>
      ((Blob.RecOk key gen L ∧ ∃ a c, e = .returned (.tuple #[.slice a (10 * Blob.gN L.length) c, .int .i64 0]) ∧ RR w' (.slice a (10 * Blob.gN L.length) c) (Blob.recs key gen L (10 * Blob.gN L.length))) ∨
       (¬ Blob.RecOk key gen L ∧ e = .returned (.tuple #[.slice none 0 0, .int .i64 12]))) ∧ Below wx.heap.size wx w') := fun wx d hx => records_any key gen d L wx hx hdl (by simp only [maxLen]; omega)
  have HR2 : Hid (∀ wx d, RB wx d L → Calls Try.prog 18 #[.string (S key), .int .i64 gen, d] wx fun e w' =>
      ((Blob.RecOk key gen L ∧ ∃ a c, e = .returned (.tuple #[.slice a (10 * Blob.gN L.length) c, .int .i64 0]) ∧ RR w' (.slice a (10 * Blob.gN L.length) c) (Blob.recs key gen L (10 * Blob.gN L.length))) ∨
       (¬ Blob.RecOk key gen L ∧ e = .returned (.tuple #[.slice none 0 0, .int .i64 12]))) ∧ Below wx.heap.size wx w') := fun wx d hx => refRecords_any key gen d L wx hx hdl (by simp only [maxLen]; omega)
  have hn := Blob.gN_le L.length
  clear h hl hdl hk
  go_enter Try.func5, Try.ntmps5
  go_wp2_with fail
  refine HSh.out.mono ?_
  rintro e w1 ⟨d, rfl, hr1, hb1⟩
  have HD1 := Lib.hid hr1
  have HB1 := Lib.hid hb1
  clear hr1 hb1
  go_wp2_with fail
  refine (HR1.out _ _ HD1.out).mono ?_
  rintro e w2 ⟨hx, hb2⟩
  have HD2 := Lib.hid (HD1.out.below hb2 rfl)
  have HB2 := Lib.hid (HB1.out.trans (hb2.mono HB1.out.size))
  clear hb2
  rcases hx with ⟨hok, a1, c1, rfl, hr1⟩ | ⟨hno, rfl⟩
  case inr =>
    go_wp2_with fail
    refine (HR2.out _ _ HD2.out).mono ?_
    rintro e w3 ⟨hx, hb3⟩
    rcases hx with ⟨hok, -⟩ | ⟨-, rfl⟩
    · exact absurd hok hno
    have HB3 := Lib.hid (HB2.out.trans (hb3.mono HB2.out.size))
    clear hb3 hno
    go_wp2
    go_loopw [12] (fun x wr => x = .int .i64 0 ∧ wr = w3) (fun _ _ => 0)
    case atStart => exact ⟨rfl, rfl⟩
    case round =>
      obtain ⟨rfl, rfl⟩ := hrel
      go_wp2_with fail
      refine (awake18_any _).mono ?_
      rintro e w4 ⟨rfl, hb4⟩
      have HB4 := Lib.hid (HB3.out.trans (hb4.mono HB3.out.size))
      clear hb4
      go_wp2
      go_ret
      exact ⟨rfl, HB4.out⟩
  case inl =>
    go_wp2_with fail
    refine (HR2.out _ _ HD2.out).mono ?_
    rintro e w3 ⟨hx, hb3⟩
    rcases hx with ⟨-, a2, c2, rfl, hr2⟩ | ⟨hno, -⟩
    case inr => exact absurd hok hno
    have HB3 := Lib.hid (HB2.out.trans (hb3.mono HB2.out.size))
    have HA := Lib.hid (hr1.below hb3 rfl)
    have HC := Lib.hid hr2
    clear hb3 hr1 hr2 hok HR1 HR2 HD1 HB1 HD2
    obtain ⟨m, Hm⟩ := hid_of (10 * Blob.gN L.length)
    have hm : m ≤ 40 := by rw [← Hm.out]; omega
    rw [Hm.out] at HA HC ⊢
    have HL : Hid ((Blob.recs key gen L m).length = m) := Blob.recs_length key gen L m
    obtain ⟨R, HRn⟩ := hid_of (Blob.recs key gen L m)
    rw [HRn.out] at HA HC HL
    go_wp2
    go_loopw [12] (fun x wr => ∃ i : Nat, i ≤ m ∧ x = .int .i64 (i : Int) ∧ Below w3.heap.size w3 wr) (fun x _ => m - (intOf x).toNat)
    case atStart => exact ⟨0, by omega, rfl, Below.refl _ _⟩
    case round =>
      obtain ⟨i, hi, rfl, hbe⟩ := hrel
      have HBe := Lib.hid hbe
      clear hbe
      by_cases hlt : i < m
      · have hin : (i : Int) < (m : Int) := by omega
        obtain ⟨g1, d1, rfl, hg1, hd1, hc1⟩ := HA.out.rec (i := i) (by rw [HL.out]; exact hlt)
        obtain ⟨g2, d2, rfl, hg2, hd2, hc2⟩ := HC.out.rec (i := i) (by rw [HL.out]; exact hlt)
        obtain ⟨r, Hr⟩ := hid_of (R.getD i Rc.zero)
        rw [Hr.out] at hd1 hc1 hd2 hc2
        have HX1 : Hid (∀ wx, Below w3.heap.size w3 wx → ∀ j, j < 10 → wx.cell? ⟨g1, i * 10 + j, none⟩ = (recC r d1).toList[j]?) := fun wx hx j hj => (hx.cell (p := ⟨g1, i * 10 + j, none⟩) hg1).trans (hc1 j hj)
        have HX2 : Hid (∀ wx, Below w3.heap.size w3 wx → ∀ j, j < 10 → wx.cell? ⟨g2, i * 10 + j, none⟩ = (recC r d2).toList[j]?) := fun wx hx j hj => (hx.cell (p := ⟨g2, i * 10 + j, none⟩) hg2).trans (hc2 j hj)
        have HD1 := Lib.hid hd1
        have HD2 := Lib.hid hd2
        go_wp2_with fail
        have HS : Hid (∀ wx, Below wr.heap.size wr wx → (wx.cell? ⟨g1, i * 10, none⟩ = some (.int .i64 r.kind) ∧ wx.cell? ⟨g1, i * 10 + 1, none⟩ = some (.int .i64 r.cart) ∧ wx.cell? ⟨g1, i * 10 + 2, none⟩ = some (.string (S r.key)) ∧ wx.cell? ⟨g1, i * 10 + 3, none⟩ = some (.int .i64 r.gen) ∧ wx.cell? ⟨g1, i * 10 + 4, none⟩ = some (.int .i64 r.group) ∧ wx.cell? ⟨g1, i * 10 + 5, none⟩ = some (.int .i64 r.groups) ∧ wx.cell? ⟨g1, i * 10 + 6, none⟩ = some (.int .i64 r.index) ∧ wx.cell? ⟨g1, i * 10 + 7, none⟩ = some (.int .i64 r.size) ∧ wx.cell? ⟨g1, i * 10 + 8, none⟩ = some (.string (S r.sum)) ∧ wx.cell? ⟨g1, i * 10 + 9, none⟩ = some d1 ∧ wx.cell? ⟨g2, i * 10, none⟩ = some (.int .i64 r.kind) ∧ wx.cell? ⟨g2, i * 10 + 1, none⟩ = some (.int .i64 r.cart) ∧ wx.cell? ⟨g2, i * 10 + 2, none⟩ = some (.string (S r.key)) ∧ wx.cell? ⟨g2, i * 10 + 3, none⟩ = some (.int .i64 r.gen) ∧ wx.cell? ⟨g2, i * 10 + 4, none⟩ = some (.int .i64 r.group) ∧ wx.cell? ⟨g2, i * 10 + 5, none⟩ = some (.int .i64 r.groups) ∧ wx.cell? ⟨g2, i * 10 + 6, none⟩ = some (.int .i64 r.index) ∧ wx.cell? ⟨g2, i * 10 + 7, none⟩ = some (.int .i64 r.size) ∧ wx.cell? ⟨g2, i * 10 + 8, none⟩ = some (.string (S r.sum)) ∧ wx.cell? ⟨g2, i * 10 + 9, none⟩ = some d2)) := fun wx hx => by
          have hb := HBe.out.trans (hx.mono HBe.out.size)
          obtain ⟨q0, q1, q2, q3, q4, q5, q6, q7, q8, q9⟩ := rec_at (HX1.out wx hb)
          obtain ⟨p0, p1, p2, p3, p4, p5, p6, p7, p8, p9⟩ := rec_at (HX2.out wx hb)
          exact ⟨q0, q1, q2, q3, q4, q5, q6, q7, q8, q9, p0, p1, p2, p3, p4, p5, p6, p7, p8, p9⟩
        have hs0 := HS.out wr.drew ((Below.refl _ _).drew)
        have HV : Hid (∀ wx, Below wr.heap.size wr wx → Calls Try.prog 19 #[recV r d1, recV r d2] wx fun e w' => e = .returned (.bool true) ∧ Below wx.heap.size wx w') := fun wx hx => by
          have hb := HBe.out.trans (hx.mono HBe.out.size)
          have := refSame_any r r d1 d2 wx (HD1.out.below hb rfl) (HD2.out.below hb rfl)
          rw [decide_eq_true rfl] at this
          exact this
        unfold recV at HV
        clear hc1 hc2 hd1 hd2
        go_region_held (fun wx => (wx.cell? ⟨g1, i * 10, none⟩ = some (.int .i64 r.kind) ∧ wx.cell? ⟨g1, i * 10 + 1, none⟩ = some (.int .i64 r.cart) ∧ wx.cell? ⟨g1, i * 10 + 2, none⟩ = some (.string (S r.key)) ∧ wx.cell? ⟨g1, i * 10 + 3, none⟩ = some (.int .i64 r.gen) ∧ wx.cell? ⟨g1, i * 10 + 4, none⟩ = some (.int .i64 r.group) ∧ wx.cell? ⟨g1, i * 10 + 5, none⟩ = some (.int .i64 r.groups) ∧ wx.cell? ⟨g1, i * 10 + 6, none⟩ = some (.int .i64 r.index) ∧ wx.cell? ⟨g1, i * 10 + 7, none⟩ = some (.int .i64 r.size) ∧ wx.cell? ⟨g1, i * 10 + 8, none⟩ = some (.string (S r.sum)) ∧ wx.cell? ⟨g1, i * 10 + 9, none⟩ = some d1 ∧ wx.cell? ⟨g2, i * 10, none⟩ = some (.int .i64 r.kind) ∧ wx.cell? ⟨g2, i * 10 + 1, none⟩ = some (.int .i64 r.cart) ∧ wx.cell? ⟨g2, i * 10 + 2, none⟩ = some (.string (S r.key)) ∧ wx.cell? ⟨g2, i * 10 + 3, none⟩ = some (.int .i64 r.gen) ∧ wx.cell? ⟨g2, i * 10 + 4, none⟩ = some (.int .i64 r.group) ∧ wx.cell? ⟨g2, i * 10 + 5, none⟩ = some (.int .i64 r.groups) ∧ wx.cell? ⟨g2, i * 10 + 6, none⟩ = some (.int .i64 r.index) ∧ wx.cell? ⟨g2, i * 10 + 7, none⟩ = some (.int .i64 r.size) ∧ wx.cell? ⟨g2, i * 10 + 8, none⟩ = some (.string (S r.sum)) ∧ wx.cell? ⟨g2, i * 10 + 9, none⟩ = some d2))
          (first | exact hs0 | exact hs1)
          (first
          | (go_at_call 19
             refine (HV.out _ ?_).mono ?_
             · exact (Below.refl _ _).drew
             rintro e w5 ⟨rfl, hb5⟩
             have HQ1 := Lib.hid (((Below.refl wr.heap.size wr).drew).trans hb5)
             have hs1 := HS.out _ HQ1.out
             clear hb5))
        all_goals
          clear hs0 hs1
          have HB5 := Lib.hid (HBe.out.trans (HQ1.out.mono HBe.out.size))
          go_wp2
          go_roundw
          case rel => exact ⟨i + 1, by omega, by go_num, HB5.out⟩
          case measure => simp [intOf]; omega
      · obtain rfl : i = m := by omega
        go_wp2_with fail
        refine (awake18_any _).mono ?_
        rintro e w4 ⟨rfl, hb4⟩
        have HB4 := Lib.hid ((HB3.out.trans (HBe.out.mono HB3.out.size)).trans (hb4.mono (HB3.out.trans (HBe.out.mono HB3.out.size)).size))
        clear hb4
        go_wp2
        go_ret
        exact ⟨rfl, HB4.out⟩
theorem blobRecords_walk (key : ByteArray) (gen : Int) (v : Value) (l : List UInt8) (w : World) (hk : key.size ≤ 140737488351232) (hs : (Lit.int .i64 gen).wf = true) (h : RB w v l) (hl : l.length ≤ 140737488351232) :
    Calls Try.prog 5 #[.string key, .int .i64 gen, v] w fun e w' => e = .returned (.bool true) ∧ Below w.heap.size w w' := by
  rw [S_of key]
  exact blobRecords_core key.data.toList gen v l w (by rw [Array.length_toList]; exact hk) h hl
end Go.Proofs.Ytmjhfgnonafknaa
