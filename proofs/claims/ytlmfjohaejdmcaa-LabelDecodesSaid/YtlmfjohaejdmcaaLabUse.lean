/-
  What the laws of layer 9 use: Decode by cases; kistlaw09.awake.
-/
import Derived.Test.YtlmfjohaejdmcaaLabDec
import Derived.Test.YtlmfjohaejdmcaaLabSame
namespace Go.Proofs.Ytlmfjohaejdmcaa
open Go.RowKit
set_option linter.unusedVariables false
set_option linter.unusedSimpArgs false

theorem dec_yes (v : Value) (r : Rc) (b : List UInt8) (w : World) (h : RB w v b) (hg : Lab.Good r) (hb : Lab.code r = b) :
    Calls Try.prog 15 #[v] w fun e w' => ∃ a c, e = .returned (.tuple #[recV r (.slice a r.data.length c), .int .i64 0]) ∧ Rec w' (.slice a r.data.length c) r ∧ (∀ k, (Value.slice a r.data.length c).ownBlock = some k → w.heap.size ≤ k) ∧ Below w.heap.size w w' := by
  subst hb
  have hf := Lab.found_code hg
  refine (decode_any v (Lab.code r) w h).mono ?_
  rintro e w' ⟨hd | hd, hb⟩
  · obtain ⟨_, d, he, hr, hfr⟩ := hd
    rw [hf.2] at he hr
    obtain ⟨a, c, rfl, _, _⟩ := hr.shape
    have hk : r.key.length ≤ 16 ∧ r.sum.length ≤ 32 := by
      rcases hg with ⟨_, _, h1, _, h2⟩ | ⟨_, _, h1, _, h2⟩ | ⟨_, _, h1, _, h2⟩
      · rw [h1, h2.2.2.2.2.1]; simp
      · exact ⟨h1.2, by rw [h2.2.2.2.2.1]; simp⟩
      · exact ⟨h1.2, by rw [h2.2.2.2.2.1]; omega⟩
    exact ⟨a, c, he, ⟨hr, by simp only [maxLen]; omega, by simp only [maxLen]; omega⟩, hfr, hb⟩
  · exact absurd hf.1 hd.1
theorem dec_no (v : Value) (b : List UInt8) (w : World) (h : RB w v b) (hn : ∀ r, Lab.Good r → Lab.code r ≠ b) :
    Calls Try.prog 15 #[v] w fun e w' => e = .returned (.tuple #[recV Rc.zero (.slice none 0 0), .int .i64 12]) ∧ Below w.heap.size w w' := by
  refine (decode_any v b w h).mono ?_
  rintro e w' ⟨hd | hd, hb⟩
  · exact absurd hd.1 (Lab.not_found hn)
  · exact ⟨hd.2, hb⟩
theorem zero_rec (w : World) : Rec w (.slice none 0 0) Rc.zero := ⟨RB.nil w, by simp [Rc.zero], by simp [Rc.zero]⟩
/-- the same behind one more block -/
theorem rec_cells_o {w : World} {p : Nat} {r : Rc} {d : Value} {t : TypeId} (h : Blk w p (recC r d).toList t) :
    (∀ o, (w.alloc o).cell? ⟨p, 0, none⟩ = some (.int .i64 r.kind)) ∧ (∀ o, (w.alloc o).cell? ⟨p, 1, none⟩ = some (.int .i64 r.cart)) ∧ (∀ o, (w.alloc o).cell? ⟨p, 2, none⟩ = some (.string (S r.key))) ∧ (∀ o, (w.alloc o).cell? ⟨p, 3, none⟩ = some (.int .i64 r.gen)) ∧ (∀ o, (w.alloc o).cell? ⟨p, 4, none⟩ = some (.int .i64 r.group)) ∧
    (∀ o, (w.alloc o).cell? ⟨p, 5, none⟩ = some (.int .i64 r.groups)) ∧ (∀ o, (w.alloc o).cell? ⟨p, 6, none⟩ = some (.int .i64 r.index)) ∧ (∀ o, (w.alloc o).cell? ⟨p, 7, none⟩ = some (.int .i64 r.size)) ∧ (∀ o, (w.alloc o).cell? ⟨p, 8, none⟩ = some (.string (S r.sum))) ∧ (∀ o, (w.alloc o).cell? ⟨p, 9, none⟩ = some d) :=
  ⟨fun o => (rec_cells (h.alloc o)).1, fun o => (rec_cells (h.alloc o)).2.1, fun o => (rec_cells (h.alloc o)).2.2.1, fun o => (rec_cells (h.alloc o)).2.2.2.1, fun o => (rec_cells (h.alloc o)).2.2.2.2.1, fun o => (rec_cells (h.alloc o)).2.2.2.2.2.1, fun o => (rec_cells (h.alloc o)).2.2.2.2.2.2.1, fun o => (rec_cells (h.alloc o)).2.2.2.2.2.2.2.1, fun o => (rec_cells (h.alloc o)).2.2.2.2.2.2.2.2.1, fun o => (rec_cells (h.alloc o)).2.2.2.2.2.2.2.2.2⟩
theorem RB.one {w : World} {d : Value} {l : List UInt8} (h : RB w d l) (o : Obj) : RB (w.alloc o) d l := h.below (w' := w.alloc o) ((Below.refl _ _).alloc (Nat.le_refl _) _) rfl
theorem Rec.one {w : World} {d : Value} {r : Rc} (h : Rec w d r) (o : Obj) : Rec (w.alloc o) d r := ⟨h.1.one o, h.2⟩
def rec1 : Rc := { Rc.zero with kind := 1, cart := 5 }
def rec2 : Rc := { Rc.zero with kind := 1, cart := 32 }
def rec3 : Rc := { Rc.zero with kind := 3, key := [97], gen := 300 }
theorem rec1_good : Lab.Good rec1 := by decide
theorem rec2_bad : ¬ Lab.Good rec2 := by decide
theorem rec3_good : Lab.Good rec3 := by decide
theorem rec3_zero : decide (rec3 = Rc.zero) = false := by decide
theorem rec1_code : (Lab.code rec1).length = 7 ∧ (Lab.code rec1).getD 0 0 = 107 ∧ (Lab.code rec1).getD 1 0 = 1 ∧ (Lab.code rec1).getD 2 0 = 5 := by
  have e : Lab.code rec1 = 107 :: 1 :: 5 :: Sum.ends (Sum.crc (Lab.body rec1)) := by
    show (107 :: 1 :: Lab.rest rec1) ++ Sum.ends (Sum.crc (Lab.body rec1)) = _
    rw [show Lab.rest rec1 = [5] from by unfold Lab.rest; rw [if_pos (show rec1.kind = 1 from rfl)]; exact Word.enc_low (by decide)]
    rfl
  rw [e]
  exact ⟨rfl, rfl, rfl, rfl⟩
set_option maxRecDepth 100000 in
set_option maxHeartbeats 4000000 in
theorem awake9_any (w : World) : Calls Try.prog 12 #[] w fun e w' => e = .returned (.bool true) ∧ Below w.heap.size w w' := by
  have H1 : Hid (∀ wx, Calls Try.prog 10 #[recV rec1 (.slice none 0 0)] wx fun e w' => ∃ a c, e = .returned (.tuple #[.slice a 7 c, .int .i64 0]) ∧ RB w' (.slice a 7 c) (Lab.code rec1) ∧ Below wx.heap.size wx w') := fun wx => (encode_yes rec1 (.slice none 0 0) wx ⟨RB.nil _, by simp [rec1, Rc.zero, maxLen], by simp [rec1, Rc.zero, maxLen]⟩ rec1_good).mono fun e w' ⟨v, h1, h2, h3⟩ => by
    have hr := RB.own h2
    obtain ⟨a, c, rfl, _, _⟩ := hr.shape
    rw [rec1_code.1] at h1 hr
    exact ⟨a, c, h1, hr, h3⟩
  have H2 : Hid (∀ wx, Calls Try.prog 10 #[recV rec2 (.slice none 0 0)] wx fun e w' => e = .returned (.tuple #[.slice none 0 0, .int .i64 12]) ∧ Below wx.heap.size wx w') := fun wx => encode_no rec2 _ wx ⟨RB.nil _, by simp [rec2, Rc.zero, maxLen], by simp [rec2, Rc.zero, maxLen]⟩ rec2_bad
  have H3 : Hid (∀ wx, Calls Try.prog 10 #[recV rec3 (.slice none 0 0)] wx fun e w' => ∃ v, e = .returned (.tuple #[v, .int .i64 0]) ∧ RB w' v (Lab.code rec3) ∧ Below wx.heap.size wx w') := fun wx => (encode_yes rec3 (.slice none 0 0) wx ⟨RB.nil _, by simp [rec3, Rc.zero, maxLen], by simp [rec3, Rc.zero, maxLen]⟩ rec3_good).mono fun e w' ⟨v, h1, h2, h3⟩ => ⟨v, h1, RB.own h2, h3⟩
  have H4 : Hid (∀ wx v, RB wx v (Lab.code rec3) → Calls Try.prog 15 #[v] wx fun e w' => ∃ a c, e = .returned (.tuple #[recV rec3 (.slice a 0 c), .int .i64 0]) ∧ RB w' (.slice a 0 c) [] ∧ Below wx.heap.size wx w') := fun wx v hx => (dec_yes v rec3 _ wx hx rec3_good rfl).mono fun e w' ⟨a, c, h1, h2, _, h3⟩ => ⟨a, c, h1, h2.1, h3⟩
  have H5 : Hid (∀ wx a c, RB wx (.slice a 0 c) [] → Calls Try.prog 18 #[recV rec3 (.slice a 0 c), recV rec3 (.slice none 0 0)] wx fun e w' => e = .returned (.bool true) ∧ Below wx.heap.size wx w') := fun wx a c hx => by
    have := same_any rec3 rec3 (.slice a 0 c) (.slice none 0 0) wx hx (RB.nil wx)
    rw [show decide (rec3 = rec3) = true from decide_eq_true rfl] at this
    exact this
  have H6 : Hid (∀ wx a c, RB wx (.slice a 0 c) [] → Calls Try.prog 18 #[recV rec3 (.slice a 0 c), recV Rc.zero (.slice none 0 0)] wx fun e w' => e = .returned (.bool false) ∧ Below wx.heap.size wx w') := fun wx a c hx => by
    have := same_any rec3 Rc.zero (.slice a 0 c) (.slice none 0 0) wx hx (RB.nil wx)
    rw [rec3_zero] at this
    exact this
  have H7 : Hid (∀ wx, Calls Try.prog 13 #[recV rec3 (.slice none 0 0)] wx fun e w' => e = .returned (.bool true) ∧ Below wx.heap.size wx w') := fun wx => Good_rec rec3 _ true wx ⟨RB.nil _, by simp [rec3, Rc.zero, maxLen], by simp [rec3, Rc.zero, maxLen]⟩ (Lab.goodB_yes rec3_good)
  have HC1 := Lib.hid rec1_code
  obtain ⟨L1, HL1⟩ := hid_of (Lab.code rec1)
  obtain ⟨L3, HL3⟩ := hid_of (Lab.code rec3)
  rw [HL1.out] at H1 HC1
  rw [HL3.out] at H3 H4
  unfold recV at H1 H2 H3 H4 H5 H6 H7
  simp only [rec1, rec2, rec3, Rc.zero] at H1 H2 H3 H4 H5 H6 H7
  go_enter Try.func12, Try.ntmps12
  go_wp2_with fail
  refine (H1.out _).mono ?_
  rintro e w1 ⟨a1, c1, rfl, hr1, hb1⟩
  have HR1 := Lib.hid hr1
  have HB1 := Lib.hid hb1
  clear hr1 hb1
  go_wp2_with fail
  refine (H2.out _).mono ?_
  rintro e w2 ⟨rfl, hb2⟩
  have HR2 := Lib.hid (HR1.out.below hb2 rfl)
  have HB2 := Lib.hid (HB1.out.trans (hb2.mono HB1.out.size))
  clear hb2 HR1 HB1
  have HQ0 : Hid (Blk (w2.alloc (.cells (recC rec3 (.slice none 0 0)) 24)) w2.heap.size (recC rec3 (.slice none 0 0)).toList 24) := Blk.new w2 _ _ rfl
  have HRq := Lib.hid (HR2.out.below (w' := w2.alloc (.cells (recC rec3 (.slice none 0 0)) 24)) ((Below.refl _ _).alloc (Nat.le_refl _) _) rfl)
  have HBq := Lib.hid (HB2.out.alloc HB2.out.size (.cells (recC rec3 (.slice none 0 0)) 24))
  clear HR2 HB2
  go_wp2_with fail
  refine (H3.out _).mono ?_
  rintro e w3 ⟨v3, rfl, hr3, hb3⟩
  have HV3 := Lib.hid hr3
  have HR3 := Lib.hid (HRq.out.below hb3 rfl)
  have HQ3 := Lib.hid (HQ0.out.below hb3 HQ0.out.lt)
  have HB3 := Lib.hid (HBq.out.trans (hb3.mono HBq.out.size))
  clear hr3 hb3 HRq HQ0 HBq
  go_wp2_with fail
  refine (H4.out _ _ HV3.out).mono ?_
  rintro e w4 ⟨a4, c4, rfl, hr4, hb4⟩
  have HV4 := Lib.hid hr4
  have hR4 := HR3.out.below hb4 rfl
  have HQ4 := Lib.hid (HQ3.out.below hb4 HQ3.out.lt)
  have HB4 := Lib.hid (HB3.out.trans (hb4.mono HB3.out.size))
  obtain ⟨bb, bo, rfl, hbb, hby⟩ := hR4.at (by rw [HC1.out.1]; omega)
  have hR5 := fun o => hR4.below (w' := w4.alloc o) ((Below.refl _ _).alloc (Nat.le_refl _) _) rfl
  have b0 : ∀ o, (w4.alloc o).cell? ⟨bb, bo, none⟩ = some (.int .u8 107) := fun o => by
    rw [((Below.refl w4.heap.size w4).alloc (Nat.le_refl _) o).cell (p := ⟨bb, bo, none⟩) hbb]
    have := hby 0 (by rw [HC1.out.1]; omega)
    rw [HC1.out.2.1] at this
    exact this
  have b1 : ∀ o, (w4.alloc o).cell? ⟨bb, bo + 1, none⟩ = some (.int .u8 1) := fun o => by
    rw [((Below.refl w4.heap.size w4).alloc (Nat.le_refl _) o).cell (p := ⟨bb, bo + 1, none⟩) hbb]
    have := hby 1 (by rw [HC1.out.1]; omega)
    rw [HC1.out.2.2.1] at this
    exact this
  have b2 : ∀ o, (w4.alloc o).cell? ⟨bb, bo + 2, none⟩ = some (.int .u8 5) := fun o => by
    rw [((Below.refl w4.heap.size w4).alloc (Nat.le_refl _) o).cell (p := ⟨bb, bo + 2, none⟩) hbb]
    have := hby 2 (by rw [HC1.out.1]; omega)
    rw [HC1.out.2.2.2] at this
    exact this
  have HD5 : Hid (Blk (w4.alloc (.cells (recC rec3 (.slice a4 0 c4)) 24)) w4.heap.size (recC rec3 (.slice a4 0 c4)).toList 24) := Blk.new w4 _ _ rfl
  have HQ5 := Lib.hid (HQ4.out.alloc (.cells (recC rec3 (.slice a4 0 c4)) 24))
  have HB5 := Lib.hid (HB4.out.alloc HB4.out.size (.cells (recC rec3 (.slice a4 0 c4)) 24))
  have HV5 := Lib.hid (HV4.out.below (w' := w4.alloc (.cells (recC rec3 (.slice a4 0 c4)) 24)) ((Below.refl _ _).alloc (Nat.le_refl _) _) rfl)
  have q0 := fun o => (rec_cells (HQ4.out.alloc o)).1
  have q1 := fun o => (rec_cells (HQ4.out.alloc o)).2.1
  have q2 := fun o => (rec_cells (HQ4.out.alloc o)).2.2.1
  have q3 := fun o => (rec_cells (HQ4.out.alloc o)).2.2.2.1
  have q4 := fun o => (rec_cells (HQ4.out.alloc o)).2.2.2.2.1
  have q5 := fun o => (rec_cells (HQ4.out.alloc o)).2.2.2.2.2.1
  have q6 := fun o => (rec_cells (HQ4.out.alloc o)).2.2.2.2.2.2.1
  have q7 := fun o => (rec_cells (HQ4.out.alloc o)).2.2.2.2.2.2.2.1
  have q8 := fun o => (rec_cells (HQ4.out.alloc o)).2.2.2.2.2.2.2.2.1
  have q9 := fun o => (rec_cells (HQ4.out.alloc o)).2.2.2.2.2.2.2.2.2
  simp only [rec3, Rc.zero] at q0 q1 q2 q3 q4 q5 q6 q7 q8 q9
  clear hr4 hb4 hR4 hR5 hby HR3 HQ3 HB3
  go_wp2_with fail
  refine (H5.out _ _ _ HV5.out).mono ?_
  rintro e w6 ⟨rfl, hb6⟩
  have HD6 := Lib.hid (HD5.out.below hb6 HD5.out.lt)
  have HQ6 := Lib.hid (HQ5.out.below hb6 HQ5.out.lt)
  have HB6 := Lib.hid (HB5.out.trans (hb6.mono HB5.out.size))
  have HV6 := Lib.hid (HV5.out.below hb6 rfl)
  clear hb6 HD5 HQ5 HB5 HV5 q0 q1 q2 q3 q4 q5 q6 q7 q8 q9 b0 b1 b2
  obtain ⟨q0, q1, q2, q3, q4, q5, q6, q7, q8, q9⟩ := rec_cells HD6.out
  simp only [rec3, Rc.zero] at q0 q1 q2 q3 q4 q5 q6 q7 q8 q9
  go_wp2_with fail
  refine (H6.out _ _ _ HV6.out).mono ?_
  rintro e w7 ⟨rfl, hb7⟩
  have HQ7 := Lib.hid (HQ6.out.below hb7 HQ6.out.lt)
  have HB7 := Lib.hid (HB6.out.trans (hb7.mono HB6.out.size))
  clear hb7 HD6 HQ6 HB6 HV6 q0 q1 q2 q3 q4 q5 q6 q7 q8 q9
  obtain ⟨q0, q1, q2, q3, q4, q5, q6, q7, q8, q9⟩ := rec_cells HQ7.out
  simp only [rec3, Rc.zero] at q0 q1 q2 q3 q4 q5 q6 q7 q8 q9
  go_wp2_with fail
  refine (H7.out _).mono ?_
  rintro e w8 ⟨rfl, hb8⟩
  have HB8 := Lib.hid (HB7.out.trans (hb8.mono HB7.out.size))
  clear hb8
  go_wp2
  go_ret
  exact ⟨rfl, HB8.out⟩
end Go.Proofs.Ytlmfjohaejdmcaa
