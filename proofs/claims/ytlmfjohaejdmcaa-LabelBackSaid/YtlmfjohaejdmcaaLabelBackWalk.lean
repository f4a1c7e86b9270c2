/-
  kistlaw09.LabelBack: its walk.
-/
import Derived.Test.YtlmfjohaejdmcaaLabUse
import Derived.Test.YtlmfjohaejdmcaaLabArg
namespace Go.Proofs.Ytlmfjohaejdmcaa
open Go.RowKit
set_option linter.unusedVariables false
set_option linter.unusedSimpArgs false

set_option maxRecDepth 100000 in
set_option maxHeartbeats 4000000 in
theorem labelBack_walk (r : Rc) (d : Value) (v : Value) (l : List UInt8) (w : World) (hr : Rec w d r) (hl : RB w v l) (hz : l.length ≤ 140737488351232) :
    Calls Try.prog 5 #[recV r d, v] w fun e w' => e = .returned (.bool true) ∧ Below w.heap.size w w' := by
  have HP0 : Hid (Blk (w.alloc (.cells (recC r d) 24)) w.heap.size (recC r d).toList 24) := Blk.new w _ _ rfl
  have HR0 := Lib.hid (hr.one (.cells (recC r d) 24))
  have HL0 := Lib.hid (hl.one (.cells (recC r d) 24))
  have HB0 : Hid (Below w.heap.size w (w.alloc (.cells (recC r d) 24))) := (Below.refl _ _).alloc (Nat.le_refl _) _
  clear hr hl hz
  by_cases hg : Lab.Good r
  · have HEy : Hid (∀ wx, Rec wx d r → Calls Try.prog 10 #[recV r d] wx fun e w' => ∃ a c, e = .returned (.tuple #[.slice a (Lab.code r).length c, .int .i64 0]) ∧ RB w' (.slice a (Lab.code r).length c) (Lab.code r) ∧ Below wx.heap.size wx w') := fun wx hx => (encode_yes r d wx hx hg).mono fun e w' ⟨v, h1, h2, h3⟩ => by
      obtain ⟨a, c, rfl, _, _⟩ := (RB.own h2).shape
      exact ⟨a, c, h1, RB.own h2, h3⟩
    have HDy : Hid (∀ wx v, RB wx v (Lab.code r) → Calls Try.prog 15 #[v] wx fun e w' => ∃ a c, e = .returned (.tuple #[recV r (.slice a r.data.length c), .int .i64 0]) ∧ Rec w' (.slice a r.data.length c) r ∧ (∀ k, (Value.slice a r.data.length c).ownBlock = some k → wx.heap.size ≤ k) ∧ Below wx.heap.size wx w') := fun wx v hx => dec_yes v r _ wx hx hg rfl
    have HSm : Hid (∀ wx d d', RB wx d r.data → RB wx d' r.data → Calls Try.prog 18 #[recV r d, recV r d'] wx fun e w' => e = .returned (.bool true) ∧ Below wx.heap.size wx w') := fun wx d d' h1 h2 => by
      have := same_any r r d d' wx h1 h2
      rw [show decide (r = r) = true from decide_eq_true rfl] at this
      exact this
    have hn1 := (Lab.code_len hg).2
    obtain ⟨L, HL⟩ := hid_of (Lab.code r)
    rw [HL.out] at HEy HDy hn1
    obtain ⟨n1, Hn1⟩ := hid_of L.length
    rw [Hn1.out] at HEy hn1
    clear hg
    unfold recV at HEy HDy HSm ⊢
    go_enter Try.func5, Try.ntmps5
    go_wp2_with fail
    refine (HEy.out _ HR0.out).mono ?_
    rintro e w1 ⟨a1, c1, rfl, hr1, hb1⟩
    have HV1 := Lib.hid hr1
    have HP1 := Lib.hid (HP0.out.below hb1 HP0.out.lt)
    have HR1 := Lib.hid (HR0.out.below hb1 rfl)
    have HL1 := Lib.hid (HL0.out.below hb1 rfl)
    have HB1 := Lib.hid (HB0.out.trans (hb1.mono HB0.out.size))
    clear hr1 hb1 HP0 HR0 HL0 HB0
    go_wp2_with fail
    refine (HDy.out _ _ HV1.out).mono ?_
    rintro e w2 ⟨a2, c2, rfl, hr2, _, hb2⟩
    have hp2 := HP1.out.below hb2 HP1.out.lt
    have HR2 := Lib.hid ((HR1.out.below hb2 rfl).one (.cells (recC r (.slice a2 r.data.length c2)) 24))
    have HS2 := Lib.hid (hr2.one (.cells (recC r (.slice a2 r.data.length c2)) 24))
    have HL2 := Lib.hid ((HL1.out.below hb2 rfl).one (.cells (recC r (.slice a2 r.data.length c2)) 24))
    have hB2 := HB1.out.trans (hb2.mono HB1.out.size)
    have HB2 := Lib.hid (hB2.alloc hB2.size (.cells (recC r (.slice a2 r.data.length c2)) 24))
    obtain ⟨q0, q1, q2, q3, q4, q5, q6, q7, q8, q9⟩ := rec_cells_o hp2
    clear hr2 hb2 hB2 hp2 HP1 HR1 HL1 HB1
    go_wp2_with fail
    refine (HSm.out _ _ _ HR2.out.1 HS2.out.1).mono ?_
    rintro e w3 ⟨rfl, hb3⟩
    have HLX := Lib.hid (HL2.out.below hb3 rfl)
    have HBX := Lib.hid (HB2.out.trans (hb3.mono HB2.out.size))
    clear hb3 q0 q1 q2 q3 q4 q5 q6 q7 q8 q9 HR2 HS2 HL2 HB2 HV1
    by_cases hex : ∃ r', Lab.Good r' ∧ Lab.code r' = l
    · have HYes := Lib.hid hex
      clear hex
      obtain ⟨r', hg', hc'⟩ := HYes.out
      have HG' := Lib.hid hg'
      have HC' := Lib.hid hc'
      have HDy : Hid (∀ wx, RB wx v l → Calls Try.prog 15 #[v] wx fun e w' => ∃ a c, e = .returned (.tuple #[recV r' (.slice a r'.data.length c), .int .i64 0]) ∧ Rec w' (.slice a r'.data.length c) r' ∧ (∀ k, (Value.slice a r'.data.length c).ownBlock = some k → wx.heap.size ≤ k) ∧ Below wx.heap.size wx w') := fun wx hx => dec_yes v r' l wx hx HG'.out HC'.out
      have HEy' : Hid (∀ wx d, Rec wx d r' → Calls Try.prog 10 #[recV r' d] wx fun e w' => ∃ v, e = .returned (.tuple #[v, .int .i64 0]) ∧ RB w' v l ∧ Below wx.heap.size wx w') := fun wx d hx => (encode_yes r' d wx hx HG'.out).mono fun e w' ⟨v, h1, h2, h3⟩ => ⟨v, h1, by have := RB.own h2; rw [HC'.out] at this; exact this, h3⟩
      clear hg' hc' HYes
      unfold recV at HDy HEy'
      go_wp2_with fail
      refine (HDy.out _ HLX.out).mono ?_
      rintro e w5 ⟨a5, c5, rfl, hr5, _, hb5⟩
      have HR5 := Lib.hid (hr5.one (.cells (recC r' (.slice a5 r'.data.length c5)) 24))
      have HL5 := Lib.hid ((HLX.out.below hb5 rfl).one (.cells (recC r' (.slice a5 r'.data.length c5)) 24))
      have hB5 := HBX.out.trans (hb5.mono HBX.out.size)
      have HB5 := Lib.hid (hB5.alloc hB5.size (.cells (recC r' (.slice a5 r'.data.length c5)) 24))
      clear hr5 hb5 hB5
      go_wp2_with fail
      refine (HEy'.out _ _ HR5.out).mono ?_
      rintro e w6 ⟨v6, rfl, hr6, hb6⟩
      have HV6 := Lib.hid hr6
      have HL6 := Lib.hid (HL5.out.below hb6 rfl)
      have HB6 := Lib.hid (HB5.out.trans (hb6.mono HB5.out.size))
      clear hr6 hb6
      go_wp2_with fail
      refine (awake9_any _).mono ?_
      rintro e w7 ⟨rfl, hb7⟩
      obtain ⟨E, HE⟩ := hid_of (S l)
      have hcv1 := run_convert_S (P := Try.prog) (HV6.out.below hb7 rfl) 22 9 5 Try.underlying22 Try.underlying5 Try.underlying9
      have hcv2 := run_convert_S (P := Try.prog) (HL6.out.below hb7 rfl) 22 9 5 Try.underlying22 Try.underlying5 Try.underlying9
      rw [HE.out] at hcv1 hcv2
      have HB7 := Lib.hid (HB6.out.trans (hb7.mono HB6.out.size))
      clear hb7
      go_wp2
      go_ret
      exact ⟨rfl, HB7.out⟩
    · have HDn : Hid (∀ wx, RB wx v l → Calls Try.prog 15 #[v] wx fun e w' => e = .returned (.tuple #[recV Rc.zero (.slice none 0 0), .int .i64 12]) ∧ Below wx.heap.size wx w') := fun wx hx => dec_no v l wx hx (fun r' h1 h2 => hex ⟨r', h1, h2⟩)
      clear hex
      unfold recV at HDn
      go_wp2_with fail
      refine (HDn.out _ HLX.out).mono ?_
      rintro e w5 ⟨rfl, hb5⟩
      have hB5 := HBX.out.trans (hb5.mono HBX.out.size)
      have HB5 := Lib.hid (fun o => hB5.alloc hB5.size o)
      clear hb5 hB5
      go_wp2_with fail
      refine (awake9_any _).mono ?_
      rintro e w7 ⟨rfl, hb7⟩
      have HB7 := Lib.hid ((HB5.out _).trans (hb7.mono (HB5.out _).size))
      clear hb7
      go_wp2
      go_ret
      exact ⟨rfl, HB7.out⟩
  · have HEn : Hid (∀ wx, Rec wx d r → Calls Try.prog 10 #[recV r d] wx fun e w' => e = .returned (.tuple #[.slice none 0 0, .int .i64 12]) ∧ Below wx.heap.size wx w') := fun wx hx => encode_no r d wx hx hg
    clear hg
    unfold recV at HEn ⊢
    go_enter Try.func5, Try.ntmps5
    go_wp2_with fail
    refine (HEn.out _ HR0.out).mono ?_
    rintro e w1 ⟨rfl, hb1⟩
    have HLX := Lib.hid (HL0.out.below hb1 rfl)
    have HBX := Lib.hid (HB0.out.trans (hb1.mono HB0.out.size))
    clear hb1 HP0 HR0 HL0 HB0
    by_cases hex : ∃ r', Lab.Good r' ∧ Lab.code r' = l
    · have HYes := Lib.hid hex
      clear hex
      obtain ⟨r', hg', hc'⟩ := HYes.out
      have HG' := Lib.hid hg'
      have HC' := Lib.hid hc'
      have HDy : Hid (∀ wx, RB wx v l → Calls Try.prog 15 #[v] wx fun e w' => ∃ a c, e = .returned (.tuple #[recV r' (.slice a r'.data.length c), .int .i64 0]) ∧ Rec w' (.slice a r'.data.length c) r' ∧ (∀ k, (Value.slice a r'.data.length c).ownBlock = some k → wx.heap.size ≤ k) ∧ Below wx.heap.size wx w') := fun wx hx => dec_yes v r' l wx hx HG'.out HC'.out
      have HEy' : Hid (∀ wx d, Rec wx d r' → Calls Try.prog 10 #[recV r' d] wx fun e w' => ∃ v, e = .returned (.tuple #[v, .int .i64 0]) ∧ RB w' v l ∧ Below wx.heap.size wx w') := fun wx d hx => (encode_yes r' d wx hx HG'.out).mono fun e w' ⟨v, h1, h2, h3⟩ => ⟨v, h1, by have := RB.own h2; rw [HC'.out] at this; exact this, h3⟩
      clear hg' hc' HYes
      unfold recV at HDy HEy'
      go_wp2_with fail
      refine (HDy.out _ HLX.out).mono ?_
      rintro e w5 ⟨a5, c5, rfl, hr5, _, hb5⟩
      have HR5 := Lib.hid (hr5.one (.cells (recC r' (.slice a5 r'.data.length c5)) 24))
      have HL5 := Lib.hid ((HLX.out.below hb5 rfl).one (.cells (recC r' (.slice a5 r'.data.length c5)) 24))
      have hB5 := HBX.out.trans (hb5.mono HBX.out.size)
      have HB5 := Lib.hid (hB5.alloc hB5.size (.cells (recC r' (.slice a5 r'.data.length c5)) 24))
      clear hr5 hb5 hB5
      go_wp2_with fail
      refine (HEy'.out _ _ HR5.out).mono ?_
      rintro e w6 ⟨v6, rfl, hr6, hb6⟩
      have HV6 := Lib.hid hr6
      have HL6 := Lib.hid (HL5.out.below hb6 rfl)
      have HB6 := Lib.hid (HB5.out.trans (hb6.mono HB5.out.size))
      clear hr6 hb6
      go_wp2_with fail
      refine (awake9_any _).mono ?_
      rintro e w7 ⟨rfl, hb7⟩
      obtain ⟨E, HE⟩ := hid_of (S l)
      have hcv1 := run_convert_S (P := Try.prog) (HV6.out.below hb7 rfl) 22 9 5 Try.underlying22 Try.underlying5 Try.underlying9
      have hcv2 := run_convert_S (P := Try.prog) (HL6.out.below hb7 rfl) 22 9 5 Try.underlying22 Try.underlying5 Try.underlying9
      rw [HE.out] at hcv1 hcv2
      have HB7 := Lib.hid (HB6.out.trans (hb7.mono HB6.out.size))
      clear hb7
      go_wp2
      go_ret
      exact ⟨rfl, HB7.out⟩
    · have HDn : Hid (∀ wx, RB wx v l → Calls Try.prog 15 #[v] wx fun e w' => e = .returned (.tuple #[recV Rc.zero (.slice none 0 0), .int .i64 12]) ∧ Below wx.heap.size wx w') := fun wx hx => dec_no v l wx hx (fun r' h1 h2 => hex ⟨r', h1, h2⟩)
      clear hex
      unfold recV at HDn
      go_wp2_with fail
      refine (HDn.out _ HLX.out).mono ?_
      rintro e w5 ⟨rfl, hb5⟩
      have hB5 := HBX.out.trans (hb5.mono HBX.out.size)
      have HB5 := Lib.hid (fun o => hB5.alloc hB5.size o)
      clear hb5 hB5
      go_wp2_with fail
      refine (awake9_any _).mono ?_
      rintro e w7 ⟨rfl, hb7⟩
      have HB7 := Lib.hid ((HB5.out _).trans (hb7.mono (HB5.out _).size))
      clear hb7
      go_wp2
      go_ret
      exact ⟨rfl, HB7.out⟩
end Go.Proofs.Ytlmfjohaejdmcaa
