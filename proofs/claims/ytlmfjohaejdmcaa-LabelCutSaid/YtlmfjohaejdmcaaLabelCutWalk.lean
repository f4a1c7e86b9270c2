/-
  kistlaw09.LabelCut: its walk.
-/
import Derived.Test.YtlmfjohaejdmcaaLabelUnlikeWalk
namespace Go.Proofs.Ytlmfjohaejdmcaa
open Go.RowKit
set_option linter.unusedVariables false
set_option linter.unusedSimpArgs false

set_option maxRecDepth 100000 in
set_option maxHeartbeats 4000000 in
theorem labelCut_walk (r : Rc) (d : Value) (k : Int) (v : Value) (l : List UInt8) (w : World) (hr : Rec w d r) (hk : (Lit.int .u8 k).wf = true) (hl : RB w v l) (hz : l.length ≤ 140737488351232) :
    Calls Try.prog 8 #[recV r d, .int .u8 k, v] w fun e w' => e = .returned (.bool true) ∧ Below w.heap.size w w' := by
  obtain ⟨k, rfl⟩ := u8_of hk
  have hk64 := kind_byte64 k
  have HL0 := Lib.hid (hl.one (.cells (recC r d) 24))
  obtain ⟨ma, mc, rfl, hm1, hm2⟩ := hl.shape
  have HZ := Lib.hid hz
  clear hl hk hz
  have HR0 := Lib.hid (hr.one (.cells (recC r d) 24))
  have HB0 : Hid (Below w.heap.size w (w.alloc (.cells (recC r d) 24))) := (Below.refl _ _).alloc (Nat.le_refl _) _
  clear hr
  by_cases hg : Lab.Good r
  · have HEy : Hid (∀ wx, Rec wx d r → Calls Try.prog 10 #[recV r d] wx fun e w' => ∃ a c, e = .returned (.tuple #[.slice a (Lab.code r).length c, .int .i64 0]) ∧ w'.ownsRow wx.heap.size 5 1 (.slice a (Lab.code r).length c) (Lab.code r).length (Bs (Lab.code r)) ∧ Below wx.heap.size wx w') := fun wx hx => (encode_yes r d wx hx hg).mono fun e w' ⟨v, h1, h2, h3⟩ => by
      obtain ⟨a, c, rfl, _, _⟩ := (RB.own h2).shape
      exact ⟨a, c, h1, h2, h3⟩
    have HG := Lib.hid hg
    have hn1 := Lab.code_len hg
    obtain ⟨n1, Hn1⟩ := hid_of (Lab.code r).length
    rw [Hn1.out] at HEy hn1
    have hn7 : 7 ≤ n1 := hn1.1
    have hn8 : n1 ≤ 128 := hn1.2
    obtain ⟨j, hj⟩ : ∃ j, j = k.toNat % n1 := ⟨_, rfl⟩
    have hjl : j < n1 := by rw [hj]; exact Nat.mod_lt _ (by omega)
    have hje : (k.toNat : Int) % (n1 : Int) = (j : Int) := by rw [hj]; rfl
    have HDn : Hid (∀ wx v, RB wx v ((Lab.code r).take j) → Calls Try.prog 15 #[v] wx fun e w' => e = .returned (.tuple #[recV Rc.zero (.slice none 0 0), .int .i64 12]) ∧ Below wx.heap.size wx w') := fun wx v hx => dec_no v _ wx hx (fun r' h1 h2 => by
      have e1 : Lab.code r' ++ (Lab.code r).drop j = Lab.code r ++ [] := by rw [h2, List.take_append_drop, List.append_nil]
      have e2 := congrArg List.length (Lab.code_free h1 HG.out e1).2
      simp only [List.length_drop, List.length_nil] at e2
      rw [Hn1.out] at e2
      omega)
    have HDm : Hid (∃ z : Int, ((z == 0) == (((l.length : Nat) : Int) == 0)) = true ∧ ∀ wx v, RB wx v (Lab.code r ++ l) → Calls Try.prog 15 #[v] wx fun e w' => ∃ s a n c, e = .returned (.tuple #[recV s (.slice a n c), .int .i64 z]) ∧ Below wx.heap.size wx w') := by
      by_cases hl0 : l = []
      · subst hl0
        refine ⟨0, rfl, fun wx v hx => (dec_yes v r _ wx hx HG.out (by rw [List.append_nil])).mono ?_⟩
        rintro e w' ⟨a, c, h1, _, _, h4⟩
        exact ⟨r, a, _, c, h1, h4⟩
      · refine ⟨12, ?_, fun wx v hx => (dec_no v _ wx hx (fun r' h1 h2 => ?_)).mono ?_⟩
        · have : 0 < l.length := List.length_pos_iff.2 hl0
          have e2 : (((l.length : Nat) : Int) == 0) = false := by rw [beq_eq_false_iff_ne]; omega
          rw [e2]
          rfl
        · have e1 : Lab.code r' ++ [] = Lab.code r ++ l := by rw [List.append_nil]; exact h2
          exact hl0 (Lab.code_free h1 HG.out e1).2.symm
        · rintro e w' ⟨h1, h2⟩
          exact ⟨Rc.zero, none, 0, 0, h1, h2⟩
    obtain ⟨z, hz1, hz2⟩ := HDm.out
    have HDz := Lib.hid hz2
    obtain ⟨L, HL⟩ := hid_of (Lab.code r)
    rw [HL.out] at HEy HDn HDz
    have HLn : Hid (L.length = n1) := by rw [← HL.out]; exact Hn1.out
    clear hg hj HDm hz2 hn1
    unfold recV at HEy HDn HDz ⊢
    go_enter Try.func8, Try.ntmps8
    go_wp2_with fail
    refine (HEy.out _ HR0.out).mono ?_
    rintro e w1 ⟨a1, c1, rfl, ho1, hb1⟩
    have HO1 := Lib.hid ho1
    have hr1 := RB.own ho1
    obtain ⟨_, _, he, hc1, hc2⟩ := hr1.shape
    simp only [Value.slice.injEq] at he
    obtain ⟨rfl, -, rfl⟩ := he
    rw [HLn.out] at hc1
    simp only [maxLen] at hc2
    have hsl : RB w1 (.slice a1 j c1) (L.take j) := by
      have hr1' : RB w1 (.slice a1 L.length c1) L := by rw [HLn.out]; exact hr1
      have := hr1'.sliced 0 j (by omega) (by rw [HLn.out]; omega)
      rw [List.drop_zero, show sliced a1 0 j c1 1 = .slice a1 j c1 by cases a1 <;> simp [sliced, Addr.add]] at this
      exact this
    have HSl := Lib.hid hsl
    have HR1 := Lib.hid hr1
    have HM1 := Lib.hid (HL0.out.below hb1 rfl)
    have HB1 := Lib.hid (HB0.out.trans (hb1.mono HB0.out.size))
    have hjc : (j : Int) ≤ (c1 : Int) := by omega
    have hjn : (j : Int) < (n1 : Int) := by omega
    clear ho1 hr1 hsl hb1
    go_wp2_with fail
    refine (HDn.out _ _ HSl.out).mono ?_
    rintro e w2 ⟨rfl, hb2⟩
    have HR2 := Lib.hid (HR1.out.below hb2 rfl)
    have HM2 := Lib.hid (HM1.out.below hb2 rfl)
    have hB2 := HB1.out.trans (hb2.mono HB1.out.size)
    have HB2 := Lib.hid hB2
    clear hb2 hB2
    go_wp2_with (at_builtin; refine stopped ?_)
    refine going (wpList_append_bytes _ rfl _ _ 22 22 rfl (w2.heap.size + 1) 5 5 Try.underlying22 Try.underlying22 infoU8 _ [] 0 rfl (own_empty _ (by simp) (by simp)) _ L rfl (HR2.out.two _ _) (by rw [HLn.out]; simp; omega) (by simp) ?_)
    intro v3 w3 ho3 hb3 _
    rw [List.nil_append] at ho3
    have HO3 := Lib.hid ho3
    have hz3 : w2.heap.size + 2 ≤ w3.heap.size := by have := hb3.size; simp at this; omega
    have hf3 : Below w2.heap.size w2 w3 := (((Below.refl _ _).alloc (Nat.le_refl _) _).alloc (by simp) _).trans (hb3.mono (by omega))
    have HM3 := Lib.hid (HM2.out.below hf3 rfl)
    have HB3 := Lib.hid (HB2.out.trans (hf3.mono HB2.out.size))
    clear ho3 hb3 hf3
    go_wp2_with (at_builtin; refine stopped ?_)
    refine going (wpList_append_bytes _ rfl _ _ 22 22 rfl (w2.heap.size + 1) 5 5 Try.underlying22 Try.underlying22 infoU8 _ L _ rfl HO3.out _ l rfl HM3.out (by rw [HLn.out]; have := HZ.out; omega) (by omega) ?_)
    intro v4 w4 ho4 hb4 _
    have HR4 := Lib.hid (RB.own ho4)
    have HB4 := Lib.hid (HB3.out.trans (hb4.mono (by have := HB2.out.size; omega)))
    clear ho4 hb4
    go_wp2_with fail
    refine (HDz.out _ _ HR4.out).mono ?_
    rintro e w5 ⟨s5, a5, n5, c5, rfl, hb5⟩
    have hB5 := HB4.out.trans (hb5.mono HB4.out.size)
    have HB5 := Lib.hid (fun o => hB5.alloc hB5.size o)
    clear hb5 hB5
    go_wp2_with fail
    refine (awake9_any _).mono ?_
    rintro e w7 ⟨rfl, hb7⟩
    have HB7 := Lib.hid ((HB5.out _).trans (hb7.mono (HB5.out _).size))
    clear hb7
    go_wp2
    go_ret
    exact ⟨by first | rfl | (rw [hz1]), HB7.out⟩
  · have HEn : Hid (∀ wx, Rec wx d r → Calls Try.prog 10 #[recV r d] wx fun e w' => e = .returned (.tuple #[.slice none 0 0, .int .i64 12]) ∧ Below wx.heap.size wx w') := fun wx hx => encode_no r d wx hx hg
    clear hg
    unfold recV at HEn ⊢
    go_enter Try.func8, Try.ntmps8
    go_wp2_with fail
    refine (HEn.out _ HR0.out).mono ?_
    rintro e w1 ⟨rfl, hb1⟩
    have HBX := Lib.hid (HB0.out.trans (hb1.mono HB0.out.size))
    clear hb1
    go_wp2_with fail
    refine (awake9_any _).mono ?_
    rintro e w7 ⟨rfl, hb7⟩
    have HB7 := Lib.hid (HBX.out.trans (hb7.mono HBX.out.size))
    clear hb7
    go_wp2
    go_ret
    exact ⟨rfl, HB7.out⟩
end Go.Proofs.Ytlmfjohaejdmcaa
