/-
  The walk of kistlaw06.WordNone.
-/
import Derived.Test.YtpihnlfnolgldaaWordText
import Derived.Test.YtpihnlfnolgldaaReads

namespace Go.Proofs.Ytpihnlfnolgldaa
open Go.RowKit
set_option linter.unusedVariables false

theorem Text_nil0 (n : Int) (w : World) : Calls Try.prog 17 #[.pointer none, .int .i64 n] w fun e w' => e = .returned (.string ⟨#[]⟩) ∧ w = w' := Text_nil n w
theorem Get_bad (p base : Nat) (l : List UInt8) (m : Int) (w : World) (h : Rd w p base l true) (hm : (Lit.int .i64 m).wf = true) :
    Calls Try.prog 18 #[.pointer (some ⟨p, 0, none⟩), .int .i64 m] w fun e w' => e = .returned (.int .i64 0) ∧ Rd w' p base l true ∧ Fr (fun k => k = p) w w' := by
  have := Get_any p base l true m w h hm
  have e : Word.get m l true = (0, l, true) := by simp [Word.get]
  rw [e] at this
  exact this
theorem Text_bad (p base : Nat) (l : List UInt8) (m : Int) (w : World) (h : Rd w p base l true) (hm : (Lit.int .i64 m).wf = true) :
    Calls Try.prog 17 #[.pointer (some ⟨p, 0, none⟩), .int .i64 m] w fun e w' => e = .returned (.string ⟨#[]⟩) ∧ Rd w' p base l true ∧ Fr (fun k => k = p) w w' := by
  have := RText_any p base l true m w h hm
  have e : Word.text m l true = ([], l, true) := by simp [Word.text, Word.get]
  rw [e] at this
  exact this
theorem End_bad (p base : Nat) (l : List UInt8) (w : World) (h : Rd w p base l true) :
    Calls Try.prog 19 #[.pointer (some ⟨p, 0, none⟩)] w fun e w' => e = .returned (.bool false) ∧ w = w' := by
  have := End_any p base l true w h
  simp only [Bool.not_true, Bool.false_and] at this
  exact this
theorem Get_spoils (p base : Nat) (l : List UInt8) (w : World) (h : Rd w p base l false) :
    Calls Try.prog 18 #[.pointer (some ⟨p, 0, none⟩), .int .i64 (-1)] w fun e w' => e = .returned (.int .i64 0) ∧ (∃ r, Rd w' p base r true) ∧ Fr (fun k => k = p) w w' := by
  refine (Get_any p base l false (-1) w h (by decide)).mono ?_
  rintro e w' ⟨rfl, h1, h2⟩
  have e : ∃ r, Word.get (-1) l false = (0, r, true) := by
    unfold Word.get
    simp
  obtain ⟨r, e⟩ := e
  rw [e] at h1 ⊢
  exact ⟨rfl, ⟨r, h1⟩, h2⟩

set_option maxRecDepth 100000 in
set_option maxHeartbeats 1000000 in
theorem wordNone_walk (v : Value) (b : List UInt8) (m : Int) (vl : Value) (L : List (Bool × Int)) (w : World) (hb : RB w v b) (hz : b.length ≤ 140737488351232) (hm : (Lit.int .i64 m).wf = true) (hl : RSl CK 2 w vl L) :
    Calls Try.prog 7 #[v, .int .i64 m, vl] w fun e w' => e = .returned (.bool true) ∧ Below w.heap.size w w' := by
  have HM := Lib.hid hm
  have HB := Lib.hid hb
  have HL := Lib.hid hl
  obtain ⟨al, cl, rfl, hl1, hl2⟩ := hl.shape
  clear hb hm hl
  go_enter Try.func7, Try.ntmps7
  go_wp2_with fail
  refine (Get_nil _ w).mono ?_
  rintro e w' ⟨rfl, rfl⟩
  go_wp2_with fail
  refine (Text_nil0 _ w).mono ?_
  rintro e w' ⟨rfl, rfl⟩
  go_wp2_with fail
  refine (End_nil w).mono ?_
  rintro e w' ⟨rfl, rfl⟩
  go_wp2_with fail
  refine (New_any _ b w HB.out (by omega)).mono ?_
  rintro e w1 ⟨p, rfl, hr1, hb1⟩
  obtain ⟨s0, Hs0⟩ := hid_of w.heap.size
  rw [Hs0.out] at hr1 hb1
  have HR1 := Lib.hid hr1
  have HB1 := Lib.hid hb1
  have hsz : Hid (s0 ≤ w1.heap.size) := by rw [← Hs0.out]; exact hb1.size
  clear hr1 hb1 HB
  go_wp2_with fail
  refine (Get_spoils p _ b w1 HR1.out).mono ?_
  rintro e w2 ⟨rfl, ⟨r, hr2⟩, hf2⟩
  have hp := HR1.out.lt.1
  have HR2 := Lib.hid hr2
  have HB2 : Hid (Below s0 w w2) := HB1.out.trans (hf2.below hsz.out (fun k hk e => by omega))
  clear hr2 hf2 HR1 HB1 hsz
  go_wp2_with fail
  refine (End_bad p _ _ _ HR2.out).mono ?_
  rintro e w' ⟨rfl, rfl⟩
  go_wp2
  simp only [maxLen] at hl2
  go_loopw [9] (fun i wr => ∃ j : Nat, j ≤ L.length ∧ i = .int .i64 j ∧ (∃ r, Rd wr p s0 r true) ∧ Below s0 w wr) (fun i _ => L.length - (intOf i).toNat)
  case atStart => exact ⟨0, by omega, rfl, ⟨_, HR2.out⟩, HB2.out⟩
  case round =>
    clear HR2 HB2
    obtain ⟨j, hj, rfl, ⟨r, h1⟩, h2⟩ := hrel
    have hls := HL.out.below CK.stable h2 Hs0.out.symm
    have HR := Lib.hid h1
    have HBr := Lib.hid h2
    have hszr : Hid (s0 ≤ wr.heap.size) := Lib.hid (by rw [← Hs0.out]; exact Nat.le_trans (Nat.le_of_eq rfl) (by rw [Hs0.out]; have := h1.lt; omega))
    by_cases hlt : j < L.length
    · by_cases h40 : j < 40
      · obtain ⟨bl, off, cap', hv, cs, hcs, hcell, hck, hwf⟩ := hls.at j hlt
        simp only [Value.slice.injEq] at hv
        obtain ⟨rfl, _, rfl⟩ := hv
        have hc1 := hcell 1 (by rw [hcs]; omega)
        have hX : cs[1]'(by rw [hcs]; omega) = .int .i64 (L[j]).2 := by subst hck; rfl
        rw [hX] at hc1
        obtain ⟨X, HX⟩ := hid_of (L[j]).2
        rw [HX.out] at hc1 hwf
        have HWF := Lib.hid hwf
        have hc1' := Lib.hid hc1
        have hbl : bl < s0 := by
          obtain ⟨bl', off', cap'', hv, cs', hcs', hcell', hck', _⟩ := HL.out.at j hlt
          simp only [Value.slice.injEq, Option.some.injEq, Addr.mk.injEq] at hv
          obtain ⟨⟨rfl, rfl, _⟩, _, _⟩ := hv
          have := hcell' 1 (by rw [hcs']; omega)
          rw [← Hs0.out]
          exact World.block_lt_of_cell? w _ this
        have hblp : ¬ bl = p := by omega
        clear hcell hck hX h1 h2 hls hwf
        go_wp2_with fail
        refine (Get_bad p _ r X wr HR.out HWF.out).mono ?_
        rintro e wa ⟨rfl, hra, hfa⟩
        have hc2 := hfa.cell hc1'.out hblp
        have HRa := Lib.hid hra
        have HBa : Hid (Below s0 w wa) := HBr.out.trans (hfa.below hszr.out (fun k hk e => by omega))
        have hsza : Hid (s0 ≤ wa.heap.size) := Lib.hid (Nat.le_trans hszr.out hfa.size)
        clear hra hfa HR HBr hszr hc1
        go_wp2_with fail
        refine (Text_bad p _ r X wa HRa.out HWF.out).mono ?_
        rintro e wb ⟨rfl, hrb, hfb⟩
        have HRb := Lib.hid hrb
        have HBb : Hid (Below s0 w wb) := HBa.out.trans (hfb.below hsza.out (fun k hk e => by omega))
        clear hrb hfb HRa HBa hsza hc2
        go_wp2_with fail
        refine (End_bad p _ _ _ HRb.out).mono ?_
        rintro e w' ⟨rfl, rfl⟩
        go_wp2
        go_roundw
        case rel => exact ⟨j + 1, by omega, by go_num, ⟨_, HRb.out⟩, HBb.out⟩
        case measure => simp [intOf]; omega
      · have h40' : ¬ (j : Int) < 40 := by omega
        have hlt' : (j : Int) < (L.length : Int) := by omega
        clear h1 h2 hls HR
        go_wp2_with fail
        refine (awake_any _).mono ?_
        rintro e w3 ⟨rfl, hb3⟩
        go_wp2
        go_ret
        exact ⟨rfl, by rw [Hs0.out]; exact HBr.out.trans (hb3.mono hszr.out)⟩
    · have hlt' : ¬ (j : Int) < (L.length : Int) := by omega
      clear h1 h2 hls HR
      go_wp2_with fail
      refine (awake_any _).mono ?_
      rintro e w3 ⟨rfl, hb3⟩
      go_wp2
      go_ret
      exact ⟨rfl, by rw [Hs0.out]; exact HBr.out.trans (hb3.mono hszr.out)⟩
end Go.Proofs.Ytpihnlfnolgldaa
