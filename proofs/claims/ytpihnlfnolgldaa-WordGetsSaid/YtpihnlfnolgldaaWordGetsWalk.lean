/-
  The walk of kistlaw06.WordGets.
-/
import Derived.Test.YtpihnlfnolgldaaWordRefWord
import Derived.Test.YtpihnlfnolgldaaWordNoneWalk
namespace Go.Proofs.Ytpihnlfnolgldaa
open Go.RowKit
set_option linter.unusedVariables false

theorem pos_end (b l : List UInt8) (bad : Bool) (h : l.length ≤ b.length) : (Word.pos b l bad == (b.length : Int)) = (!bad && l.length == 0) := by
  cases bad with
  | true => simp [Word.pos]
  | false =>
    have e : Word.pos b l false = (b.length : Int) - l.length := rfl
    rw [e, Bool.not_false, Bool.true_and, Bool.eq_iff_iff, beq_iff_eq, beq_iff_eq]
    omega

set_option maxRecDepth 100000 in
set_option maxHeartbeats 1000000 in
theorem wordGets_walk (v : Value) (b : List UInt8) (vl : Value) (L : List (Bool × Int)) (w : World) (hb : RB w v b) (hz : b.length ≤ 140737488351232) (hl : RSl CK 2 w vl L) :
    Calls Try.prog 4 #[v, vl] w fun e w' => e = .returned (.bool true) ∧ Below w.heap.size w w' := by
  have HB := Lib.hid hb
  have HL := Lib.hid hl
  obtain ⟨ab, cb, rfl, hb1, hb2⟩ := hb.shape
  obtain ⟨al, cl, rfl, hl1, hl2⟩ := hl.shape
  simp only [maxLen] at hl2 hb2
  clear hb hl
  obtain ⟨s0, Hs0⟩ := hid_of w.heap.size
  go_enter Try.func4, Try.ntmps4
  go_wp2_with fail
  refine (New_any _ b w HB.out (by omega)).mono ?_
  rintro e w1 ⟨p, rfl, hr1, hb1'⟩
  rw [Hs0.out] at hr1 hb1'
  have HR1 := Lib.hid hr1
  have HB1 := Lib.hid hb1'
  have hp := hr1.lt.1
  clear hr1 hb1'
  go_wp2
  go_loopw [6, 7] (fun at' i wr => ∃ j : Nat, j ≤ L.length ∧ i = .int .i64 j ∧ ∃ l bad, Hid (l <:+ b) ∧ at' = .int .i64 (Word.pos b l bad) ∧ Rd wr p s0 l bad ∧ Below s0 w wr) (fun _ i _ => L.length - (intOf i).toNat)
  case atStart => exact ⟨0, by omega, rfl, b, false, Lib.hid (List.suffix_refl b), by simp [Word.pos], HR1.out, HB1.out⟩
  case round =>
    clear HR1 HB1
    obtain ⟨j, hj, rfl, l, bad, HSuf, rfl, h1, h2⟩ := hrel
    have hls := HL.out.below CK.stable h2 Hs0.out.symm
    have HR := Lib.hid h1
    have HBr := Lib.hid h2
    have hszr : Hid (s0 ≤ wr.heap.size) := Lib.hid (by have := h1.lt; omega)
    obtain ⟨hdrop, hlb⟩ := Word.suffix_drop HSuf.out
    have HD := Lib.hid hdrop
    clear hdrop
    by_cases hlt : j < L.length
    · by_cases h40 : j < 60
      · obtain ⟨bl, off, cap', hv, cs, hcs, hcell, hck, hwf⟩ := hls.at j hlt
        simp only [Value.slice.injEq] at hv
        obtain ⟨rfl, _, rfl⟩ := hv
        have hbl : bl < s0 := by
          obtain ⟨bl', off', cap'', hv, cs', hcs', hcell', hck', _⟩ := HL.out.at j hlt
          simp only [Value.slice.injEq, Option.some.injEq, Addr.mk.injEq] at hv
          obtain ⟨⟨rfl, rfl, _⟩, _, _⟩ := hv
          have := hcell' 1 (by rw [hcs']; omega)
          rw [← Hs0.out]
          exact World.block_lt_of_cell? w _ this
        have hc0 := hcell 0 (by rw [hcs]; omega)
        have hc1 := hcell 1 (by rw [hcs]; omega)
        rw [Nat.add_zero] at hc0
        have hX0 : cs[0]'(by rw [hcs]; omega) = .bool (L[j]).1 := by subst hck; rfl
        have hX1 : cs[1]'(by rw [hcs]; omega) = .int .i64 (L[j]).2 := by subst hck; rfl
        rw [hX0] at hc0
        rw [hX1] at hc1
        obtain ⟨⟨tx, X⟩, HX⟩ := hid_of L[j]
        rw [HX.out] at hc0 hc1 hwf
        simp only at hc0 hc1 hwf
        have HWF := Lib.hid hwf
        have HC0 := Lib.hid hc0
        have HC1 := Lib.hid hc1
        have hblp : ¬ bl = p := by omega
        clear hcell hck hX0 hX1 h1 h2 hls hwf HX hcs
        cases tx with
        | true =>
          cases bad with
          | true =>
            have hpos : Word.pos b l true = -1 := rfl
            have hb3 : ((-1 : Int) == (b.length : Int)) = false := by simp
            rw [hpos]
            go_wp2_with fail
            refine (Text_bad p _ l X wr HR.out HWF.out).mono ?_
            rintro e wa ⟨rfl, hra, hfa⟩
            have hc0a := hfa.cell HC0.out hblp
            have hc1a := hfa.cell HC1.out hblp
            have HRa := Lib.hid hra
            have HBa : Hid (Below s0 w wa) := HBr.out.trans (hfa.below hszr.out (fun k hk e => by omega))
            clear hra hfa HR HBr hszr hc0 hc1 HC0 HC1 HD hpos
            go_wp2_with fail
            refine (End_bad p _ _ _ HRa.out).mono ?_
            rintro e w' ⟨rfl, rfl⟩
            go_wp2
            go_roundw
            case rel => exact ⟨j + 1, by omega, by go_num, l, true, HSuf, rfl, HRa.out, HBa.out⟩
            case measure => simp [intOf]; omega
          | false =>
            obtain ⟨Q, HQ⟩ := hid_of (b.length - l.length)
            have hpos : Word.pos b l false = (Q : Int) := by unfold Word.pos; rw [if_neg Bool.false_ne_true]; have := HQ.out; omega
            have hQ1 : Q ≤ b.length := by have := HQ.out; omega
            have hrbr := HB.out.below HBr.out Hs0.out.symm
            have hdl : b.drop Q = l := by rw [← HQ.out]; exact HD.out.symm
            obtain ⟨T, HT⟩ := hid_of (Word.text X l false)
            have hsuf2 := Word.text_suffix X l false
            have href := Lib.hid (Word_any _ b Q X wr hrbr (by omega) hQ1)
            have hrd := Lib.hid (RText_any p _ l false X wr HR.out HWF.out)
            rw [hdl, HT.out] at href
            rw [HT.out] at hrd hsuf2
            obtain ⟨t1, t2, t3⟩ := T
            simp only at href hrd hsuf2
            have HSuf2 := Lib.hid (hsuf2.trans HSuf.out)
            have hlen2 := (Word.suffix_drop HSuf2.out).2
            have hend := pos_end b t2 t3 hlen2
            have hend1 : Hid ((!t3 && t2.length == 0) = (Word.pos b t2 t3 == (b.length : Int))) := Lib.hid hend.symm
            obtain ⟨P2, HP2⟩ := hid_of (Word.pos b t2 t3)
            rw [HP2.out] at href hend hend1
            clear hsuf2 hdl hrbr HT HD HQ hend hlen2
            rw [hpos]
            clear hpos
            go_wp2_with fail
            refine href.out.mono ?_
            rintro e w' ⟨rfl, rfl⟩
            clear href
            go_wp2_with fail
            refine hrd.out.mono ?_
            rintro e wa ⟨rfl, hra, hfa⟩
            have hc0a := hfa.cell HC0.out hblp
            have hc1a := hfa.cell HC1.out hblp
            have HRa := Lib.hid hra
            have HBa : Hid (Below s0 w wa) := HBr.out.trans (hfa.below hszr.out (fun k hk e => by omega))
            clear hra hfa HR HBr hszr hc0 hc1 HC0 HC1
            go_wp2_with fail
            refine (End_any p _ _ _ _ HRa.out).mono ?_
            rw [hend1.out]
            rintro e w' ⟨rfl, rfl⟩
            go_wp2
            go_roundw
            case rel => exact ⟨j + 1, by omega, by go_num, t2, t3, HSuf2, by rw [HP2.out], HRa.out, HBa.out⟩
            case measure => simp [intOf]; omega
        | false =>
          cases bad with
          | true =>
            have hpos : Word.pos b l true = -1 := rfl
            have hb3 : ((-1 : Int) == (b.length : Int)) = false := by simp
            rw [hpos]
            go_wp2_with fail
            refine (Get_bad p _ l X wr HR.out HWF.out).mono ?_
            rintro e wa ⟨rfl, hra, hfa⟩
            have hc0a := hfa.cell HC0.out hblp
            have hc1a := hfa.cell HC1.out hblp
            have HRa := Lib.hid hra
            have HBa : Hid (Below s0 w wa) := HBr.out.trans (hfa.below hszr.out (fun k hk e => by omega))
            clear hra hfa HR HBr hszr hc0 hc1 HC0 HC1 HD hpos
            go_wp2_with fail
            refine (End_bad p _ _ _ HRa.out).mono ?_
            rintro e w' ⟨rfl, rfl⟩
            go_wp2
            go_roundw
            case rel => exact ⟨j + 1, by omega, by go_num, l, true, HSuf, rfl, HRa.out, HBa.out⟩
            case measure => simp [intOf]; omega
          | false =>
            obtain ⟨Q, HQ⟩ := hid_of (b.length - l.length)
            have hpos : Word.pos b l false = (Q : Int) := by unfold Word.pos; rw [if_neg Bool.false_ne_true]; have := HQ.out; omega
            have hQ1 : Q ≤ b.length := by have := HQ.out; omega
            have hrbr := HB.out.below HBr.out Hs0.out.symm
            have hdl : b.drop Q = l := by rw [← HQ.out]; exact HD.out.symm
            obtain ⟨T, HT⟩ := hid_of (Word.get X l false)
            have hsuf2 := Word.get_suffix X l false
            have href := Lib.hid (Number_any _ b Q X wr hrbr (by omega) hQ1)
            have hrd := Lib.hid (Get_any p _ l false X wr HR.out HWF.out)
            rw [hdl, HT.out] at href
            rw [HT.out] at hrd hsuf2
            obtain ⟨t1, t2, t3⟩ := T
            simp only at href hrd hsuf2
            have HSuf2 := Lib.hid (hsuf2.trans HSuf.out)
            have hlen2 := (Word.suffix_drop HSuf2.out).2
            have hend := pos_end b t2 t3 hlen2
            have hend1 : Hid ((!t3 && t2.length == 0) = (Word.pos b t2 t3 == (b.length : Int))) := Lib.hid hend.symm
            obtain ⟨P2, HP2⟩ := hid_of (Word.pos b t2 t3)
            rw [HP2.out] at href hend hend1
            clear hsuf2 hdl hrbr HT HD HQ hend hlen2
            rw [hpos]
            clear hpos
            go_wp2_with fail
            refine href.out.mono ?_
            rintro e w' ⟨rfl, rfl⟩
            clear href
            go_wp2_with fail
            refine hrd.out.mono ?_
            rintro e wa ⟨rfl, hra, hfa⟩
            have hc0a := hfa.cell HC0.out hblp
            have hc1a := hfa.cell HC1.out hblp
            have HRa := Lib.hid hra
            have HBa : Hid (Below s0 w wa) := HBr.out.trans (hfa.below hszr.out (fun k hk e => by omega))
            clear hra hfa HR HBr hszr hc0 hc1 HC0 HC1
            go_wp2_with fail
            refine (End_any p _ _ _ _ HRa.out).mono ?_
            rw [hend1.out]
            rintro e w' ⟨rfl, rfl⟩
            go_wp2
            go_roundw
            case rel => exact ⟨j + 1, by omega, by go_num, t2, t3, HSuf2, by rw [HP2.out], HRa.out, HBa.out⟩
            case measure => simp [intOf]; omega
      · have h40' : ¬ (j : Int) < 60 := by omega
        have hlt' : (j : Int) < (L.length : Int) := by omega
        clear h1 h2 hls HR
        go_wp2_with fail
        refine (awake_any _).mono ?_
        rintro e w3 ⟨rfl, hb3⟩
        go_wp2
        go_ret
        exact ⟨rfl, by rw [Hs0.out]; exact HBr.out.trans (hb3.mono hszr.out)⟩
    · have hlt' : ¬ (j : Int) < (L.length : Int) := by omega
      clear h1 h2 hls HR
      go_wp2_with fail
      refine (awake_any _).mono ?_
      rintro e w3 ⟨rfl, hb3⟩
      go_wp2
      go_ret
      exact ⟨rfl, by rw [Hs0.out]; exact HBr.out.trans (hb3.mono hszr.out)⟩
end Go.Proofs.Ytpihnlfnolgldaa
