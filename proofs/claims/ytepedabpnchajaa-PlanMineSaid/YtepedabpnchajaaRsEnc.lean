/-
  kist/rs.rows, Encode.
-/
import Derived.Test.YtepedabpnchajaaRsLaw
import Derived.Test.YtepedabpnchajaaMatTimes

namespace Go.Proofs.Ytepedabpnchajaa
open Go.RowKit
set_option linter.unusedVariables false

set_option maxRecDepth 100000 in
set_option maxHeartbeats 4000000 in
theorem rows_any (v : Value) (d : List UInt8) (w : World) (h : RB w v d) (hd : d.length = 128) :
    Calls Try.prog 54 #[v] w fun e w' => ∃ v, e = .returned v ∧ RT w' v (rowsD d) ∧ Below w.heap.size w w' := by
  obtain ⟨a, c, rfl, h1, h2⟩ := h.shape
  obtain ⟨b, o, rfl, hblt, hby⟩ := h.at (by omega)
  rw [hd] at h1 h ⊢
  simp only [maxLen] at h2
  have H := Lib.hid h
  have HD := Lib.hid hd
  have HBl := Lib.hid hblt
  clear h hby hd hblt
  have HC0 : Hid (CTb w.heap.size 35 w (.slice none 0 0) (tab 0 16 (partsF d))) := CTb.start_nil
  go_enter Try.func54, Try.ntmps54
  go_wp2
  go_loopw [3, 5] (fun v x wr => ∃ k : Nat, k ≤ 8 ∧ x = .int .i64 (k : Int) ∧ CTb w.heap.size 35 wr v (tab k 16 (partsF d)) ∧ Below w.heap.size w wr) (fun _ x _ => 8 - (intOf x).toNat)
  case atStart => exact ⟨0, by omega, rfl, HC0.out, Below.refl _ _⟩
  case round =>
    clear HC0
    obtain ⟨k, hk, rfl, hct, hbe⟩ := hrel
    obtain ⟨oa, oc, rfl, ho1, ho2⟩ := hct.shape
    rw [tab_length] at ho1 hct ⊢
    simp only [maxLen] at ho2
    have HCt := Lib.hid hct
    have HBe := Lib.hid hbe
    clear hct hbe
    by_cases hlt : k < 8
    · have hsl := H.out.sliced (k * 16) ((k + 1) * 16) (by omega) (by omega)
      have e1 : sliced (some ⟨b, o, none⟩) (k * 16) ((k + 1) * 16) c 1 = .slice (some ⟨b, o + k * 16, none⟩) ((k + 1) * 16 - k * 16) (c - k * 16) := by
        unfold sliced
        rw [if_neg (by omega)]
        simp [Addr.add_lit]
      have e2 : (d.take ((k + 1) * 16)).drop (k * 16) = line 16 (partsF d k) := by
        have hd' := HD.out
        refine List.ext_getElem (by rw [line_length]; simp [hd']; omega) fun i hi hi2 => ?_
        rw [line_length] at hi2
        simp [line, partsF, List.getD_eq_getElem?_getD, show k * 16 + i < d.length by omega, Nat.mul_comm 16 k]
      rw [e1, e2] at hsl
      have HSl := Lib.hid (hsl.below HBe.out rfl)
      clear hsl e1 e2
      have q1 : (k : Int) * 16 < 128 := by omega
      have q2 : ((k : Int) + 1) * 16 ≤ 128 := by omega
      have q3 : (0 : Int) ≤ (k : Int) * 16 := by omega
      have q4 : (128 : Int) ≤ (c : Int) := by omega
      have q5 : (k : Int) * 16 ≤ ((k : Int) + 1) * 16 := by omega
      obtain ⟨L, HL⟩ := hid_of (line 16 (partsF d k))
      obtain ⟨Ts, HTs⟩ := hid_of (tab k 16 (partsF d))
      have HTl : Hid (Ts.length = k) := by rw [← HTs.out]; exact tab_length _ _ _
      have HTn : Hid (Ts ++ [L] = tab (k + 1) 16 (partsF d)) := by rw [← HTs.out, ← HL.out]; exact (tab_succ _ _ _).symm
      rw [HTs.out] at HCt
      rw [HL.out] at HSl
      go_wp2_with (at_builtin; refine stopped ?_)
      have hba : Below wr.heap.size wr (wr.alloc (.cells #[.slice (some ⟨b, o + k * 16, none⟩) ((k + 1) * 16 - k * 16) (c - k * 16)] 35)) := (Below.refl _ _).alloc (Nat.le_refl _) _
      refine going (wpList_push_row _ rfl _ _ 34 rfl w.heap.size 35 Try.underlying34 infoRow _ Ts rfl (HCt.out.below hba rfl) wr.heap.size _ L rfl (by rw [cell_of_row _ _ 0 _ _ _ (heap_alloc_new wr _)]; rfl) (HSl.out.below hba rfl) (fun _ x hx hx2 => by have h1 : b = x := (by simpa [Value.ownBlock] using hx); have h2 := (HCt.out.lt x hx2).1; have h3 := HBl.out; omega) (by rw [HTl.out]; omega) (by have := HBe.out.size; simp; omega) ?_)
      intro v3 w3 ho3 hb3 hg3
      rw [HTn.out] at ho3
      have HO3 := Lib.hid ho3
      have HB3 : Hid (Below w.heap.size w w3) := HBe.out.trans ((hba.mono HBe.out.size).trans hb3)
      clear ho3 hb3 hg3 hba
      go_wp2
      go_roundw
      case rel => exact ⟨k + 1, by omega, by go_num, HO3.out, HB3.out⟩
      case measure => simp [intOf]; omega
    · obtain rfl : k = 8 := by omega
      have HR : Hid (RT wr (.slice oa 8 oc) (rowsD d)) := HCt.out.read
      rw [show ((8 : Nat) : Int) = 8 from rfl]
      go_wp2
      go_ret
      exact ⟨_, rfl, HR.out, HBe.out⟩
/-- Encode of 128 bytes, and of others -/
theorem encode_ctf (v : Value) (d : List UInt8) (w : World) (h : RB w v d) (hd : d.length = 128) :
    Calls Try.prog 32 #[v] w fun e w' => ∃ v, e = .returned (.tuple #[v, .int .i64 0]) ∧ CTf w.heap.size 35 w' v (encT d) ∧ Below w.heap.size w w' := by
  obtain ⟨a, c, rfl, h1, h2⟩ := h.shape
  simp only [maxLen] at h2
  have HD := Lib.hid hd
  rw [hd] at h1 h ⊢
  have H := Lib.hid h
  clear h hd
  go_enter Try.func32, Try.ntmps32
  go_wp2_with fail
  refine (code_yes 8 10 _ (by omega) (by omega) (by omega)).mono ?_
  rintro e w1 ⟨v1, rfl, hr1, hb1⟩
  have HR1 := Lib.hid hr1
  have HB1 := Lib.hid hb1
  have H1 := Lib.hid (H.out.below hb1 rfl)
  clear hr1 hb1
  go_wp2_with fail
  refine (rows_any _ d _ H1.out HD.out).mono ?_
  rintro e w2 ⟨v2, rfl, hr2, hb2⟩
  have HR2 := Lib.hid hr2
  have HR12 := Lib.hid (HR1.out.below hb2 rfl)
  have HB2 := Lib.hid (HB1.out.trans (hb2.mono HB1.out.size))
  clear hr2 hb2
  go_wp2_with fail
  refine (times_ctf _ _ (codeT 8 10) (rowsD d) _ HR12.out HR2.out (tab_table _ _ _ (by omega) (by omega) (by omega) (by omega)) (tab_table _ _ _ (by omega) (by omega) (by omega) (by omega)) (by rw [show (rowsD d).length = 8 from tab_length _ _ _]; exact tab_cols _ _ _ (by omega))).mono ?_
  rintro e w3 ⟨v3, rfl, hr3, hb3⟩
  rw [enc_times] at hr3
  have HR3 := Lib.hid (hr3.mono HB2.out.size)
  have HB3 := Lib.hid (HB2.out.trans (hb3.mono HB2.out.size))
  clear hr3 hb3 HR1 HB1 H1 HR2 HR12 HB2
  go_wp2
  go_ret2
  exact ⟨_, rfl, HR3.out, HB3.out⟩
theorem encode_ct (v : Value) (d : List UInt8) (w : World) (h : RB w v d) (hd : d.length = 128) :
    Calls Try.prog 32 #[v] w fun e w' => ∃ v, e = .returned (.tuple #[v, .int .i64 0]) ∧ CTb w.heap.size 35 w' v (encT d) ∧ Below w.heap.size w w' :=
  (encode_ctf v d w h hd).mono fun _ _ ⟨v, h1, h2, h3⟩ => ⟨v, h1, h2.ct, h3⟩
theorem encode_yes (v : Value) (d : List UInt8) (w : World) (h : RB w v d) (hd : d.length = 128) :
    Calls Try.prog 32 #[v] w fun e w' => ∃ v, e = .returned (.tuple #[v, .int .i64 0]) ∧ RT w' v (encT d) ∧ Below w.heap.size w w' :=
  (encode_ct v d w h hd).mono fun _ _ ⟨v, h1, h2, h3⟩ => ⟨v, h1, h2.read, h3⟩
theorem encode_no (v : Value) (d : List UInt8) (w : World) (h : RB w v d) (hd : d.length ≠ 128) :
    Calls Try.prog 32 #[v] w fun e w' => e = .returned (.tuple #[.slice none 0 0, .int .i64 1]) ∧ w = w' := by
  obtain ⟨a, c, rfl, h1, h2⟩ := h.shape
  simp only [maxLen] at h2
  obtain ⟨n, Hn⟩ := hid_of d.length
  rw [Hn.out] at h1 hd ⊢
  have hne : ((n : Int) == 128) = false := by simp; omega
  clear h hd
  go_enter Try.func32, Try.ntmps32
  go_wp2
  go_ret2
  exact ⟨rfl, rfl⟩
end Go.Proofs.Ytepedabpnchajaa
