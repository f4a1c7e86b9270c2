/-
  kistref03.factor, factors, Encode; kistlaw03.group.
-/
import Derived.Test.YtepedabpnchajaaRsEnc
import Derived.Test.YtepedabpnchajaaFresh
import Derived.Test.YtepedabpnchajaaGfWalk

namespace Go.Proofs.Ytepedabpnchajaa
open Go.RowKit
set_option linter.unusedVariables false

/-- of part k in shard s -/
def facF (s k : Nat) : UInt8 := inv (UInt8.ofNat s ^^^ UInt8.ofNat k)
set_option maxRecDepth 100000 in
set_option maxHeartbeats 2000000 in
theorem factor_any (s k : Nat) (w : World) (hs : s < 32) (hk : k < 32) (hne : s ≠ k) :
    Calls Try.prog 67 #[.int .i64 (s : Int), .int .i64 (k : Int)] w fun e w' => e = .returned (.int .u8 ((facF s k).toNat : Int)) ∧ w' = w := by
  have hx : bits .xor .i64 (s : Int) (k : Int) = ((UInt8.ofNat s ^^^ UInt8.ofNat k).toNat : Int) := by
    rw [byte_nat s (by omega), byte_nat k (by omega), i64_xor_u8]
  have hd : UInt8.ofNat s ^^^ UInt8.ofNat k ≠ 0 := byte_ne s k (by omega) (by omega) hne
  have hz : facF s k = quo 1 (UInt8.ofNat s ^^^ UInt8.ofNat k) := by unfold facF quo; rw [one_mul]
  obtain ⟨d, Hd⟩ := hid_of (UInt8.ofNat s ^^^ UInt8.ofNat k)
  rw [Hd.out] at hx hd hz
  have hdl := d.toNat_lt
  have hm : (d.toNat : Int) % 256 = (d.toNat : Int) := by omega
  obtain ⟨z, Hz⟩ := hid_of (facF s k)
  rw [Hz.out] at hz ⊢
  have HDiv : Hid (∀ wx, Calls Try.prog 43 #[.int .u8 1, .int .u8 (d.toNat : Int)] wx fun e w' => e = .returned (.tuple #[.int .u8 (z.toNat : Int), .bool true]) ∧ wx = w') := fun wx => by rw [hz]; exact refDiv_yes 1 d wx hd
  clear hd hz
  go_enter Try.func67, Try.ntmps67
  go_wp2_with fail
  refine (HDiv.out _).mono ?_
  rintro e w' ⟨rfl, rfl⟩
  go_wp2
  go_ret
  exact ⟨rfl, rfl⟩
/-- bytes as long as a group -/
def grp (d : List UInt8) : List UInt8 := line 128 (fun i => d.getD i 0)
theorem grp_length (d : List UInt8) : (grp d).length = 128 := line_length _ _
set_option maxRecDepth 100000 in
set_option maxHeartbeats 2000000 in
theorem refEncode_no (v : Value) (d : List UInt8) (w : World) (h : RB w v d) (hd : d.length ≠ 128) :
    Calls Try.prog 51 #[v] w fun e w' => ∃ v, e = .returned (.tuple #[v, .int .i64 1]) ∧ RT w' v [] ∧ Below w.heap.size w w' := by
  obtain ⟨a, c, rfl, h1, h2⟩ := h.shape
  simp only [maxLen] at h2
  obtain ⟨n, Hn⟩ := hid_of d.length
  rw [Hn.out] at h1 hd ⊢
  have hne : ((n : Int) == 128) = false := by simp; omega
  have HC : Hid (RT (w.alloc (.cells #[] 35)) (.slice (some ⟨w.heap.size, 0, none⟩) 0 0) []) := (CTb.start (w := w) (base := w.heap.size) (Nat.le_refl _) rfl).read
  have HB : Hid (Below w.heap.size w (w.alloc (.cells #[] 35))) := (Below.refl _ _).alloc (Nat.le_refl _) _
  clear h hd
  go_enter Try.func51, Try.ntmps51
  go_wp2
  go_ret2
  exact ⟨_, rfl, HC.out, HB.out⟩
set_option maxRecDepth 100000 in
set_option maxHeartbeats 4000000 in
theorem refEncode_ctf (v : Value) (d : List UInt8) (w : World) (h : RB w v d) (hd : d.length = 128) :
    Calls Try.prog 51 #[v] w fun e w' => ∃ v, e = .returned (.tuple #[v, .int .i64 0]) ∧ CTf w.heap.size 35 w' v (encT d) ∧ Below w.heap.size w w' := by
  obtain ⟨a, c, rfl, h1, h2⟩ := h.shape
  obtain ⟨b, o, rfl, hblt, hby⟩ := h.at (by omega)
  rw [hd] at h1 h hby ⊢
  simp only [maxLen] at h2
  have H := Lib.hid h
  have HD := Lib.hid hd
  have HBl := Lib.hid hblt
  have HBy := Lib.hid hby
  clear h hby hd hblt
  have HC0 : Hid (CTf w.heap.size 35 (w.alloc (.cells #[] 35)) (.slice (some ⟨w.heap.size, 0, none⟩) 0 0) (tab 0 16 (encF d))) := CTf.start (w := w) (Nat.le_refl _) rfl
  have HB0 : Hid (Below w.heap.size w (w.alloc (.cells #[] 35))) := (Below.refl _ _).alloc (Nat.le_refl _) _
  go_enter Try.func51, Try.ntmps51
  go_wp2
  go_loopw [4, 5] (fun v x wr => ∃ k : Nat, k ≤ 8 ∧ x = .int .i64 (k : Int) ∧ CTf w.heap.size 35 wr v (tab k 16 (encF d)) ∧ Below w.heap.size w wr) (fun _ x _ => 8 - (intOf x).toNat)
  case atStart => exact ⟨0, by omega, rfl, HC0.out, HB0.out⟩
  case round =>
    clear HC0 HB0
    obtain ⟨k, hk, rfl, hct, hbe⟩ := hrel
    obtain ⟨oa, oc, rfl, ho1, ho2⟩ := hct.shape
    rw [tab_length] at ho1 hct ⊢
    simp only [maxLen] at ho2
    have HCt := Lib.hid hct
    have HBe := Lib.hid hbe
    clear hct hbe
    by_cases hlt : k < 8
    · have hsl := H.out.sliced (16 * k) (16 * k + 16) (by omega) (by omega)
      have e1 : sliced (some ⟨b, o, none⟩) (16 * k) (16 * k + 16) c 1 = .slice (some ⟨b, o + 16 * k, none⟩) (16 * k + 16 - 16 * k) (c - 16 * k) := by
        unfold sliced
        rw [if_neg (by omega)]
        simp [Addr.add_lit]
      have e2 : (d.take (16 * k + 16)).drop (16 * k) = line 16 (encF d k) := by
        have hd' := HD.out
        refine List.ext_getElem (by rw [line_length]; simp [hd']; omega) fun i hi hi2 => ?_
        rw [line_length] at hi2
        simp [line, enc_low d k i hlt, List.getD_eq_getElem?_getD, show 16 * k + i < d.length by omega]
      rw [e1, e2] at hsl
      have hba0 : Below wr.heap.size wr (wr.alloc (.cells #[] 5)) := (Below.refl _ _).alloc (Nat.le_refl _) _
      have HSl := Lib.hid ((hsl.below HBe.out rfl).below hba0 rfl)
      clear hsl e1 e2 hba0
      have q1 : 16 * (k : Int) < 128 := by omega
      have q2 : 16 * (k : Int) + 16 ≤ 128 := by omega
      have q3 : (0 : Int) ≤ 16 * (k : Int) := by omega
      have q4 : (128 : Int) ≤ (c : Int) := by omega
      obtain ⟨L, HL⟩ := hid_of (line 16 (encF d k))
      have HLn : Hid (L.length = 16) := by rw [← HL.out]; exact line_length _ _
      obtain ⟨Ts, HTs⟩ := hid_of (tab k 16 (encF d))
      have HTl : Hid (Ts.length = k) := by rw [← HTs.out]; exact tab_length _ _ _
      have HTn : Hid (Ts ++ [L] = tab (k + 1) 16 (encF d)) := by rw [← HTs.out, ← HL.out]; exact (tab_succ _ _ _).symm
      rw [HTs.out] at HCt
      rw [HL.out] at HSl
      go_wp2_with (at_builtin; refine stopped ?_)
      refine going (wpList_append_bytes _ rfl _ _ 35 35 rfl wr.heap.size 5 5 Try.underlying35 Try.underlying35 infoByte _ [] 0 rfl (own_empty (w := wr) (Nat.le_refl _) rfl) _ L rfl HSl.out (by rw [HLn.out]; simp) (by simp) ?_)
      intro v3 w3 ho3 hb3 hg3
      rw [List.nil_append] at ho3
      have hb3' : Below wr.heap.size wr w3 := ((Below.refl wr.heap.size wr).alloc (Nat.le_refl _) _).trans hb3
      have HO3 := Lib.hid ho3
      have HB3 := Lib.hid hb3'
      have HRb3 := Lib.hid (RB.own ho3)
      obtain ⟨va, vc, rfl, _, _⟩ := own_shape ho3
      rw [HLn.out] at HO3 HRb3 ⊢
      clear ho3 hb3 hg3 hb3'
      go_wp2_with (at_builtin; refine stopped ?_)
      have hba : Below wr.heap.size wr (w3.alloc (.cells #[.slice va 16 vc] 35)) := HB3.out.alloc HB3.out.size _
      refine going (wpList_push_row_f _ rfl _ _ 34 rfl w.heap.size 35 Try.underlying34 infoRow _ Ts rfl (HCt.out.below hba rfl) w3.heap.size (.slice va 16 vc) L rfl (by rw [cell_of_row _ _ 0 _ _ _ (heap_alloc_new w3 _)]; rfl) (HRb3.out.below ((Below.refl w3.heap.size w3).alloc (Nat.le_refl _) _) rfl) (fun _ x hx hx2 => by have h1 := (HO3.out.lt x hx).1; have h2 := (HCt.out.ct.lt x hx2).2; omega) (fun x hx => by have h1 := (HO3.out.lt x hx).1; have := HBe.out.size; omega) (by rw [HTl.out]; omega) (by have := HBe.out.size; have := hba.size; omega) ?_)
      intro v4 w4 ho4 hb4 hg4
      rw [HTn.out] at ho4
      have HO4 := Lib.hid ho4
      have HB4 : Hid (Below w.heap.size w w4) := HBe.out.trans ((hba.mono HBe.out.size).trans hb4)
      clear ho4 hb4 hg4 hba
      go_wp2
      go_roundw
      case rel => exact ⟨k + 1, by omega, by go_num, HO4.out, HB4.out⟩
      case measure => simp [intOf]; omega
    · obtain rfl : k = 8 := by omega
      have HC8 : Hid (CTf w.heap.size 35 wr (.slice oa 8 oc) (tab 8 16 (encF d))) := HCt.out
      rw [show ((8 : Nat) : Int) = 8 from rfl]
      clear HCt
      go_wp2
      go_loopw [4, 6] (fun v x wx => ∃ s : Nat, 8 ≤ s ∧ s ≤ 10 ∧ x = .int .i64 (s : Int) ∧ CTf w.heap.size 35 wx v (tab s 16 (encF d)) ∧ Below w.heap.size w wx) (fun _ x _ => 10 - (intOf x).toNat)
      case atStart => exact ⟨8, by omega, by omega, rfl, HC8.out, HBe.out⟩
      case round =>
        clear HC8 HBe
        obtain ⟨s, hs8, hs, rfl, hct, hbe⟩ := hrel
        obtain ⟨oa, oc, rfl, ho1, ho2⟩ := hct.shape
        rw [tab_length] at ho1 hct ⊢
        simp only [maxLen] at ho2
        have HCt := Lib.hid hct
        have HBe := Lib.hid hbe
        clear hct hbe
        obtain ⟨w1, hw1⟩ : ∃ w1, w1 = wr := ⟨_, rfl⟩
        subst hw1
        by_cases hlt : s < 10
        · have hs10 : (s : Int) < 10 := by omega
          have hmk := make_bytes 16 (by omega) w1
          rw [show ((16 : Nat) : Int) = 16 from rfl] at hmk
          have HR0 : Hid (RowF 5 (w1.alloc (.cells (madeCells #[.int .u8 0] 16) 5)) w1.heap.size 16 (fun j => sm 0 (fun k => mul (facF s k) (d.getD (16 * k + j) 0)))) := made_row w1 5 16 rfl
          have HB0 : Hid (Below w1.heap.size w1 (w1.alloc (.cells (madeCells #[.int .u8 0] 16) 5))) := (Below.refl _ _).alloc (Nat.le_refl _) _
          go_wp2
          clear hmk
          go_loopw [8] (fun x wx => ∃ k : Nat, k ≤ 8 ∧ x = .int .i64 (k : Int) ∧ RowF 5 wx w1.heap.size 16 (fun j => sm k (fun k => mul (facF s k) (d.getD (16 * k + j) 0))) ∧ Below w1.heap.size w1 wx) (fun x _ => 8 - (intOf x).toNat)
          case atStart => exact ⟨0, by omega, rfl, HR0.out, HB0.out⟩
          case round =>
            clear HR0 HB0
            obtain ⟨k, hk8, rfl, hrf, hbk⟩ := hrel
            have HRf := Lib.hid hrf
            have HBk := Lib.hid hbk
            clear hrf hbk
            by_cases hlk : k < 8
            · have hk8I : (k : Int) < 8 := by omega
              have HFa : Hid (∀ wx, Calls Try.prog 67 #[.int .i64 (s : Int), .int .i64 (k : Int)] wx fun e w' => e = .returned (.int .u8 ((facF s k).toNat : Int)) ∧ w' = wx) := fun wx => factor_any s k wx (by omega) (by omega) (by omega)
              obtain ⟨f, Hf⟩ := hid_of (facF s k)
              rw [Hf.out] at HFa
              have HR1 : Hid (RowF 5 wr w1.heap.size 16 (fun j => if j < 0 then sm (k + 1) (fun k => mul (facF s k) (d.getD (16 * k + j) 0)) else sm k (fun k => mul (facF s k) (d.getD (16 * k + j) 0)))) := HRf.out.congr (fun j hj => by simp)
              go_wp2_with fail
              refine (HFa.out _).mono ?_
              rintro e w' ⟨rfl, rfl⟩
              go_wp2
              go_loopw [10] (fun x wx => ∃ j : Nat, j ≤ 16 ∧ x = .int .i64 (j : Int) ∧ RowF 5 wx w1.heap.size 16 (fun i => if i < j then sm (k + 1) (fun k => mul (facF s k) (d.getD (16 * k + i) 0)) else sm k (fun k => mul (facF s k) (d.getD (16 * k + i) 0))) ∧ Below w1.heap.size w1 wx) (fun x _ => 16 - (intOf x).toNat)
              case atStart => exact ⟨0, by omega, rfl, HR1.out, HBk.out⟩
              case round =>
                clear HR1 HRf HBk
                obtain ⟨j, hj, rfl, hrf, hbk⟩ := hrel
                have HRf := Lib.hid hrf
                have HBk := Lib.hid hbk
                clear hrf hbk
                by_cases hlj : j < 16
                · have hj16 : (j : Int) < 16 := by omega
                  have hold := HRf.out.cell j hlj
                  simp only [Nat.lt_irrefl, if_false] at hold
                  have hfz := HRf.out.frozen j
                  have hb := HBy.out (16 * k + j) (by omega)
                  have hb' : wr.cell? ⟨b, o + (16 * k + j), none⟩ = some (.int .u8 ((d.getD (16 * k + j) 0).toNat : Int)) := by
                    rw [HBk.out.cell (p := ⟨b, o + (16 * k + j), none⟩) (by have := HBe.out.size; have := HBl.out; simp only; omega), HBe.out.cell (p := ⟨b, o + (16 * k + j), none⟩) HBl.out]
                    exact hb
                  have hsm : sm (k + 1) (fun k => mul (facF s k) (d.getD (16 * k + j) 0)) = sm k (fun k => mul (facF s k) (d.getD (16 * k + j) 0)) ^^^ mul (facF s k) (d.getD (16 * k + j) 0) := rfl
                  rw [Hf.out] at hsm
                  obtain ⟨z, Hz⟩ := hid_of (d.getD (16 * k + j) 0)
                  obtain ⟨y, Hy⟩ := hid_of (sm k (fun k => mul (facF s k) (d.getD (16 * k + j) 0)))
                  rw [Hz.out] at hb'
                  rw [Hy.out] at hold
                  rw [Hz.out, Hy.out] at hsm
                  have HMul : Hid (∀ wx, Calls Try.prog 45 #[.int .u8 (f.toNat : Int), .int .u8 (z.toNat : Int)] wx fun e w' => e = .returned (.int .u8 ((mul f z).toNat : Int)) ∧ w' = wx) := fun wx => (refMul_any f z wx).mono fun e w' ⟨h1, h2⟩ => ⟨h1, h2.symm⟩
                  have hxx := u8_xor_u8 y (mul f z)
                  rw [← hsm] at hxx
                  obtain ⟨q, Hq⟩ := hid_of (mul f z)
                  rw [Hq.out] at HMul hxx
                  obtain ⟨x, Hx⟩ := hid_of (sm (k + 1) (fun k => mul (facF s k) (d.getD (16 * k + j) 0)))
                  rw [Hx.out] at hxx
                  have hset := ((HRf.out.set j x).drew).congr (f' := fun i => if i < j + 1 then sm (k + 1) (fun k => mul (facF s k) (d.getD (16 * k + i) 0)) else sm k (fun k => mul (facF s k) (d.getD (16 * k + i) 0))) (fun i hi => by
                    by_cases e : i = j
                    · subst e
                      rw [if_pos rfl, if_pos (by omega), Hx.out]
                    · rw [if_neg e]
                      by_cases e2 : i < j
                      · rw [if_pos e2, if_pos (by omega)]
                      · rw [if_neg e2, if_neg (by omega)])
                  have HSet := Lib.hid hset
                  have HB2 : Hid (Below w1.heap.size w1 (wr.setCell ⟨w1.heap.size, j, none⟩ (.int .u8 (x.toNat : Int))).drew) := (HBk.out.setCell (Nat.le_refl _) _).drew
                  have i1 : IntKind.i64.wrap (16 * (k : Int)) = 16 * (k : Int) := IntWalk.i64_in _ (by omega)
                  have i2 : IntKind.i64.wrap (16 * (k : Int) + (j : Int)) = 16 * (k : Int) + (j : Int) := IntWalk.i64_in _ (by omega)
                  have i3 : (16 * (k : Int) + (j : Int)) < 128 := by omega
                  have i4 : (0 : Int) ≤ 16 * (k : Int) + (j : Int) := by omega
                  have i5 : (16 * (k : Int) + (j : Int)).toNat = 16 * k + j := by omega
                  clear hset hb HRf hsm
                  go_wp2
                  go_still_tail 15, (by kernel_rfl)
                  still_call (HMul.out _)
                  repeat still_step
                  refine wpStill_nil ?_
                  rw [show ({ heap := wr.heap, tape := wr.tape, drawn := wr.drawn + 1, os := wr.os, output := wr.output } : World) = wr.drew from rfl]
                  go_wp2
                  go_roundw
                  case rel => exact ⟨j + 1, by omega, by go_num, HSet.out, HB2.out⟩
                  case measure => simp [intOf]; omega
                · obtain rfl : j = 16 := by omega
                  have HR2 : Hid (RowF 5 wr w1.heap.size 16 (fun j => sm (k + 1) (fun k => mul (facF s k) (d.getD (16 * k + j) 0)))) := HRf.out.congr (fun j hj => by simp [hj])
                  rw [show ((16 : Nat) : Int) = 16 from rfl]
                  clear HRf
                  go_wp2
                  refine ⟨⟨k + 1, by omega, by go_num, HR2.out, HBk.out⟩, by simp [intOf]; omega⟩
            · obtain rfl : k = 8 := by omega
              rw [show ((8 : Nat) : Int) = 8 from rfl]
              have hrow : RowF 5 wr w1.heap.size 16 (encF d s) := HRf.out.congr (fun j hj => by rw [enc_high d s j hs8]; rfl)
              have hrb := hrow.read (Nat.le_refl 16) (by simp [maxLen])
              obtain ⟨L, HL⟩ := hid_of (line 16 (encF d s))
              obtain ⟨Ts, HTs⟩ := hid_of (tab s 16 (encF d))
              have HTl : Hid (Ts.length = s) := by rw [← HTs.out]; exact tab_length _ _ _
              have HTn : Hid (Ts ++ [L] = tab (s + 1) 16 (encF d)) := by rw [← HTs.out, ← HL.out]; exact (tab_succ _ _ _).symm
              rw [HTs.out] at HCt
              rw [HL.out] at hrb
              have HRv := Lib.hid hrb
              clear hrb hrow HRf
              go_wp2_with (at_builtin; refine stopped ?_)
              have hba : Below w1.heap.size w1 (wr.alloc (.cells #[.slice (some ⟨w1.heap.size, 0, none⟩) 16 16] 35)) := HBk.out.alloc HBk.out.size _
              refine going (wpList_push_row_f _ rfl _ _ 34 rfl w.heap.size 35 Try.underlying34 infoRow _ Ts rfl (HCt.out.below hba rfl) wr.heap.size (.slice (some ⟨w1.heap.size, 0, none⟩) 16 16) L rfl (by rw [cell_of_row _ _ 0 _ _ _ (heap_alloc_new wr _)]; rfl) (HRv.out.below ((Below.refl wr.heap.size wr).alloc (Nat.le_refl _) _) rfl) (fun _ x hx hx2 => by have h1 : w1.heap.size = x := (by simpa [Value.ownBlock] using hx); have h2 := (HCt.out.ct.lt x hx2).2; omega) (fun x hx => by have h1 : w1.heap.size = x := (by simpa [Value.ownBlock] using hx); have := HBe.out.size; omega) (by rw [HTl.out]; omega) (by have := HBe.out.size; have := hba.size; omega) ?_)
              intro v3 w3 ho3 hb3 hg3
              rw [HTn.out] at ho3
              have HO3 := Lib.hid ho3
              have HB3 : Hid (Below w.heap.size w w3) := HBe.out.trans ((hba.mono HBe.out.size).trans hb3)
              clear ho3 hb3 hg3 hba
              go_wp2
              refine ⟨⟨s + 1, by omega, by omega, by go_num, HO3.out, HB3.out⟩, by simp [intOf]; omega⟩
        · obtain rfl : s = 10 := by omega
          have HR : Hid (CTf w.heap.size 35 w1 (.slice oa 10 oc) (encT d)) := HCt.out
          rw [show ((10 : Nat) : Int) = 10 from rfl]
          go_wp2
          go_ret2
          exact ⟨_, rfl, HR.out, HBe.out⟩
theorem refEncode_yes (v : Value) (d : List UInt8) (w : World) (h : RB w v d) (hd : d.length = 128) :
    Calls Try.prog 51 #[v] w fun e w' => ∃ v, e = .returned (.tuple #[v, .int .i64 0]) ∧ RT w' v (encT d) ∧ Below w.heap.size w w' :=
  (refEncode_ctf v d w h hd).mono fun _ _ ⟨v, h1, h2, h3⟩ => ⟨v, h1, h2.ct.read, h3⟩
end Go.Proofs.Ytepedabpnchajaa
