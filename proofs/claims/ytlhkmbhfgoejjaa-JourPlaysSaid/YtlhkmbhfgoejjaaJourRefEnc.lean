/-
  kistref12.Encode.
-/
import Derived.Test.YtlhkmbhfgoejjaaJourEnc
import Derived.Test.YtlhkmbhfgoejjaaWordRefPut

namespace Go.Proofs.Ytlhkmbhfgoejjaa
open Go.RowKit
set_option linter.unusedVariables false
set_option linter.unusedSimpArgs false

theorem rput_r (wx : World) (v : Value) (l : List UInt8) (z : Int) (hr : RB wx v l) (hz : (Lit.int .i64 z).wf = true) (hl : l.length ≤ 4000) :
    Calls Try.prog 48 #[v, .int .i64 z] wx fun e w' => ∃ v', e = .returned v' ∧ RB w' v' (l ++ Word.enc z.toNat) ∧ Below wx.heap.size wx w' :=
  (RPut_any v l z wx hr hz (by omega)).mono fun e w' ⟨v', h1, h2, h3⟩ => ⟨v', h1, RB.own h2, h3⟩
theorem rtext_r (wx : World) (v : Value) (l s : List UInt8) (hr : RB wx v l) (hl : l.length ≤ 4000) (hs : s.length ≤ 4000) :
    Calls Try.prog 49 #[v, .string (S s)] wx fun e w' => ∃ v', e = .returned v' ∧ RB w' v' (l ++ Word.enc s.length ++ s) ∧ Below wx.heap.size wx w' :=
  (RefText_any v l s wx hr (by omega)).mono fun e w' ⟨v', h1, h2, h3⟩ => ⟨v', h1, RB.own h2, h3⟩
theorem rencode_no (n : Nt) (d p : Value) (w : World) (h : NtR w d p n) (hg : ¬ Jour.Good n) :
    Calls Try.prog 15 #[ntV n d p] w fun e w' => e = .returned (.tuple #[.slice none 0 0, .int .i64 12]) ∧ Below w.heap.size w w' := by
  have hb0 : Below w.heap.size w (w.alloc (.cells (ntC n d p) 25)) := (Below.refl _ _).alloc (Nat.le_refl _) _
  have HB0 := Lib.hid hb0
  have HGd := Lib.hid (refGood_any n d p false _ (h.below hb0 rfl) (Jour.goodB_no hg))
  clear h hg hb0
  unfold ntV ntC at HGd ⊢
  unfold ntC at HB0
  go_enter Try.func15, Try.ntmps15
  go_wp2_with fail
  refine HGd.out.mono ?_
  rintro e w1 ⟨rfl, hb1⟩
  have HB1 := Lib.hid (HB0.out.trans (hb1.mono HB0.out.size))
  clear hb1
  go_wp2
  go_ret2
  exact ⟨rfl, HB1.out⟩
set_option maxRecDepth 100000 in
set_option maxHeartbeats 4000000 in
theorem rencode_yes (n : Nt) (d p : Value) (w : World) (h : NtR w d p n) (hg : Jour.Good n) :
    Calls Try.prog 15 #[ntV n d p] w fun e w' => (∃ a c, e = .returned (.tuple #[.slice a (Jour.code n).length c, .int .i64 0]) ∧ RB w' (.slice a (Jour.code n).length c) (Jour.code n)) ∧ Below w.heap.size w w' := by
  have hb0 : Below w.heap.size w (w.alloc (.cells (ntC n d p) 25)) := (Below.refl _ _).alloc (Nat.le_refl _) _
  have HB0 := Lib.hid hb0
  have HGd := Lib.hid (refGood_any n d p true _ (h.below hb0 rfl) (Jour.goodB_yes hg))
  obtain ⟨⟨hd, hp⟩, ⟨hk1, hk2⟩, hw1, hw2, hw3, hw4⟩ := h
  have HBk : Hid (Blk (w.alloc (.cells (ntC n d p) 25)) w.heap.size (ntC n d p).toList 25) := Blk.new w _ _ rfl
  have HD0 := Lib.hid (hd.below hb0 rfl)
  have HP0 := Lib.hid (hp.below hb0 rfl)
  obtain ⟨pa, pc, rfl, hpc1, hpc2⟩ := hp.shape
  simp only [maxLen] at hpc2
  obtain ⟨m, Hm⟩ := hid_of n.places.length
  rw [Hm.out] at hpc1
  have HLen := Lib.hid (Jour.pre_lens hg)
  have hg2 := hg
  obtain ⟨g1, g2, g3, g4, g5, g6, g7, g8, g9⟩ := hg2
  rw [Hm.out] at g8
  have HG9 := Lib.hid g9
  have HW1 := Lib.hid hw1
  have HW2 := Lib.hid hw2
  have HW3 := Lib.hid hw3
  have HW4 := Lib.hid hw4
  have HL1 : Hid ((Jour.pre1 n).length ≤ 1000) := by
    have := HLen.out.1
    unfold Jour.head Jour.pre2 at this
    simp only [List.length_append] at this
    show _ ≤ _
    omega
  have HL2 : Hid ((Jour.pre2 n).length ≤ 1000) := by
    have := HLen.out.1
    unfold Jour.head at this
    simp only [List.length_append] at this
    show _ ≤ _
    omega
  have HK16 := Lib.hid g2
  have HD512 := Lib.hid g5
  have HS32 := Lib.hid g6
  clear hd hp hk1 hk2 hw1 hw2 hw3 hw4 hb0 hg g1 g2 g3 g4 g5 g6 g7 g9
  unfold ntV ntC at HGd ⊢
  unfold ntC at HB0 HBk HD0 HP0
  rw [Hm.out] at HGd HB0 HBk HD0 HP0 ⊢
  go_enter Try.func15, Try.ntmps15
  go_wp2_with fail
  refine HGd.out.mono ?_
  rintro e w1 ⟨rfl, hb1⟩
  have HB1 := Lib.hid (HB0.out.trans (hb1.mono HB0.out.size))
  have HBk1 := Lib.hid (HBk.out.below hb1 HBk.out.lt)
  have HD1 := Lib.hid (HD0.out.below hb1 rfl)
  have HP1 := Lib.hid (HP0.out.below hb1 rfl)
  clear hb1 HBk HD0 HP0 HB0 HGd
  have HF : Hid (∀ wx, Below w1.heap.size w1 wx → (wx.cell? ⟨w.heap.size, 0, none⟩ = some (.int .i64 n.kind) ∧ wx.cell? ⟨w.heap.size, 1, none⟩ = some (.string (S n.key)) ∧ wx.cell? ⟨w.heap.size, 2, none⟩ = some (.int .i64 n.gen) ∧ wx.cell? ⟨w.heap.size, 3, none⟩ = some (.int .i64 n.cart) ∧ wx.cell? ⟨w.heap.size, 4, none⟩ = some d ∧ wx.cell? ⟨w.heap.size, 5, none⟩ = some (.string (S n.sum)) ∧ wx.cell? ⟨w.heap.size, 6, none⟩ = some (.int .i64 n.size) ∧ wx.cell? ⟨w.heap.size, 7, none⟩ = some (.slice pa m pc))) := fun wx hx => nt_cells (n := n) (HBk1.out.below hx HBk1.out.lt)
  have HQ0 : Hid (Below w1.heap.size w1 w1.drew) := (Below.refl _ _).drew
  have HQ : Hid (Below w1.heap.size w1 w1) := Below.refl _ _
  obtain ⟨q, -, -, -, -, -, -, -⟩ := HF.out _ HQ.out
  go_wp2_with fail
  refine (rput_r _ _ [] n.kind (RB.nil _) HW1.out (by simp)).mono ?_
  rintro e w2 ⟨v2, rfl, hrx, hbx⟩
  clear q
  have HRR := Lib.hid hrx
  have HQn := Lib.hid (HQ.out.trans (hbx.mono HQ.out.size))
  clear HQ hrx hbx
  have HQ := HQn
  clear HQn
  obtain ⟨-, q, -, -, -, -, -, -⟩ := HF.out _ HQ.out
  go_wp2_with fail
  refine (rtext_r _ _ _ n.key HRR.out (by have := HL1.out; unfold Jour.pre1 at this; simp only [List.length_append, List.nil_append] at this ⊢; omega) (by have := HK16.out; omega)).mono ?_
  rintro e w3 ⟨v3, rfl, hrx, hbx⟩
  clear q
  clear HRR
  have HRR := Lib.hid hrx
  have HQn := Lib.hid (HQ.out.trans (hbx.mono HQ.out.size))
  clear HQ hrx hbx
  have HQ := HQn
  clear HQn
  obtain ⟨-, -, q, -, -, -, -, -⟩ := HF.out _ HQ.out
  go_wp2_with fail
  refine (rput_r _ _ _ n.gen HRR.out HW2.out (by have := HL1.out; unfold Jour.pre1 at this; simp only [List.length_append, List.nil_append] at this ⊢; omega)).mono ?_
  rintro e w4 ⟨v4, rfl, hrx, hbx⟩
  clear q
  clear HRR
  have HRR := Lib.hid hrx
  have HQn := Lib.hid (HQ.out.trans (hbx.mono HQ.out.size))
  clear HQ hrx hbx
  have HQ := HQn
  clear HQn
  obtain ⟨-, -, -, q, -, -, -, -⟩ := HF.out _ HQ.out
  go_wp2_with fail
  refine (rput_r _ _ _ n.cart HRR.out HW3.out (by have := HL2.out; unfold Jour.pre2 Jour.pre1 at this; simp only [List.length_append, List.nil_append] at this ⊢; omega)).mono ?_
  rintro e w5 ⟨v5, rfl, hrx, hbx⟩
  clear q
  clear HRR
  have HRR := Lib.hid hrx
  have HQn := Lib.hid (HQ.out.trans (hbx.mono HQ.out.size))
  clear HQ hrx hbx
  have HQ := HQn
  clear HQn
  obtain ⟨-, -, -, -, q, -, -, -⟩ := HF.out _ HQ.out
  have hcv := run_convert_S (P := Try.prog) (HD1.out.below HQ.out rfl) 22 9 5 Try.underlying22 Try.underlying5 Try.underlying9
  go_wp2_with fail
  refine (rtext_r _ _ _ n.data HRR.out (by have := HL2.out; unfold Jour.pre2 Jour.pre1 at this; simp only [List.length_append, List.nil_append] at this ⊢; omega) (by have := HD512.out; omega)).mono ?_
  rintro e w6 ⟨v6, rfl, hrx, hbx⟩
  clear q hcv
  clear HRR
  have HRR := Lib.hid hrx
  have HQn := Lib.hid (HQ.out.trans (hbx.mono HQ.out.size))
  clear HQ hrx hbx
  have HQ := HQn
  clear HQn
  obtain ⟨-, -, -, -, -, q, -, -⟩ := HF.out _ HQ.out
  go_wp2_with fail
  refine (rtext_r _ _ _ n.sum HRR.out (by have := HL2.out; unfold Jour.pre2 Jour.pre1 at this; simp only [List.length_append, List.nil_append] at this ⊢; omega) (by have := HS32.out; omega)).mono ?_
  rintro e w7 ⟨v7, rfl, hrx, hbx⟩
  clear q
  clear HRR
  have HRR := Lib.hid hrx
  have HQn := Lib.hid (HQ.out.trans (hbx.mono HQ.out.size))
  clear HQ hrx hbx
  have HQ := HQn
  clear HQn
  obtain ⟨-, -, -, -, -, -, q, -⟩ := HF.out _ HQ.out
  go_wp2_with fail
  refine (rput_r _ _ _ n.size HRR.out HW4.out (by have := HLen.out.1; unfold Jour.head Jour.pre2 Jour.pre1 at this; simp only [List.length_append, List.nil_append] at this ⊢; omega)).mono ?_
  rintro e w8 ⟨v8, rfl, hrx, hbx⟩
  clear q
  clear HRR
  have HRR := Lib.hid hrx
  have HQn := Lib.hid (HQ.out.trans (hbx.mono HQ.out.size))
  clear HQ hrx hbx
  have HQ := HQn
  clear HQn
  obtain ⟨-, -, -, -, -, -, -, q⟩ := HF.out _ HQ.out
  go_wp2_with fail
  refine (rput_r _ _ _ (m : Int) HRR.out (wf_in (by omega)) (by have := HLen.out.1; unfold Jour.head Jour.pre2 Jour.pre1 at this; simp only [List.length_append, List.nil_append] at this ⊢; omega)).mono ?_
  rintro e w9 ⟨v9, rfl, hrx, hbx⟩
  clear q
  clear HRR
  have HRR := Lib.hid hrx
  have HQn := Lib.hid (HQ.out.trans (hbx.mono HQ.out.size))
  clear HQ hrx hbx
  have HQ := HQn
  clear HQn
  have HRI : Hid (RB w9 v9 (Jour.head n)) := by
    have h := HRR.out
    rw [Int.toNat_natCast, ← Hm.out, List.nil_append] at h
    exact h
  have HBw9 := Lib.hid (HB1.out.trans (HQ.out.mono HB1.out.size))
  obtain ⟨-, -, -, -, -, -, -, q7⟩ := HF.out _ HQ.out
  clear HRR
  go_wp2
  go_loopw [4, 5] (fun u x wr => ∃ i : Nat, i ≤ m ∧ x = .int .i64 (i : Int) ∧ RB wr u (Jour.head n ++ Jour.encP (n.places.take i)) ∧ Below w9.heap.size w9 wr) (fun _ x _ => m - (intOf x).toNat)
  case atStart => exact ⟨0, by omega, rfl, by rw [List.take_zero, Jour.encP_nil, List.append_nil]; exact HRI.out, Below.refl _ _⟩
  case round =>
    clear q7
    obtain ⟨i, hi, rfl, hri, hbi⟩ := hrel
    have HRi := Lib.hid hri
    have HBi := Lib.hid hbi
    have HQi := Lib.hid (HQ.out.trans (hbi.mono HQ.out.size))
    clear hri hbi
    obtain ⟨-, -, -, -, -, -, -, q7⟩ := HF.out _ HQi.out
    by_cases hlt : i < m
    · have hin : (i : Int) < (m : Int) := by omega
      obtain ⟨bb, off, rfl, hbb, c0, c1⟩ := HP1.out.at (i := i) (by rw [Hm.out]; exact hlt)
      have HOk : Hid (Jour.PlOk (n.places.getD i (0, 0))) := HG9.out _ (by
        rw [List.getD_eq_getElem?_getD, List.getElem?_eq_getElem (by rw [Hm.out]; exact hlt)]
        exact List.getElem_mem _)
      have HEt := Lib.hid (Jour.encP_take (l := n.places) (i := i) (by rw [Hm.out]; exact hlt))
      have HLi : Hid ((Jour.head n ++ Jour.encP (n.places.take i)).length ≤ 2000) := by
        have h1 := HLen.out.1
        have h2 := HLen.out.2 i (by rw [Hm.out]; omega)
        show _ ≤ _
        rw [List.length_append]
        omega
      obtain ⟨q, Hq⟩ := hid_of (n.places.getD i (0, 0))
      rw [Hq.out] at c0 c1 HOk HEt
      obtain ⟨qc, qp⟩ := q
      have hok := HOk.out
      simp only [Jour.PlOk] at hok
      have HE9 : Hid ((Word.enc qc.toNat).length ≤ 9) := Jour.enc_le9 (by omega)
      have HFp : Hid (∀ wx, Below wr.heap.size wr wx → wx.cell? ⟨w.heap.size, 7, none⟩ = some (.slice (some ⟨bb, off, none⟩) m pc) ∧ wx.cell? ⟨bb, off + i * 2, none⟩ = some (.int .i64 qc) ∧ wx.cell? ⟨bb, off + i * 2 + 1, none⟩ = some (.int .i64 qp)) := fun wx hx => by
        have hy := HQi.out.trans (hx.mono HQi.out.size)
        exact ⟨(HF.out _ hy).2.2.2.2.2.2.2, (hy.cell (p := ⟨bb, off + i * 2, none⟩) hbb).trans c0, (hy.cell (p := ⟨bb, off + i * 2 + 1, none⟩) hbb).trans c1⟩
      have HZ0 : Hid (Below wr.heap.size wr wr.drew) := (Below.refl _ _).drew
      have HRa : Hid (RB wr.drew u4 (Jour.head n ++ Jour.encP (n.places.take i))) := HRi.out
      have hs0 := HFp.out _ HZ0.out
      clear c0 c1 hbb
      go_wp2_with fail
      go_region_held (fun wx => wx.cell? ⟨w.heap.size, 7, none⟩ = some (.slice (some ⟨bb, off, none⟩) m pc) ∧ wx.cell? ⟨bb, off + i * 2, none⟩ = some (.int .i64 qc) ∧ wx.cell? ⟨bb, off + i * 2 + 1, none⟩ = some (.int .i64 qp))
        (first | exact hs0 | exact hs1 | exact hs2)
        (first
        | (go_at_call 48
           (with_reducible refine (rput_r _ _ _ qc HRa.out (wf_in (by omega)) ?_).mono ?_)
           · have := HLi.out; omega
           rintro e wA ⟨vA, rfl, hrx, hbx⟩
           have HZ1 := Lib.hid (HZ0.out.trans (hbx.mono HZ0.out.size))
           have HRA2 := Lib.hid hrx
           have hs1 := HFp.out _ HZ1.out
           clear hbx hrx)
        | (go_at_call 48
           (with_reducible refine (rput_r _ _ _ qp HRA2.out (wf_in (by omega)) ?_).mono ?_)
           · have := HLi.out; have := HE9.out; rw [List.length_append]; omega
           rintro e wB ⟨vB, rfl, hrx, hbx⟩
           have HZ2 := Lib.hid (HZ1.out.trans (hbx.mono HZ1.out.size))
           have HRB2 := Lib.hid hrx
           have hs2 := HFp.out _ HZ2.out
           clear hbx hrx))
      clear hs0 hs1 hs2
      have HRn : Hid (RB wB vB (Jour.head n ++ Jour.encP (n.places.take (i + 1)))) := by
        rw [HEt.out, ← List.append_assoc, ← List.append_assoc]
        exact HRB2.out
      have HBn := Lib.hid (HBi.out.trans (HZ2.out.mono HBi.out.size))
      go_wp2
      go_roundw
      case rel => exact ⟨i + 1, by omega, by go_num, HRn.out, HBn.out⟩
      case measure => simp [intOf]; omega
    · obtain rfl : i = m := by omega
      have HRc : Hid (RB wr u4 (Jour.code n)) := by
        have h := HRi.out
        rw [List.take_of_length_le (by rw [Hm.out]; exact Nat.le_refl _)] at h
        exact h
      have HBf := Lib.hid (HBw9.out.trans (HBi.out.mono HBw9.out.size))
      obtain ⟨ua, uc, rfl, -, -⟩ := HRc.out.shape
      go_wp2
      go_ret2
      exact ⟨⟨_, _, rfl, HRc.out⟩, HBf.out⟩
end Go.Proofs.Ytlhkmbhfgoejjaa
