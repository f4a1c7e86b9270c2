/-
  kist/jour.Encode.
-/
import Derived.Test.YtlhkmbhfgoejjaaJourGood
import Derived.Test.YtlhkmbhfgoejjaaWText
import Derived.Deep.RegionHeld

namespace Go.Proofs.Ytlhkmbhfgoejjaa
open Go.RowKit
set_option linter.unusedVariables false
set_option linter.unusedSimpArgs false

namespace Jour
theorem pre_lens {n : Nt} (hg : Good n) : (head n).length ≤ 1000 ∧ (∀ i, i ≤ n.places.length → (encP (n.places.take i)).length ≤ 720) := by
  have h := hg
  obtain ⟨g1, g2, g3, g4, g5, g6, g7, g8, g9⟩ := h
  have h1 := enc_le9 (n := n.kind.toNat) (by omega)
  have h2 := enc_le9 (n := n.key.length) (by omega)
  have h3 := enc_le9 (n := n.gen.toNat) (by omega)
  have h4 := enc_le9 (n := n.cart.toNat) (by omega)
  have h5 := enc_le9 (n := n.data.length) (by omega)
  have h6 := enc_le9 (n := n.sum.length) (by omega)
  have h7 := enc_le9 (n := n.size.toNat) (by omega)
  have h8 := enc_le9 (n := n.places.length) (by omega)
  refine ⟨?_, fun i hi => ?_⟩
  · unfold head pre2 pre1
    simp only [List.length_append]
    omega
  · have := encP_le (n.places.take i) (fun p hp => g9 p (List.mem_of_mem_take hp))
    rw [List.length_take] at this
    omega
theorem encP_take {l : List (Int × Int)} {i : Nat} (hi : i < l.length) : encP (l.take (i + 1)) = encP (l.take i) ++ Word.enc (l.getD i (0, 0)).1.toNat ++ Word.enc (l.getD i (0, 0)).2.toNat := by
  rw [List.take_succ_eq_append_getElem hi, encP_snoc]
  simp [List.getD_eq_getElem?_getD, hi]
end Jour
theorem wf_in {k : Int} (h : -9223372036854775808 ≤ k ∧ k ≤ 9223372036854775807) : (Lit.int .i64 k).wf = true := by
  simp only [Lit.wf, IntKind.min, IntKind.max, IntKind.bits, IntKind.signed]
  simp
  exact h
theorem put_r (wx : World) (v : Value) (l : List UInt8) (z : Int) (hr : RB wx v l) (hz : (Lit.int .i64 z).wf = true) (hl : l.length ≤ 4000) :
    Calls Try.prog 44 #[v, .int .i64 z] wx fun e w' => ∃ v', e = .returned v' ∧ RB w' v' (l ++ Word.enc z.toNat) ∧ (∀ k, v'.ownBlock = some k → wx.heap.size ≤ k) ∧ Below wx.heap.size wx w' :=
  (Put_any v l z wx hr hz (by omega)).mono fun e w' ⟨v', h1, h2, h3⟩ => ⟨v', h1, RB.own h2, fun k hk => (h2.lt k hk).1, h3⟩
theorem text_r (wx : World) (v : Value) (l s : List UInt8) (hr : RB wx v l) (hl : l.length ≤ 4000) (hs : s.length ≤ 4000) :
    Calls Try.prog 45 #[v, .string (S s)] wx fun e w' => ∃ v', e = .returned v' ∧ RB w' v' (l ++ Word.enc s.length ++ s) ∧ (∀ k, v'.ownBlock = some k → wx.heap.size ≤ k) ∧ Below wx.heap.size wx w' :=
  (WText_any v l s wx hr (by omega)).mono fun e w' ⟨v', h1, h2, h3⟩ => ⟨v', h1, RB.own h2, fun k hk => (h2.lt k hk).1, h3⟩
theorem jencode_no (n : Nt) (d p : Value) (w : World) (h : NtR w d p n) (hg : ¬ Jour.Good n) :
    Calls Try.prog 14 #[ntV n d p] w fun e w' => e = .returned (.tuple #[.slice none 0 0, .int .i64 12]) ∧ Below w.heap.size w w' := by
  have hb0 : Below w.heap.size w (w.alloc (.cells (ntC n d p) 25)) := (Below.refl _ _).alloc (Nat.le_refl _) _
  have HB0 := Lib.hid hb0
  have HGd := Lib.hid (good_any n d p false _ (h.below hb0 rfl) (Jour.goodB_no hg))
  clear h hg hb0
  unfold ntV ntC at HGd ⊢
  unfold ntC at HB0
  go_enter Try.func14, Try.ntmps14
  go_wp2_with fail
  refine HGd.out.mono ?_
  rintro e w1 ⟨rfl, hb1⟩
  have HB1 := Lib.hid (HB0.out.trans (hb1.mono HB0.out.size))
  clear hb1
  go_wp2
  go_ret2
  exact ⟨rfl, HB1.out⟩
set_option maxRecDepth 100000 in
set_option maxHeartbeats 4000000 in
theorem jencode_yes (n : Nt) (d p : Value) (w : World) (h : NtR w d p n) (hg : Jour.Good n) :
    Calls Try.prog 14 #[ntV n d p] w fun e w' => (∃ a c, e = .returned (.tuple #[.slice a (Jour.code n).length c, .int .i64 0]) ∧ RB w' (.slice a (Jour.code n).length c) (Jour.code n)) ∧ Below w.heap.size w w' := by
  have hb0 : Below w.heap.size w (w.alloc (.cells (ntC n d p) 25)) := (Below.refl _ _).alloc (Nat.le_refl _) _
  have HB0 := Lib.hid hb0
  have HGd := Lib.hid (good_any n d p true _ (h.below hb0 rfl) (Jour.goodB_yes hg))
  obtain ⟨⟨hd, hp⟩, ⟨hk1, hk2⟩, hw1, hw2, hw3, hw4⟩ := h
  have HBk : Hid (Blk (w.alloc (.cells (ntC n d p) 25)) w.heap.size (ntC n d p).toList 25) := Blk.new w _ _ rfl
  have HD0 := Lib.hid (hd.below hb0 rfl)
  have HP0 := Lib.hid (hp.below hb0 rfl)
  obtain ⟨pa, pc, rfl, hpc1, hpc2⟩ := hp.shape
  simp only [maxLen] at hpc2
  obtain ⟨m, Hm⟩ := hid_of n.places.length
  rw [Hm.out] at hpc1
  have HLen := Lib.hid (Jour.pre_lens hg)
  have hg2 := hg
  obtain ⟨g1, g2, g3, g4, g5, g6, g7, g8, g9⟩ := hg2
  rw [Hm.out] at g8
  have HG9 := Lib.hid g9
  have HW1 := Lib.hid hw1
  have HW2 := Lib.hid hw2
  have HW3 := Lib.hid hw3
  have HW4 := Lib.hid hw4
  have HL1 : Hid ((Jour.pre1 n).length ≤ 1000) := by
    have := HLen.out.1
    unfold Jour.head Jour.pre2 at this
    simp only [List.length_append] at this
    show _ ≤ _
    omega
  have HL2 : Hid ((Jour.pre2 n).length ≤ 1000) := by
    have := HLen.out.1
    unfold Jour.head at this
    simp only [List.length_append] at this
    show _ ≤ _
    omega
  have HK16 := Lib.hid g2
  have HD512 := Lib.hid g5
  have HS32 := Lib.hid g6
  clear hd hp hk1 hk2 hw1 hw2 hw3 hw4 hb0 hg g1 g2 g3 g4 g5 g6 g7 g9
  unfold ntV ntC at HGd ⊢
  unfold ntC at HB0 HBk HD0 HP0
  rw [Hm.out] at HGd HB0 HBk HD0 HP0 ⊢
  go_enter Try.func14, Try.ntmps14
  go_wp2_with fail
  refine HGd.out.mono ?_
  rintro e w1 ⟨rfl, hb1⟩
  have HB1 := Lib.hid (HB0.out.trans (hb1.mono HB0.out.size))
  have HBk1 := Lib.hid (HBk.out.below hb1 HBk.out.lt)
  have HD1 := Lib.hid (HD0.out.below hb1 rfl)
  have HP1 := Lib.hid (HP0.out.below hb1 rfl)
  clear hb1 HBk HD0 HP0 HB0 HGd
  have HF : Hid (∀ wx, Below w1.heap.size w1 wx → (wx.cell? ⟨w.heap.size, 0, none⟩ = some (.int .i64 n.kind) ∧ wx.cell? ⟨w.heap.size, 1, none⟩ = some (.string (S n.key)) ∧ wx.cell? ⟨w.heap.size, 2, none⟩ = some (.int .i64 n.gen) ∧ wx.cell? ⟨w.heap.size, 3, none⟩ = some (.int .i64 n.cart) ∧ wx.cell? ⟨w.heap.size, 4, none⟩ = some d ∧ wx.cell? ⟨w.heap.size, 5, none⟩ = some (.string (S n.sum)) ∧ wx.cell? ⟨w.heap.size, 6, none⟩ = some (.int .i64 n.size) ∧ wx.cell? ⟨w.heap.size, 7, none⟩ = some (.slice pa m pc))) := fun wx hx => nt_cells (n := n) (HBk1.out.below hx HBk1.out.lt)
  have HQ0 : Hid (Below w1.heap.size w1 w1.drew) := (Below.refl _ _).drew
  have hs0 : w1.drew.cell? ⟨w.heap.size, 0, none⟩ = some (.int .i64 n.kind) ∧ w1.drew.cell? ⟨w.heap.size, 1, none⟩ = some (.string (S n.key)) ∧ w1.drew.cell? ⟨w.heap.size, 2, none⟩ = some (.int .i64 n.gen) := by
    obtain ⟨q0, q1, q2, -⟩ := HF.out _ HQ0.out
    exact ⟨q0, q1, q2⟩
  go_wp2_with fail
  go_region_held (fun wx => wx.cell? ⟨w.heap.size, 0, none⟩ = some (.int .i64 n.kind) ∧ wx.cell? ⟨w.heap.size, 1, none⟩ = some (.string (S n.key)) ∧ wx.cell? ⟨w.heap.size, 2, none⟩ = some (.int .i64 n.gen))
    (first | exact hs0 | exact hs1 | exact hs2 | exact hs3)
    (first
    | (go_at_call 44
       (with_reducible refine (put_r _ (.slice none 0 0) [] n.kind (RB.nil _) HW1.out (by simp)).mono ?_)
       rintro e w2 ⟨v2, rfl, hr2, -, hb2⟩
       have HQ1 := Lib.hid (HQ0.out.trans (hb2.mono HQ0.out.size))
       have HR2 := Lib.hid hr2
       have hs1 : w2.cell? ⟨w.heap.size, 0, none⟩ = some (.int .i64 n.kind) ∧ w2.cell? ⟨w.heap.size, 1, none⟩ = some (.string (S n.key)) ∧ w2.cell? ⟨w.heap.size, 2, none⟩ = some (.int .i64 n.gen) := by
         obtain ⟨q0, q1, q2, -⟩ := HF.out _ HQ1.out
         exact ⟨q0, q1, q2⟩
       clear hb2 hr2)
    | (go_at_call 45
       (with_reducible refine (text_r _ _ _ n.key HR2.out ?_ ?_).mono ?_)
       · have := HL1.out; unfold Jour.pre1 at this; simp only [List.length_append, List.nil_append] at this ⊢; omega
       · have := HK16.out; omega
       rintro e w3 ⟨v3, rfl, hr3, -, hb3⟩
       have HQ2 := Lib.hid (HQ1.out.trans (hb3.mono HQ1.out.size))
       have HR3 := Lib.hid hr3
       have hs2 : w3.cell? ⟨w.heap.size, 0, none⟩ = some (.int .i64 n.kind) ∧ w3.cell? ⟨w.heap.size, 1, none⟩ = some (.string (S n.key)) ∧ w3.cell? ⟨w.heap.size, 2, none⟩ = some (.int .i64 n.gen) := by
         obtain ⟨q0, q1, q2, -⟩ := HF.out _ HQ2.out
         exact ⟨q0, q1, q2⟩
       clear hb3 hr3)
    | (go_at_call 44
       (with_reducible refine (put_r _ _ _ n.gen HR3.out HW2.out ?_).mono ?_)
       · have := HL1.out; unfold Jour.pre1 at this; simp only [List.length_append, List.nil_append] at this ⊢; omega
       rintro e w4 ⟨v4, rfl, hr4, ho4, hb4⟩
       have HQ3 := Lib.hid (HQ2.out.trans (hb4.mono HQ2.out.size))
       have HR4 := Lib.hid hr4
       have HO4 := Lib.hid ho4
       have hs3 : w4.cell? ⟨w.heap.size, 0, none⟩ = some (.int .i64 n.kind) ∧ w4.cell? ⟨w.heap.size, 1, none⟩ = some (.string (S n.key)) ∧ w4.cell? ⟨w.heap.size, 2, none⟩ = some (.int .i64 n.gen) := by
         obtain ⟨q0, q1, q2, -⟩ := HF.out _ HQ3.out
         exact ⟨q0, q1, q2⟩
       clear hb4 hr4 ho4))
  clear hs0 hs1 hs2 hs3
  rw [List.nil_append] at HR4
  have HRA : Hid (RB w4 v4 (Jour.pre1 n)) := HR4.out
  clear HR2 HR3 HR4 HO4
  have HCv : Hid (∀ wx, Below w1.heap.size w1 wx → (convert 22 9 d).run Try.prog wx = .ok (.string (S n.data)) wx) := fun wx hx => run_convert_S (P := Try.prog) (HD1.out.below hx rfl) 22 9 5 Try.underlying22 Try.underlying5 Try.underlying9
  have HQB : Hid (Below w1.heap.size w1 w4.drew) := HQ3.out.drew
  have HRAd : Hid (RB w4.drew v4 (Jour.pre1 n)) := HRA.out
  go_wp2_with fail
  have hs0 : w4.drew.cell? ⟨w.heap.size, 3, none⟩ = some (.int .i64 n.cart) ∧ w4.drew.cell? ⟨w.heap.size, 4, none⟩ = some (d) ∧ w4.drew.cell? ⟨w.heap.size, 5, none⟩ = some (.string (S n.sum)) ∧ (convert 22 9 d).run Try.prog w4.drew = .ok (.string (S n.data)) w4.drew := by
    obtain ⟨-, -, -, q3, q4, q5, -, -⟩ := HF.out _ HQB.out
    exact ⟨q3, q4, q5, HCv.out _ HQB.out⟩
  go_wp2_with fail
  go_region_held (fun wx => wx.cell? ⟨w.heap.size, 3, none⟩ = some (.int .i64 n.cart) ∧ wx.cell? ⟨w.heap.size, 4, none⟩ = some (d) ∧ wx.cell? ⟨w.heap.size, 5, none⟩ = some (.string (S n.sum)) ∧ (convert 22 9 d).run Try.prog wx = .ok (.string (S n.data)) wx)
    (first | exact hs0 | exact hs1 | exact hs2 | exact hs3)
    (first
    | (go_at_call 44
       (with_reducible refine (put_r _ _ _ n.cart HRAd.out HW3.out ?_).mono ?_)
       · have := HL1.out; omega
       rintro e w5 ⟨v5, rfl, hrx, hox, hbx⟩
       have HQB1 := Lib.hid (HQB.out.trans (hbx.mono HQB.out.size))
       have HRB := Lib.hid hrx
       have HOHRB := Lib.hid hox
       have hs1 : w5.cell? ⟨w.heap.size, 3, none⟩ = some (.int .i64 n.cart) ∧ w5.cell? ⟨w.heap.size, 4, none⟩ = some (d) ∧ w5.cell? ⟨w.heap.size, 5, none⟩ = some (.string (S n.sum)) ∧ (convert 22 9 d).run Try.prog w5 = .ok (.string (S n.data)) w5 := by
         obtain ⟨-, -, -, q3, q4, q5, -, -⟩ := HF.out _ HQB1.out
         exact ⟨q3, q4, q5, HCv.out _ HQB1.out⟩
       clear hbx hrx hox)
    | (go_at_call 45
       (with_reducible refine (text_r _ _ _ n.data HRB.out ?_ ?_).mono ?_)
       · have := HL2.out; unfold Jour.pre2 at this; simp only [List.length_append] at this ⊢; omega
       · have := HD512.out; omega
       rintro e w6 ⟨v6, rfl, hrx, hox, hbx⟩
       have HQB2 := Lib.hid (HQB1.out.trans (hbx.mono HQB1.out.size))
       have HRC := Lib.hid hrx
       have HOHRC := Lib.hid hox
       have hs2 : w6.cell? ⟨w.heap.size, 3, none⟩ = some (.int .i64 n.cart) ∧ w6.cell? ⟨w.heap.size, 4, none⟩ = some (d) ∧ w6.cell? ⟨w.heap.size, 5, none⟩ = some (.string (S n.sum)) ∧ (convert 22 9 d).run Try.prog w6 = .ok (.string (S n.data)) w6 := by
         obtain ⟨-, -, -, q3, q4, q5, -, -⟩ := HF.out _ HQB2.out
         exact ⟨q3, q4, q5, HCv.out _ HQB2.out⟩
       clear hbx hrx hox)
    | (go_at_call 45
       (with_reducible refine (text_r _ _ _ n.sum HRC.out ?_ ?_).mono ?_)
       · have := HL2.out; unfold Jour.pre2 at this; simp only [List.length_append] at this ⊢; omega
       · have := HS32.out; omega
       rintro e w7 ⟨v7, rfl, hrx, hox, hbx⟩
       have HQB3 := Lib.hid (HQB2.out.trans (hbx.mono HQB2.out.size))
       have HRD := Lib.hid hrx
       have HOHRD := Lib.hid hox
       have hs3 : w7.cell? ⟨w.heap.size, 3, none⟩ = some (.int .i64 n.cart) ∧ w7.cell? ⟨w.heap.size, 4, none⟩ = some (d) ∧ w7.cell? ⟨w.heap.size, 5, none⟩ = some (.string (S n.sum)) ∧ (convert 22 9 d).run Try.prog w7 = .ok (.string (S n.data)) w7 := by
         obtain ⟨-, -, -, q3, q4, q5, -, -⟩ := HF.out _ HQB3.out
         exact ⟨q3, q4, q5, HCv.out _ HQB3.out⟩
       clear hbx hrx hox))
  clear hs0 hs1 hs2 hs3
  have HRE : Hid (RB w7 v7 (Jour.pre2 n)) := HRD.out
  clear HRB HRC HRD HOHRB HOHRC HOHRD
  have HQC : Hid (Below w1.heap.size w1 w7.drew) := HQB3.out.drew
  have HREd : Hid (RB w7.drew v7 (Jour.pre2 n)) := HRE.out
  go_wp2_with fail
  have hs0 : w7.drew.cell? ⟨w.heap.size, 6, none⟩ = some (.int .i64 n.size) ∧ w7.drew.cell? ⟨w.heap.size, 7, none⟩ = some (.slice pa m pc) := by
    obtain ⟨-, -, -, -, -, -, q6, q7⟩ := HF.out _ HQC.out
    exact ⟨q6, q7⟩
  go_wp2_with fail
  go_region_held (fun wx => wx.cell? ⟨w.heap.size, 6, none⟩ = some (.int .i64 n.size) ∧ wx.cell? ⟨w.heap.size, 7, none⟩ = some (.slice pa m pc))
    (first | exact hs0 | exact hs1 | exact hs2)
    (first
    | (go_at_call 44
       (with_reducible refine (put_r _ _ _ n.size HREd.out HW4.out ?_).mono ?_)
       · have := HL2.out; omega
       rintro e w8 ⟨v8, rfl, hrx, hox, hbx⟩
       have HQC1 := Lib.hid (HQC.out.trans (hbx.mono HQC.out.size))
       have HRG := Lib.hid hrx
       have HOHRG := Lib.hid hox
       have hs1 : w8.cell? ⟨w.heap.size, 6, none⟩ = some (.int .i64 n.size) ∧ w8.cell? ⟨w.heap.size, 7, none⟩ = some (.slice pa m pc) := by
         obtain ⟨-, -, -, -, -, -, q6, q7⟩ := HF.out _ HQC1.out
         exact ⟨q6, q7⟩
       clear hbx hrx hox)
    | (go_at_call 44
       (with_reducible refine (put_r _ _ _ (m : Int) HRG.out (wf_in (by omega)) ?_).mono ?_)
       · have := HLen.out.1; unfold Jour.head at this; simp only [List.length_append] at this ⊢; omega
       rintro e w9 ⟨v9, rfl, hrx, hox, hbx⟩
       have HQC2 := Lib.hid (HQC1.out.trans (hbx.mono HQC1.out.size))
       have HRH := Lib.hid hrx
       have HOHRH := Lib.hid hox
       have hs2 : w9.cell? ⟨w.heap.size, 6, none⟩ = some (.int .i64 n.size) ∧ w9.cell? ⟨w.heap.size, 7, none⟩ = some (.slice pa m pc) := by
         obtain ⟨-, -, -, -, -, -, q6, q7⟩ := HF.out _ HQC2.out
         exact ⟨q6, q7⟩
       clear hbx hrx hox))
  clear hs0 hs1 hs2
  have HRI : Hid (RB w9 v9 (Jour.head n)) := by
    have h := HRH.out
    rw [Int.toNat_natCast, ← Hm.out] at h
    exact h
  have HBw9 := Lib.hid (HB1.out.trans (HQC2.out.mono HB1.out.size))
  have HQ9 := HQC2
  have HOI : Hid (∀ k, v9.ownBlock = some k → w1.heap.size ≤ k) := fun k hk => by
    have h1 := HOHRH.out k hk
    have h2 := HQC1.out.size
    omega
  clear HRG HRH HOHRG HOHRH
  obtain ⟨q7, -⟩ : w9.cell? ⟨w.heap.size, 7, none⟩ = some (.slice pa m pc) ∧ True := ⟨(HF.out _ HQ9.out).2.2.2.2.2.2.2, trivial⟩
  go_wp2_with fail
  go_loopw [4, 41] (fun u x wr => ∃ i : Nat, i ≤ m ∧ x = .int .i64 (i : Int) ∧ RB wr u (Jour.head n ++ Jour.encP (n.places.take i)) ∧ (∀ k, u.ownBlock = some k → w1.heap.size ≤ k) ∧ Below w9.heap.size w9 wr) (fun _ x _ => m - (intOf x).toNat)
  case atStart => exact ⟨0, by omega, rfl, by rw [List.take_zero, Jour.encP_nil, List.append_nil]; exact HRI.out, HOI.out, Below.refl _ _⟩
  case round =>
    obtain ⟨i, hi, rfl, hri, hoi, hbi⟩ := hrel
    have HRi := Lib.hid hri
    have HOi := Lib.hid hoi
    have HBi := Lib.hid hbi
    clear hri hoi hbi
    by_cases hlt : i < m
    · have hin : (i : Int) < (m : Int) := by omega
      have hPr : RP wr (.slice pa m pc) n.places := HP1.out.below (HQ9.out.trans (HBi.out.mono HQ9.out.size)) rfl
      obtain ⟨bb, off, rfl, hbb, c0, c1⟩ := hPr.at (i := i) (by rw [Hm.out]; exact hlt)
      have HOk : Hid (Jour.PlOk (n.places.getD i (0, 0))) := HG9.out _ (by
        rw [List.getD_eq_getElem?_getD, List.getElem?_eq_getElem (by rw [Hm.out]; exact hlt)]
        exact List.getElem_mem _)
      have HEt := Lib.hid (Jour.encP_take (l := n.places) (i := i) (by rw [Hm.out]; exact hlt))
      have HLi : Hid ((Jour.head n ++ Jour.encP (n.places.take i)).length ≤ 2000) := by
        have h1 := HLen.out.1
        have h2 := HLen.out.2 i (by rw [Hm.out]; omega)
        show _ ≤ _
        rw [List.length_append]
        omega
      obtain ⟨q, Hq⟩ := hid_of (n.places.getD i (0, 0))
      rw [Hq.out] at c0 c1 HOk HEt
      obtain ⟨qc, qp⟩ := q
      have hok := HOk.out
      simp only [Jour.PlOk] at hok
      have HE9 : Hid ((Word.enc qc.toNat).length ≤ 9) := Jour.enc_le9 (by omega)
      have HBp : Hid (Blk (wr.alloc (.cells #[.int .i64 qc, .int .i64 qp] 85)) wr.heap.size [.int .i64 qc, .int .i64 qp] 85) := Blk.new wr _ _ rfl
      have hba : Below wr.heap.size wr (wr.alloc (.cells #[.int .i64 qc, .int .i64 qp] 85)) := (Below.refl _ _).alloc (Nat.le_refl _) _
      have HBa := Lib.hid hba
      have hsz : (wr.alloc (.cells #[.int .i64 qc, .int .i64 qp] 85)).heap.size = wr.heap.size + 1 := by simp
      have HFp : Hid (∀ wx, Below (wr.alloc (.cells #[.int .i64 qc, .int .i64 qp] 85)).heap.size (wr.alloc (.cells #[.int .i64 qc, .int .i64 qp] 85)) wx → wx.cell? ⟨wr.heap.size, 0, none⟩ = some (.int .i64 qc) ∧ wx.cell? ⟨wr.heap.size, 1, none⟩ = some (.int .i64 qp)) := fun wx hx => ⟨(HBp.out.below hx (by omega)).cell 0 (by simp), (HBp.out.below hx (by omega)).cell 1 (by simp)⟩
      have HZ0 : Hid (Below (wr.alloc (.cells #[.int .i64 qc, .int .i64 qp] 85)).heap.size (wr.alloc (.cells #[.int .i64 qc, .int .i64 qp] 85)) (wr.alloc (.cells #[.int .i64 qc, .int .i64 qp] 85)).drew) := (Below.refl _ _).drew
      have HRa : Hid (RB (wr.alloc (.cells #[.int .i64 qc, .int .i64 qp] 85)).drew u4 (Jour.head n ++ Jour.encP (n.places.take i))) := HRi.out.below hba.drew rfl
      have hs0 := HFp.out _ HZ0.out
      clear hba hsz
      go_wp2_with fail
      go_region_held (fun wx => wx.cell? ⟨wr.heap.size, 0, none⟩ = some (.int .i64 qc) ∧ wx.cell? ⟨wr.heap.size, 1, none⟩ = some (.int .i64 qp))
        (first | exact hs0 | exact hs1 | exact hs2)
        (first
        | (go_at_call 44
           (with_reducible refine (put_r _ _ _ qc HRa.out (wf_in (by omega)) ?_).mono ?_)
           · have := HLi.out; omega
           rintro e wA ⟨vA, rfl, hrx, hox, hbx⟩
           have HZ1 := Lib.hid (HZ0.out.trans (hbx.mono HZ0.out.size))
           have HRA2 := Lib.hid hrx
           have hs1 := HFp.out _ HZ1.out
           clear hbx hrx hox)
        | (go_at_call 44
           (with_reducible refine (put_r _ _ _ qp HRA2.out (wf_in (by omega)) ?_).mono ?_)
           · have := HLi.out; have := HE9.out; rw [List.length_append]; omega
           rintro e wB ⟨vB, rfl, hrx, hox, hbx⟩
           have HZ2 := Lib.hid (HZ1.out.trans (hbx.mono HZ1.out.size))
           have HRB2 := Lib.hid hrx
           have HOB := Lib.hid hox
           have hs2 := HFp.out _ HZ2.out
           clear hbx hrx hox))
      clear hs0 hs1 hs2
      have HRn : Hid (RB wB vB (Jour.head n ++ Jour.encP (n.places.take (i + 1)))) := by
        rw [HEt.out, ← List.append_assoc, ← List.append_assoc]
        exact HRB2.out
      have HZw := Lib.hid (HBa.out.trans (HZ2.out.mono HBa.out.size))
      have HBn := Lib.hid (HBi.out.trans (HZw.out.mono HBi.out.size))
      have HOn : Hid (∀ k, vB.ownBlock = some k → w1.heap.size ≤ k) := fun k hk => by
        have h1 := HOB.out k hk
        have h2 := HZ1.out.size
        have h3 := HBa.out.size
        have h4 := HBi.out.size
        have h5 := HQ9.out.size
        omega
      go_wp2
      go_roundw
      case rel => exact ⟨i + 1, by omega, by go_num, HRn.out, HOn.out, HBn.out⟩
      case measure => simp [intOf]; omega
    · obtain rfl : i = m := by omega
      have HRc : Hid (RB wr u4 (Jour.code n)) := by
        have h := HRi.out
        rw [List.take_of_length_le (by rw [Hm.out]; exact Nat.le_refl _)] at h
        exact h
      have HBf := Lib.hid (HBw9.out.trans (HBi.out.mono HBw9.out.size))
      have HSz : Hid (w.heap.size ≤ w1.heap.size) := HB1.out.size
      go_wp2_with fail
      refine (clip_any _ _ _ HRc.out).mono ?_
      rintro e w' ⟨⟨v', rfl, hr', a, rfl⟩, rfl⟩
      have HRf := Lib.hid hr'
      clear hr'
      go_wp2
      go_ret2
      exact ⟨⟨_, _, rfl, HRf.out⟩, HBf.out⟩
end Go.Proofs.Ytlhkmbhfgoejjaa
