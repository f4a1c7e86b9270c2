/-
  kist/jour.long, frame; kistref12.four, Frame.
-/
import Derived.Test.YtlhkmbhfgoejjaaJourScanLaw
import Derived.Test.YtlhkmbhfgoejjaaJourEnc
import Derived.Test.YtlhkmbhfgoejjaaJourRefEnc
import Derived.Test.YtlhkmbhfgoejjaaSumRef
import Derived.Test.YtlhkmbhfgoejjaaDsk
import Derived.Test.YtlhkmbhfgoejjaaAppend

namespace Go.Proofs.Ytlhkmbhfgoejjaa
open Go.RowKit
set_option linter.unusedVariables false
set_option linter.unusedSimpArgs false

set_option maxHeartbeats 400000 in
theorem long_any (base : Nat) (v : Value) (l : List UInt8) (s : Sum.W32) (w : World) (hbase : base ≤ w.heap.size) (h : w.ownsRow base 5 1 v l.length (Bs l)) (hl : l.length ≤ 1000000) :
    Calls Try.prog 79 #[v, .int .u32 (s.toNat : Int)] w fun e w' => ∃ v', e = .returned v' ∧ w'.ownsRow base 5 1 v' (l ++ Sum.ends s).length (Bs (l ++ Sum.ends s)) ∧ Below base w w' := by
  have H := Lib.hid h
  have HR := Lib.hid (RB.own h)
  clear h
  have hs : s.toNat < 4294967296 := s.isLt
  go_enter Try.func79, Try.ntmps79
  go_wp2_with (at_builtin; refine stopped ?_)
  refine going (wpList_append_bytes _ rfl _ _ 22 22 rfl base 5 5 Try.underlying22 Try.underlying22 infoU8 _ l l.length rfl (H.out.alloc _) _ (Sum.ends s) rfl (RB.lit _ _ _ (ends_walk s) (by simp [Sum.ends, maxLen]) rfl rfl) (by simp [Sum.ends]; omega) (by simp; omega) ?_)
  intro v2 w2 hown2 hb2 _
  go_wp2
  go_ret
  exact ⟨v2, rfl, hown2, ((Below.refl _ _).alloc hbase _).trans hb2⟩

theorem own_lit {w : World} {base : Nat} {e : TypeId} {cs : Array Value} {l : List UInt8} (hb : base ≤ w.heap.size) (hcs : cs = (Bs l).toArray) {n g : Nat} (hn : n = l.length) (hg : g = w.heap.size) (hm : l.length ≤ maxLen) :
    (w.alloc (.cells cs e)).ownsRow base e 1 (.slice (some ⟨g, 0, none⟩) n n) l.length (Bs l) := by
  subst hcs hn hg
  exact ⟨by rw [Bs_length, Nat.mul_one], .inr ⟨w.heap.size, l.length, (Bs l).toArray, rfl, hb, heap_alloc_new w _, Nat.le_refl _, hm, by simp [Bs_length], by simp [← Bs_length]⟩⟩
theorem wrap_len {n : Nat} (h : n ≤ 1000000) : ((BitVec.ofNat 32 n).toNat : Int) = (n : Int) := by
  rw [BitVec.toNat_ofNat]
  omega
set_option maxRecDepth 100000 in
set_option maxHeartbeats 1000000 in
theorem frame_any (v : Value) (b : List UInt8) (w : World) (h : RB w v b) (hb : b.length ≤ 1000000) :
    Calls Try.prog 63 #[v] w (Makes 5 w (Jour.fr b)) := by
  obtain ⟨a, c, rfl, p1, p2⟩ := h.shape
  simp only [maxLen] at p2
  obtain ⟨n, Hn⟩ := hid_of b.length
  obtain ⟨s0, Hs0⟩ := hid_of (BitVec.ofNat 32 n)
  have hw : (s0.toNat : Int) = (n : Int) := by rw [← Hs0.out]; exact wrap_len (by rw [← Hn.out]; exact hb)
  have HFr : Hid (Jour.fr b = Sum.ends s0 ++ Sum.ends (Sum.crc (Sum.ends s0 ++ b)) ++ b) := by
    show Jour.fr b = _
    unfold Jour.fr Jour.le4
    rw [Hn.out, Hs0.out]
  have H : Hid (RB w (.slice a n c) b) := by rw [← Hn.out]; exact h
  rw [Hn.out] at p1 hb ⊢
  have HL := Lib.hid hb
  obtain ⟨F, HF⟩ := hid_of (Jour.fr b)
  rw [HF.out] at HFr ⊢
  clear h
  have HLong0 := long_any w.heap.size (.slice none 0 0) [] s0 w (Nat.le_refl _) (World.ownsRow_nil w _ _ 1) (by simp)
  rw [hw] at HLong0
  have HLong0 := Lib.hid HLong0
  clear hw
  go_enter Try.func63, Try.ntmps63
  go_wp2_with fail
  refine HLong0.out.mono ?_
  rintro e w1 ⟨v1, rfl, hown1, hb1⟩
  rw [List.nil_append] at hown1
  obtain ⟨a1, c1, rfl, q1, q2⟩ := (RB.own hown1).shape
  have e4 : (Sum.ends s0).length = 4 := rfl
  rw [e4] at hown1 q1 ⊢
  simp only [maxLen] at q2
  have HO1 := Lib.hid hown1
  have HB1 := Lib.hid hb1
  clear hown1 hb1
  have HCl := Lib.hid (dclone_any (.slice a1 4 c1) (Sum.ends s0) w1 (by have := RB.own (l := Sum.ends s0) (n := 4) HO1.out; exact this) (by rw [e4]; omega))
  go_wp2_with fail
  refine HCl.out.mono ?_
  rintro e w2 ⟨v2, rfl, hown2, hb2⟩
  have HO2 := Lib.hid hown2
  have HB2 : Hid (Below w.heap.size w w2) := HB1.out.trans (hb2.mono HB1.out.size)
  have HO12 : Hid (w2.ownsRow w.heap.size 5 1 (.slice a1 4 c1) 4 (Bs (Sum.ends s0))) := own_fr HO1.out (Fr.of_below (S := fun k => w1.heap.size ≤ k) hb2 (fun k _ hk => hk)) (fun k hk => by have := (HO1.out.lt k hk).2; omega)
  have HS2 : Hid (w1.heap.size ≤ w2.heap.size) := hb2.size
  clear hown2 hb2
  go_wp2_with (at_builtin; refine stopped ?_)
  refine going (wpList_append_bytes _ rfl _ _ 22 22 rfl w1.heap.size 5 5 Try.underlying22 Try.underlying22 infoU8 v2 (Sum.ends s0) 4 rfl HO2.out _ b rfl (H.out.below HB2.out rfl) (by rw [e4, Hn.out]; have := HL.out; omega) HS2.out ?_)
  intro v3 w3 hown3 hb3 _
  have HO3 := Lib.hid hown3
  have HO13 : Hid (w3.ownsRow w.heap.size 5 1 (.slice a1 4 c1) 4 (Bs (Sum.ends s0))) := own_fr HO12.out (Fr.of_below (S := fun k => w1.heap.size ≤ k) hb3 (fun k _ hk => hk)) (fun k hk => by have := (HO1.out.lt k hk).2; omega)
  have HB3 : Hid (Below w.heap.size w w3) := HB2.out.trans (hb3.mono HB1.out.size)
  clear hown3 hb3
  go_wp2_with fail
  refine (of_any _ _ w3 (RB.own HO3.out)).mono ?_
  rintro e w' ⟨rfl, rfl⟩
  obtain ⟨s1, Hs1⟩ := hid_of (Sum.crc (Sum.ends s0 ++ b))
  rw [Hs1.out] at HFr ⊢
  have HLong1 := Lib.hid (long_any w.heap.size (.slice a1 4 c1) (Sum.ends s0) s1 w3 HB3.out.size HO13.out (by rw [e4]; omega))
  go_wp2_with fail
  refine HLong1.out.mono ?_
  rintro e w4 ⟨v4, rfl, hown4, hb4⟩
  have HO4 := Lib.hid hown4
  have HB4 : Hid (Below w.heap.size w w4) := HB3.out.trans hb4
  clear hown4 hb4
  go_wp2_with (at_builtin; refine stopped ?_)
  refine going (wpList_append_bytes _ rfl _ _ 22 22 rfl w.heap.size 5 5 Try.underlying22 Try.underlying22 infoU8 v4 (Sum.ends s0 ++ Sum.ends s1) _ rfl HO4.out _ b rfl (H.out.below HB4.out rfl) (by rw [List.length_append, Hn.out]; have := HL.out; have := Jour.ends_length s0; have := Jour.ends_length s1; omega) HB4.out.size ?_)
  intro v5 w5 hown5 hb5 _
  rw [← HFr.out] at hown5
  go_wp2
  go_ret
  exact ⟨v5, rfl, hown5, HB4.out.trans hb5⟩
set_option maxHeartbeats 400000 in
theorem four_any (s : Sum.W32) (w : World) :
    Calls Try.prog 76 #[.int .u32 (s.toNat : Int)] w fun e w' => (∃ a c, e = .returned (.slice a 4 c) ∧ w'.ownsRow w.heap.size 5 1 (.slice a 4 c) 4 (Bs (Sum.ends s))) ∧ Below w.heap.size w w' := by
  have hs : s.toNat < 4294967296 := s.isLt
  have HO : Hid (∀ cs, cs = (Bs (Sum.ends s)).toArray → (w.alloc (.cells cs 5)).ownsRow w.heap.size 5 1 (.slice (some ⟨w.heap.size, 0, none⟩) 4 4) 4 (Bs (Sum.ends s))) := fun cs hcs => own_lit (l := Sum.ends s) (Nat.le_refl _) hcs rfl rfl (by simp [Sum.ends, maxLen])
  go_enter Try.func76, Try.ntmps76
  go_wp2
  go_ret
  exact ⟨⟨_, _, rfl, HO.out _ (ends_walk s)⟩, (Below.refl _ _).alloc (Nat.le_refl _) _⟩
theorem rframe_no (n : Nt) (d p : Value) (w : World) (h : NtR w d p n) (hg : ¬ Jour.Good n) :
    Calls Try.prog 59 #[ntV n d p] w fun e w' => e = .returned (.tuple #[.slice none 0 0, .int .i64 12]) ∧ Below w.heap.size w w' := by
  have HB0 : Hid (Below w.heap.size w (w.alloc (.cells (ntC n d p) 25))) := (Below.refl _ _).alloc (Nat.le_refl _) _
  have HE := Lib.hid (rencode_no n d p _ (h.below HB0.out rfl) hg)
  unfold ntV ntC at HE
  unfold ntC at HB0
  unfold ntV ntC
  clear h
  go_enter Try.func59, Try.ntmps59
  go_wp2_with fail
  refine HE.out.mono ?_
  rintro e w1 ⟨rfl, hb1⟩
  have HB1 := Lib.hid (HB0.out.trans (hb1.mono HB0.out.size))
  clear hb1
  go_wp2
  go_ret2
  exact ⟨rfl, HB1.out⟩
set_option maxRecDepth 100000 in
set_option maxHeartbeats 1000000 in
theorem rframe_yes (n : Nt) (d p : Value) (w : World) (h : NtR w d p n) (hg : Jour.Good n) :
    Calls Try.prog 59 #[ntV n d p] w fun e w' => (∃ a c, e = .returned (.tuple #[.slice a (Jour.fr (Jour.code n)).length c, .int .i64 0]) ∧ RB w' (.slice a (Jour.fr (Jour.code n)).length c) (Jour.fr (Jour.code n)) ∧ ∀ k, (Value.slice a (Jour.fr (Jour.code n)).length c).ownBlock = some k → w.heap.size ≤ k) ∧ Below w.heap.size w w' := by
  have HB0 : Hid (Below w.heap.size w (w.alloc (.cells (ntC n d p) 25))) := (Below.refl _ _).alloc (Nat.le_refl _) _
  have HE := Lib.hid (rencode_yes n d p _ (h.below HB0.out rfl) hg)
  unfold ntV ntC at HE
  unfold ntC at HB0
  unfold ntV ntC
  have hcl := (Jour.code_len hg).2
  obtain ⟨b, Hb⟩ := hid_of (Jour.code n)
  rw [Hb.out] at HE hcl ⊢
  obtain ⟨m, Hm⟩ := hid_of b.length
  obtain ⟨s0, Hs0⟩ := hid_of (BitVec.ofNat 32 m)
  rw [Hm.out] at HE hcl
  have hw : (s0.toNat : Int) = (m : Int) := by rw [← Hs0.out]; exact wrap_len (by omega)
  have HFr : Hid (Jour.fr b = Sum.ends s0 ++ Sum.ends (Sum.crc (Sum.ends s0 ++ b)) ++ b) := by
    show Jour.fr b = _
    unfold Jour.fr Jour.le4
    rw [Hm.out, Hs0.out]
  obtain ⟨F, HF⟩ := hid_of (Jour.fr b)
  rw [HF.out] at HFr ⊢
  have HL := Lib.hid hcl
  clear h
  go_enter Try.func59, Try.ntmps59
  go_wp2_with fail
  refine HE.out.mono ?_
  rintro e w1 ⟨⟨a, c, rfl, hrb1⟩, hb1⟩
  have HB1 := Lib.hid (HB0.out.trans (hb1.mono HB0.out.size))
  have HR1 := Lib.hid hrb1
  have p1 : m ≤ c := by obtain ⟨a', c', he, h1, h2⟩ := hrb1.shape; cases he; omega
  have p2 : c ≤ 9223372036854775807 := by obtain ⟨a', c', he, h1, h2⟩ := hrb1.shape; cases he; simp only [maxLen] at h2; omega
  clear hb1 hrb1
  have HFour := four_any s0 w1
  rw [hw] at HFour
  have HFour := Lib.hid HFour
  clear hw
  go_wp2_with fail
  refine HFour.out.mono ?_
  rintro e w2 ⟨⟨a2, c2, rfl, hown2⟩, hb2⟩
  have q1 : 4 ≤ c2 := by obtain ⟨a', c', he, h1, h2⟩ := own_shape hown2; cases he; omega
  have q2 : c2 ≤ 9223372036854775807 := by obtain ⟨a', c', he, h1, h2⟩ := own_shape hown2; cases he; simp only [maxLen] at h2; omega
  have e4 : (Sum.ends s0).length = 4 := rfl
  have HO2 := Lib.hid hown2
  have HQ2 := Lib.hid hb2
  clear hown2 hb2
  have HQa : Hid (Below w1.heap.size w1 (w2.alloc (.cells #[] 5))) := HQ2.out.alloc HQ2.out.size _
  have hba : Below w2.heap.size w2 (w2.alloc (.cells #[] 5)) := (Below.refl _ _).alloc (Nat.le_refl _) _
  have HO2a : Hid ((w2.alloc (.cells #[] 5)).ownsRow w1.heap.size 5 1 (.slice a2 4 c2) 4 (Bs (Sum.ends s0))) := own_fr HO2.out (Fr.of_below (S := fun k => w2.heap.size ≤ k) hba (fun k _ hk => hk)) (fun k hk => by have := (HO2.out.lt k hk).2; omega)
  have HOe : Hid ((w2.alloc (.cells #[] 5)).ownsRow w2.heap.size 5 1 (.slice (some ⟨w2.heap.size, 0, none⟩) 0 0) 0 (Bs [])) := own_empty0 w2 (Nat.le_refl _)
  go_wp2_with (at_builtin; refine stopped ?_)
  refine going (wpList_append_bytes _ rfl _ _ 22 22 rfl w2.heap.size 5 5 Try.underlying22 Try.underlying22 infoU8 _ [] 0 rfl HOe.out _ (Sum.ends s0) rfl (RB.own (n := 4) HO2a.out) (by rw [e4]; simp) hba.size ?_)
  intro v3 w3 hown3 hb3 _
  rw [List.nil_append] at hown3
  have HO3 := Lib.hid hown3
  have HS23 : Hid (w2.heap.size ≤ w3.heap.size) := Nat.le_trans hba.size hb3.size
  have HQ3 : Hid (Below w1.heap.size w1 w3) := HQa.out.trans (hb3.mono HQ2.out.size)
  have HO23 : Hid (w3.ownsRow w1.heap.size 5 1 (.slice a2 4 c2) 4 (Bs (Sum.ends s0))) := own_fr HO2a.out (Fr.of_below (S := fun k => w2.heap.size ≤ k) hb3 (fun k _ hk => hk)) (fun k hk => by have := (HO2.out.lt k hk).2; omega)
  clear hown3 hb3 hba
  go_wp2_with (at_builtin; refine stopped ?_)
  refine going (wpList_append_bytes _ rfl _ _ 22 22 rfl w2.heap.size 5 5 Try.underlying22 Try.underlying22 infoU8 v3 (Sum.ends s0) _ rfl HO3.out _ b rfl (HR1.out.below HQ3.out rfl) (by rw [e4, Hm.out]; have := HL.out; omega) HS23.out ?_)
  intro v4 w4 hown4 hb4 _
  have HR4 := Lib.hid (RB.own hown4)
  have HQ4 : Hid (Below w1.heap.size w1 w4) := HQ3.out.trans (hb4.mono HQ2.out.size)
  have HO24 : Hid (w4.ownsRow w1.heap.size 5 1 (.slice a2 4 c2) 4 (Bs (Sum.ends s0))) := own_fr HO23.out (Fr.of_below (S := fun k => w2.heap.size ≤ k) hb4 (fun k _ hk => hk)) (fun k hk => by have := (HO2.out.lt k hk).2; omega)
  clear hown4 hb4
  go_wp2_with fail
  refine (ref_any _ _ w4 HR4.out (by rw [List.length_append, Hm.out, e4]; have := HL.out; omega)).mono ?_
  rintro e w' ⟨rfl, rfl⟩
  obtain ⟨s1, Hs1⟩ := hid_of (Sum.crc (Sum.ends s0 ++ b))
  rw [Hs1.out] at HFr ⊢
  have e41 : (Sum.ends s1).length = 4 := rfl
  have HFour1 := Lib.hid (four_any s1 w4)
  go_wp2_with fail
  refine HFour1.out.mono ?_
  rintro e w5 ⟨⟨a5, c5, rfl, hown5⟩, hb5⟩
  have HR5 := Lib.hid (RB.own (l := Sum.ends s1) (n := 4) hown5)
  have HQ5 : Hid (Below w1.heap.size w1 w5) := HQ4.out.trans (hb5.mono HQ4.out.size)
  have HO25 : Hid (w5.ownsRow w1.heap.size 5 1 (.slice a2 4 c2) 4 (Bs (Sum.ends s0))) := own_fr HO24.out (Fr.of_below (S := fun k => w4.heap.size ≤ k) hb5 (fun k _ hk => hk)) (fun k hk => by have := (HO24.out.lt k hk).2; omega)
  clear hown5 hb5
  go_wp2_with (at_builtin; refine stopped ?_)
  refine going (wpList_append_bytes _ rfl _ _ 22 22 rfl w1.heap.size 5 5 Try.underlying22 Try.underlying22 infoU8 (.slice a2 4 c2) (Sum.ends s0) 4 rfl HO25.out _ (Sum.ends s1) rfl HR5.out (by rw [e4, e41]; omega) HQ5.out.size ?_)
  intro v6 w6 hown6 hb6 _
  have HO6 := Lib.hid hown6
  have HQ6 : Hid (Below w1.heap.size w1 w6) := HQ5.out.trans hb6
  clear hown6 hb6
  go_wp2_with (at_builtin; refine stopped ?_)
  refine going (wpList_append_bytes _ rfl _ _ 22 22 rfl w1.heap.size 5 5 Try.underlying22 Try.underlying22 infoU8 v6 (Sum.ends s0 ++ Sum.ends s1) _ rfl HO6.out _ b rfl (HR1.out.below HQ6.out rfl) (by rw [List.length_append, Hm.out, e4, e41]; have := HL.out; omega) HQ6.out.size ?_)
  intro v7 w7 hown7 hb7 _
  rw [← HFr.out] at hown7
  obtain ⟨a7, c7, rfl, -, -⟩ := (RB.own hown7).shape
  have HR7 := Lib.hid (RB.own hown7)
  have HK7 : Hid (∀ k, (Value.slice a7 F.length c7).ownBlock = some k → w.heap.size ≤ k) := fun k hk => Nat.le_trans HB1.out.size (hown7.lt k hk).1
  have HB7 := Lib.hid (HB1.out.trans ((HQ6.out.trans hb7).mono HB1.out.size))
  clear hown7 hb7
  go_wp2
  go_ret2
  exact ⟨⟨_, _, rfl, HR7.out, HK7.out⟩, HB7.out⟩
end Go.Proofs.Ytlhkmbhfgoejjaa
