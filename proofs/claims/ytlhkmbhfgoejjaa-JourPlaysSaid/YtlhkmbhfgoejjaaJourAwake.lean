/-
  kistlaw12: the fixed fact.
-/
import Derived.Test.YtlhkmbhfgoejjaaJourSwap

namespace Go.Proofs.Ytlhkmbhfgoejjaa
open Go.RowKit
set_option linter.unusedVariables false
set_option linter.unusedSimpArgs false

def n0 : Nt := ⟨4, [], 300, 0, [], [], 0, []⟩
theorem n0_good : Jour.Good n0 := by decide
theorem n0_code : Jour.code n0 = [4, 0, 172, 2, 0, 0, 0, 0, 0] := by decide +kernel
theorem n0_r (w : World) : NtR w (.slice none 0 0) (.slice none 0 0) n0 := ⟨⟨RB.nil w, RP.nil w⟩, ⟨by simp [n0, maxLen], by simp [n0, maxLen]⟩, by decide, by decide, by decide, by decide⟩
theorem nz_r (w : World) : NtR w (.slice none 0 0) (.slice none 0 0) Nt.zero := ⟨⟨RB.nil w, RP.nil w⟩, ⟨by simp [Nt.zero, maxLen], by simp [Nt.zero, maxLen]⟩, by decide, by decide, by decide, by decide⟩
theorem new_scans {l : List Nt} {r : List UInt8} (h : Jour.Scans [] l r) : l = [] ∧ r = [] := Jour.scans_unique h (Jour.scans_frs (l := []) (by simp))
theorem n0_scans {l : List Nt} {r : List UInt8} (h : Jour.Scans (Jour.fr (Jour.code n0) ++ [9]) l r) : l = [n0] ∧ r = [9] :=
  Jour.scans_unique h ⟨fun n hn => by rw [List.mem_singleton.1 hn]; exact n0_good, by simp [Jour.frs], Jour.fits_short (by simp)⟩
theorem n0_add : ∀ F : List UInt8, Jour.fr (Jour.code n0) = F → F.length = 17 → DS.new.add 0 n0 = (0, ⟨F, 17, false, 0⟩, 17) := by
  intro F hF hl
  have e : DS.new.append F = (0, ⟨F, 0, false, 0⟩) := by
    unfold DS.append
    rw [if_neg (by simp [DS.new]; omega)]
    rfl
  unfold DS.add
  rw [if_pos n0_good, hF, e, if_pos rfl]
  simp only [DS.sync, DS.can, DS.tick, hl]
  rfl
set_option maxRecDepth 100000 in
set_option maxHeartbeats 4000000 in
theorem awake12_any (w : World) : Calls Try.prog 16 #[] w fun e w' => e = .returned (.bool true) ∧ Below w.heap.size w w' := by
  have H1 : Hid (∀ wx, Calls Try.prog 14 #[.agg #[.int .i64 4, .string ⟨#[]⟩, .int .i64 300, .int .i64 0, .slice none 0 0, .string ⟨#[]⟩, .int .i64 0, .slice none 0 0]] wx fun e w' => (∃ a c, e = .returned (.tuple #[.slice a 9 c, .int .i64 0]) ∧ RB w' (.slice a 9 c) [4, 0, 172, 2, 0, 0, 0, 0, 0]) ∧ Below wx.heap.size wx w') := fun wx => by
    have := jencode_yes n0 _ _ wx (n0_r wx) n0_good
    rw [n0_code] at this
    exact this
  obtain ⟨F, HF⟩ := hid_of (Jour.fr (Jour.code n0))
  have HFl : Hid (F.length = 17) := by rw [← HF.out, Jour.fr_length, n0_code]; exact Lib.hid rfl
  have HB0 : Hid (Below w.heap.size w (w.alloc (.cells #[.int .i64 4, .string ⟨#[]⟩, .int .i64 300, .int .i64 0, .slice none 0 0, .string ⟨#[]⟩, .int .i64 0, .slice none 0 0] 25))) := (Below.refl _ _).alloc (Nat.le_refl _) _
  have HN0 : Hid (Blk (w.alloc (.cells #[.int .i64 4, .string ⟨#[]⟩, .int .i64 300, .int .i64 0, .slice none 0 0, .string ⟨#[]⟩, .int .i64 0, .slice none 0 0] 25)) w.heap.size [.int .i64 4, .string ⟨#[]⟩, .int .i64 300, .int .i64 0, .slice none 0 0, .string ⟨#[]⟩, .int .i64 0, .slice none 0 0] 25) := Blk.new w _ _ rfl
  go_enter Try.func16, Try.ntmps16
  go_wp2_with fail
  refine (H1.out _).mono ?_
  rintro e w1 ⟨⟨a1, c1, rfl, hr1⟩, hb1⟩
  have HR1 := Lib.hid hr1
  have HN1 := Lib.hid (HN0.out.below hb1 HN0.out.lt)
  have HB1 := Lib.hid (HB0.out.trans (hb1.mono HB0.out.size))
  have hc1 : 9 ≤ c1 := by obtain ⟨_, _, he, h1, h2⟩ := hr1.shape; cases he; exact h1
  have hc1' : c1 ≤ 9223372036854775807 := by obtain ⟨_, _, he, h1, h2⟩ := hr1.shape; cases he; simp only [maxLen] at h2; omega
  clear hr1 hb1
  go_wp2_with fail
  refine (new_any w1).mono ?_
  rintro e w2 ⟨rfl, hd2, hf2⟩
  have hb2 : Below w1.heap.size w1 w2 := hf2.below (Nat.le_refl _) (fun _ _ h => h)
  obtain ⟨p, Hp⟩ := hid_of w1.heap.size
  have HR2 := Lib.hid (HR1.out.below hb2 rfl)
  have HN2 := Lib.hid (HN1.out.below hb2 HN1.out.lt)
  have HB2 := Lib.hid (HB1.out.trans (hb2.mono HB1.out.size))
  have HPg : Hid (w.heap.size < p) := by rw [← Hp.out]; exact HN1.out.lt
  rw [Hp.out] at hd2 ⊢
  have HD2 := Lib.hid hd2
  clear hd2 hf2 hb2
  go_wp2_with fail
  refine (open_any w2 p _ DS.new HD2.out).mono ?_
  rintro e w3 ⟨l, r, bv3, hsc, ha3, hres⟩
  obtain ⟨rfl, rfl⟩ := new_scans hsc
  rw [show DS.reopen DS.new [] [] = (0, DS.new) from rfl] at ha3 hres
  simp only at ha3
  rcases hres with ⟨-, j, la, lc, rfl, hjs, hjj, hjf, -⟩ | ⟨hx, -⟩
  case inr => exact absurd rfl hx
  have hbel : Below p w2 w3 := ha3.2.2.below (Nat.le_of_lt HD2.out.lt) (fun k hk hf => by
    rcases hf with rfl | hf
    · omega
    · simp [Value.ownBlock] at hf)
  have HD3 := Lib.hid ha3.1
  have HJ3 := Lib.hid hjj
  have HJf := Lib.hid hjf
  have HR3 : Hid (RB w3 (.slice a1 9 c1) [4, 0, 172, 2, 0, 0, 0, 0, 0]) := HR2.out.fr ha3.2.2 (fun hl k hk hf => by
    obtain ⟨k', h1, h2⟩ := HR1.out.block hl
    rw [hk] at h1
    cases h1
    rw [Hp.out] at h2
    rcases hf with rfl | hf
    · omega
    · simp [Value.ownBlock] at hf)
  have HN3 := Lib.hid (HN2.out.below hbel HPg.out)
  have HB3 : Hid (Below w.heap.size w w3) := HB2.out.trans (hbel.mono (Nat.le_of_lt HPg.out))
  have HFo : Hid (∀ k, Foot p bv3 k → p ≤ k) := fun k hk => by
    rcases hk with rfl | hk
    · exact Nat.le_refl _
    · exact Nat.le_of_lt (ha3.1.own k hk).1
  have HPj : Hid (p < j) := Nat.lt_of_lt_of_le HD2.out.lt hjs
  clear hsc ha3 hjs hjj hjf hbel
  simp only [List.length_nil]
  have hcv1 := run_convert_S (P := Try.prog) HR3.out 22 9 5 Try.underlying22 Try.underlying5 Try.underlying9
  have hcv2 := run_convert_S (P := Try.prog) (RB.lit (w := w3) (e := 5) #[.int .u8 4, .int .u8 0, .int .u8 172, .int .u8 2, .int .u8 0, .int .u8 0, .int .u8 0, .int .u8 0, .int .u8 0] [4, 0, 172, 2, 0, 0, 0, 0, 0] rfl (by simp [maxLen]) (n := 9) rfl rfl) 22 9 5 Try.underlying22 Try.underlying5 Try.underlying9
  obtain ⟨E, HE⟩ := hid_of (S [4, 0, 172, 2, 0, 0, 0, 0, 0])
  rw [HE.out] at hcv1 hcv2
  obtain ⟨L9, HL9⟩ := hid_of ([4, 0, 172, 2, 0, 0, 0, 0, 0] : List UInt8)
  rw [HL9.out] at HR3
  have hba : Below w3.heap.size w3 (w3.alloc (.cells #[.int .u8 4, .int .u8 0, .int .u8 172, .int .u8 2, .int .u8 0, .int .u8 0, .int .u8 0, .int .u8 0, .int .u8 0] 5)) := (Below.refl _ _).alloc (Nat.le_refl _) _
  have HN4 := Lib.hid (HN3.out.below hba HN3.out.lt)
  have HR4 := Lib.hid (HR3.out.below hba rfl)
  have HB4 := Lib.hid (HB3.out.trans (hba.mono HB3.out.size))
  have HJ4 : Hid (JJ (w3.alloc (.cells #[.int .u8 4, .int .u8 0, .int .u8 172, .int .u8 2, .int .u8 0, .int .u8 0, .int .u8 0, .int .u8 0, .int .u8 0] 5)) j p 0) := Blk.below (B := w3.heap.size) HJ3.out hba HJ3.out.lt
  have HAdd := add_any (w3.alloc (.cells #[.int .u8 4, .int .u8 0, .int .u8 172, .int .u8 2, .int .u8 0, .int .u8 0, .int .u8 0, .int .u8 0, .int .u8 0] 5)) p j 0 bv3 DS.new (HD3.out.below hba) HJ4.out HJf.out (by omega) n0 _ _ (n0_r _)
  rw [n0_add F HF.out HFl.out] at HAdd
  have HAdd := Lib.hid HAdd
  obtain ⟨⟨x0, x1, x2, x3, x4, x5, x6, x7⟩, -⟩ := HN4.out.all8
  clear hba
  go_wp2_with (first
    | (go_at_call 29
       refine HAdd.out.mono ?_
       rintro e w5 ⟨rfl, bv5, hd5, hj5, ho5, hf5⟩
       simp only at hd5 hj5 ⊢
       have HD5 := Lib.hid hd5
       have HJ5 := Lib.hid hj5
       have HF5 := Lib.hid hf5
       have HO5 := Lib.hid ho5
       clear hd5 hj5 hf5 ho5 hcv1 hcv2)
    | (go_at_call 32
       refine (size_any _ _ _ _ HJ5.out).mono ?_
       rintro e wz ⟨rfl, rfl⟩)
    | (go_at_call 39; refine stopped ?_))
  have hb5 : Below p (w3.alloc (.cells #[.int .u8 4, .int .u8 0, .int .u8 172, .int .u8 2, .int .u8 0, .int .u8 0, .int .u8 0, .int .u8 0, .int .u8 0] 5)) w5 := HF5.out.below (Nat.le_of_lt HJ4.out.lt |> Nat.le_trans (Nat.le_of_lt HPj.out)) (fun k hk hf => by
    rcases hf with hf | rfl
    · have := HFo.out k hf; omega
    · have := HPj.out; omega)
  have HN5 := Lib.hid (HN4.out.below hb5 HPg.out)
  have HB5 : Hid (Below w.heap.size w w5) := HB4.out.trans (hb5.mono (Nat.le_of_lt HPg.out))
  have HR5 : Hid (RB w5 (.slice a1 9 c1) L9) := HR4.out.fr HF5.out (fun hl k hk hf => by
    obtain ⟨k', h1, h2⟩ := HR1.out.block (by simp)
    rw [hk] at h1
    cases h1
    rw [Hp.out] at h2
    rcases hf with hf | rfl
    · have := HFo.out k hf; omega
    · have := HPj.out; omega)
  clear hb5
  refine going ((bytes_any w5 p bv5 _ HD5.out).mono ?_)
  rintro e w6 ⟨v6, rfl, hown6, hb6⟩
  simp only at hown6
  obtain ⟨a6, c6, rfl, -, -⟩ := (RB.own hown6).shape
  rw [HFl.out] at hown6 ⊢
  have HO6 := Lib.hid hown6
  have HD6 := Lib.hid (HD5.out.below hb6)
  have HN6 := Lib.hid (HN5.out.below hb6 HN5.out.lt)
  have HR6 := Lib.hid (HR5.out.below hb6 rfl)
  have HB6 : Hid (Below w.heap.size w w6) := HB5.out.trans (hb6.mono HB5.out.size)
  have HS6 : Hid (w5.heap.size ≤ w6.heap.size) := hb6.size
  clear hown6 hb6
  have hba : Below w6.heap.size w6 (w6.alloc (.cells #[.int .u8 9] 5)) := (Below.refl _ _).alloc (Nat.le_refl _) _
  have HOa : Hid ((w6.alloc (.cells #[.int .u8 9] 5)).ownsRow w5.heap.size 5 1 (.slice a6 17 c6) 17 (Bs F)) := own_fr HO6.out (Fr.of_below (S := fun k => w6.heap.size ≤ k) hba (fun k _ hk => hk)) (fun k hk => by have := (HO6.out.lt k hk).2; omega)
  have HRa : Hid (RB (w6.alloc (.cells #[.int .u8 9] 5)) (.slice (some ⟨w6.heap.size, 0, none⟩) 1 1) [9]) := RB.lit _ _ _ rfl (by simp [maxLen]) rfl rfl
  have HD7 := Lib.hid (HD6.out.below hba)
  have HN7 := Lib.hid (HN6.out.below hba HN6.out.lt)
  have HR7 := Lib.hid (HR6.out.below hba rfl)
  have HB7 : Hid (Below w.heap.size w (w6.alloc (.cells #[.int .u8 9] 5))) := HB6.out.trans (hba.mono HB6.out.size)
  have HS7 : Hid (w5.heap.size ≤ (w6.alloc (.cells #[.int .u8 9] 5)).heap.size) := Nat.le_trans HS6.out hba.size
  have HFo5 : Hid (∀ k, Foot p bv5 k → k < w5.heap.size) := fun k hk => by
    rcases hk with rfl | hk
    · exact HD5.out.lt
    · exact (HD5.out.own k hk).2
  clear hba
  go_wp2_with (at_builtin; refine stopped ?_)
  refine going (wpList_append_bytes _ rfl _ _ 22 22 rfl w5.heap.size 5 5 Try.underlying22 Try.underlying22 infoU8 (.slice a6 17 c6) F 17 rfl HOa.out _ [9] rfl HRa.out (by rw [HFl.out]; simp) HS7.out ?_)
  intro v7 w7 hown7 hb7 _
  obtain ⟨a7, c7, rfl, -, -⟩ := (RB.own hown7).shape
  have HV7 := Lib.hid (RB.own hown7)
  have hf7 : Fr (fun k => w5.heap.size ≤ k) (w6.alloc (.cells #[.int .u8 9] 5)) w7 := Fr.of_below hb7 (fun k _ h => h)
  have HD8 : Hid (Dk w7 p bv5 _) := HD7.out.fr hf7 (fun k hk h => by have := HFo5.out k hk; omega)
  have HN8 := Lib.hid (HN7.out.below hb7 (Nat.lt_of_lt_of_le HPg.out (Nat.le_of_lt HD5.out.lt)))
  have HR8 : Hid (RB w7 (.slice a1 9 c1) L9) := HR7.out.fr hf7 (fun hl k hk h => by
    obtain ⟨k', h1, h2⟩ := HR1.out.block (by simp)
    rw [hk] at h1
    cases h1
    rw [Hp.out] at h2
    have := HD5.out.lt
    omega)
  have HB8 : Hid (Below w.heap.size w w7) := HB7.out.trans (hb7.mono HB5.out.size)
  clear hown7 hb7 hf7
  have HL7 : Hid ((F ++ [9]).length = 18) := by rw [List.length_append, HFl.out]; exact Lib.hid rfl
  obtain ⟨G, HG⟩ := hid_of (F ++ [9])
  rw [HG.out] at HV7 HL7 ⊢
  have HScn := Lib.hid (scan_any _ G w7 HV7.out (by rw [HL7.out]; omega))
  rw [HL7.out] at HScn ⊢
  go_wp2_with fail
  refine HScn.out.mono ?_
  rintro e w8 ⟨⟨l, r, la8, lc8, hsc, rfl, hrn⟩, hb8⟩
  rw [← HG.out, ← HF.out] at hsc
  obtain ⟨rfl, rfl⟩ := n0_scans hsc
  have HRn := Lib.hid hrn.rn
  have HD9 := Lib.hid (HD8.out.below hb8)
  have HN9 := Lib.hid (HN8.out.below hb8 HN8.out.lt)
  have HR9 := Lib.hid (HR8.out.below hb8 rfl)
  have HB9 : Hid (Below w.heap.size w w8) := HB8.out.trans (hb8.mono HB8.out.size)
  rw [HL7.out]
  simp only [List.length_singleton]
  clear hsc hrn hb8
  have HDec := Lib.hid (jdecode_any _ L9 w8 HR9.out (by rw [← HL9.out]; simp))
  go_wp2_with fail
  refine HDec.out.mono ?_
  rintro e w9 ⟨hd, hb9⟩
  rcases hd with ⟨m, d, q, hg, hc, rfl, hr9, -, -⟩ | ⟨hno, -⟩
  case inr => exact absurd ⟨n0, n0_good, by rw [n0_code]; exact HL9.out⟩ hno
  have hm : m = n0 := Jour.code_inj hg n0_good (by rw [hc, n0_code]; exact HL9.out.symm)
  subst hm
  obtain ⟨d9, e9, rfl, -, -⟩ := hr9.1.1.shape
  obtain ⟨p9, q9, rfl, -, -⟩ := hr9.1.2.shape
  have HN10 := Lib.hid (HN9.out.below hb9 HN9.out.lt)
  have HD10 := Lib.hid (HD9.out.below hb9)
  have HB10 : Hid (Below w.heap.size w w9) := HB9.out.trans (hb9.mono HB9.out.size)
  have HRn10 := Lib.hid (HRn.out.below hb9 rfl)
  have HM10 := Lib.hid hr9
  clear hg hc hr9 hb9
  obtain ⟨g8, o8, d8, p8, rfl, hg8, hr8, hc8⟩ := HRn10.out.at (i := 0) (by simp)
  simp only [List.getD_cons_zero, Nat.zero_mul, Nat.add_zero] at hr8 hc8
  obtain ⟨d8, e8, rfl, -, -⟩ := hr8.1.1.shape
  obtain ⟨p8, q8, rfl, -, -⟩ := hr8.1.2.shape
  have HM8 := Lib.hid hr8
  obtain ⟨g10, Hg10⟩ := hid_of w9.heap.size
  have hba : Below w9.heap.size w9 (w9.alloc (.cells (ntC n0 (.slice d9 n0.data.length e9) (.slice p9 n0.places.length q9)) 25)) := (Below.refl _ _).alloc (Nat.le_refl _) _
  have HN11 := Lib.hid (HN10.out.below hba HN10.out.lt)
  have HX11 : Hid (Blk (w9.alloc (.cells (ntC n0 (.slice d9 n0.data.length e9) (.slice p9 n0.places.length q9)) 25)) g10 (ntC n0 (.slice d9 n0.data.length e9) (.slice p9 n0.places.length q9)).toList 25) := Blk.new _ _ _ Hg10.out.symm
  have HC11 := Lib.hid (hc8.below hba hg8)
  have HM11 := Lib.hid (HM10.out.below hba rfl)
  have HM81 := Lib.hid (HM8.out.below hba rfl)
  have HD11 := Lib.hid (HD10.out.below hba)
  have HB11 : Hid (Below w.heap.size w (w9.alloc (.cells (ntC n0 (.slice d9 n0.data.length e9) (.slice p9 n0.places.length q9)) 25))) := HB10.out.trans (hba.mono HB10.out.size)
  have HG8 : Hid (g8 < (w9.alloc (.cells (ntC n0 (.slice d9 n0.data.length e9) (.slice p9 n0.places.length q9)) 25)).heap.size) := Nat.lt_of_lt_of_le hg8 hba.size
  clear hba hg8 hr8 hc8
  simp only [ntV, ntC]
  go_wp2
  rw [Hg10.out]
  obtain ⟨W, HW⟩ := hid_of (w9.alloc (.cells (ntC n0 (.slice d9 n0.data.length e9) (.slice p9 n0.places.length q9)) 25))
  rw [HW.out] at HN11 HX11 HC11 HM11 HM81 HD11 HB11 HG8
  simp only [ntC] at HW
  rw [HW.out]
  simp only [show n0.data.length = 0 from rfl, show n0.places.length = 0 from rfl] at HX11 HC11 HM11 HM81 ⊢
  have HSt : Hid (∀ wx, Below W.heap.size W wx → (wx.cell? ⟨w.heap.size, 0, none⟩ = some (.int .i64 4) ∧ wx.cell? ⟨w.heap.size, 1, none⟩ = some (.string ⟨#[]⟩) ∧ wx.cell? ⟨w.heap.size, 2, none⟩ = some (.int .i64 300) ∧ wx.cell? ⟨w.heap.size, 3, none⟩ = some (.int .i64 0) ∧ wx.cell? ⟨w.heap.size, 4, none⟩ = some (.slice none 0 0) ∧ wx.cell? ⟨w.heap.size, 5, none⟩ = some (.string ⟨#[]⟩) ∧ wx.cell? ⟨w.heap.size, 6, none⟩ = some (.int .i64 0) ∧ wx.cell? ⟨w.heap.size, 7, none⟩ = some (.slice none 0 0) ∧ wx.cell? ⟨g10, 0, none⟩ = some (.int .i64 4) ∧ wx.cell? ⟨g10, 1, none⟩ = some (.string ⟨#[]⟩) ∧ wx.cell? ⟨g10, 2, none⟩ = some (.int .i64 300) ∧ wx.cell? ⟨g10, 3, none⟩ = some (.int .i64 0) ∧ wx.cell? ⟨g10, 4, none⟩ = some (.slice d9 0 e9) ∧ wx.cell? ⟨g10, 5, none⟩ = some (.string ⟨#[]⟩) ∧ wx.cell? ⟨g10, 6, none⟩ = some (.int .i64 0) ∧ wx.cell? ⟨g10, 7, none⟩ = some (.slice p9 0 q9) ∧ wx.cell? ⟨g8, o8, none⟩ = some (.int .i64 4) ∧ wx.cell? ⟨g8, o8 + 1, none⟩ = some (.string ⟨#[]⟩) ∧ wx.cell? ⟨g8, o8 + 2, none⟩ = some (.int .i64 300) ∧ wx.cell? ⟨g8, o8 + 3, none⟩ = some (.int .i64 0) ∧ wx.cell? ⟨g8, o8 + 4, none⟩ = some (.slice d8 0 e8) ∧ wx.cell? ⟨g8, o8 + 5, none⟩ = some (.string ⟨#[]⟩) ∧ wx.cell? ⟨g8, o8 + 6, none⟩ = some (.int .i64 0) ∧ wx.cell? ⟨g8, o8 + 7, none⟩ = some (.slice p8 0 q8))) := fun wx hx => by
    obtain ⟨⟨x0, x1, x2, x3, x4, x5, x6, x7⟩, -⟩ := (HN11.out.below hx HN11.out.lt).all8
    obtain ⟨z0, z1, z2, z3, z4, z5, z6, z7⟩ := nt_cells (HX11.out.below hx HX11.out.lt)
    obtain ⟨y0, y1, y2, y3, y4, y5, y6, y7⟩ := HC11.out.below hx HG8.out
    exact ⟨x0, x1, x2, x3, x4, x5, x6, x7, z0, z1, z2, z3, z4, z5, z6, z7, y0, y1, y2, y3, y4, y5, y6, y7⟩
  have HS1 : Hid (∀ wx, Below W.heap.size W wx → Calls Try.prog 20 #[.agg #[.int .i64 4, .string ⟨#[]⟩, .int .i64 300, .int .i64 0, .slice d8 0 e8, .string ⟨#[]⟩, .int .i64 0, .slice p8 0 q8], .agg #[.int .i64 4, .string ⟨#[]⟩, .int .i64 300, .int .i64 0, .slice none 0 0, .string ⟨#[]⟩, .int .i64 0, .slice none 0 0]] wx fun e w' => e = .returned (.bool true) ∧ Below wx.heap.size wx w') := fun wx hx => by
    have := jsame_any n0 n0 _ _ _ _ wx (HM81.out.below hx rfl) (n0_r wx)
    rw [decide_eq_true rfl] at this
    exact this
  have HS2 : Hid (∀ wx, Below W.heap.size W wx → Calls Try.prog 20 #[.agg #[.int .i64 4, .string ⟨#[]⟩, .int .i64 300, .int .i64 0, .slice d9 0 e9, .string ⟨#[]⟩, .int .i64 0, .slice p9 0 q9], .agg #[.int .i64 4, .string ⟨#[]⟩, .int .i64 300, .int .i64 0, .slice none 0 0, .string ⟨#[]⟩, .int .i64 0, .slice none 0 0]] wx fun e w' => e = .returned (.bool true) ∧ Below wx.heap.size wx w') := fun wx hx => by
    have := jsame_any n0 n0 _ _ _ _ wx (HM11.out.below hx rfl) (n0_r wx)
    rw [decide_eq_true rfl] at this
    exact this
  have HS3 : Hid (∀ wx, Below W.heap.size W wx → Calls Try.prog 20 #[.agg #[.int .i64 4, .string ⟨#[]⟩, .int .i64 300, .int .i64 0, .slice d9 0 e9, .string ⟨#[]⟩, .int .i64 0, .slice p9 0 q9], .agg #[.int .i64 0, .string ⟨#[]⟩, .int .i64 0, .int .i64 0, .slice none 0 0, .string ⟨#[]⟩, .int .i64 0, .slice none 0 0]] wx fun e w' => e = .returned (.bool false) ∧ Below wx.heap.size wx w') := fun wx hx => by
    have := jsame_any n0 Nt.zero _ _ _ _ wx (HM11.out.below hx rfl) (nz_r wx)
    rw [decide_eq_false (by decide : ¬ n0 = Nt.zero)] at this
    exact this
  have HLo : Hid (∀ wx, Below W.heap.size W wx → Calls Try.prog 42 #[.pointer (some ⟨p, 0, none⟩)] wx fun e w' => e = .returned (.int .i64 0) ∧ ∃ n, w' = wx.drewN n) := fun wx hx => by
    have := loose_any wx p bv5 _ (HD11.out.below hx)
    rw [show DS.loose ⟨F, 17, false, 0⟩ = 0 by show F.length - 17 = 0; rw [HFl.out]] at this
    exact this
  have hs0 := HSt.out W.drew ((Below.refl _ _).drew)
  go_region_held (fun wx => (wx.cell? ⟨w.heap.size, 0, none⟩ = some (.int .i64 4) ∧ wx.cell? ⟨w.heap.size, 1, none⟩ = some (.string ⟨#[]⟩) ∧ wx.cell? ⟨w.heap.size, 2, none⟩ = some (.int .i64 300) ∧ wx.cell? ⟨w.heap.size, 3, none⟩ = some (.int .i64 0) ∧ wx.cell? ⟨w.heap.size, 4, none⟩ = some (.slice none 0 0) ∧ wx.cell? ⟨w.heap.size, 5, none⟩ = some (.string ⟨#[]⟩) ∧ wx.cell? ⟨w.heap.size, 6, none⟩ = some (.int .i64 0) ∧ wx.cell? ⟨w.heap.size, 7, none⟩ = some (.slice none 0 0) ∧ wx.cell? ⟨g10, 0, none⟩ = some (.int .i64 4) ∧ wx.cell? ⟨g10, 1, none⟩ = some (.string ⟨#[]⟩) ∧ wx.cell? ⟨g10, 2, none⟩ = some (.int .i64 300) ∧ wx.cell? ⟨g10, 3, none⟩ = some (.int .i64 0) ∧ wx.cell? ⟨g10, 4, none⟩ = some (.slice d9 0 e9) ∧ wx.cell? ⟨g10, 5, none⟩ = some (.string ⟨#[]⟩) ∧ wx.cell? ⟨g10, 6, none⟩ = some (.int .i64 0) ∧ wx.cell? ⟨g10, 7, none⟩ = some (.slice p9 0 q9) ∧ wx.cell? ⟨g8, o8, none⟩ = some (.int .i64 4) ∧ wx.cell? ⟨g8, o8 + 1, none⟩ = some (.string ⟨#[]⟩) ∧ wx.cell? ⟨g8, o8 + 2, none⟩ = some (.int .i64 300) ∧ wx.cell? ⟨g8, o8 + 3, none⟩ = some (.int .i64 0) ∧ wx.cell? ⟨g8, o8 + 4, none⟩ = some (.slice d8 0 e8) ∧ wx.cell? ⟨g8, o8 + 5, none⟩ = some (.string ⟨#[]⟩) ∧ wx.cell? ⟨g8, o8 + 6, none⟩ = some (.int .i64 0) ∧ wx.cell? ⟨g8, o8 + 7, none⟩ = some (.slice p8 0 q8)))
    (first | exact hs0 | exact hs1 | exact hs2 | exact hs3 | exact hs4)
    (first
    | (go_at_call 20
       (with_reducible refine (HS1.out _ ?_).mono ?_)
       · exact (Below.refl _ _).drew
       rintro e w11 ⟨rfl, hb11⟩
       have HQ1 := Lib.hid (((Below.refl W.heap.size W).drew).trans hb11)
       have hs1 := HSt.out _ HQ1.out
       clear hb11)
    | (go_at_call 20
       (with_reducible refine (HS2.out _ HQ1.out).mono ?_)
       rintro e w12 ⟨rfl, hb12⟩
       have HQ2 := Lib.hid (HQ1.out.trans (hb12.mono HQ1.out.size))
       have hs2 := HSt.out _ HQ2.out
       clear hb12)
    | (go_at_call 20
       (with_reducible refine (HS3.out _ HQ2.out).mono ?_)
       rintro e w13 ⟨rfl, hb13⟩
       have HQ3 := Lib.hid (HQ2.out.trans (hb13.mono HQ2.out.size))
       have hs3 := HSt.out _ HQ3.out
       clear hb13)
    | (go_at_call 42
       (with_reducible refine (HLo.out _ HQ3.out).mono ?_)
       rintro e w14 ⟨rfl, dn, rfl⟩
       have HQ4 : Hid (Below W.heap.size W (w13.drewN dn)) := HQ3.out.trans ((below_drewN w13 dn).mono HQ3.out.size)
       have hs4 := HSt.out _ HQ4.out))
  all_goals
    go_wp2
    go_ret
    exact ⟨rfl, HB11.out.trans (HQ4.out.mono HB11.out.size)⟩
end Go.Proofs.Ytlhkmbhfgoejjaa
