/-
  kistref12.Scan.
-/
import Derived.Test.YtlhkmbhfgoejjaaJourScan

namespace Go.Proofs.Ytlhkmbhfgoejjaa
open Go.RowKit
set_option linter.unusedVariables false
set_option linter.unusedSimpArgs false

set_option maxRecDepth 100000 in
set_option maxHeartbeats 4000000 in
theorem rscan_any (v : Value) (b : List UInt8) (w : World) (h : RB w v b) (hb : b.length ≤ 1000000) :
    Calls Try.prog 24 #[v] w fun e w' => ScanOk w.heap.size w' b e ∧ Below w.heap.size w w' := by
  obtain ⟨a, c, rfl, p1, p2⟩ := h.shape
  simp only [maxLen] at p2
  obtain ⟨n, Hn⟩ := hid_of b.length
  have H : Hid (RB w (.slice a n c) b) := by rw [← Hn.out]; exact h
  rw [Hn.out] at p1 hb ⊢
  clear h
  go_enter Try.func24, Try.ntmps24
  go_wp2
  go_loopw [4, 5] (fun o x wr => ∃ (l : List Nt) (k : Nat) (va : Option Addr) (vc : Nat), o = .slice va l.length vc ∧ x = .int .i64 (k : Int) ∧ (∀ m ∈ l, Jour.Good m) ∧ b = Jour.frs l ++ b.drop k ∧ k ≤ n ∧ l.length ≤ k ∧ CNb (fun j => w.heap.size ≤ j) w.heap.size 25 wr (.slice va l.length vc) l ∧ Below w.heap.size w wr) (fun _ x _ => n - (intOf x).toNat)
  case atStart => exact ⟨[], 0, _, 0, rfl, rfl, by simp, by simp [Jour.frs], by omega, by simp, CNb.start (Nat.le_refl _) rfl, (Below.refl _ _).alloc (Nat.le_refl _) _⟩
  case round =>
    obtain ⟨l, k, va, vc, rfl, rfl, hg, hbk, hk, hlk, hct, hbe⟩ := hrel
    have HG := Lib.hid hg
    have HBk := Lib.hid hbk
    have HCt := Lib.hid hct
    have HBe := Lib.hid hbe
    obtain ⟨_, _, he, hv1, hv2⟩ := hct.shape
    cases he
    simp only [maxLen] at hv2
    obtain ⟨ln, Hln⟩ := hid_of l.length
    rw [Hln.out] at hv1 hlk HCt ⊢
    clear hg hbk hct hbe
    obtain ⟨bk, Hbk⟩ := hid_of (b.drop k)
    rw [Hbk.out] at HBk
    have hbl : bk.length = n - k := by rw [← Hbk.out, List.length_drop, Hn.out]
    have HNext : Hid (∀ m, Jour.Fits bk m → ∀ z, 8 + (Jour.code m).length = z → (b = Jour.frs (l ++ [m]) ++ b.drop (k + z) ∧ k + z ≤ n ∧ (l ++ [m]).length ≤ k + z) ∧ (∀ x ∈ l ++ [m], Jour.Good x) ∧ 0 < z) := fun m hm z hz => by
      have h9 := Jour.fits_long hm
      obtain ⟨hgm, r, hr⟩ := hm
      have e1 : b.drop (k + z) = r := by rw [← List.drop_drop, Hbk.out, hr, ← hz, ← Jour.fr_length, List.drop_left]
      refine ⟨⟨?_, by rw [hbl] at h9; omega, by rw [List.length_append, Hln.out, List.length_singleton]; omega⟩, fun x hx => ?_, by omega⟩
      · rw [e1, Jour.frs_snoc, List.append_assoc, ← hr]; exact HBk.out
      · rcases List.mem_append.1 hx with hx | hx
        · exact HG.out x hx
        · rw [List.mem_singleton.1 hx]; exact hgm
    have HEnd : Hid ((∀ m, ¬ Jour.Fits bk m) → ∀ wx, CNb (fun j => w.heap.size ≤ j) w.heap.size 25 wx (.slice va ln vc) l → Below w.heap.size w wx → ScanOk w.heap.size wx b (Ending.returned (.tuple #[.slice va ln vc, .int .i64 (k : Int)])) ∧ Below w.heap.size w wx) := fun hno wx hc hb => ⟨⟨l, bk, va, vc, ⟨HG.out, HBk.out, hno⟩, by rw [hbl, Hln.out, Hn.out, show n - (n - k) = k by omega], by rw [Hln.out]; exact hc.rns.mono (fun k hk => by rcases hk with h | h; exact h; exact h.1)⟩, hb⟩
    by_cases h8 : n < k + 8
    case pos =>
      have HNo : Hid (∀ m, ¬ Jour.Fits bk m) := fun m hm => by have := (Jour.fits_long hm).1; omega
      have h8' : (n : Int) - (k : Int) < 8 := by omega
      clear HNext
      go_wp2
      go_ret2
      exact HEnd.out HNo.out _ HCt.out HBe.out
    case neg =>
    have h8' : 8 ≤ (n : Int) - (k : Int) := by omega
    obtain ⟨bb, bo, rfl, hbb, hcell⟩ := H.out.at (by rw [Hn.out]; omega)
    have hget : ∀ j, b.getD (k + j) 0 = bk.getD j 0 := fun j => by rw [← Hbk.out, List.getD_eq_getElem?_getD, List.getD_eq_getElem?_getD, List.getElem?_drop]
    have hc0 := (HBe.out.cell (p := ⟨bb, bo + (k + 0), none⟩) hbb).trans (hcell (k + 0) (by rw [Hn.out]; omega))
    have hc1 := (HBe.out.cell (p := ⟨bb, bo + (k + 1), none⟩) hbb).trans (hcell (k + 1) (by rw [Hn.out]; omega))
    have hc2 := (HBe.out.cell (p := ⟨bb, bo + (k + 2), none⟩) hbb).trans (hcell (k + 2) (by rw [Hn.out]; omega))
    have hc3 := (HBe.out.cell (p := ⟨bb, bo + (k + 3), none⟩) hbb).trans (hcell (k + 3) (by rw [Hn.out]; omega))
    rw [hget] at hc0 hc1 hc2 hc3
    rw [Nat.add_zero] at hc0
    clear hcell hget
    have z0 := (bk.getD 0 0).toNat_lt
    have z1 := (bk.getD 1 0).toNat_lt
    have z2 := (bk.getD 2 0).toNat_lt
    have z3 := (bk.getD 3 0).toNat_lt
    obtain ⟨y0, Y0⟩ := hid_of (bk.getD 0 0).toNat
    obtain ⟨y1, Y1⟩ := hid_of (bk.getD 1 0).toNat
    obtain ⟨y2, Y2⟩ := hid_of (bk.getD 2 0).toNat
    obtain ⟨y3, Y3⟩ := hid_of (bk.getD 3 0).toNat
    rw [Y0.out] at hc0 z0
    rw [Y1.out] at hc1 z1
    rw [Y2.out] at hc2 z2
    rw [Y3.out] at hc3 z3
    have i1 : ((k : Int) + 1).toNat = k + 1 := by omega
    have i2 : ((k : Int) + 2).toNat = k + 2 := by omega
    have i3 : ((k : Int) + 3).toNat = k + 3 := by omega
    obtain ⟨s, Hs⟩ := hid_of (Jour.val4 bk)
    have hv : (y0 : Int) + (y1 : Int) * 256 + (y2 : Int) * 65536 + (y3 : Int) * 16777216 = (s : Int) := by
      rw [← Hs.out]
      unfold Jour.val4
      rw [Y0.out, Y1.out, Y2.out, Y3.out]
      omega
    have hs32 : s < 4294967296 := by rw [← Hs.out]; exact Jour.val4_lt bk
    clear Y0 Y1 Y2 Y3
    go_wp2
    go_quiet (fail)
    clear hv hc0 hc1 hc2 hc3 z0 z1 z2 z3 i1 i2 i3 hbb
    obtain ⟨w3, Hw3⟩ := hid_of (wr.drewN nq)
    have hb3 : Below wr.heap.size wr w3 := by rw [← Hw3.out]; exact below_drewN wr nq
    have HB3 := Lib.hid (HBe.out.trans (hb3.mono HBe.out.size))
    have HC3 := Lib.hid (HCt.out.below hb3 rfl)
    rw [Hw3.out]
    clear hb3
    by_cases hbig : k + s + 8 ≤ n
    case neg =>
      have HNo : Hid (∀ m, ¬ Jour.Fits bk m) := fun m hm => by
        have := (Jour.fits_long hm).2.2.1
        rw [Hs.out, hbl] at this
        omega
      have hgt : (n : Int) - (k : Int) - 8 < (s : Int) := by omega
      go_wp2
      go_ret2
      exact HEnd.out HNo.out _ HC3.out HB3.out
    case pos =>
    have hgt : ¬ (n : Int) - (k : Int) - 8 < (s : Int) := by omega
    obtain ⟨c8, Hc8⟩ := hid_of ((bk.drop 8).take s)
    have hcl : c8.length = s := by rw [← Hc8.out, List.length_take, List.length_drop, hbl]; omega
    obtain ⟨t8, Ht8⟩ := hid_of (bk.take (8 + s))
    have htl : t8.length = 8 + s := by rw [← Ht8.out, List.length_take, hbl]; omega
    have HT : Hid (∀ wx, Below w.heap.size w wx → RB wx (.slice (some ⟨bb, bo + k, none⟩) (8 + s) (c - k)) t8) := fun wx hx => by
      have := (H.out.below hx rfl).sliced k (k + (8 + s)) (by omega) (by omega)
      rw [List.drop_take, Hbk.out, Nat.add_sub_cancel_left, Ht8.out, show sliced (some ⟨bb, bo, none⟩) k (k + (8 + s)) c 1 = .slice (some ⟨bb, bo + k, none⟩) (8 + s) (c - k) by unfold sliced; rw [if_neg (by omega), Nat.add_sub_cancel_left]; simp [Addr.add_lit]] at this
      exact this
    have HS8 : Hid (∀ wx, Below w.heap.size w wx → RB wx (sliced (some ⟨bb, bo, none⟩) (k + 8) (k + 8 + s) c 1) c8) := fun wx hx => by
      have := (H.out.below hx rfl).sliced (k + 8) (k + 8 + s) (by omega) (by omega)
      rw [List.drop_take, ← List.drop_drop, Hbk.out, Nat.add_sub_cancel_left, Hc8.out] at this
      exact this
    have HEq : Hid (∀ m, Jour.Fits bk m → Jour.fr c8 = t8 ∧ Jour.code m = c8) := fun m hm => by
      obtain ⟨-, -, -, h1, h2⟩ := Jour.fits_long hm
      rw [Hs.out] at h1 h2
      rw [Hc8.out] at h2
      rw [Ht8.out] at h1
      exact ⟨by rw [h1, h2], h2.symm⟩
    have HOf : Hid (∀ m, Jour.Good m → Jour.code m = c8 → Jour.fr c8 = t8 → Jour.Fits bk m ∧ 8 + (Jour.code m).length = 8 + s) := fun m hg hc hf => by
      refine ⟨Jour.fits_of hg (by rw [Hs.out, hbl]; omega) ?_ ?_, by rw [hc, hcl]⟩
      · rw [Hs.out, Hc8.out, Ht8.out]; exact hf
      · rw [Hs.out, Hc8.out]; exact hc
    have HL8 : Hid (c8.length = s ∧ t8.length = 8 + s) := ⟨hcl, htl⟩
    clear hcl htl hbl
    have hcase : (c = k + 8 ∧ n = k + 8 ∧ s = 0) ∨ ¬ c = k + 8 := by omega
    rcases hcase with ⟨hc8, hn8, hs0⟩ | hck
    · subst hs0 hn8 hc8
      rw [show sliced (some ⟨bb, bo, none⟩) (k + 8) (k + 8 + 0) (k + 8) 1 = .slice (some ⟨bb, bo, none⟩) 0 0 by simp [sliced]] at HS8
      have HDec := Lib.hid (rdecode_any _ c8 w3 (HS8.out _ HB3.out) (by rw [HL8.out.1]; omega))
      have HNo : Hid (∀ m, ¬ Jour.Fits bk m) := fun m hm => by
        have h1 := (HEq.out m hm).2
        have h2 := Jour.code_len hm.1
        rw [h1, HL8.out.1] at h2
        omega
      clear HEq HOf
      go_wp2_with fail
      refine HDec.out.mono ?_
      rintro e w4 ⟨hd, hb4⟩
      rcases hd with ⟨m, d, p, hg, hc, -⟩ | ⟨hno, rfl⟩
      · have h2 := Jour.code_len hg
        rw [hc, HL8.out.1] at h2
        omega
      · have HB5 : Hid (Below w.heap.size w (w4.alloc (.cells (ntC Nt.zero (.slice none 0 0) (.slice none 0 0)) 25))) := (HB3.out.trans (hb4.mono HB3.out.size)).alloc (Nat.le_trans HB3.out.size hb4.size) _
        have HC5 : Hid (CNb (fun j => w.heap.size ≤ j) w.heap.size 25 (w4.alloc (.cells (ntC Nt.zero (.slice none 0 0) (.slice none 0 0)) 25)) (.slice va ln vc) l) := (HC3.out.below hb4 rfl).below (B := w4.heap.size) ((Below.refl _ _).alloc (Nat.le_refl _) _) rfl
        clear hb4 hno
        simp only [ntV, ntC, Nt.zero] at HB5 HC5 ⊢
        go_wp2
        go_ret2
        exact HEnd.out HNo.out _ HC5.out HB5.out
    · rw [show sliced (some ⟨bb, bo, none⟩) (k + 8) (k + 8 + s) c 1 = .slice (some ⟨bb, bo + (k + 8), none⟩) s (c - (k + 8)) by unfold sliced; rw [if_neg (by omega), Nat.add_sub_cancel_left]; simp [Addr.add_lit]] at HS8
      have HDec := Lib.hid (rdecode_any _ c8 w3 (HS8.out _ HB3.out) (by rw [HL8.out.1]; omega))
      go_wp2_with fail
      refine HDec.out.mono ?_
      rintro e w4 ⟨hd, hb4⟩
      rcases hd with ⟨m, d, p, hg, hc, rfl, hr, hd1, hp1⟩ | ⟨hno, rfl⟩
      · have hl2 := Jour.code_len hg
        have HRd := Lib.hid hr
        have HD1 := Lib.hid hd1
        have HP1 := Lib.hid hp1
        have HMg := Lib.hid hg
        obtain ⟨da, dc, rfl, -, -⟩ := hr.1.1.shape
        obtain ⟨pa, pc, rfl, -, -⟩ := hr.1.2.shape
        have HSz : Hid (w.heap.size ≤ w3.heap.size ∧ w3.heap.size ≤ w4.heap.size) := ⟨HB3.out.size, hb4.size⟩
        obtain ⟨dl, Hdl⟩ := hid_of m.data.length
        obtain ⟨pl, Hpl⟩ := hid_of m.places.length
        rw [Hdl.out] at HRd HD1 ⊢
        rw [Hpl.out] at HRd HP1 ⊢
        have HB5 : Hid (Below w.heap.size w (w4.alloc (.cells (ntC m (.slice da dl dc) (.slice pa pl pc)) 25))) := (HB3.out.trans (hb4.mono HB3.out.size)).alloc (Nat.le_trans HB3.out.size hb4.size) _
        have HC5 : Hid (CNb (fun j => w.heap.size ≤ j) w.heap.size 25 (w4.alloc (.cells (ntC m (.slice da dl dc) (.slice pa pl pc)) 25)) (.slice va ln vc) l) := (HC3.out.below hb4 rfl).below (B := w4.heap.size) ((Below.refl _ _).alloc (Nat.le_refl _) _) rfl
        have HR5 : Hid (NtR (w4.alloc (.cells (ntC m (.slice da dl dc) (.slice pa pl pc)) 25)) (.slice da dl dc) (.slice pa pl pc) m) := HRd.out.below (B := w4.heap.size) ((Below.refl _ _).alloc (Nat.le_refl _) _) rfl
        have HX5 : Hid (Blk (w4.alloc (.cells (ntC m (.slice da dl dc) (.slice pa pl pc)) 25)) w4.heap.size (ntC m (.slice da dl dc) (.slice pa pl pc)).toList 25) := Blk.new _ _ _ rfl
        have HFr := Lib.hid (rframe_yes m _ _ _ HR5.out hg)
        rw [hc] at HFr
        have HMc := Lib.hid hc
        have HOl : Hid (∀ k, (Value.slice va ln vc).ownBlock = some k → k < w3.heap.size) := fun k hk => (HC3.out.lt k hk).2
        clear hg hc hr hd1 hp1 hb4 hl2
        simp only [ntV, ntC] at HB5 HC5 HR5 HX5 HFr ⊢
        go_wp2_with fail
        refine HFr.out.mono ?_
        rintro e w6 ⟨⟨fa, fc, rfl, hrf, -⟩, hb6⟩
        have HRf := Lib.hid hrf
        have HB6 := Lib.hid (HB5.out.trans (hb6.mono HB5.out.size))
        have HC6 := Lib.hid (HC5.out.below hb6 rfl)
        have HR6 := Lib.hid (HR5.out.below hb6 rfl)
        have HX6 : Hid (Blk w6 w4.heap.size (ntC m (.slice da dl dc) (.slice pa pl pc)).toList 25) := HX5.out.below hb6 HX5.out.lt
        have HT6 := Lib.hid (HT.out _ HB6.out)
        clear hrf hb6
        obtain ⟨F, HF⟩ := hid_of (Jour.fr c8)
        rw [HF.out] at HRf HEq HOf ⊢
        have HCv : Hid (((convert 22 9 (.slice fa F.length fc)).run Try.prog w6.drew = .ok (.string (S F)) w6.drew) ∧ (convert 22 9 (.slice (some ⟨bb, bo + k, none⟩) (8 + s) (c - k))).run Try.prog w6.drew = .ok (.string (S t8)) w6.drew) := ⟨run_convert_S HRf.out.drew _ _ _ Try.underlying22 Try.underlying5 Try.underlying9, run_convert_S HT6.out.drew _ _ _ Try.underlying22 Try.underlying5 Try.underlying9⟩
        obtain ⟨E, HE⟩ := hid_of (decide (F = t8))
        have hE : ((S F).toList == (S t8).toList) = E := by rw [S_beq]; exact HE.out
        obtain ⟨A1, HA1⟩ := hid_of (S F)
        obtain ⟨A2, HA2⟩ := hid_of (S t8)
        rw [HA1.out] at HCv hE
        rw [HA2.out] at HCv hE
        obtain ⟨fl, Hfl⟩ := hid_of F.length
        rw [Hfl.out] at HCv ⊢
        go_wp2
        have hks : k + 8 + s - k = 8 + s := by omega
        have hw1 : IntKind.i64.wrap ((k : Int) + 8) = (k : Int) + 8 := i64_in (by omega) (by omega)
        have hw2 : IntKind.i64.wrap ((k : Int) + 8 + (s : Int)) = (k : Int) + 8 + (s : Int) := i64_in (by omega) (by omega)
        go_region_held (fun wx => ((convert 22 9 (.slice fa fl fc)).run Try.prog wx = .ok (.string A1) wx) ∧ (convert 22 9 (.slice (some ⟨bb, bo + k, none⟩) (8 + s) (c - k))).run Try.prog wx = .ok (.string A2) wx)
          (exact HCv.out)
          (fail)
        all_goals
          have hb7 : Below w6.heap.size w6 w6.drew := below_drewN w6 1
          cases E with
          | false =>
            have HNo : Hid (∀ m, ¬ Jour.Fits bk m) := fun m hm => of_decide_eq_false HE.out (HEq.out m hm).1
            have HC7 := Lib.hid (HC6.out.below hb7 rfl)
            have HB7 := Lib.hid (HB6.out.trans (hb7.mono HB6.out.size))
            clear hb7
            go_wp2
            go_ret2
            exact HEnd.out HNo.out _ HC7.out HB7.out
          | true =>
            obtain ⟨hfit, hlen⟩ := HOf.out m HMg.out HMc.out (of_decide_eq_true HE.out)
            obtain ⟨hx1, hx2, hx3⟩ := HNext.out m hfit (8 + s) hlen
            have hkz := hx1.2.1
            obtain ⟨l2, Hl2⟩ := hid_of (l ++ [m])
            rw [Hl2.out] at hx1 hx2
            have HX1 := Lib.hid hx1
            have HX2 := Lib.hid hx2
            have HI : Hid (NtIn (fun j => w.heap.size ≤ j) (.slice da dl dc) (.slice pa pl pc) m) := ⟨fun _ k hk => by have h1 := HD1.out k hk; have h2 := HSz.out; omega, fun _ k hk => by have h1 := HP1.out k hk; have h2 := HSz.out; omega⟩
            have HA1 : Hid (Apart (.slice va ln vc) (.slice da dl dc) m.data.length) := fun _ k hk hv => by have h1 := HD1.out k hk; have h2 := HOl.out k hv; omega
            have HA2 : Hid (Apart (.slice va ln vc) (.slice pa pl pc) m.places.length) := fun _ k hk hv => by have h1 := HP1.out k hk; have h2 := HOl.out k hv; omega
            have HLn : Hid (ln ≤ 1000000) := by
              show ln ≤ 1000000
              omega
            have hba : Below w6.heap.size w6 (w6.drew.alloc (.cells (ntC m (.slice da dl dc) (.slice pa pl pc)) 25)) := hb7.alloc (Nat.le_refl _) _
            have HBl : Hid (Blk (w6.drew.alloc (.cells (ntC m (.slice da dl dc) (.slice pa pl pc)) 25)) w6.heap.size (ntC m (.slice da dl dc) (.slice pa pl pc)).toList 25) := Blk.new _ _ _ rfl
            have HCa := Lib.hid (HC6.out.below hba rfl)
            have HRa := Lib.hid (HR6.out.below hba rfl)
            have HBb := Lib.hid (HB6.out.trans (hba.mono HB6.out.size))
            obtain ⟨x0, x1, x2, x3, x4, x5, x6, x7⟩ := nt_cells HX6.out
            clear hba hb7 hx1 hx2 hfit hlen
            simp only [ntC] at HBl HCa HRa HBb
            go_wp2_with (at_builtin; refine stopped ?_)
            refine going (wpList_push_note _ rfl _ _ 40 rfl (fun j => w.heap.size ≤ j) w.heap.size 25 Try.underlying40 infoNote rfl (by decide) (.slice va ln vc) l rfl HCa.out w6.heap.size (.slice da dl dc) (.slice pa pl pc) m rfl HBl.out HRa.out HI.out HA1.out HA2.out (by rw [Hln.out]; exact HLn.out) HBb.out.size ?_)
            intro v9 w9 hc9 hb9 _
            rw [Hl2.out] at hc9
            obtain ⟨va9, vc9, rfl, -, -⟩ := hc9.shape
            have HC9 := Lib.hid hc9
            have HB9 := Lib.hid (HBb.out.trans hb9)
            clear hc9 hb9
            go_wp2
            go_roundw
            case rel => exact ⟨l2, _, va9, vc9, rfl, by go_num, HX2.out, HX1.out.1, HX1.out.2.1, HX1.out.2.2, HC9.out, HB9.out⟩
            case measure => simp [intOf]; omega
      · have HNo : Hid (∀ m, ¬ Jour.Fits bk m) := fun m hm => hno ⟨m, hm.1, (HEq.out m hm).2⟩
        have HB5 : Hid (Below w.heap.size w (w4.alloc (.cells (ntC Nt.zero (.slice none 0 0) (.slice none 0 0)) 25))) := (HB3.out.trans (hb4.mono HB3.out.size)).alloc (Nat.le_trans HB3.out.size hb4.size) _
        have HC5 : Hid (CNb (fun j => w.heap.size ≤ j) w.heap.size 25 (w4.alloc (.cells (ntC Nt.zero (.slice none 0 0) (.slice none 0 0)) 25)) (.slice va ln vc) l) := (HC3.out.below hb4 rfl).below (B := w4.heap.size) ((Below.refl _ _).alloc (Nat.le_refl _) _) rfl
        clear hb4 hno
        simp only [ntV, ntC, Nt.zero] at HB5 HC5 ⊢
        go_wp2
        go_ret2
        exact HEnd.out HNo.out _ HC5.out HB5.out
end Go.Proofs.Ytlhkmbhfgoejjaa
