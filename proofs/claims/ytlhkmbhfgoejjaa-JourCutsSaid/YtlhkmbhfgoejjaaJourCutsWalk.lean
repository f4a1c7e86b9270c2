/-
  The walk of kistlaw12.JourCuts.
-/
import Derived.Test.YtlhkmbhfgoejjaaJourSome
namespace Go.Proofs.Ytlhkmbhfgoejjaa
open Go.RowKit
set_option linter.unusedVariables false
set_option linter.unusedSimpArgs false

theorem frs_mono {l : List Nt} {i j : Nat} (h : i ≤ j) : (Jour.frs (l.take i)).length ≤ (Jour.frs (l.take j)).length := by
  have e : l.take j = l.take i ++ (l.take j).drop i := by
    have := (List.take_append_drop i (l.take j)).symm
    rwa [List.take_take, Nat.min_eq_left h] at this
  rw [e, Jour.frs_append, List.length_append]
  omega
set_option maxRecDepth 100000 in
set_option maxHeartbeats 4000000 in
theorem jourCuts_walk (v : Value) (l : List Nt) (a : Int) (w : World) (h : RN w v l) (ha : (Lit.int .u16 a).wf = true) :
    Calls Try.prog 8 #[v, .int .u16 a] w fun e w' => e = .returned (.bool true) ∧ Below w.heap.size w w' := by
  obtain ⟨va, vc, rfl, hv1, hv2⟩ := h.shape
  simp only [maxLen] at hv2
  have ha0 : 0 ≤ a ∧ a < 65536 := by
    simp only [Lit.wf, IntKind.min, IntKind.max, IntKind.bits, IntKind.signed] at ha
    simp at ha
    omega
  obtain ⟨cu, rfl⟩ : ∃ cu : Nat, a = (cu : Int) := ⟨a.toNat, by omega⟩
  obtain ⟨n, Hn⟩ := hid_of l.length
  rw [Hn.out] at h hv1 ⊢
  have HS := Lib.hid (some_any (fun k => k < w.heap.size) _ l 12 w (RNs.of_rn h) (fun k hk => hk) (by omega))
  clear h ha
  go_enter Try.func8, Try.ntmps8
  go_wp2_with fail
  refine HS.out.mono ?_
  rintro e w1 ⟨⟨a1, c1, rfl, hr1⟩, hb1⟩
  have HG := Lib.hid (someN_good l 12)
  have HLn := Lib.hid (someN_len l 12)
  obtain ⟨L, HL⟩ := hid_of (someN l 12)
  rw [HL.out] at hr1 HG HLn ⊢
  have HFm := Lib.hid (frames_any _ L w1 hr1.rn HG.out (by have := HLn.out; omega))
  have HBw1 := Lib.hid hb1
  have HRl := Lib.hid hr1.rn
  obtain ⟨_, _, he, hl1, hl2⟩ := hr1.rn.shape
  cases he
  simp only [maxLen] at hl2
  clear hb1 hr1
  obtain ⟨ll, Hll⟩ := hid_of L.length
  rw [Hll.out] at HFm HLn HRl hl1 ⊢
  have hll : ll ≤ 12 := HLn.out
  go_wp2_with fail
  refine HFm.out.mono ?_
  rintro e w2 ⟨⟨a2, c2, a3, c3, rfl, ho2, hi2, -⟩, hb2⟩
  have HR2 := Lib.hid (RB.own ho2)
  have HI2 := Lib.hid hi2
  have HB2 := Lib.hid (HBw1.out.trans (hb2.mono HBw1.out.size))
  have HRl2 := Lib.hid (HRl.out.below hb2 rfl)
  obtain ⟨_, _, he, hf1, hf2⟩ := (RB.own ho2).shape
  cases he
  simp only [maxLen] at hf2
  obtain ⟨_, _, he, hi1, hi3⟩ := hi2.shape
  cases he
  simp only [maxLen] at hi3
  have hfl : (Jour.frs L).length ≤ 24096 := by
    have h1 := Jour.frs_len L HG.out
    rw [Hll.out] at h1
    omega
  have HFull : Hid ((Jour.frs (L.take ll)).length = (Jour.frs L).length) := by rw [List.take_of_length_le (by rw [Hll.out]; omega)]; exact Lib.hid rfl
  have HCut := Lib.hid (Jour.scans_cut L (cu % ((Jour.frs L).length + 1)) HG.out (by have := Nat.mod_lt cu (show 0 < (Jour.frs L).length + 1 by omega); omega))
  obtain ⟨F, HF⟩ := hid_of (Jour.frs L)
  rw [HF.out] at HR2 HCut hfl hf1 HFull ⊢
  have hsl := starts_length L
  have HSt : Hid (∀ i, i < ll → (starts L).getD i 0 = (Jour.frs (L.take i)).length) := fun i hi => starts_get (by rw [Hll.out]; exact hi)
  obtain ⟨U, HU⟩ := hid_of (starts L)
  rw [HU.out] at HI2 hsl HSt hi1 ⊢
  rw [hsl, Hll.out] at HI2 hi1 ⊢
  have HUl : Hid (U.length = ll) := hsl.trans Hll.out
  obtain ⟨fl, Hfl⟩ := hid_of F.length
  rw [Hfl.out] at HR2 HCut hfl hf1 HFull ⊢
  clear hb2 ho2 hi2 hsl
  obtain ⟨N, HN⟩ := hid_of (cu % (fl + 1))
  have hNl : N ≤ fl := by have := Nat.mod_lt cu (show 0 < fl + 1 by omega); rw [HN.out] at this; omega
  rw [HN.out] at HCut
  obtain ⟨j, hj1, hj2, hj3, hsc⟩ := HCut.out
  rw [Hll.out] at hj1 hj3
  have HJ2 := Lib.hid hj2
  have HJ3 := Lib.hid hj3
  have HSc := Lib.hid hsc
  clear hj2 hj3 hsc HCut
  have hmod : (cu : Int) % ((fl : Int) + 1) = (N : Int) := by
    have h := Int.natCast_emod cu (fl + 1)
    rw [HN.out] at h
    simpa using h.symm
  have htmod : (cu : Int).tmod ((fl : Int) + 1) = (N : Int) := by rw [Int.tmod_eq_emod_of_nonneg (by omega)]; exact hmod
  -- what the scan of the cut frames answers
  have hsl := HR2.out.sliced 0 N (Nat.zero_le _) hNl
  rw [List.drop_zero, show sliced a2 0 N c2 1 = .slice a2 N c2 by cases a2 <;> simp [sliced, Addr.add]] at hsl
  have htl : (F.take N).length = N := by rw [List.length_take, Hfl.out]; omega
  have HScan := scan_any _ (F.take N) w2 hsl (by rw [htl]; omega)
  have HScan2 : Hid (Calls Try.prog 23 #[.slice a2 N c2] w2 fun e w' => (∃ xa xc, e = .returned (.tuple #[.slice xa j xc, .int .i64 (((Jour.frs (L.take j)).length : Nat) : Int)]) ∧ RN w' (.slice xa j xc) (L.take j)) ∧ Below w2.heap.size w2 w') := HScan.mono fun e w' ⟨⟨x, r, xa, xc, hx, he, hrx⟩, hbx⟩ => ⟨by
    obtain ⟨rfl, hr⟩ := Jour.scans_unique hx HSc.out
    have h1 : (L.take j).length = j := by rw [List.length_take, Hll.out]; omega
    have h2 : N - r.length = (Jour.frs (L.take j)).length := by
      rw [hr, List.length_drop, htl]
      have := HJ2.out
      omega
    rw [htl, h1, h2] at he
    have h3 := hrx.rn
    rw [h1] at h3
    exact ⟨xa, xc, he, h3⟩, hbx⟩
  obtain ⟨z, Hz⟩ := hid_of (Jour.frs (L.take j)).length
  rw [Hz.out] at HScan2
  have HJ2 : Hid (z ≤ N) := by rw [← Hz.out]; exact HJ2.out
  clear hsl htl HScan
  go_upto_if 22 with fail
  go_cut [8] (fun x wx => x = .int .i64 (N : Int) ∧ wx = w2)
  case first =>
    by_cases hf0 : (fl : Int) > 0
    · go_wp2
      go_meet
      case rel => exact ⟨rfl, rfl⟩
    · have hN0 : N = 0 := by omega
      go_wp2
      go_meet
      case rel => exact ⟨by rw [hN0]; rfl, rfl⟩
  obtain ⟨rfl, rfl⟩ := hcut
  clear hmod htmod
  go_wp2_with fail
  refine HScan2.out.mono ?_
  rintro e w3 ⟨⟨xa, xc, rfl, hrx⟩, hb3⟩
  have HRx := Lib.hid hrx
  have HI3 := Lib.hid (HI2.out.below hb3 rfl)
  have HRl3 := Lib.hid (HRl2.out.below hb3 rfl)
  have HB3 := Lib.hid (HB2.out.trans (hb3.mono HB2.out.size))
  clear hrx hb3
  have HMono : Hid (∀ k, k < j → (Jour.frs (L.take (k + 1))).length ≤ z) := fun k hk => by rw [← Hz.out]; exact frs_mono hk
  -- the end: what both sides answer
  have HEnd : Hid (∀ wx, Below w3.heap.size w3 wx → Calls Try.prog 25 #[.slice xa j xc, .slice a1 j c1] wx fun e w' => e = .returned (.bool true) ∧ Below wx.heap.size wx w') := fun wx hx => by
    have := alike_any (.slice xa j xc) (.slice a1 j c1) (L.take j) (L.take j) wx (HRx.out.below hx rfl) ((HRl3.out.below hx rfl).take (by rw [Hll.out]; exact hj1))
    rw [decide_eq_true rfl] at this
    exact this
  go_wp2
  go_loopw [11] (fun x wr => ∃ k : Nat, k ≤ j ∧ x = .int .i64 (k : Int) ∧ wr = w3) (fun x _ => j - (intOf x).toNat)
  case atStart => exact ⟨0, by omega, rfl, rfl⟩
  case round =>
    obtain ⟨k, hk, rfl, rfl⟩ := hrel
    by_cases hkl : k + 1 < ll
    · obtain ⟨g, rfl, -, -, hcell⟩ := HI3.out.at (by rw [HUl.out]; omega)
      have hc1 := hcell (k + 1) (by rw [HUl.out]; exact hkl)
      rw [HSt.out _ hkl] at hc1
      have hc0 := hcell k (by rw [HUl.out]; omega)
      rw [HSt.out k (by omega)] at hc0
      have hk1 : (k : Int) < (ll : Int) := by omega
      have hk2 : (k : Int) + 1 < (ll : Int) := by omega
      have ik : ((k : Int) + 1).toNat = k + 1 := by omega
      clear hcell
      by_cases hlt : k < j
      · have hu : (Jour.frs (L.take (k + 1))).length ≤ N := Nat.le_trans (HMono.out k hlt) HJ2.out
        obtain ⟨u, Hu⟩ := hid_of (Jour.frs (L.take (k + 1))).length
        rw [Hu.out] at hc1 hu
        have hun : (u : Int) ≤ (N : Int) := by omega
        clear hc0
        go_wp2
        go_roundw
        case rel => exact ⟨k + 1, by omega, by go_num, by first | rfl | trivial⟩
        case measure => simp [intOf]; omega
      · obtain rfl : k = j := by omega
        have hu : N < (Jour.frs (L.take (k + 1))).length := HJ3.out (k + 1) (by omega) (by omega)
        obtain ⟨u, Hu⟩ := hid_of (Jour.frs (L.take (k + 1))).length
        rw [Hu.out] at hc1 hu
        rw [Hz.out] at hc0
        have hun : ¬ (u : Int) ≤ (N : Int) := by omega
        have hk3 : ¬ (k : Int) + 1 = (ll : Int) := by omega
        go_wp2_with fail
        refine (awake12_any _).mono ?_
        rintro e w4 ⟨rfl, hb4⟩
        have HB4 := Lib.hid (HB3.out.trans (hb4.mono HB3.out.size))
        have HE4 := Lib.hid (HEnd.out _ hb4)
        clear hb4
        go_wp2_with fail
        refine HE4.out.mono ?_
        rintro e w5 ⟨rfl, hb5⟩
        have HB5 := Lib.hid (HB4.out.trans (hb5.mono HB4.out.size))
        clear hb5
        go_wp2
        go_ret
        exact ⟨rfl, HB5.out⟩
    · by_cases hkl2 : k + 1 = ll
      · have hk1 : (k : Int) < (ll : Int) := by omega
        have hk2 : ¬ (k : Int) + 1 < (ll : Int) := by omega
        have hk3 : (k : Int) + 1 = (ll : Int) := by omega
        have HFl2 : Hid ((Jour.frs (L.take (k + 1))).length = fl) := by rw [hkl2]; exact HFull
        by_cases hlt : k < j
        · have hu := Nat.le_trans (HMono.out k hlt) HJ2.out
          rw [HFl2.out] at hu
          have hun : (fl : Int) ≤ (N : Int) := by omega
          go_wp2
          go_roundw
          case rel => exact ⟨k + 1, by omega, by go_num, by first | rfl | trivial⟩
          case measure => simp [intOf]; omega
        · obtain rfl : k = j := by omega
          have hu := HJ3.out (k + 1) (by omega) (by omega)
          rw [HFl2.out] at hu
          have hun : ¬ (fl : Int) ≤ (N : Int) := by omega
          obtain ⟨g, rfl, -, -, hcell⟩ := HI3.out.at (by rw [HUl.out]; omega)
          have hc0 := hcell k (by rw [HUl.out]; omega)
          rw [HSt.out k (by omega), Hz.out] at hc0
          clear hcell
          go_wp2_with fail
          refine (awake12_any _).mono ?_
          rintro e w4 ⟨rfl, hb4⟩
          have HB4 := Lib.hid (HB3.out.trans (hb4.mono HB3.out.size))
          have HE4 := Lib.hid (HEnd.out _ hb4)
          clear hb4
          go_wp2_with fail
          refine HE4.out.mono ?_
          rintro e w5 ⟨rfl, hb5⟩
          have HB5 := Lib.hid (HB4.out.trans (hb5.mono HB4.out.size))
          clear hb5
          go_wp2
          go_ret
          exact ⟨rfl, HB5.out⟩
      · obtain rfl : k = ll := by omega
        obtain rfl : k = j := by omega
        have hk1 : ¬ (k : Int) < (k : Int) := by omega
        have HZf : Hid (z = fl) := by rw [← Hz.out]; exact HFull
        have hzf := HZf.out
        go_wp2_with fail
        refine (awake12_any _).mono ?_
        rintro e w4 ⟨rfl, hb4⟩
        have HB4 := Lib.hid (HB3.out.trans (hb4.mono HB3.out.size))
        have HE4 := Lib.hid (HEnd.out _ hb4)
        clear hb4
        go_wp2_with fail
        refine HE4.out.mono ?_
        rintro e w5 ⟨rfl, hb5⟩
        have HB5 := Lib.hid (HB4.out.trans (hb5.mono HB4.out.size))
        clear hb5
        go_wp2
        go_ret
        exact ⟨by first | rfl | simp, HB5.out⟩
end Go.Proofs.Ytlhkmbhfgoejjaa
