/-
  The walk of kistlaw12.JourScans.
-/
import Derived.Test.YtlhkmbhfgoejjaaJourSome
namespace Go.Proofs.Ytlhkmbhfgoejjaa
open Go.RowKit
set_option linter.unusedVariables false
set_option linter.unusedSimpArgs false

set_option maxRecDepth 100000 in
set_option maxHeartbeats 4000000 in
theorem jourScans_walk (v : Value) (l : List Nt) (v2 : Value) (b : List UInt8) (w : World) (h : RN w v l) (hb : RB w v2 b) (hbl : b.length ≤ 140737488351232) :
    Calls Try.prog 7 #[v, v2] w fun e w' => e = .returned (.bool true) ∧ Below w.heap.size w w' := by
  obtain ⟨va, vc, rfl, hv1, hv2⟩ := h.shape
  obtain ⟨ba, bc, rfl, hb1, hb2⟩ := hb.shape
  simp only [maxLen] at hv2 hb2
  obtain ⟨n, Hn⟩ := hid_of l.length
  obtain ⟨bn, Hbn⟩ := hid_of b.length
  rw [Hn.out] at h hv1 ⊢
  rw [Hbn.out] at hb hb1 hbl ⊢
  have H := Lib.hid h
  have HB := Lib.hid hb
  have HS := Lib.hid (some_any (fun k => k < w.heap.size) _ l 12 w (by
    have := RNs.of_rn h
    exact this) (fun k hk => hk) (by omega))
  clear h hb
  by_cases h3 : bn > 3000
  case pos =>
    have h3' : (bn : Int) > 3000 := by omega
    go_enter Try.func7, Try.ntmps7
    go_wp2_with fail
    refine (awake12_any _).mono ?_
    rintro e w1 ⟨rfl, hb1⟩
    go_wp2
    go_ret
    exact ⟨rfl, hb1⟩
  case neg =>
  have h3' : ¬ (bn : Int) > 3000 := by omega
  have HB3 : Hid (bn ≤ 3000) := by show bn ≤ 3000; omega
  clear h3
  go_enter Try.func7, Try.ntmps7
  go_wp2_with fail
  refine HS.out.mono ?_
  rintro e w1 ⟨⟨a1, c1, rfl, hr1⟩, hb1⟩
  have HG := Lib.hid (someN_good l 12)
  have HLn := Lib.hid (someN_len l 12)
  obtain ⟨L, HL⟩ := hid_of (someN l 12)
  rw [HL.out] at hr1 HG HLn ⊢
  have HFm := Lib.hid (frames_any _ L w1 hr1.rn HG.out (by have := HLn.out; omega))
  have HBw1 := Lib.hid hb1
  clear hb1 hr1
  obtain ⟨ll, Hll⟩ := hid_of L.length
  rw [Hll.out] at HFm ⊢
  go_wp2_with fail
  refine HFm.out.mono ?_
  rintro e w2 ⟨⟨a2, c2, a3, c3, rfl, ho2, -, -⟩, hb2⟩
  have HO2 := Lib.hid ho2
  have HB2 := Lib.hid (HBw1.out.trans (hb2.mono HBw1.out.size))
  have HS2 : Hid (w1.heap.size ≤ w2.heap.size) := hb2.size
  have HFl : Hid ((Jour.frs L).length ≤ 24096) := by
    have h1 := Jour.frs_len L HG.out
    have h2 := HLn.out
    show (Jour.frs L).length ≤ 24096
    omega
  clear hb2 ho2
  obtain ⟨F, HF⟩ := hid_of (Jour.frs L)
  rw [HF.out] at HO2 HFl ⊢
  obtain ⟨fl, Hfl⟩ := hid_of F.length
  rw [Hfl.out] at HO2 HFl ⊢
  obtain ⟨sl, Hsl⟩ := hid_of (starts L).length
  rw [Hsl.out]
  go_wp2_with (at_builtin; refine stopped ?_)
  refine going (wpList_append_bytes _ rfl _ _ 22 22 rfl w1.heap.size 5 5 Try.underlying22 Try.underlying22 infoU8 (.slice a2 fl c2) F fl rfl HO2.out _ b rfl (HB.out.below HB2.out rfl) (by rw [Hfl.out, Hbn.out]; have h1 := HFl.out; have h2 := HB3.out; omega) HS2.out ?_)
  intro v3 w3 hown3 hb3 _
  have HAl : Hid ((F ++ b).length ≤ 1000000) := by
    have h1 := HFl.out
    have h2 := HB3.out
    show (F ++ b).length ≤ 1000000
    rw [List.length_append, Hfl.out, Hbn.out]
    omega
  obtain ⟨A, HA⟩ := hid_of (F ++ b)
  rw [HA.out] at hown3 HAl
  have HR3 := Lib.hid (RB.own hown3)
  have HB3w := Lib.hid (HB2.out.trans (hb3.mono HBw1.out.size))
  have HSc := Lib.hid (scan_any v3 A w3 HR3.out HAl.out)
  obtain ⟨a4, c4, rfl, -, -⟩ := HR3.out.shape
  clear hown3 hb3
  obtain ⟨al, Hal⟩ := hid_of A.length
  rw [Hal.out] at HSc HR3 ⊢
  go_wp2_with fail
  refine HSc.out.mono ?_
  rintro e w4 ⟨⟨x, r, xa, xc, hsx, rfl, hrx⟩, hb4⟩
  have HX := Lib.hid hsx
  have HRx := Lib.hid hrx.rn
  have HB4 := Lib.hid (HB3w.out.trans (hb4.mono HB3w.out.size))
  have HSr := Lib.hid (rscan_any _ A w4 (HR3.out.below hb4 rfl) HAl.out)
  rw [Hal.out]
  clear hsx hrx hb4
  obtain ⟨xl, Hxl⟩ := hid_of x.length
  rw [Hxl.out] at HRx ⊢
  go_wp2_with fail
  refine HSr.out.mono ?_
  rintro e w5 ⟨⟨y, r2, ya, yc, hsy, rfl, hry⟩, hb5⟩
  obtain ⟨rfl, rfl⟩ := Jour.scans_unique HX.out hsy
  have HRx5 := Lib.hid (HRx.out.below hb5 rfl)
  have HRy5 := Lib.hid hry.rn
  have HB5 := Lib.hid (HB4.out.trans (hb5.mono HB4.out.size))
  rw [Hal.out]
  clear hsy hry hb5
  rw [Hxl.out] at HRy5 ⊢
  obtain ⟨z, Hz⟩ := hid_of (al - r.length)
  rw [Hz.out]
  go_wp2_with fail
  refine (awake12_any _).mono ?_
  rintro e w6 ⟨rfl, hb6⟩
  have HAk : Hid (Calls Try.prog 25 #[.slice xa xl xc, .slice ya xl yc] w6 fun e w' => e = .returned (.bool true) ∧ Below w6.heap.size w6 w') := by
    have := alike_any _ _ x x w6 (HRx5.out.below hb6 rfl) (HRy5.out.below hb6 rfl)
    rw [decide_eq_true rfl] at this
    exact this
  have HB6 := Lib.hid (HB5.out.trans (hb6.mono HB5.out.size))
  clear hb6
  go_wp2_with fail
  refine HAk.out.mono ?_
  rintro e w7 ⟨rfl, hb7⟩
  have HB7 := Lib.hid (HB6.out.trans (hb7.mono HB6.out.size))
  clear hb7
  go_wp2
  go_ret
  exact ⟨rfl, HB7.out⟩
end Go.Proofs.Ytlhkmbhfgoejjaa
