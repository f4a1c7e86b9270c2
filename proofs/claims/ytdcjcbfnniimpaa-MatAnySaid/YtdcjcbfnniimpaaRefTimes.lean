/-
  kistref02.Times: the same product.
-/
import Derived.Test.YtdcjcbfnniimpaaMatTimes
namespace Go.Proofs.Ytdcjcbfnniimpaa
open Go.RowKit
set_option linter.unusedVariables false

theorem Below.drewN2 {B : Nat} {w w' : World} (h : Below B w w') (n : Nat) : Below B w (w'.drewN n) := ⟨h.os, h.tape, h.output, h.size, h.block⟩
theorem line_succ (m : Nat) (f : Nat → UInt8) : line (m + 1) f = line m f ++ [f m] := by simp [line, List.range_succ]
theorem tab_succ (n m : Nat) (f : Nat → Nat → UInt8) : tab (n + 1) m f = tab n m f ++ [line m (f n)] := by simp [tab, List.range_succ]
set_option maxRecDepth 100000 in
set_option maxHeartbeats 4000000 in
theorem refTimes_no (va vb : Value) (A B : List (List UInt8)) (w : World) (ha : RT w va A) (hb : RT w vb B) (hno : fits A B = false) :
    Calls Try.prog 10 #[va, vb] w fun e w' => e = .returned (.tuple #[.slice none 0 0, .bool false]) ∧ Below w.heap.size w w' := by
  obtain ⟨a, ca, rfl, ha1, ha2⟩ := ha.shape
  obtain ⟨b, cb, rfl, hb1, hb2⟩ := hb.shape
  simp only [maxLen] at ha2 hb2
  obtain ⟨na, Hna⟩ := hid_of A.length
  obtain ⟨nb, Hnb⟩ := hid_of B.length
  have HA : Hid (RT w (.slice a na ca) A) := by rw [← Hna.out]; exact ha
  have HB : Hid (RT w (.slice b nb cb) B) := by rw [← Hnb.out]; exact hb
  rw [Hna.out] at ha1 ⊢
  rw [Hnb.out] at hb1 ⊢
  have CA : Hid (∀ wx, RT wx (.slice a na ca) A → Calls Try.prog 14 #[.slice a na ca] wx fun e w' => e = .returned (.bool (tableB A)) ∧ ∃ d, w' = wx.drewN d) := fun wx hw => refTable_any _ A wx hw
  have CB : Hid (∀ wx, RT wx (.slice b nb cb) B → Calls Try.prog 14 #[.slice b nb cb] wx fun e w' => e = .returned (.bool (tableB B)) ∧ ∃ d, w' = wx.drewN d) := fun wx hw => refTable_any _ B wx hw
  clear ha hb
  have HNo : Hid (fits A B = false) := hno
  unfold fits at hno
  cases h1 : tableB A
  · rw [h1] at CA
    clear hno h1
    go_enter Try.func10, Try.ntmps10
    go_wp2_with fail
    refine (CA.out _ HA.out).mono ?_
    rintro e w' ⟨rfl, d, rfl⟩
    go_wp2
    go_ret2
    exact ⟨rfl, Below.drewN2 (Below.refl _ _) d⟩
  · cases h2 : tableB B
    · rw [h1] at CA
      rw [h2] at CB
      clear hno h1 h2
      go_enter Try.func10, Try.ntmps10
      go_wp2_with fail
      refine (CA.out _ HA.out).mono ?_
      rintro e w' ⟨rfl, d, rfl⟩
      go_wp2_with fail
      refine (CB.out _ (HB.out.drewN d)).mono ?_
      rintro e w' ⟨rfl, d2, rfl⟩
      go_wp2
      go_ret2
      exact ⟨rfl, Below.drewN2 (Below.refl _ _) (d + d2)⟩
    · rw [h1, h2] at hno
      have hne : cols A ≠ nb := by rw [← Hnb.out]; simpa using hno
      rw [h1] at CA
      rw [h2] at CB
      have hA : Table A := by simpa [tableB] using h1
      obtain ⟨g, o, rfl, hg, hrow⟩ := HA.out.row hA.1
      obtain ⟨u, hcu, hru⟩ := hrow 0 hA.1
      obtain ⟨au, cu, rfl, hu1, hu2⟩ := hru.shape
      rw [Nat.add_zero] at hcu
      obtain ⟨m, Hm⟩ := hid_of (A.getD 0 []).length
      have hne1 : m ≠ nb := by rw [← Hm.out]; exact hne
      rw [Hm.out] at hcu hu1
      have hne2 : ((m : Int) == (nb : Int)) = false := by simp; omega
      have hne3 : ((m : Int) != (nb : Int)) = true := by simp; omega
      have hpos : (0 : Int) < (na : Int) := by have := hA.1; have := Hna.out; omega
      clear hno hne hrow hru hA h1 h2
      go_enter Try.func10, Try.ntmps10
      go_wp2_with fail
      refine (CA.out _ HA.out).mono ?_
      rintro e w' ⟨rfl, d, rfl⟩
      go_wp2_with fail
      refine (CB.out _ (HB.out.drewN d)).mono ?_
      rintro e w' ⟨rfl, d2, rfl⟩
      go_wp2
      go_ret2
      exact ⟨rfl, Below.drewN2 (Below.refl _ _) (d + d2)⟩
set_option maxRecDepth 100000 in
set_option maxHeartbeats 4000000 in
theorem refTimes_yes (va vb : Value) (A B : List (List UInt8)) (w : World) (ha : RT w va A) (hb : RT w vb B) (hA : Table A) (hB : Table B) (hfit : cols A = B.length) :
    Calls Try.prog 10 #[va, vb] w fun e w' => ∃ v, e = .returned (.tuple #[v, .bool true]) ∧ RT w' v (timesT A B) ∧ Below w.heap.size w w' := by
  obtain ⟨a, ca, rfl, ha1, ha2⟩ := ha.shape
  obtain ⟨b, cb, rfl, hb1, hb2⟩ := hb.shape
  simp only [maxLen] at ha2 hb2
  obtain ⟨n, Hn⟩ := hid_of A.length
  obtain ⟨kk, Hkk⟩ := hid_of B.length
  obtain ⟨m, Hm⟩ := hid_of (cols B)
  have HA : Hid (RT w (.slice a n ca) A) := by rw [← Hn.out]; exact ha
  have HB : Hid (RT w (.slice b kk cb) B) := by rw [← Hkk.out]; exact hb
  rw [Hn.out] at ha1 ⊢
  rw [Hkk.out] at hb1 hfit ⊢
  have CA : Hid (∀ wx, RT wx (.slice a n ca) A → Calls Try.prog 14 #[.slice a n ca] wx fun e w' => e = .returned (.bool true) ∧ ∃ d, w' = wx.drewN d) := fun wx hw => by rw [← table_yes hA]; exact refTable_any _ A wx hw
  have CB : Hid (∀ wx, RT wx (.slice b kk cb) B → Calls Try.prog 14 #[.slice b kk cb] wx fun e w' => e = .returned (.bool true) ∧ ∃ d, w' = wx.drewN d) := fun wx hw => by rw [← table_yes hB]; exact refTable_any _ B wx hw
  have h5 := hA.1
  have h6 := hA.2.1
  have h7 := hB.1
  have h8 := hB.2.1
  have h9 := hB.2.2.1
  have h10 := hB.2.2.2.1
  rw [Hn.out] at h5 h6
  rw [Hkk.out] at h7 h8
  rw [Hm.out] at h9 h10
  obtain ⟨g, o, rfl, hg, hra⟩ := Rows.of HA.out Hn.out hA
  obtain ⟨g2, o2, rfl, hg2, hrb⟩ := Rows.of HB.out Hkk.out hB
  rw [hfit] at hra
  rw [Hm.out] at hrb
  have HRa := Lib.hid hra
  have HRb := Lib.hid hrb
  have HRes : Hid (timesT A B = tab n m (pr kk (At A) (At B))) := by unfold timesT; rw [Hn.out, Hm.out, Hkk.out]; exact Lib.hid rfl
  obtain ⟨au, cu, hcu, hcu1, hcu2, _⟩ := hra 0 (by omega)
  rw [Nat.add_zero] at hcu
  have hgg : g < w.heap.size ∧ g2 < w.heap.size := ⟨hg, hg2⟩
  have HGg := Lib.hid hgg
  clear ha hb hA hB hfit hra hrb hgg
  go_enter Try.func10, Try.ntmps10
  go_wp2_with fail
  refine (CA.out _ HA.out).mono ?_
  rintro e w' ⟨rfl, d, rfl⟩
  have hp0 : (0 : Int) < (n : Int) := by omega
  go_wp2_with fail
  refine (CB.out _ (HB.out.drewN d)).mono ?_
  rintro e w' ⟨rfl, d2, rfl⟩
  go_wp2
  have HC0 : Hid (CTb w.heap.size 29 ((w.drewN (d + d2)).alloc (.cells #[] 29)) (.slice (some ⟨w.heap.size, 0, none⟩) 0 0) (tab 0 m (pr kk (At A) (At B)))) := CTb.start (w := w.drewN (d + d2)) (Nat.le_refl _) rfl
  have HBe0 : Hid (Below w.heap.size w ((w.drewN (d + d2)).alloc (.cells #[] 29))) := (Below.drewN2 (Below.refl _ _) (d + d2)).alloc (Nat.le_refl _) _
  clear hcu
  go_loopw [6, 7] (fun v x wr => ∃ i : Nat, i ≤ n ∧ x = .int .i64 (i : Int) ∧ CTb w.heap.size 29 wr v (tab i m (pr kk (At A) (At B))) ∧ Below w.heap.size w wr) (fun _ x _ => n - (intOf x).toNat)
  case atStart => exact ⟨0, by omega, rfl, HC0.out, HBe0.out⟩
  case round =>
    clear HC0 HBe0
    obtain ⟨i, hi, rfl, hct, hbe⟩ := hrel
    obtain ⟨oa, oc, rfl, ho1, ho2⟩ := hct.shape
    rw [tab_length] at ho1 hct ⊢
    simp only [maxLen] at ho2
    have HCt := Lib.hid hct
    have HBe := Lib.hid hbe
    clear hct hbe
    obtain ⟨w1, hw1⟩ : ∃ w1, w1 = wr := ⟨_, rfl⟩
    subst hw1
    by_cases hlt : i < n
    · obtain ⟨ra, rc, hrc0, hrc1, hrc2, hrb⟩ := HRa.out i hlt
      have hAl : (A.getD i []).length = kk := by obtain ⟨_, _, he, _⟩ := hrb; cases he; rfl
      obtain ⟨rb, ro, hra, hrblt, hrc⟩ := hrb.at (by omega)
      subst hra
      have hown0 : (w1.alloc (.cells #[] 5)).ownsRow w1.heap.size 5 1 (.slice (some ⟨w1.heap.size, 0, none⟩) 0 0) (line 0 (pr kk (At A) (At B) i)).length (Bs (line 0 (pr kk (At A) (At B) i))) := by
        have := own_empty (w := w1) (e := 5) (Nat.le_refl _) rfl
        simpa [line, Bs] using this
      have HOwn0 := Lib.hid hown0
      have HBo : Hid (Below w1.heap.size w1 (w1.alloc (.cells #[] 5))) := (Below.refl _ _).alloc (Nat.le_refl _) _
      have hin : (i : Int) < (n : Int) := by omega
      obtain ⟨b0, c0, hb0, hb1', hb2', _⟩ := HRb.out 0 (by omega)
      have hb0' : w1.cell? ⟨g2, o2, none⟩ = some (.slice b0 m c0) := by rw [HBe.out.cell (p := ⟨g2, o2, none⟩) HGg.out.2]; exact hb0
      have HB0 := Lib.hid hb0'
      have hp1 : (0 : Int) < (kk : Int) := by omega
      have HRc0 : Hid (w1.cell? ⟨g, o + i, none⟩ = some (.slice (some ⟨rb, ro, none⟩) kk rc)) := by rw [HBe.out.cell (p := ⟨g, o + i, none⟩) HGg.out.1]; exact hrc0
      have HRc : Hid (∀ k, k < kk → w1.cell? ⟨rb, ro + k, none⟩ = some (.int .u8 ((At A i k).toNat : Int))) := fun k hk => by rw [HBe.out.cell (p := ⟨rb, ro + k, none⟩) hrblt]; exact hrc k (by omega)
      have HRl : Hid (rb < w1.heap.size ∧ g < w1.heap.size ∧ g2 < w1.heap.size) := by have := HBe.out.size; have := HGg.out; exact (by omega : rb < w1.heap.size ∧ g < w1.heap.size ∧ g2 < w1.heap.size)
      clear hown0 hrc0 hrb hrc hb0 hb0' hrblt
      go_wp2
      go_loopw [8, 9] (fun v x wx => ∃ j : Nat, j ≤ m ∧ x = .int .i64 (j : Int) ∧ wx.ownsRow w1.heap.size 5 1 v (line j (pr kk (At A) (At B) i)).length (Bs (line j (pr kk (At A) (At B) i))) ∧ Below w1.heap.size w1 wx) (fun _ x _ => m - (intOf x).toNat)
      case atStart => exact ⟨0, by omega, rfl, HOwn0.out, HBo.out⟩
      case round =>
        clear HOwn0 HBo
        obtain ⟨j, hj, rfl, hown, hbk⟩ := hrel
        obtain ⟨va, vc, rfl, hv1, hv2⟩ := own_shape hown
        rw [line_length] at hown hv1 ⊢
        have HO := Lib.hid hown
        have HBk := Lib.hid hbk
        clear hown hbk
        simp only [maxLen] at hv2
        have hb0' : wr.cell? ⟨g2, o2, none⟩ = some (.slice b0 m c0) := by rw [HBk.out.cell (p := ⟨g2, o2, none⟩) HRl.out.2.2]; exact HB0.out
        by_cases hjm : j < m
        · have hjmI : (j : Int) < (m : Int) := by omega
          obtain ⟨w2, hw2⟩ : ∃ w2, w2 = wr := ⟨_, rfl⟩
          subst hw2
          go_wp2
          go_loopw [10, 11] (fun s x wx => ∃ k : Nat, k ≤ kk ∧ x = .int .i64 (k : Int) ∧ s = .int .u8 ((sm k (fun l => mul (At A i l) (At B l j))).toNat : Int) ∧ ∃ d, wx = w2.drewN d) (fun _ x _ => kk - (intOf x).toNat)
          case atStart => exact ⟨0, by omega, rfl, rfl, 0, rfl⟩
          case round =>
            obtain ⟨k, hk, rfl, rfl, d3, rfl⟩ := hrel
            by_cases hkk : k < kk
            · have c1 : w2.cell? ⟨g, o + i, none⟩ = some (.slice (some ⟨rb, ro, none⟩) kk rc) := by rw [HBk.out.cell (p := ⟨g, o + i, none⟩) HRl.out.2.1]; exact HRc0.out
              have c2 : w2.cell? ⟨rb, ro + k, none⟩ = some (.int .u8 ((At A i k).toNat : Int)) := by rw [HBk.out.cell (p := ⟨rb, ro + k, none⟩) HRl.out.1]; exact HRc.out k hkk
              obtain ⟨xa, xc, hx0, hx1, hx2, hxr⟩ := HRb.out k hkk
              have hBl : (B.getD k []).length = m := by obtain ⟨_, _, he, _⟩ := hxr; cases he; rfl
              obtain ⟨xb, xo, hxa, hxlt, hxc⟩ := hxr.at (by omega)
              subst hxa
              have hx3 := hxc j (by omega)
              have c3 : w2.cell? ⟨g2, o2 + k, none⟩ = some (.slice (some ⟨xb, xo, none⟩) m xc) := by rw [HBk.out.cell (p := ⟨g2, o2 + k, none⟩) HRl.out.2.2, HBe.out.cell (p := ⟨g2, o2 + k, none⟩) HGg.out.2]; exact hx0
              have c4 : w2.cell? ⟨xb, xo + j, none⟩ = some (.int .u8 ((At B k j).toNat : Int)) := by rw [HBk.out.cell (p := ⟨xb, xo + j, none⟩) (by have := HBe.out.size; simp only; omega), HBe.out.cell (p := ⟨xb, xo + j, none⟩) hxlt]; exact hx3
              have hsm : sm (k + 1) (fun l => mul (At A i l) (At B l j)) = sm k (fun l => mul (At A i l) (At B l j)) ^^^ mul (At A i k) (At B k j) := rfl
              obtain ⟨s, Hs⟩ := hid_of (sm k (fun l => mul (At A i l) (At B l j)))
              obtain ⟨x, Hx⟩ := hid_of (At A i k)
              obtain ⟨y, Hy⟩ := hid_of (At B k j)
              rw [Hs.out, Hx.out, Hy.out] at hsm
              rw [Hx.out] at c2
              rw [Hy.out] at c4
              have HMul : Hid (∀ wx, Calls Try.prog 22 #[.int .u8 (x.toNat : Int), .int .u8 (y.toNat : Int)] wx fun e w' => e = .returned (.int .u8 ((mul x y).toNat : Int)) ∧ w' = wx) := fun wx => (refMul_any x y wx).mono fun e w' ⟨h1, h2⟩ => ⟨h1, h2.symm⟩
              have hxx := u8_xor_u8 s (mul x y)
              rw [← hsm] at hxx
              obtain ⟨p, Hp⟩ := hid_of (mul x y)
              rw [Hp.out] at HMul hxx
              obtain ⟨s2, Hs2⟩ := hid_of (sm (k + 1) (fun l => mul (At A i l) (At B l j)))
              rw [Hs2.out] at hxx
              rw [Hs.out]
              have hkI : (k : Int) < (kk : Int) := by omega
              have HXx := Lib.hid hxx
              obtain ⟨wd, Hwd⟩ := hid_of (w2.drewN d3)
              have HD : Hid (∀ q, wd.drewN q = w2.drewN (d3 + q)) := fun q => by rw [← Hwd.out, World.drewN_drewN]
              have e1 : wd.cell? ⟨g, o + i, none⟩ = some (.slice (some ⟨rb, ro, none⟩) kk rc) := by rw [← Hwd.out]; exact c1
              have e2 : wd.cell? ⟨rb, ro + k, none⟩ = some (.int .u8 (x.toNat : Int)) := by rw [← Hwd.out]; exact c2
              have e3 : wd.cell? ⟨g2, o2 + k, none⟩ = some (.slice (some ⟨xb, xo, none⟩) m xc) := by rw [← Hwd.out]; exact c3
              have e4 : wd.cell? ⟨xb, xo + j, none⟩ = some (.int .u8 (y.toNat : Int)) := by rw [← Hwd.out]; exact c4
              rw [Hwd.out]
              clear hsm hxx hx0 hxr hxc hx3 c1 c2 c3 c4 hb0' Hwd hxlt hBl hAl
              go_wp2
              go_quiet ((go_at_call 22; exact Calls.quiet_of_same (HMul.out _)))
              go_wp2
              go_roundw
              case rel => exact ⟨k + 1, by omega, by go_num, by rw [HXx.out, Hs2.out], _, HD.out nq⟩
              case measure => simp [intOf]; omega
            · obtain rfl : k = kk := by omega
              have HLs : Hid (line j (pr k (At A) (At B) i) ++ [sm k (fun l => mul (At A i l) (At B l j))] = line (j + 1) (pr k (At A) (At B) i)) := (line_succ _ _).symm
              have HLn : Hid ((line j (pr k (At A) (At B) i)).length = j) := line_length _ _
              obtain ⟨z, Hz⟩ := hid_of (sm k (fun l => mul (At A i l) (At B l j)))
              obtain ⟨L, HL⟩ := hid_of (line j (pr k (At A) (At B) i))
              rw [Hz.out, HL.out] at HLs
              rw [HL.out] at HLn HO
              rw [Hz.out]
              clear hb0'
              go_wp2_with (at_builtin; refine stopped ?_)
              refine going (wpList_append_bytes _ rfl _ _ 29 29 rfl w1.heap.size 5 5 Try.underlying29 Try.underlying29 infoByte _ L _ rfl (own_fr HO.out (((Fr.refl (fun _ => False) w2).drewN d3).alloc _) (fun _ _ h => h)) _ [z] rfl (RB.lit _ _ _ rfl (by simp [maxLen]) (by simp) rfl) (by rw [HLn.out]; simp; omega) (by have := HBk.out.size; simp; omega) ?_)
              intro v3 w3 ho3 hb3 hg3
              rw [HLs.out] at ho3
              have HO3 := Lib.hid ho3
              have HB3 : Hid (Below w1.heap.size w1 w3) := HBk.out.trans (((Below.drewN2 (Below.refl w1.heap.size w2) d3).alloc HBk.out.size _).trans hb3)
              clear ho3 hb3 hg3
              go_wp2
              refine ⟨⟨j + 1, by omega, by go_num, HO3.out, HB3.out⟩, by simp [intOf]; omega⟩
        · obtain rfl : j = m := by omega
          have hrbv := RB.own HO.out
          have hsep : ∀ k, (Value.slice va j vc).ownBlock = some k → w1.heap.size ≤ k := fun k hk => (HO.out.lt k hk).1
          obtain ⟨L, HL⟩ := hid_of (line j (pr kk (At A) (At B) i))
          obtain ⟨Ts, HTs⟩ := hid_of (tab i j (pr kk (At A) (At B)))
          have HTl : Hid (Ts.length = i) := by rw [← HTs.out]; exact tab_length _ _ _
          have HTn : Hid (Ts ++ [L] = tab (i + 1) j (pr kk (At A) (At B))) := by rw [← HTs.out, ← HL.out]; exact (tab_succ _ _ _).symm
          rw [HTs.out] at HCt
          rw [HL.out] at hrbv
          have HRv := Lib.hid hrbv
          have HSep := Lib.hid hsep
          clear hrbv hsep
          go_wp2_with (at_builtin; refine stopped ?_)
          have hba : Below w1.heap.size w1 (wr.alloc (.cells #[.slice va j vc] 29)) := HBk.out.alloc HBk.out.size _
          refine going (wpList_push_row _ rfl _ _ 22 rfl w.heap.size 29 Try.underlying22 infoRow _ Ts rfl (HCt.out.below hba rfl) wr.heap.size (.slice va j vc) L rfl (by rw [cell_of_row _ _ 0 _ _ _ (heap_alloc_new wr _)]; rfl) (HRv.out.below ((Below.refl wr.heap.size wr).alloc (Nat.le_refl _) _) rfl) (fun _ k hk hk2 => by have h1 := HSep.out k hk; have h2 := (HCt.out.lt k hk2).2; omega) (by rw [HTl.out]; omega) (by have := HBe.out.size; have := hba.size; omega) ?_)
          intro v3 w3 ho3 hb3 hg3
          rw [HTn.out] at ho3
          have HO3 := Lib.hid ho3
          have HB3 : Hid (Below w.heap.size w w3) := HBe.out.trans ((hba.mono HBe.out.size).trans hb3)
          clear ho3 hb3 hg3 hba
          go_wp2
          refine ⟨⟨i + 1, by omega, by go_num, HO3.out, HB3.out⟩, by simp [intOf]; omega⟩
    · obtain rfl : i = n := by omega
      have HRead : Hid (RT w1 (.slice oa i oc) (timesT A B)) := by rw [HRes.out]; exact HCt.out.read
      go_wp2
      go_ret2
      exact ⟨_, rfl, HRead.out, HBe.out⟩
end Go.Proofs.Ytdcjcbfnniimpaa
