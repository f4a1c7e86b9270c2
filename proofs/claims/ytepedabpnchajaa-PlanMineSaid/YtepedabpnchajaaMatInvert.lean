/-
  kist/mat.Invert: what makes nothing of it.
-/
import Derived.Test.YtepedabpnchajaaMatTimes
import Derived.Deep.DeepCutAuto
import Derived.Deep.RegionHeld

namespace Go.Proofs.Ytepedabpnchajaa
open Go.RowKit
set_option linter.unusedVariables false

theorem cell_farD {w : World} {p q o k : Nat} {x v : Value} (hne : p ≠ q) (h : w.drew.cell? ⟨p, o, none⟩ = some x) : (w.setCell ⟨q, k, none⟩ v).drew.cell? ⟨p, o, none⟩ = some x := by
  rw [World.cell?_drew] at h ⊢
  rw [World.cell?_setCell_far _ _ _ _ (by simpa using (Ne.symm hne))]
  exact h
def InvOk (w' : World) (A : List (List UInt8)) (n : Nat) (e : Ending) : Prop :=
  (∃ v X, e = .returned (.tuple #[v, .bool true]) ∧ RT w' v (tab n n X) ∧ Both n (At A) X) ∨ (e = .returned (.tuple #[.slice none 0 0, .bool false]) ∧ ¬ Inj n (At A))

set_option maxRecDepth 100000 in
set_option maxHeartbeats 4000000 in
theorem inv_no (va : Value) (A : List (List UInt8)) (w : World) (ha : RT w va A) (hno : ¬ (Table A ∧ A.length = cols A)) :
    Calls Try.prog 36 #[va] w fun e w' => e = .returned (.tuple #[.slice none 0 0, .bool false]) ∧ w = w' := by
  obtain ⟨a, ca, rfl, ha1, ha2⟩ := ha.shape
  simp only [maxLen] at ha2
  obtain ⟨n, Hn⟩ := hid_of A.length
  have HA : Hid (RT w (.slice a n ca) A) := by rw [← Hn.out]; exact ha
  rw [Hn.out] at ha1 hno ⊢
  have CA : Hid (∀ wx, RT wx (.slice a n ca) A → Calls Try.prog 61 #[.slice a n ca] wx fun e w' => e = .returned (.bool (tableB A)) ∧ wx = w') := fun wx hw => table_any _ A wx hw
  clear ha
  by_cases hT : Table A
  · rw [table_yes hT] at CA
    have hne : n ≠ cols A := fun e => hno ⟨hT, e⟩
    obtain ⟨g, o, rfl, hg, hrow⟩ := HA.out.row hT.1
    obtain ⟨u, hcu, hru⟩ := hrow 0 hT.1
    obtain ⟨au, cu, rfl, hu1, hu2⟩ := hru.shape
    rw [Nat.add_zero] at hcu
    obtain ⟨m, Hm⟩ := hid_of (A.getD 0 []).length
    have hne1 : n ≠ m := by rw [← Hm.out]; exact hne
    rw [Hm.out] at hcu hu1
    have hne2 : ((n : Int) == (m : Int)) = false := by simp; omega
    have hne3 : ((n : Int) != (m : Int)) = true := by simp; omega
    have hpos : (0 : Int) < (n : Int) := by have := hT.1; have := Hn.out; omega
    clear hno hne hrow hru hT
    go_enter Try.func36, Try.ntmps36
    go_wp2_with fail
    refine (CA.out _ HA.out).mono ?_
    rintro e w' ⟨rfl, rfl⟩
    go_wp2
    go_ret2
    exact ⟨rfl, rfl⟩
  · rw [table_no hT] at CA
    clear hno hT
    go_enter Try.func36, Try.ntmps36
    go_wp2_with fail
    refine (CA.out _ HA.out).mono ?_
    rintro e w' ⟨rfl, rfl⟩
    go_wp2
    go_ret2
    exact ⟨rfl, rfl⟩
set_option maxRecDepth 100000 in
set_option maxHeartbeats 8000000 in
theorem inv_sq (va : Value) (A : List (List UInt8)) (w : World) (ha : RT w va A) (hT : Table A) (hs : A.length = cols A) :
    Calls Try.prog 36 #[va] w fun e w' => InvOk w' A A.length e ∧ Below w.heap.size w w' := by
  obtain ⟨a, ca, rfl, ha1, ha2⟩ := ha.shape
  simp only [maxLen] at ha2
  obtain ⟨n, Hn⟩ := hid_of A.length
  have HA : Hid (RT w (.slice a n ca) A) := by rw [← Hn.out]; exact ha
  rw [Hn.out] at ha1 hs ⊢
  have CA : Hid (∀ wx, RT wx (.slice a n ca) A → Calls Try.prog 61 #[.slice a n ca] wx fun e w' => e = .returned (.bool true) ∧ wx = w') := fun wx hw => by rw [← table_yes hT]; exact table_any _ A wx hw
  have h5 := hT.1
  have h6 := hT.2.1
  rw [Hn.out] at h5 h6
  obtain ⟨g, o, rfl, hg, hra⟩ := Rows.of HA.out Hn.out hT
  rw [← hs] at hra
  have HRa := Lib.hid hra
  obtain ⟨au, cu, hcu, hcu1, hcu2, _⟩ := hra 0 (by omega)
  rw [Nat.add_zero] at hcu
  have HG := Lib.hid hg
  clear ha hT hs hra hg
  have hp0 : (0 : Int) < (n : Int) := by omega
  go_enter Try.func36, Try.ntmps36
  go_wp2_with fail
  refine (CA.out _ HA.out).mono ?_
  rintro e w' ⟨rfl, rfl⟩
  go_upto_region 4 with fail
  go_cut [5, 6] (fun ul ur wx => ∃ (gl gr : Nat) (qr : Nat → Nat × Nat), ul = .slice (some ⟨gl, 0, none⟩) n n ∧ ur = .slice (some ⟨gr, 0, none⟩) n n ∧ Two 35 5 w wx n gl gr 0 (fun _ => (0, 0)) qr (fun _ _ => 0) idm)
  case first =>
    clear hcu
    have HMk := Lib.hid (make_rows n (by omega))
    have hmk := HMk.out
    have HOne := Lib.hid (one_any n (by omega))
    go_region_with (go_at_call 59; refine (HOne.out _).mono ?_; rintro e w1 ⟨gr, qr, rfl, hgr, hqr, hmr, hbr⟩)
    · go_wp2_with fail
      go_meet
      case rel => exact ⟨_, gr, qr, rfl, rfl, two_first (by simp) hbr hmr hgr hqr⟩
    · go_wp2_with fail
      go_meet
      case rel => exact ⟨_, gr, qr, rfl, rfl, two_second hbr hmr hgr hqr⟩
  case rest =>
    obtain ⟨gl, gr, qr, rfl, rfl, htwo⟩ := hcut
    have HTwo0 := Lib.hid htwo
    clear htwo hcu
    go_wp2
    go_loopw [36] (fun x wr => ∃ (i : Nat) (ql : Nat → Nat × Nat) (fl : Fm), i ≤ n ∧ x = .int .i64 (i : Int) ∧ Two 35 5 w wr n gl gr i ql qr fl idm ∧ ∀ r j, r < i → j < n → fl r j = At A r j) (fun x _ => n - (intOf x).toNat)
    case atStart => exact ⟨0, _, _, by omega, rfl, HTwo0.out, fun r j hr => by omega⟩
    case round =>
      clear HTwo0
      obtain ⟨i, ql, fl, hi, rfl, htwo, hfl⟩ := hrel
      have HTw := Lib.hid htwo
      have HFl := Lib.hid hfl
      clear htwo hfl
      by_cases hlt : i < n
      · obtain ⟨ra, rc, hrc0, hrc1, hrc2, hrb⟩ := HRa.out i hlt
        have hrc : wr.cell? ⟨g, o + i, none⟩ = some (.slice ra n rc) := by rw [HTw.out.be.cell (p := ⟨g, o + i, none⟩) HG.out]; exact hrc0
        have HRow : Hid (RB wr (.slice ra n rc) (A.getD i [])) := hrb.below HTw.out.be rfl
        have HAl : Hid ((A.getD i []).length = n) := by obtain ⟨_, _, he, _⟩ := hrb; cases he; rfl
        have hin : (i : Int) < (n : Int) := by omega
        clear hrc0 hrb
        go_wp2_with (at_builtin; refine stopped ?_)
        refine going (wpList_append_bytes _ rfl _ _ 35 35 rfl wr.heap.size 5 5 Try.underlying35 Try.underlying35 infoByte _ [] 0 rfl (World.ownsRow_nil wr wr.heap.size _ 1) _ (A.getD i []) rfl HRow.out (by rw [HAl.out]; simp; omega) (Nat.le_refl _) ?_)
        intro v3 w3 ho3 hb3 hg3
        rw [List.nil_append] at ho3
        obtain ⟨p, c, rfl, hc1, hc2, hpb, hrf⟩ := own_some ho3 (by rw [HAl.out]; omega)
        rw [HAl.out] at hc1 hrf ⊢
        have hpush := HTw.out.pushL hb3 hlt hc1 hc2 hrf hpb
        have hm3 := HTw.out.ml.below hb3 rfl
        obtain ⟨old, hold⟩ := hm3.has i hlt
        have hfz := hm3.frozen i
        have HPush := Lib.hid hpush
        clear ho3 hb3 hg3 hrf hpush hm3 hrc hc1 hc2 hpb
        go_wp2
        refine ⟨⟨i + 1, _, _, by omega, by go_num, HPush.out, fun r j hr hj => ?_⟩, by simp [intOf]; omega⟩
        by_cases e : r = i
        · subst e; simp [At]
        · simpa [e] using HFl.out r j (by omega) hj
      · obtain rfl : n = i := by omega
        have HJ0 : Hid (Jord n 0 (At A) (At A) idm) := Jord.start n (At A)
        have HT0 : Hid (Two 35 5 w wr n gl gr n ql qr (At A) idm) := HTw.out.congr HFl.out (fun _ _ _ _ => rfl)
        clear HTw HFl
        go_wp2
        go_loopw [48] (fun x wx => ∃ (k : Nat) (ql qr : Nat → Nat × Nat) (fl fr : Fm), k ≤ n ∧ x = .int .i64 (k : Int) ∧ Two 35 5 w wx n gl gr n ql qr fl fr ∧ Jord n k (At A) fl fr) (fun x _ => n - (intOf x).toNat)
        case atStart => exact ⟨0, ql, qr, At A, idm, by omega, rfl, HT0.out, HJ0.out⟩
        case round =>
          clear HT0 HJ0
          obtain ⟨k, ql, qr, fl, fr, hk, rfl, htw, hj⟩ := hrel
          have HTw := Lib.hid htw
          have HJ := Lib.hid hj
          clear htw hj
          by_cases hlk : k < n
          · have hkn : (k : Int) < (n : Int) := by omega
            go_wp2
            go_loop [10] (fun x => ∃ m : Nat, k ≤ m ∧ m ≤ n ∧ x = .int .i64 (m : Int) ∧ ∀ r, k ≤ r → r < m → fl r k = 0) (fun x => n - (intOf x).toNat)
            case atStart => exact ⟨k, by omega, by omega, rfl, fun r h1 h2 => by omega⟩
            case round =>
              obtain ⟨m, hkm, hmn, rfl, hz⟩ := hrel
              have HZ := Lib.hid hz
              clear hz
              by_cases hlm : m < n
              · have hmI : (m : Int) < (n : Int) := by omega
                have hhd := HTw.out.ml.hd m hlm
                have hby := HTw.out.ml.byte m k hlm hlk
                have hrow := HTw.out.ml.row m hlm
                obtain ⟨pm, Hpm⟩ := hid_of (ql m).1
                obtain ⟨cm, Hcm⟩ := hid_of (ql m).2
                rw [Hpm.out, Hcm.out] at hhd
                rw [Hpm.out] at hby
                have hcm1 : n ≤ cm := by rw [← Hcm.out]; exact hrow.1
                by_cases hz0 : fl m k = 0
                · rw [hz0] at hby
                  have HZ2 : Hid (∀ r, k ≤ r → r < m + 1 → fl r k = 0) := fun r h1 h2 => by
                    by_cases e : r = m
                    · rw [e, hz0]
                    · exact HZ.out r h1 (by omega)
                  clear hz0 hrow
                  go_wp2
                  go_round
                  case rel => exact ⟨m + 1, by omega, by omega, by go_num, HZ2.out⟩
                  case measure => simp [intOf]; omega
                · have hne := u8_ne (y := 0) hz0
                  have HNe := Lib.hid hz0
                  obtain ⟨z, Hz⟩ := hid_of (fl m k)
                  rw [Hz.out] at hby hne
                  have hne' : ((z.toNat : Int) == 0) = false := hne
                  have hmne : ((m : Int) == (n : Int)) = false := by simp; omega
                  clear hz0 hrow hne
                  go_wp2
                  have hdk := HTw.out.ml.hd k hlk
                  have fzk := HTw.out.ml.frozen k
                  have fzm := HTw.out.ml.frozen m
                  obtain ⟨pk, Hpk⟩ := hid_of (ql k).1
                  obtain ⟨ck, Hck⟩ := hid_of (ql k).2
                  rw [Hpk.out, Hck.out] at hdk
                  have HS : Hid (wr.drew.cell? ⟨gl, m, none⟩ = some (.slice (some ⟨pm, 0, none⟩) n cm) ∧ wr.drew.cell? ⟨gl, k, none⟩ = some (.slice (some ⟨pk, 0, none⟩) n ck)) := ⟨hhd, hdk⟩
                  have hsw := (HTw.out.swapL hlk hlm).drew
                  rw [Hpm.out, Hcm.out, Hpk.out, Hck.out] at hsw
                  have HSw := Lib.hid hsw
                  obtain ⟨y, hy⟩ : ∃ y, (wr.setCell ⟨gl, k, none⟩ (.slice (some ⟨pm, 0, none⟩) n cm)).cell? ⟨gl, m, none⟩ = some y := by
                    obtain ⟨y, hy⟩ := cell?_setCell_some (w := wr) (p := ⟨gl, k, none⟩) (x := .slice (some ⟨pm, 0, none⟩) n cm) (q := ⟨gl, m, none⟩) (v := _) hhd
                    exact ⟨y, hy⟩
                  clear hsw hby
                  go_cut [] (fun wx => Two 35 5 w wx n gl gr n (fun i => ql (swn k m i)) qr (fun i => fl (swn k m i)) fr)
                  case first =>
                    go_region_with (fail)
                    all_goals
                      go_wp2_with fail
                      go_meet
                      case rel => exact HSw.out
                  case rest =>
                    have htw1 := hcut
                    have hdk1 := htw1.mr.hd k hlk
                    have hdm1 := htw1.mr.hd m hlm
                    have fzk1 := htw1.mr.frozen k
                    have fzm1 := htw1.mr.frozen m
                    have hrk1 := (htw1.mr.row k hlk).1
                    have hrm1 := (htw1.mr.row m hlm).1
                    have hsw1 := (htw1.swapR hlk hlm).drew
                    have HSl : Hid (∀ i, fl (swn k m i) = (fun r => fl (swn k m r)) i) := fun i => rfl
                    have hzk : (fun i => fl (swn k m i)) k k = z := by simp only [swn, if_true]; exact Hz.out
                    obtain ⟨ql1, Hql1⟩ := hid_of (fun i => ql (swn k m i))
                    obtain ⟨fl1, Hfl1⟩ := hid_of (fun i => fl (swn k m i))
                    obtain ⟨pk1, Hpk1⟩ := hid_of (qr k).1
                    obtain ⟨ck1, Hck1⟩ := hid_of (qr k).2
                    obtain ⟨pm1, Hpm1⟩ := hid_of (qr m).1
                    obtain ⟨cm1, Hcm1⟩ := hid_of (qr m).2
                    rw [Hpk1.out, Hck1.out] at hdk1 hsw1
                    rw [Hpm1.out, Hcm1.out] at hdm1 hsw1
                    rw [Hck1.out] at hrk1
                    rw [Hcm1.out] at hrm1
                    rw [Hql1.out, Hfl1.out] at hsw1
                    rw [Hfl1.out] at hzk
                    have HZk := Lib.hid hzk
                    have HSw1 := Lib.hid hsw1
                    obtain ⟨y1, hy1⟩ : ∃ y, (wc.setCell ⟨gr, k, none⟩ (.slice (some ⟨pm1, 0, none⟩) n cm1)).cell? ⟨gr, m, none⟩ = some y := by
                      obtain ⟨y, hy⟩ := cell?_setCell_some (w := wc) (p := ⟨gr, k, none⟩) (x := .slice (some ⟨pm1, 0, none⟩) n cm1) (q := ⟨gr, m, none⟩) (v := _) hdm1
                      exact ⟨y, hy⟩
                    clear htw1 hcut hsw1 hzk hhd hdk fzk fzm hy HSw HTw HS HRa
                    go_wp2
                    go_cut [] (fun wx => ∃ qr1 fr1, (∀ i, qr1 i = qr (swn k m i)) ∧ (∀ i, fr1 i = fr (swn k m i)) ∧ Two 35 5 w wx n gl gr n ql1 qr1 fl1 fr1)
                    case first =>
                      go_region_with (fail)
                      all_goals
                        go_wp2_with fail
                        go_meet
                        case rel => exact ⟨_, _, fun _ => rfl, fun _ => rfl, HSw1.out⟩
                    case rest =>
                      obtain ⟨qr1, fr1, hqr1, hfr1, htw2⟩ := hcut
                      have HQr1 := Lib.hid hqr1
                      have HFr1 := Lib.hid hfr1
                      have HTw2 := Lib.hid htw2
                      have hdk := htw2.ml.hd k hlk
                      have hby := htw2.ml.byte k k hlk hlk
                      have hrow := (htw2.ml.row k hlk).1
                      obtain ⟨pk2, Hpk2⟩ := hid_of (ql1 k).1
                      obtain ⟨ck2, Hck2⟩ := hid_of (ql1 k).2
                      rw [Hpk2.out, Hck2.out] at hdk
                      rw [Hpk2.out, HZk.out] at hby
                      rw [Hck2.out] at hrow
                      have hz0 : z ≠ 0 := by rw [← Hz.out]; exact HNe.out
                      have HDiv : Hid (∀ wx, Calls Try.prog 60 #[.int .u8 1, .int .u8 (z.toNat : Int)] wx fun e w' => e = .returned (.tuple #[.int .u8 ((quo 1 z).toNat : Int), .bool true]) ∧ wx = w') := fun wx => div_yes 1 z wx hz0
                      have HC : Hid (quo 1 z = inv z) := one_mul _
                      obtain ⟨c, Hc⟩ := hid_of (quo 1 z)
                      rw [Hc.out] at HDiv HC
                      clear hqr1 hfr1 htw2 hdk1 hdm1 fzk1 fzm1 hrk1 hrm1 hy1 hz0
                      go_wp2_with fail
                      refine (HDiv.out _).mono ?_
                      rintro e w' ⟨rfl, rfl⟩
                      go_wp2
                      have HT4 : Hid (Two 35 5 w wc n gl gr n ql1 qr1 (scl k 0 c fl1) (scl k 0 c fr1)) := HTw2.out.congr (fun r j _ _ => by simp [scl]) (fun r j _ _ => by simp [scl])
                      clear HTw2 hdk hby hrow
                      go_loopw [110] (fun x wx => ∃ j : Nat, j ≤ n ∧ x = .int .i64 (j : Int) ∧ Two 35 5 w wx n gl gr n ql1 qr1 (scl k j c fl1) (scl k j c fr1)) (fun x _ => n - (intOf x).toNat)
                      case atStart => exact ⟨0, by omega, rfl, HT4.out⟩
                      case round =>
                        clear HT4
                        obtain ⟨j, hj, rfl, ht4⟩ := hrel
                        have HT4 := Lib.hid ht4
                        clear ht4
                        by_cases hlj : j < n
                        · have hjn : (j : Int) < (n : Int) := by omega
                          have a1 := HT4.out.ml.hd k hlk
                          have a2 := HT4.out.mr.hd k hlk
                          have a3 := HT4.out.ml.byte k j hlk hlj
                          have a4 := HT4.out.mr.byte k j hlk hlj
                          have f3 := ((HT4.out.ml.row k hlk).2.2).frozen j
                          have f4 := ((HT4.out.mr.row k hlk).2.2).frozen j
                          have l1 := (HT4.out.ml.row k hlk).1
                          have l2 := (HT4.out.mr.row k hlk).1
                          have n1 := HT4.out.qq k k hlk hlk
                          have n2 := HT4.out.ml.apart k hlk
                          have n3 := HT4.out.lg k hlk
                          have n4 := HT4.out.mr.apart k hlk
                          have n5 := HT4.out.rg k hlk
                          have e3 : scl k j c fl1 k j = fl1 k j := by simp [scl]
                          have e4 : scl k j c fr1 k j = fr1 k j := by simp [scl]
                          rw [e3] at a3
                          rw [e4] at a4
                          obtain ⟨pr, Hpr⟩ := hid_of (qr1 k).1
                          obtain ⟨cr, Hcr⟩ := hid_of (qr1 k).2
                          obtain ⟨x, Hx⟩ := hid_of (fl1 k j)
                          obtain ⟨y, Hy⟩ := hid_of (fr1 k j)
                          rw [Hpk2.out, Hck2.out] at a1
                          rw [Hpr.out, Hcr.out] at a2
                          rw [Hpk2.out, Hx.out] at a3
                          rw [Hpr.out, Hy.out] at a4
                          rw [Hpk2.out] at f3 n1 n2 n3
                          rw [Hpr.out] at f4 n1 n4 n5
                          rw [Hck2.out] at l1
                          rw [Hcr.out] at l2
                          have HM1 : Hid (∀ wx, Calls Try.prog 62 #[.int .u8 (x.toNat : Int), .int .u8 (c.toNat : Int)] wx fun e w' => e = .returned (.int .u8 ((mul x c).toNat : Int)) ∧ wx = w') := mul_any x c
                          have HM2 : Hid (∀ wx, Calls Try.prog 62 #[.int .u8 (y.toNat : Int), .int .u8 (c.toNat : Int)] wx fun e w' => e = .returned (.int .u8 ((mul y c).toNat : Int)) ∧ wx = w') := mul_any y c
                          have hset := ((HT4.out.byteL k j hlk (mul x c)).byteR k j hlk (mul y c)).drew
                          have hset2 : Two 35 5 w (((wr.setCell ⟨(ql1 k).1, j, none⟩ (.int .u8 ((mul x c).toNat : Int))).setCell ⟨(qr1 k).1, j, none⟩ (.int .u8 ((mul y c).toNat : Int))).drew) n gl gr n ql1 qr1 (scl k (j + 1) c fl1) (scl k (j + 1) c fr1) := by
                            refine hset.congr (fun r i hr hi => ?_) (fun r i hr hi => ?_)
                            · by_cases er : r = k
                              · subst er
                                by_cases ei : i = j
                                · subst ei; simp [scl, Hx.out]
                                · by_cases el : i < j
                                  · simp [scl, ei, el, show i < j + 1 by omega]
                                  · simp [scl, ei, el, show ¬ i < j + 1 by omega]
                              · simp [scl, er]
                            · by_cases er : r = k
                              · subst er
                                by_cases ei : i = j
                                · subst ei; simp [scl, Hy.out]
                                · by_cases el : i < j
                                  · simp [scl, ei, el, show i < j + 1 by omega]
                                  · simp [scl, ei, el, show ¬ i < j + 1 by omega]
                              · simp [scl, er]
                          rw [Hpk2.out, Hpr.out] at hset2
                          obtain ⟨mx, Hmx⟩ := hid_of (mul x c)
                          obtain ⟨my, Hmy⟩ := hid_of (mul y c)
                          rw [Hmx.out] at HM1 hset2
                          rw [Hmy.out] at HM2 hset2
                          have HSet := Lib.hid hset2
                          have HS1 : Hid (wr.drew.cell? ⟨gl, k, none⟩ = some (.slice (some ⟨pk2, 0, none⟩) n ck2) ∧ wr.drew.cell? ⟨gr, k, none⟩ = some (.slice (some ⟨pr, 0, none⟩) n cr)) := ⟨a1, a2⟩
                          have HS2 : Hid ((wr.setCell ⟨pk2, j, none⟩ (.int .u8 (mx.toNat : Int))).drew.cell? ⟨gl, k, none⟩ = some (.slice (some ⟨pk2, 0, none⟩) n ck2) ∧ (wr.setCell ⟨pk2, j, none⟩ (.int .u8 (mx.toNat : Int))).drew.cell? ⟨gr, k, none⟩ = some (.slice (some ⟨pr, 0, none⟩) n cr)) := by
                            have h := HS1.out
                            exact ⟨cell_farD (Ne.symm n2) h.1, cell_farD (Ne.symm n3) h.2⟩
                          have HS3 : Hid (((wr.setCell ⟨pk2, j, none⟩ (.int .u8 (mx.toNat : Int))).setCell ⟨pr, j, none⟩ (.int .u8 (my.toNat : Int))).drew.cell? ⟨gl, k, none⟩ = some (.slice (some ⟨pk2, 0, none⟩) n ck2) ∧ ((wr.setCell ⟨pk2, j, none⟩ (.int .u8 (mx.toNat : Int))).setCell ⟨pr, j, none⟩ (.int .u8 (my.toNat : Int))).drew.cell? ⟨gr, k, none⟩ = some (.slice (some ⟨pr, 0, none⟩) n cr)) := by
                            have h := HS2.out
                            exact ⟨cell_farD (Ne.symm n5) h.1, cell_farD (Ne.symm n4) h.2⟩
                          have b4 : (wr.setCell ⟨pk2, j, none⟩ (.int .u8 (mx.toNat : Int))).cell? ⟨pr, j, none⟩ = some (.int .u8 (y.toNat : Int)) := by
                            rw [World.cell?_setCell_far _ _ _ _ (by simpa using n1)]
                            exact a4
                          have g4 : (wr.setCell ⟨pk2, j, none⟩ (.int .u8 (mx.toNat : Int))).frozen? ⟨pr, j, none⟩ = false := by simpa using f4
                          clear hset hset2 e3 e4
                          go_wp2
                          refine wp_region_held_drew (S := fun wx => wx.cell? ⟨gl, k, none⟩ = some (.slice (some ⟨pk2, 0, none⟩) n ck2) ∧ wx.cell? ⟨gr, k, none⟩ = some (.slice (some ⟨pr, 0, none⟩) n cr)) (by kernel_rfl) HS1.out (fun hHeld => ?_)
                          refine wpAnyH_take (i := 0) (oi := ⟨_, _, _, _, _, _⟩) (v := ?_) rfl (by kernel_rfl) (by kernel_rfl) (by kernel_rfl) (fun _ _ _ h => h) (Or.inl ⟨by rfl, ?_⟩) hHeld ?_
                          rotate_left
                          · (intro wq hq; (try dsimp only at hq); go_simp; try with_reducible rfl)
                          simp only [Act.put, List.setIfInBounds_toArray, List.set_cons_zero, List.set_cons_succ]
                          refine wpAnyH_take (i := 1) (oi := ⟨_, _, _, _, _, _⟩) (v := ?_) rfl (by kernel_rfl) (by kernel_rfl) (by kernel_rfl) (fun _ _ _ h => h) (Or.inl ⟨by rfl, ?_⟩) hHeld ?_
                          rotate_left
                          · (intro wq hq; (try dsimp only at hq); go_simp; try with_reducible rfl)
                          simp only [Act.put, List.setIfInBounds_toArray, List.set_cons_zero, List.set_cons_succ]
                          refine wpAnyH_take (i := 2) (oi := ⟨_, _, _, _, _, _⟩) (v := ?_) rfl (by kernel_rfl) (by kernel_rfl) (by kernel_rfl) (fun _ _ _ h => h) (Or.inl ⟨by rfl, ?_⟩) hHeld ?_
                          rotate_left
                          · (intro wq hq; (try dsimp only at hq); go_simp; try with_reducible rfl)
                          simp only [Act.put, List.setIfInBounds_toArray, List.set_cons_zero, List.set_cons_succ]
                          refine wpAnyH_take (i := 3) (oi := ⟨_, _, _, _, _, _⟩) (v := ?_) rfl (by kernel_rfl) (by kernel_rfl) (by kernel_rfl) (fun _ _ _ h => h) (Or.inl ⟨by rfl, ?_⟩) hHeld ?_
                          rotate_left
                          · (intro wq hq; (try dsimp only at hq); go_simp; try with_reducible rfl)
                          simp only [Act.put, List.setIfInBounds_toArray, List.set_cons_zero, List.set_cons_succ]
                          refine wpAnyH_take (i := 4) (oi := ⟨_, _, _, _, _, _⟩) (v := ?_) rfl (by kernel_rfl) (by kernel_rfl) (by kernel_rfl) (fun _ _ _ h => h) (Or.inl ⟨by rfl, ?_⟩) hHeld ?_
                          rotate_left
                          · (intro wq hq; (try dsimp only at hq); go_simp; try with_reducible rfl)
                          simp only [Act.put, List.setIfInBounds_toArray, List.set_cons_zero, List.set_cons_succ]
                          refine wpAnyH_take (i := 5) (oi := ⟨_, _, _, _, _, _⟩) (v := ?_) rfl (by kernel_rfl) (by kernel_rfl) (by kernel_rfl) (fun _ _ _ h => h) (Or.inl ⟨by rfl, ?_⟩) hHeld ?_
                          rotate_left
                          · (intro wq hq; (try dsimp only at hq); go_simp; try with_reducible rfl)
                          simp only [Act.put, List.setIfInBounds_toArray, List.set_cons_zero, List.set_cons_succ]
                          refine wpAnyH_take (i := 6) (oi := ⟨_, _, _, _, _, _⟩) (v := ?_) rfl (by kernel_rfl) (by kernel_rfl) (by kernel_rfl) (fun _ _ _ h => h) (Or.inl ⟨by rfl, ?_⟩) hHeld ?_
                          rotate_left
                          · (intro wq hq; (try dsimp only at hq); go_simp; try with_reducible rfl)
                          simp only [Act.put, List.setIfInBounds_toArray, List.set_cons_zero, List.set_cons_succ]
                          refine wpAnyH_take (i := 7) (oi := ⟨_, _, _, _, _, _⟩) (v := ?_) rfl (by kernel_rfl) (by kernel_rfl) (by kernel_rfl) (fun _ _ _ h => h) (Or.inl ⟨by rfl, ?_⟩) hHeld ?_
                          rotate_left
                          · (intro wq hq; (try dsimp only at hq); go_simp; try with_reducible rfl)
                          simp only [Act.put, List.setIfInBounds_toArray, List.set_cons_zero, List.set_cons_succ]
                          refine wpAnyH_take (i := 8) (oi := ⟨_, _, _, _, _, _⟩) (v := ?_) rfl (by kernel_rfl) (by kernel_rfl) (by kernel_rfl) (fun _ _ _ h => h) (Or.inl ⟨by rfl, ?_⟩) hHeld ?_
                          rotate_left
                          · (intro wq hq; (try dsimp only at hq); go_simp; try with_reducible rfl)
                          simp only [Act.put, List.setIfInBounds_toArray, List.set_cons_zero, List.set_cons_succ]
                          refine wpAnyH_take (i := 9) (oi := ⟨_, _, _, _, _, _⟩) (v := ?_) rfl (by kernel_rfl) (by kernel_rfl) (by kernel_rfl) (fun _ _ _ h => h) (Or.inl ⟨by rfl, ?_⟩) hHeld ?_
                          rotate_left
                          · (intro wq hq; (try dsimp only at hq); go_simp; try with_reducible rfl)
                          simp only [Act.put, List.setIfInBounds_toArray, List.set_cons_zero, List.set_cons_succ]
                          refine wpAnyH_take (i := 10) (oi := ⟨_, _, _, _, _, _⟩) (v := ?_) rfl (by kernel_rfl) (by kernel_rfl) (by kernel_rfl) (fun _ _ _ h => h) (Or.inl ⟨by rfl, ?_⟩) hHeld ?_
                          rotate_left
                          · (intro wq hq; (try dsimp only at hq); go_simp; try with_reducible rfl)
                          simp only [Act.put, List.setIfInBounds_toArray, List.set_cons_zero, List.set_cons_succ]
                          refine wpAnyH_take (i := 11) (oi := ⟨_, _, _, _, _, _⟩) (v := ?_) rfl (by kernel_rfl) (by kernel_rfl) (by kernel_rfl) (fun _ _ _ h => h) (Or.inl ⟨by rfl, ?_⟩) hHeld ?_
                          rotate_left
                          · (intro wq hq; (try dsimp only at hq); go_simp; try with_reducible rfl)
                          simp only [Act.put, List.setIfInBounds_toArray, List.set_cons_zero, List.set_cons_succ]
                          refine wpAnyH_take (i := 12) (oi := ⟨_, _, _, _, _, _⟩) (v := ?_) rfl (by kernel_rfl) (by kernel_rfl) (by kernel_rfl) (fun _ _ _ h => h) (Or.inl ⟨by rfl, ?_⟩) hHeld ?_
                          rotate_left
                          · (intro wq hq; (try dsimp only at hq); go_simp; try with_reducible rfl)
                          simp only [Act.put, List.setIfInBounds_toArray, List.set_cons_zero, List.set_cons_succ]
                          refine wpAnyH_take (i := 13) (oi := ⟨_, _, _, _, _, _⟩) (v := ?_) rfl (by kernel_rfl) (by kernel_rfl) (by kernel_rfl) (fun _ _ _ h => h) (Or.inl ⟨by rfl, ?_⟩) hHeld ?_
                          rotate_left
                          · (intro wq hq; (try dsimp only at hq); go_simp; try with_reducible rfl)
                          simp only [Act.put, List.setIfInBounds_toArray, List.set_cons_zero, List.set_cons_succ]
                          refine wpAnyH_take (i := 14) (oi := ⟨_, _, _, _, _, _⟩) (v := ?_) rfl (by kernel_rfl) (by kernel_rfl) (by kernel_rfl) (fun _ _ _ h => h) (Or.inl ⟨by rfl, ?_⟩) hHeld ?_
                          rotate_left
                          · (intro wq hq; (try dsimp only at hq); go_simp; try with_reducible rfl)
                          simp only [Act.put, List.setIfInBounds_toArray, List.set_cons_zero, List.set_cons_succ]
                          refine wpAnyH_take (i := 15) (oi := ⟨_, _, _, _, _, _⟩) (v := ?_) rfl (by kernel_rfl) (by kernel_rfl) (by kernel_rfl) (fun _ _ _ h => h) (Or.inl ⟨by rfl, ?_⟩) hHeld ?_
                          rotate_left
                          · (intro wq hq; (try dsimp only at hq); go_simp; try with_reducible rfl)
                          simp only [Act.put, List.setIfInBounds_toArray, List.set_cons_zero, List.set_cons_succ]
                          refine wpAnyH_take (i := 17) (oi := ⟨_, _, _, _, _, _⟩) (v := ?_) rfl (by kernel_rfl) (by kernel_rfl) (by kernel_rfl) (fun _ _ _ h => h) (Or.inl ⟨by rfl, ?_⟩) hHeld ?_
                          rotate_left
                          · (intro wq hq; (try dsimp only at hq); go_simp; try with_reducible rfl)
                          simp only [Act.put, List.setIfInBounds_toArray, List.set_cons_zero, List.set_cons_succ]
                          refine wpAnyH_take (i := 19) (oi := ⟨_, _, _, _, _, _⟩) (v := ?_) rfl (by kernel_rfl) (by kernel_rfl) (by kernel_rfl) (fun _ _ _ h => h) (Or.inl ⟨by rfl, ?_⟩) hHeld ?_
                          rotate_left
                          · (intro wq hq; (try dsimp only at hq); go_simp; try with_reducible rfl)
                          simp only [Act.put, List.setIfInBounds_toArray, List.set_cons_zero, List.set_cons_succ]
                          refine wpAnyH_take (i := 20) (oi := ⟨_, _, _, _, _, _⟩) (v := ?_) rfl (by kernel_rfl) (by kernel_rfl) (by kernel_rfl) (fun _ _ _ h => h) (Or.inl ⟨by rfl, ?_⟩) hHeld ?_
                          rotate_left
                          · (intro wq hq; (try dsimp only at hq); go_simp; try with_reducible rfl)
                          simp only [Act.put, List.setIfInBounds_toArray, List.set_cons_zero, List.set_cons_succ]
                          refine wpAnyH_take (i := 21) (oi := ⟨_, _, _, _, _, _⟩) (v := ?_) rfl (by kernel_rfl) (by kernel_rfl) (by kernel_rfl) (fun _ _ _ h => h) (Or.inl ⟨by rfl, ?_⟩) hHeld ?_
                          rotate_left
                          · (intro wq hq; (try dsimp only at hq); go_simp; try with_reducible rfl)
                          simp only [Act.put, List.setIfInBounds_toArray, List.set_cons_zero, List.set_cons_succ]
                          refine wpAnyH_take (i := 22) (oi := ⟨_, _, _, _, _, _⟩) (v := ?_) rfl (by kernel_rfl) (by kernel_rfl) (by kernel_rfl) (fun _ _ _ h => h) (Or.inl ⟨by rfl, ?_⟩) hHeld ?_
                          rotate_left
                          · (intro wq hq; (try dsimp only at hq); go_simp; try with_reducible rfl)
                          simp only [Act.put, List.setIfInBounds_toArray, List.set_cons_zero, List.set_cons_succ]
                          refine wpAnyH_take (i := 23) (oi := ⟨_, _, _, _, _, _⟩) (v := ?_) rfl (by kernel_rfl) (by kernel_rfl) (by kernel_rfl) (fun _ _ _ h => h) (Or.inl ⟨by rfl, ?_⟩) hHeld ?_
                          rotate_left
                          · (intro wq hq; (try dsimp only at hq); go_simp; try with_reducible rfl)
                          simp only [Act.put, List.setIfInBounds_toArray, List.set_cons_zero, List.set_cons_succ]
                          refine wpAnyH_take (i := 24) (oi := ⟨_, _, _, _, _, _⟩) (v := ?_) rfl (by kernel_rfl) (by kernel_rfl) (by kernel_rfl) (fun _ _ _ h => h) (Or.inl ⟨by rfl, ?_⟩) hHeld ?_
                          rotate_left
                          · (intro wq hq; (try dsimp only at hq); go_simp; try with_reducible rfl)
                          simp only [Act.put, List.setIfInBounds_toArray, List.set_cons_zero, List.set_cons_succ]
                          refine wpAnyH_take (i := 26) (oi := ⟨_, _, _, _, _, _⟩) (v := ?_) rfl (by kernel_rfl) (by kernel_rfl) (by kernel_rfl) (fun _ _ _ h => h) (Or.inl ⟨by rfl, ?_⟩) hHeld ?_
                          rotate_left
                          · (intro wq hq; (try dsimp only at hq); go_simp; try with_reducible rfl)
                          simp only [Act.put, List.setIfInBounds_toArray, List.set_cons_zero, List.set_cons_succ]
                          refine wpAnyH_ready (rs := [16, 25]) (by kernel_rfl) (by simp) ?_
                          refine AllReadyH.cons rfl (fun K hK => ?_) ?_
                          · go_simp
                            refine hK.out _ _ (by first | exact HS1.out | exact HS2.out | exact HS3.out) (fun hHeld2 => ?_)
                            clear hK K hHeld
                            have hHeld := hHeld2
                            clear hHeld2
                            refine wpAnyH_ready (rs := [18, 25]) (by kernel_rfl) (by simp) ?_
                            refine AllReadyH.cons rfl (fun K hK => ?_) ?_
                            · go_simp
                              go_wp2_with (first | (go_at_call 62; with_reducible refine (HM1.out _).mono ?_; rintro e w' ⟨rfl, rfl⟩) | (go_at_call 62; with_reducible refine (HM2.out _).mono ?_; rintro e w' ⟨rfl, rfl⟩))
                              refine hK.out _ _ (by first | exact HS1.out | exact HS2.out | exact HS3.out) (fun hHeld2 => ?_)
                              clear hK K hHeld
                              have hHeld := hHeld2
                              clear hHeld2
                              refine wpAnyH_ready (rs := [25]) (by kernel_rfl) (by simp) ?_
                              refine AllReadyH.cons rfl (fun K hK => ?_) ?_
                              · go_simp
                                refine hK.out _ _ (by first | exact HS1.out | exact HS2.out | exact HS3.out) (fun hHeld2 => ?_)
                                clear hK K hHeld
                                have hHeld := hHeld2
                                clear hHeld2
                                refine wpAnyH_ready (rs := [27]) (by kernel_rfl) (by simp) ?_
                                refine AllReadyH.cons rfl (fun K hK => ?_) ?_
                                · go_simp
                                  go_wp2_with (first | (go_at_call 62; with_reducible refine (HM1.out _).mono ?_; rintro e w' ⟨rfl, rfl⟩) | (go_at_call 62; with_reducible refine (HM2.out _).mono ?_; rintro e w' ⟨rfl, rfl⟩))
                                  refine hK.out _ _ (by first | exact HS1.out | exact HS2.out | exact HS3.out) (fun hHeld2 => ?_)
                                  clear hK K hHeld
                                  have hHeld := hHeld2
                                  clear hHeld2
                                  refine wpAnyH_take (i := 28) (oi := ⟨_, _, _, _, _, _⟩) (v := ?_) rfl (by kernel_rfl) (by kernel_rfl) (by kernel_rfl) (fun _ _ _ h => h) (Or.inl ⟨by rfl, ?_⟩) hHeld ?_
                                  rotate_left
                                  · (intro wq hq; (try dsimp only at hq); go_simp; try with_reducible rfl)
                                  simp only [Act.put, List.setIfInBounds_toArray, List.set_cons_zero, List.set_cons_succ]
                                  refine wpAnyH_ready (rs := [29]) (by kernel_rfl) (by simp) ?_
                                  refine AllReadyH.cons rfl (fun K hK => ?_) ?_
                                  · go_simp
                                    refine hK.out _ _ (by first | exact HS1.out | exact HS2.out | exact HS3.out) (fun hHeld2 => ?_)
                                    clear hK K hHeld
                                    have hHeld := hHeld2
                                    clear hHeld2
                                    refine wpAnyH_take (i := 30) (oi := ⟨_, _, _, _, _, _⟩) (v := ?_) rfl (by kernel_rfl) (by kernel_rfl) (by kernel_rfl) (fun _ _ _ h => h) (Or.inl ⟨by rfl, ?_⟩) hHeld ?_
                                    rotate_left
                                    · (intro wq hq; (try dsimp only at hq); go_simp; try with_reducible rfl)
                                    simp only [Act.put, List.setIfInBounds_toArray, List.set_cons_zero, List.set_cons_succ]
                                    refine wpAnyH_ready (rs := [31]) (by kernel_rfl) (by simp) ?_
                                    refine AllReadyH.cons rfl (fun K hK => ?_) ?_
                                    · go_simp
                                      refine hK.out _ _ (by first | exact HS1.out | exact HS2.out | exact HS3.out) (fun hHeld2 => ?_)
                                      clear hK K hHeld
                                      have hHeld := hHeld2
                                      clear hHeld2
                                      refine wpAnyH_done (by kernel_rfl) ?_ _
                                      go_wp2
                                      go_roundw
                                      case rel => exact ⟨j + 1, by omega, by go_num, HSet.out⟩
                                      case measure => simp [intOf]; omega
                                    exact AllReadyH.nil
                                  exact AllReadyH.nil
                                exact AllReadyH.nil
                              exact AllReadyH.nil
                            refine AllReadyH.cons rfl (fun K hK => ?_) ?_
                            · go_simp
                              refine hK.out _ _ (by first | exact HS1.out | exact HS2.out | exact HS3.out) (fun hHeld2 => ?_)
                              clear hK K hHeld
                              have hHeld := hHeld2
                              clear hHeld2
                              refine wpAnyH_ready (rs := [18]) (by kernel_rfl) (by simp) ?_
                              refine AllReadyH.cons rfl (fun K hK => ?_) ?_
                              · go_simp
                                go_wp2_with (first | (go_at_call 62; with_reducible refine (HM1.out _).mono ?_; rintro e w' ⟨rfl, rfl⟩) | (go_at_call 62; with_reducible refine (HM2.out _).mono ?_; rintro e w' ⟨rfl, rfl⟩))
                                refine hK.out _ _ (by first | exact HS1.out | exact HS2.out | exact HS3.out) (fun hHeld2 => ?_)
                                clear hK K hHeld
                                have hHeld := hHeld2
                                clear hHeld2
                                refine wpAnyH_ready (rs := [27]) (by kernel_rfl) (by simp) ?_
                                refine AllReadyH.cons rfl (fun K hK => ?_) ?_
                                · go_simp
                                  go_wp2_with (first | (go_at_call 62; with_reducible refine (HM1.out _).mono ?_; rintro e w' ⟨rfl, rfl⟩) | (go_at_call 62; with_reducible refine (HM2.out _).mono ?_; rintro e w' ⟨rfl, rfl⟩))
                                  refine hK.out _ _ (by first | exact HS1.out | exact HS2.out | exact HS3.out) (fun hHeld2 => ?_)
                                  clear hK K hHeld
                                  have hHeld := hHeld2
                                  clear hHeld2
                                  refine wpAnyH_take (i := 28) (oi := ⟨_, _, _, _, _, _⟩) (v := ?_) rfl (by kernel_rfl) (by kernel_rfl) (by kernel_rfl) (fun _ _ _ h => h) (Or.inl ⟨by rfl, ?_⟩) hHeld ?_
                                  rotate_left
                                  · (intro wq hq; (try dsimp only at hq); go_simp; try with_reducible rfl)
                                  simp only [Act.put, List.setIfInBounds_toArray, List.set_cons_zero, List.set_cons_succ]
                                  refine wpAnyH_ready (rs := [29]) (by kernel_rfl) (by simp) ?_
                                  refine AllReadyH.cons rfl (fun K hK => ?_) ?_
                                  · go_simp
                                    refine hK.out _ _ (by first | exact HS1.out | exact HS2.out | exact HS3.out) (fun hHeld2 => ?_)
                                    clear hK K hHeld
                                    have hHeld := hHeld2
                                    clear hHeld2
                                    refine wpAnyH_take (i := 30) (oi := ⟨_, _, _, _, _, _⟩) (v := ?_) rfl (by kernel_rfl) (by kernel_rfl) (by kernel_rfl) (fun _ _ _ h => h) (Or.inl ⟨by rfl, ?_⟩) hHeld ?_
                                    rotate_left
                                    · (intro wq hq; (try dsimp only at hq); go_simp; try with_reducible rfl)
                                    simp only [Act.put, List.setIfInBounds_toArray, List.set_cons_zero, List.set_cons_succ]
                                    refine wpAnyH_ready (rs := [31]) (by kernel_rfl) (by simp) ?_
                                    refine AllReadyH.cons rfl (fun K hK => ?_) ?_
                                    · go_simp
                                      refine hK.out _ _ (by first | exact HS1.out | exact HS2.out | exact HS3.out) (fun hHeld2 => ?_)
                                      clear hK K hHeld
                                      have hHeld := hHeld2
                                      clear hHeld2
                                      refine wpAnyH_done (by kernel_rfl) ?_ _
                                      go_wp2
                                      go_roundw
                                      case rel => exact ⟨j + 1, by omega, by go_num, HSet.out⟩
                                      case measure => simp [intOf]; omega
                                    exact AllReadyH.nil
                                  exact AllReadyH.nil
                                exact AllReadyH.nil
                              exact AllReadyH.nil
                            exact AllReadyH.nil
                          refine AllReadyH.cons rfl (fun K hK => ?_) ?_
                          · go_simp
                            refine hK.out _ _ (by first | exact HS1.out | exact HS2.out | exact HS3.out) (fun hHeld2 => ?_)
                            clear hK K hHeld
                            have hHeld := hHeld2
                            clear hHeld2
                            refine wpAnyH_ready (rs := [16]) (by kernel_rfl) (by simp) ?_
                            refine AllReadyH.cons rfl (fun K hK => ?_) ?_
                            · go_simp
                              refine hK.out _ _ (by first | exact HS1.out | exact HS2.out | exact HS3.out) (fun hHeld2 => ?_)
                              clear hK K hHeld
                              have hHeld := hHeld2
                              clear hHeld2
                              refine wpAnyH_ready (rs := [18]) (by kernel_rfl) (by simp) ?_
                              refine AllReadyH.cons rfl (fun K hK => ?_) ?_
                              · go_simp
                                go_wp2_with (first | (go_at_call 62; with_reducible refine (HM1.out _).mono ?_; rintro e w' ⟨rfl, rfl⟩) | (go_at_call 62; with_reducible refine (HM2.out _).mono ?_; rintro e w' ⟨rfl, rfl⟩))
                                refine hK.out _ _ (by first | exact HS1.out | exact HS2.out | exact HS3.out) (fun hHeld2 => ?_)
                                clear hK K hHeld
                                have hHeld := hHeld2
                                clear hHeld2
                                refine wpAnyH_ready (rs := [27]) (by kernel_rfl) (by simp) ?_
                                refine AllReadyH.cons rfl (fun K hK => ?_) ?_
                                · go_simp
                                  go_wp2_with (first | (go_at_call 62; with_reducible refine (HM1.out _).mono ?_; rintro e w' ⟨rfl, rfl⟩) | (go_at_call 62; with_reducible refine (HM2.out _).mono ?_; rintro e w' ⟨rfl, rfl⟩))
                                  refine hK.out _ _ (by first | exact HS1.out | exact HS2.out | exact HS3.out) (fun hHeld2 => ?_)
                                  clear hK K hHeld
                                  have hHeld := hHeld2
                                  clear hHeld2
                                  refine wpAnyH_take (i := 28) (oi := ⟨_, _, _, _, _, _⟩) (v := ?_) rfl (by kernel_rfl) (by kernel_rfl) (by kernel_rfl) (fun _ _ _ h => h) (Or.inl ⟨by rfl, ?_⟩) hHeld ?_
                                  rotate_left
                                  · (intro wq hq; (try dsimp only at hq); go_simp; try with_reducible rfl)
                                  simp only [Act.put, List.setIfInBounds_toArray, List.set_cons_zero, List.set_cons_succ]
                                  refine wpAnyH_ready (rs := [29]) (by kernel_rfl) (by simp) ?_
                                  refine AllReadyH.cons rfl (fun K hK => ?_) ?_
                                  · go_simp
                                    refine hK.out _ _ (by first | exact HS1.out | exact HS2.out | exact HS3.out) (fun hHeld2 => ?_)
                                    clear hK K hHeld
                                    have hHeld := hHeld2
                                    clear hHeld2
                                    refine wpAnyH_take (i := 30) (oi := ⟨_, _, _, _, _, _⟩) (v := ?_) rfl (by kernel_rfl) (by kernel_rfl) (by kernel_rfl) (fun _ _ _ h => h) (Or.inl ⟨by rfl, ?_⟩) hHeld ?_
                                    rotate_left
                                    · (intro wq hq; (try dsimp only at hq); go_simp; try with_reducible rfl)
                                    simp only [Act.put, List.setIfInBounds_toArray, List.set_cons_zero, List.set_cons_succ]
                                    refine wpAnyH_ready (rs := [31]) (by kernel_rfl) (by simp) ?_
                                    refine AllReadyH.cons rfl (fun K hK => ?_) ?_
                                    · go_simp
                                      refine hK.out _ _ (by first | exact HS1.out | exact HS2.out | exact HS3.out) (fun hHeld2 => ?_)
                                      clear hK K hHeld
                                      have hHeld := hHeld2
                                      clear hHeld2
                                      refine wpAnyH_done (by kernel_rfl) ?_ _
                                      go_wp2
                                      go_roundw
                                      case rel => exact ⟨j + 1, by omega, by go_num, HSet.out⟩
                                      case measure => simp [intOf]; omega
                                    exact AllReadyH.nil
                                  exact AllReadyH.nil
                                exact AllReadyH.nil
                              exact AllReadyH.nil
                            exact AllReadyH.nil
                          exact AllReadyH.nil
                        · obtain rfl : n = j := by omega
                          obtain ⟨T, hT⟩ : ∃ T : Nat → UInt8, T = fun r => fl1 r k := ⟨_, rfl⟩
                          have HTT : Hid (∀ r, T r = fl1 r k) := by rw [hT]; exact fun r => rfl
                          clear hT
                          have HT5 : Hid (Two 35 5 w wr n gl gr n ql1 qr1 (eli k 0 T (scl k n c fl1)) (eli k 0 T (scl k n c fr1))) := HT4.out.congr (fun r j _ _ => by simp [eli]) (fun r j _ _ => by simp [eli])
                          clear HT4
                          go_wp2
                          go_loopw [145] (fun x wx => ∃ i : Nat, i ≤ n ∧ x = .int .i64 (i : Int) ∧ Two 35 5 w wx n gl gr n ql1 qr1 (eli k i T (scl k n c fl1)) (eli k i T (scl k n c fr1))) (fun x _ => n - (intOf x).toNat)
                          case atStart => exact ⟨0, by omega, rfl, HT5.out⟩
                          case round =>
                            clear HT5
                            obtain ⟨i, hi, rfl, ht5⟩ := hrel
                            have HT5 := Lib.hid ht5
                            clear ht5
                            by_cases hli : i < n
                            · have hin : (i : Int) < (n : Int) := by omega
                              by_cases hik : i = k
                              · have HT6 : Hid (Two 35 5 w wr n gl gr n ql1 qr1 (eli k (i + 1) T (scl k n c fl1)) (eli k (i + 1) T (scl k n c fr1))) := by
                                  refine HT5.out.congr (fun r j _ _ => ?_) (fun r j _ _ => ?_)
                                  all_goals
                                    unfold eli
                                    by_cases e : r < i ∧ r ≠ k
                                    · rw [if_pos e, if_pos ⟨by omega, e.2⟩]
                                    · rw [if_neg e, if_neg (by omega)]
                                subst hik
                                clear HT5
                                go_wp2
                                go_roundw
                                case rel => exact ⟨i + 1, by omega, by go_num, HT6.out⟩
                                case measure => simp [intOf]; omega
                              · have hne : ((i : Int) == (k : Int)) = false := by simp; omega
                                have a1 := HT5.out.ml.hd k hlk
                                have a2 := HT5.out.ml.hd i hli
                                have a3 := HT5.out.ml.byte i k hli hlk
                                have r1 := HT5.out.ml.row k hlk
                                have r2 := HT5.out.ml.row i hli
                                have d1 := HT5.out.ml.diff k i hlk hli (by omega)
                                have e3 : eli k i T (scl k n c fl1) i k = T i := by rw [HTT.out]; simp [eli, scl, hik]
                                rw [e3] at a3
                                obtain ⟨t, Ht⟩ := hid_of (T i)
                                rw [Ht.out] at a3
                                obtain ⟨pi, Hpi⟩ := hid_of (ql1 i).1
                                obtain ⟨ci, Hci⟩ := hid_of (ql1 i).2
                                rw [Hpk2.out] at a1 r1 d1
                                rw [Hck2.out] at a1 r1
                                rw [Hpi.out] at a2 a3 r2 d1
                                rw [Hci.out] at a2 r2
                                have l1 := r1.1
                                have l2 := r2.1
                                have HAdd1 := Lib.hid (add_any pi n ci _ _ (line n (eli k i T (scl k n c fl1) k)) t wr.drew r2.2.2.drew (line_length _ _) (r1.2.2.drew.read r1.1 r1.2.1) (fun _ h => d1 (by cases h; rfl)) r2.1 r2.2.1)
                                clear r1 r2 d1 e3
                                go_wp2
                                go_still_tail 9, (by kernel_rfl)
                                rw [show ({ heap := wr.heap, tape := wr.tape, drawn := wr.drawn + 1, os := wr.os, output := wr.output } : World) = wr.drew from rfl]
                                go_wp2_with fail
                                refine HAdd1.out.mono ?_
                                rintro e w1 ⟨rfl, hrow1, hfr1⟩
                                have htl := HT5.out.drew.turnL hli (by rw [Hpi.out]; exact hfr1) (by rw [Hpi.out]; exact hrow1)
                                have HTl := Lib.hid htl
                                have a4 := htl.mr.hd k hlk
                                have a5 := htl.mr.hd i hli
                                have r3 := htl.mr.row k hlk
                                have r4 := htl.mr.row i hli
                                have d2 := htl.mr.diff k i hlk hli (by omega)
                                obtain ⟨pk3, Hpk3⟩ := hid_of (qr1 k).1
                                obtain ⟨ck3, Hck3⟩ := hid_of (qr1 k).2
                                obtain ⟨pi3, Hpi3⟩ := hid_of (qr1 i).1
                                obtain ⟨ci3, Hci3⟩ := hid_of (qr1 i).2
                                rw [Hpk3.out] at a4 r3 d2
                                rw [Hck3.out] at a4 r3
                                rw [Hpi3.out] at a5 r4 d2
                                rw [Hci3.out] at a5 r4
                                have l3 := r3.1
                                have l4 := r4.1
                                have HAdd2 := Lib.hid (add_any pi3 n ci3 _ _ (line n (eli k i T (scl k n c fr1) k)) t w1.drew r4.2.2.drew (line_length _ _) (r3.2.2.drew.read r3.1 r3.2.1) (fun _ h => d2 (by cases h; rfl)) r4.1 r4.2.1)
                                clear htl hrow1 hfr1 HAdd1 r3 r4 d2 a1 a2 a3 l1 l2
                                go_wp2
                                go_still_tail 9, (by kernel_rfl)
                                rw [show ({ heap := w1.heap, tape := w1.tape, drawn := w1.drawn + 1, os := w1.os, output := w1.output } : World) = w1.drew from rfl]
                                go_wp2_with fail
                                refine HAdd2.out.mono ?_
                                rintro e w2 ⟨rfl, hrow2, hfr2⟩
                                have htr := HTl.out.drew.turnR hli (by rw [Hpi3.out]; exact hfr2) (by rw [Hpi3.out]; exact hrow2)
                                have htr2 : Two 35 5 w w2 n gl gr n ql1 qr1 (eli k (i + 1) T (scl k n c fl1)) (eli k (i + 1) T (scl k n c fr1)) := by
                                  refine htr.congr (fun r j hr hj => ?_) (fun r j hr hj => ?_)
                                  all_goals
                                    rw [← Ht.out, line_get _ _ _ hj]
                                    unfold eli
                                    by_cases e : r = i
                                    · subst e
                                      simp [hik]
                                    · by_cases e2 : r < i
                                      · simp [e, e2, show r < i + 1 by omega]
                                      · simp [e, e2, show ¬ r < i + 1 by omega]
                                have HTr := Lib.hid htr2
                                clear htr htr2 hrow2 hfr2 HAdd2 HTl HT5 a4 a5 l3 l4
                                go_wp2
                                go_roundw
                                case rel => exact ⟨i + 1, by omega, by go_num, HTr.out⟩
                                case measure => simp [intOf]; omega
                            · obtain rfl : n = i := by omega
                              have hstep := HJ.out.step hlk hlm hkm (by rw [Hz.out]; intro e; exact HNe.out (Hz.out.trans e))
                              have hfin : Two 35 5 w wr n gl gr n ql1 qr1 (jopM k m (inv (fl m k)) (fun i => swp k m (fun r => fl r k) i) fl) (jopM k m (inv (fl m k)) (fun i => swp k m (fun r => fl r k) i) fr) := by
                                have hTe : T = fun i => swp k m (fun r => fl r k) i := by
                                  funext r
                                  rw [HTT.out, swp_swn, ← Hfl1.out]
                                have hfr : fr1 = fun i => fr (swn k m i) := funext HFr1.out
                                refine HT5.out.congr (fun r j hr hj => ?_) (fun r j hr hj => ?_)
                                · rw [← Hfl1.out, eli_jop k m n c T fl r j hr hj, hTe, HC.out, Hz.out]
                                · rw [hfr, eli_jop k m n c T fr r j hr hj, hTe, HC.out, Hz.out]
                              have HStep := Lib.hid hstep
                              have HFin := Lib.hid hfin
                              clear hstep hfin HT5
                              go_wp2
                              refine ⟨⟨k + 1, ql1, qr1, _, _, by omega, by go_num, HFin.out, HStep.out⟩, by simp [intOf]; omega⟩
              · obtain rfl : n = m := by omega
                have HF : Hid (¬ Inj n (At A)) := HJ.out.fails hlk HZ.out
                have HB := Lib.hid HTw.out.be
                go_wp2
                go_ret2
                exact ⟨.inr ⟨rfl, HF.out⟩, HB.out⟩
          · obtain rfl : n = k := by omega
            have HB := Lib.hid HTw.out.be
            have HRd := Lib.hid (HTw.out.mr.read (Nat.le_refl n) (by simp only [maxLen]; omega))
            have HDn := Lib.hid HJ.out.done
            go_wp2
            go_ret2
            exact ⟨.inl ⟨_, fr, rfl, HRd.out, HDn.out⟩, HB.out⟩
end Go.Proofs.Ytepedabpnchajaa
