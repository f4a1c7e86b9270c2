/-
  kistlaw02.MatAny: its walk.
-/
import Derived.Test.YtdcjcbfnniimpaaMatBackWalk
import Derived.Deep.DeepCutAuto
namespace Go.Proofs.Ytdcjcbfnniimpaa
open Go.RowKit
set_option linter.unusedVariables false

theorem code_row (k n x : Nat) (h : x < n) : (codeT k n).getD x [] = line k (codeF k x) := tab_row n k _ x h
theorem picked (k n : Nat) (idx : List Nat) (hl : idx.length = k) (hx : ∀ x ∈ idx, x < n) : (idx.map fun x => (codeT k n).getD x []) = tab k k (fun r j => codeF k (idx.getD r 0) j) := by
  refine List.ext_getElem (by rw [List.length_map, tab_length, hl]) fun i h1 h2 => ?_
  rw [List.length_map] at h1
  have h3 := tab_row k k (fun r j => codeF k (idx.getD r 0) j) i (by omega)
  rw [List.getD_eq_getElem?_getD, List.getElem?_eq_getElem h2] at h3
  simp only [Option.getD_some] at h3
  rw [h3, List.getElem_map, code_row k n _ (hx _ (List.getElem_mem _))]
  simp [List.getD_eq_getElem?_getD, h1]
theorem picked_inj (k n : Nat) (hk : k ≤ n) (hn : n ≤ 256) (idx : List Nat) (hl : idx.length = k) (hd : idx.Nodup) (hx : ∀ x ∈ idx, x < n) : Inj k (fun r j => codeF k (idx.getD r 0) j) :=
  code_inj k (by omega) (codeF k) (fun i j hi => by simp [codeF, hi]) (fun i j h1 _ _ => by unfold codeF; rw [if_neg (by omega)]) idx hl hd (fun x hm => by have := hx x hm; omega)
theorem again_eq {k : Nat} {R X : Fm} (hk : 1 ≤ k) (C : Fm) (h : Both k R X) : timesT (tab k k X) (timesT (tab k k R) (tab k 1 C)) = tab k 1 C := by
  have e1 : timesT (tab k k R) (tab k 1 C) = tab k 1 (pr k R C) := by
    unfold timesT
    rw [tab_length, tab_length, tab_cols _ _ _ hk]
    exact tab_congr fun i j hi hj => pr_congr (fun l hl => at_tab R i l hi hl) (fun l hl => at_tab C l j hl hj)
  rw [e1]
  unfold timesT
  rw [tab_length, tab_length, tab_cols _ _ _ hk]
  refine tab_congr fun i j hi hj => ?_
  rw [pr_congr (fun l hl => at_tab X i l hi hl) (fun l hl => at_tab (pr k R C) l j hl hj), ← pr_assoc, pr_congr (fun l hl => h.1 i l hi hl) (fun _ _ => rfl), id_pr _ _ hi]
def colF (l : List UInt8) : Fm := fun i _ => if i < l.length then l.getD i 0 else UInt8.ofNat i
set_option maxRecDepth 100000 in
set_option maxHeartbeats 8000000 in
theorem matAny_walk (k0 n0 : Int) (vp : Value) (picks : List UInt8) (vc : Value) (column : List UInt8) (w : World) (hk0 : (Lit.int .u8 k0).wf = true) (hn0 : (Lit.int .u8 n0).wf = true) (hp : RB w vp picks) (hpl : picks.length ≤ 140737488351232) (hc : RB w vc column) (hcl : column.length ≤ 140737488351232) :
    Calls Try.prog 6 #[.int .u8 k0, .int .u8 n0, vp, vc] w fun e w' => e = .returned (.bool true) ∧ Below w.heap.size w w' := by
  obtain ⟨kz, rfl⟩ := u8_of hk0
  obtain ⟨nz, rfl⟩ := u8_of hn0
  have hkz := kz.toNat_lt
  have hnz := nz.toNat_lt
  obtain ⟨k, Hk⟩ : ∃ k, Hid (k = 1 + kz.toNat % 12) := ⟨_, rfl⟩
  obtain ⟨n, Hn⟩ : ∃ n, Hid (n = k + nz.toNat % 10) := ⟨_, rfl⟩
  have k1 : 1 ≤ k := by rw [Hk.out]; omega
  have k12 : k ≤ 12 := by rw [Hk.out]; omega
  have kn : k ≤ n := by rw [Hn.out]; omega
  have n22 : n ≤ 22 := by rw [Hn.out]; omega
  have t1 : (kz.toNat : Int).tmod 12 = (k : Int) - 1 := by rw [Int.tmod_eq_emod_of_nonneg (by omega), Hk.out]; omega
  have t2 : (nz.toNat : Int).tmod 10 = (n : Int) - (k : Int) := by rw [Int.tmod_eq_emod_of_nonneg (by omega), Hn.out]; omega
  have t3 : (kz.toNat : Int) % 12 = (k : Int) - 1 := by rw [Hk.out]; omega
  have t4 : (nz.toNat : Int) % 10 = (n : Int) - (k : Int) := by rw [Hn.out]; omega
  have t5 : (1 : Int) + ((k : Int) - 1) = (k : Int) := by omega
  have t6 : (k : Int) + ((n : Int) - (k : Int)) = (n : Int) := by omega
  have HP := Lib.hid hp
  have HC := Lib.hid hc
  clear hp hc hk0 hn0
  go_enter Try.func6, Try.ntmps6
  go_wp2_with fail
  refine (code_yes k n _ k1 kn (by omega)).mono ?_
  rintro e w1 ⟨v1, rfl, hr1, hb1⟩
  have HR1 := Lib.hid hr1
  have HB1 := Lib.hid hb1
  have HP1 := Lib.hid (HP.out.below hb1 rfl)
  have HC1 := Lib.hid (HC.out.below hb1 rfl)
  have HCl : Hid ((codeT k n).length = n) := tab_length _ _ _
  clear hr1 hb1 t1 t2 t3 t4 t5 t6
  go_wp2_with fail
  refine (chosen_any _ (codeT k n) k _ picks _ HR1.out HP1.out (by rw [HCl.out]; exact kn) (by rw [HCl.out]; omega) (fun i hi => by rw [code_row k n i (by rw [HCl.out] at hi; exact hi), line_length]; omega)).mono ?_
  rintro e w2 ⟨⟨v2, idx, rfl, hr2, hil, hnd, hix⟩, hb2⟩
  rw [HCl.out] at hix
  rw [picked k n idx hil hix] at hr2
  have HInj := Lib.hid (picked_inj k n kn (by omega) idx hil hnd hix)
  obtain ⟨R, HRd⟩ := hid_of (fun r j => codeF k (idx.getD r 0) j)
  rw [HRd.out] at hr2 HInj
  have HR2 := Lib.hid hr2
  have HB2 := Lib.hid (HB1.out.trans (hb2.mono HB1.out.size))
  have HC2 := Lib.hid (HC1.out.below hb2 rfl)
  obtain ⟨a2, c2, rfl, hs2, _⟩ := hr2.shape
  rw [tab_length] at hs2 HR2 ⊢
  have HTR : Hid (Table (tab k k R)) := tab_table _ _ _ k1 (by omega) k1 (by omega)
  clear hr2 hil hnd hix hb2 HR1 HB1 HP1 HC1 HRd
  go_wp2_with fail
  refine (inv_sq _ (tab k k R) _ HR2.out HTR.out (by rw [tab_length, tab_cols _ _ _ k1])).mono ?_
  rintro e w3 ⟨hok, hb3⟩
  rw [tab_length] at hok
  have hinj' : Inj k (At (tab k k R)) := fun v hv => HInj.out v (fun i hi => by rw [← hv i hi]; exact ap_congr (fun j hj => (at_tab R i j hi hj).symm) (fun _ _ => rfl))
  rcases hok with ⟨v3, X, rfl, hr3, hboth⟩ | ⟨rfl, hni⟩
  case inr => exact absurd hinj' hni
  have HBo : Hid (Both k R X) := both_congr hboth (fun i j hi hj => at_tab R i j hi hj) (fun _ _ _ _ => rfl)
  have HR3 := Lib.hid hr3
  have HRr3 := Lib.hid (HR2.out.below hb3 rfl)
  have HB3 := Lib.hid (HB2.out.trans (hb3.mono HB2.out.size))
  have HC3 := Lib.hid (HC2.out.below hb3 rfl)
  obtain ⟨ca, cc, rfl, hcc1, hcc2⟩ := HC3.out.shape
  simp only [maxLen] at hcc2
  obtain ⟨nc, Hnc⟩ := hid_of column.length
  rw [Hnc.out] at HC3 hcc1 hcl ⊢
  have HCt0 : Hid (CTb w3.heap.size 29 (w3.alloc (.cells #[] 29)) (.slice (some ⟨w3.heap.size, 0, none⟩) 0 0) (tab 0 1 (colF column))) := CTb.start (w := w3) (Nat.le_refl _) rfl
  have HBe0 : Hid (Below w3.heap.size w3 (w3.alloc (.cells #[] 29))) := (Below.refl _ _).alloc (Nat.le_refl _) _
  clear hr3 hboth hb3 hinj' HR2 HB2 HC2 HInj
  go_wp2
  go_loopw [14, 15] (fun v x wr => ∃ i : Nat, i ≤ k ∧ x = .int .i64 (i : Int) ∧ CTb w3.heap.size 29 wr v (tab i 1 (colF column)) ∧ Below w3.heap.size w3 wr) (fun _ x _ => k - (intOf x).toNat)
  case atStart => exact ⟨0, by omega, rfl, HCt0.out, HBe0.out⟩
  case round =>
    clear HCt0 HBe0
    obtain ⟨i, hi, rfl, hct, hbe⟩ := hrel
    obtain ⟨oa, oc, rfl, ho1, ho2⟩ := hct.shape
    rw [tab_length] at ho1 hct ⊢
    simp only [maxLen] at ho2
    have HCt := Lib.hid hct
    have HBe := Lib.hid hbe
    clear hct hbe
    by_cases hlt : i < k
    · have hik : (i : Int) < (k : Int) := by omega
      obtain ⟨w4, hw4⟩ : ∃ w4, w4 = wr := ⟨_, rfl⟩
      subst hw4
      obtain ⟨z, Hz⟩ := hid_of (colF column i 0)
      go_upto_if 58 with fail
      go_cut [16] (fun u wx => u = .int .u8 (z.toNat : Int) ∧ wx = w4)
      case first =>
        by_cases hic : i < nc
        · obtain ⟨cb, co, rfl, hcblt, hcby⟩ := HC3.out.at (by rw [Hnc.out]; omega)
          have hb0 := hcby i (by rw [Hnc.out]; exact hic)
          have hzz : column.getD i 0 = z := by rw [← Hz.out]; simp [colF, Hnc.out, hic]
          rw [hzz] at hb0
          have hb1 : w4.cell? ⟨cb, co + i, none⟩ = some (.int .u8 (z.toNat : Int)) := by rw [HBe.out.cell (p := ⟨cb, co + i, none⟩) hcblt]; exact hb0
          have hicI : (i : Int) < (nc : Int) := by omega
          clear hcby hb0 hzz
          go_wp2
          go_meet
          case rel => exact ⟨rfl, rfl⟩
        · have hicI : ¬ (i : Int) < (nc : Int) := by omega
          have hzz : UInt8.ofNat i = z := by rw [← Hz.out]; simp [colF, Hnc.out, hic]
          have hzi : (i : Int) % 256 = (z.toNat : Int) := by rw [← hzz, UInt8.toNat_ofNat']; omega
          have hzi2 : (i : Int) = (z.toNat : Int) := by omega
          have HZi := Lib.hid hzi2
          clear hzz hzi hzi2
          go_wp2
          go_meet
          case rel => exact ⟨by rw [← HZi.out], rfl⟩
      case rest =>
        obtain ⟨rfl, rfl⟩ := hcut
        obtain ⟨Ts, HTs⟩ := hid_of (tab i 1 (colF column))
        have HTl : Hid (Ts.length = i) := by rw [← HTs.out]; exact tab_length _ _ _
        have HTn : Hid (Ts ++ [[z]] = tab (i + 1) 1 (colF column)) := by
          rw [← HTs.out, tab_succ, ← Hz.out]
          exact Lib.hid rfl
        rw [HTs.out] at HCt
        have hb1 : Below wc.heap.size wc (wc.alloc (.cells #[.int .u8 (z.toNat : Int)] 5)) := (Below.refl _ _).alloc (Nat.le_refl _) _
        have hb2 : Below wc.heap.size wc ((wc.alloc (.cells #[.int .u8 (z.toNat : Int)] 5)).alloc (.cells #[.slice (some ⟨wc.heap.size, 0, none⟩) 1 1] 29)) := hb1.alloc (by simp) _
        have hrz : RB ((wc.alloc (.cells #[.int .u8 (z.toNat : Int)] 5)).alloc (.cells #[.slice (some ⟨wc.heap.size, 0, none⟩) 1 1] 29)) (.slice (some ⟨wc.heap.size, 0, none⟩) 1 1) [z] :=
          RB.blk (t := 5) (cs := #[.int .u8 (z.toNat : Int)]) (by repeat (first | refine (alloc_low (by simp only [World.size_alloc]; omega)).trans ?_ | exact alloc_top (by simp))) [z] rfl (by simp [maxLen]) rfl
        have hcu : ((wc.alloc (.cells #[.int .u8 (z.toNat : Int)] 5)).alloc (.cells #[.slice (some ⟨wc.heap.size, 0, none⟩) 1 1] 29)).cell? ⟨wc.heap.size + 1, 0, none⟩ = some (.slice (some ⟨wc.heap.size, 0, none⟩) 1 1) := by
          rw [cell_of_row _ _ 0 _ _ _ (alloc_top (by simp))]
          rfl
        go_wp2_with (at_builtin; refine stopped ?_)
        refine going (wpList_push_row _ rfl _ _ 22 rfl w3.heap.size 29 Try.underlying22 infoRow _ Ts rfl (HCt.out.below hb2 rfl) (wc.heap.size + 1) (.slice (some ⟨wc.heap.size, 0, none⟩) 1 1) [z] rfl hcu hrz (fun _ x hx hx2 => by have h1 : wc.heap.size = x := (by simpa [Value.ownBlock] using hx); have h2 := (HCt.out.lt x hx2).2; omega) (by rw [HTl.out]; omega) (by have := HBe.out.size; simp; omega) ?_)
        intro v5 w5 ho5 hb5 hg5
        rw [HTn.out] at ho5
        have HO5 := Lib.hid ho5
        have HB5 : Hid (Below w3.heap.size w3 w5) := HBe.out.trans ((hb2.mono HBe.out.size).trans hb5)
        clear ho5 hb5 hg5 hb1 hb2 hrz hcu
        go_wp2
        go_roundw
        case rel => exact ⟨i + 1, by omega, by go_num, HO5.out, HB5.out⟩
        case measure => simp [intOf]; omega
    · obtain rfl : k = i := by omega
      have HRc : Hid (RT wr (.slice oa k oc) (tab k 1 (colF column))) := HCt.out.read
      have HRr := Lib.hid (HRr3.out.below HBe.out rfl)
      have HRx := Lib.hid (HR3.out.below HBe.out rfl)
      have HBw := Lib.hid (HB3.out.trans (HBe.out.mono HB3.out.size))
      have HTc : Hid (Table (tab k 1 (colF column))) := tab_table _ _ _ k1 (by omega) (by omega) (by omega)
      have HTx : Hid (Table (tab k k X)) := tab_table _ _ _ k1 (by omega) k1 (by omega)
      have HAg := Lib.hid (again_eq k1 (colF column) HBo.out)
      have HF1 : Hid (cols (tab k k R) = (tab k 1 (colF column)).length) := by rw [tab_cols _ _ _ k1, tab_length]; exact Lib.hid rfl
      have HF2 : Hid (cols (tab k k X) = (timesT (tab k k R) (tab k 1 (colF column))).length) := by rw [tab_cols _ _ _ k1, times_length, tab_length]; exact Lib.hid rfl
      clear HCt HBe HR3 HRr3 HB3 HBo
      go_wp2_with fail
      refine (times_yes _ _ (tab k k R) (tab k 1 (colF column)) _ HRr.out HRc.out HTR.out HTc.out HF1.out).mono ?_
      rintro e w6 ⟨m1, rfl, hm, hb6⟩
      have HMd := Lib.hid hm
      have HRx6 := Lib.hid (HRx.out.below hb6 rfl)
      have HRc6 := Lib.hid (HRc.out.below hb6 rfl)
      have HB6 := Lib.hid (HBw.out.trans (hb6.mono HBw.out.size))
      clear hm hb6 HRr HRx HRc HBw
      go_wp2_with fail
      refine (times_yes _ _ (tab k k X) _ _ HRx6.out HMd.out HTx.out (times_table HTR.out HTc.out) HF2.out).mono ?_
      rintro e w7 ⟨m2, rfl, hm2, hb7⟩
      rw [HAg.out] at hm2
      have HM2 := Lib.hid hm2
      have HRc7 := Lib.hid (HRc6.out.below hb7 rfl)
      have HB7 := Lib.hid (HB6.out.trans (hb7.mono HB6.out.size))
      clear hm2 hb7 HMd HRx6 HRc6 HB6
      go_wp2_with fail
      refine (awake_any _).mono ?_
      rintro e w8 ⟨rfl, hb8⟩
      have HM8 := Lib.hid (HM2.out.below hb8 rfl)
      have HRc8 := Lib.hid (HRc7.out.below hb8 rfl)
      have HB8 := Lib.hid (HB7.out.trans (hb8.mono HB7.out.size))
      clear hb8 HM2 HRc7 HB7
      go_wp2_with fail
      refine (same_any _ _ _ _ _ HM8.out HRc8.out).mono ?_
      rintro e w9 ⟨rfl, d9, rfl⟩
      rw [dec_true]
      have HB9 := Lib.hid (Below.drewN2 HB8.out d9)
      clear HM8 HRc8 HB8
      go_wp2
      go_ret
      exact ⟨rfl, HB9.out⟩
end Go.Proofs.Ytdcjcbfnniimpaa
