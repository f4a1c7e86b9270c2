/-
  kistref02.Code, One, Copy.
-/
import Derived.Test.YtdcjcbfnniimpaaMatCode
namespace Go.Proofs.Ytdcjcbfnniimpaa
open Go.RowKit
set_option linter.unusedVariables false

/-- what Go hands out as the code: none for numbers that do not fit -/
def codeOf (k n : Int) : List (List UInt8) := if k < 1 ∨ n < k ∨ 32 < n then [] else codeT k.toNat n.toNat
set_option maxRecDepth 100000 in
set_option maxHeartbeats 4000000 in
theorem refCode_no (k n : Int) (w : World) (h : k < 1 ∨ n < k ∨ 32 < n) :
    Calls Try.prog 18 #[.int .i64 k, .int .i64 n] w fun e w' => ∃ v, e = .returned v ∧ RT w' v [] ∧ Below w.heap.size w w' := by
  have HC : Hid (RT (w.alloc (.cells #[] 29)) (.slice (some ⟨w.heap.size, 0, none⟩) 0 0) []) := (CTb.start (w := w) (base := w.heap.size) (Nat.le_refl _) rfl).read
  have HB : Hid (Below w.heap.size w (w.alloc (.cells #[] 29))) := (Below.refl _ _).alloc (Nat.le_refl _) _
  by_cases h1 : k < 1
  · clear h
    go_enter Try.func18, Try.ntmps18
    go_wp2
    go_ret
    exact ⟨_, rfl, HC.out, HB.out⟩
  · by_cases h2 : n < k
    · clear h
      go_enter Try.func18, Try.ntmps18
      go_wp2
      go_ret
      exact ⟨_, rfl, HC.out, HB.out⟩
    · have h3 : 32 < n := by omega
      clear h
      go_enter Try.func18, Try.ntmps18
      go_wp2
      go_ret
      exact ⟨_, rfl, HC.out, HB.out⟩
set_option maxRecDepth 100000 in
set_option maxHeartbeats 4000000 in
theorem refCode_yes (k n : Nat) (w : World) (h1 : 1 ≤ k) (h2 : k ≤ n) (h3 : n ≤ 32) :
    Calls Try.prog 18 #[.int .i64 (k : Int), .int .i64 (n : Int)] w fun e w' => ∃ v, e = .returned v ∧ RT w' v (codeT k n) ∧ Below w.heap.size w w' := by
  have i1 : ¬ (k : Int) < 1 := by omega
  have i2 : ¬ (n : Int) < (k : Int) := by omega
  have i3 : ¬ (32 : Int) < (n : Int) := by omega
  have HC0 : Hid (CTb w.heap.size 29 (w.alloc (.cells #[] 29)) (.slice (some ⟨w.heap.size, 0, none⟩) 0 0) (tab 0 k (codeF k))) := CTb.start (w := w) (Nat.le_refl _) rfl
  have HB0 : Hid (Below w.heap.size w (w.alloc (.cells #[] 29))) := (Below.refl _ _).alloc (Nat.le_refl _) _
  go_enter Try.func18, Try.ntmps18
  go_wp2
  go_loopw [5, 6] (fun v x wr => ∃ i : Nat, i ≤ n ∧ x = .int .i64 (i : Int) ∧ CTb w.heap.size 29 wr v (tab i k (codeF k)) ∧ Below w.heap.size w wr) (fun _ x _ => n - (intOf x).toNat)
  case atStart => exact ⟨0, by omega, rfl, HC0.out, HB0.out⟩
  case round =>
    clear HC0 HB0
    obtain ⟨i, hi, rfl, hct, hbe⟩ := hrel
    obtain ⟨oa, oc, rfl, ho1, ho2⟩ := hct.shape
    rw [tab_length] at ho1 hct ⊢
    simp only [maxLen] at ho2
    have HCt := Lib.hid hct
    have HBe := Lib.hid hbe
    clear hct hbe
    obtain ⟨w1, hw1⟩ : ∃ w1, w1 = wr := ⟨_, rfl⟩
    subst hw1
    by_cases hlt : i < n
    · have hin : (i : Int) < (n : Int) := by omega
      have hown0 : (w1.alloc (.cells #[] 5)).ownsRow w1.heap.size 5 1 (.slice (some ⟨w1.heap.size, 0, none⟩) 0 0) (line 0 (codeF k i)).length (Bs (line 0 (codeF k i))) := by
        have := own_empty (w := w1) (e := 5) (Nat.le_refl _) rfl
        simpa [line, Bs] using this
      have HOwn0 := Lib.hid hown0
      have HBo : Hid (Below w1.heap.size w1 (w1.alloc (.cells #[] 5))) := (Below.refl _ _).alloc (Nat.le_refl _) _
      clear hown0
      go_wp2
      go_loopw [7, 8] (fun v x wx => ∃ j : Nat, j ≤ k ∧ x = .int .i64 (j : Int) ∧ wx.ownsRow w1.heap.size 5 1 v (line j (codeF k i)).length (Bs (line j (codeF k i))) ∧ Below w1.heap.size w1 wx) (fun _ x _ => k - (intOf x).toNat)
      case atStart => exact ⟨0, by omega, rfl, HOwn0.out, HBo.out⟩
      case round =>
        clear HOwn0 HBo
        obtain ⟨j, hj, rfl, hown, hbk⟩ := hrel
        obtain ⟨va, vc, rfl, hv1, hv2⟩ := own_shape hown
        rw [line_length] at hown hv1 ⊢
        have HO := Lib.hid hown
        have HBk := Lib.hid hbk
        clear hown hbk
        simp only [maxLen] at hv2
        by_cases hjm : j < k
        · have hjmI : (j : Int) < (k : Int) := by omega
          have HLs : Hid (line j (codeF k i) ++ [codeF k i j] = line (j + 1) (codeF k i)) := (line_succ _ _).symm
          have HLn : Hid ((line j (codeF k i)).length = j) := line_length _ _
          have hcf : codeF k i j = if i < k then idm i j else quo 1 (UInt8.ofNat i ^^^ UInt8.ofNat j) := by
            unfold codeF quo
            rw [one_mul]
          have HCf := Lib.hid hcf
          obtain ⟨L, HL⟩ := hid_of (line j (codeF k i))
          rw [HL.out] at HLs HLn HO
          obtain ⟨z, Hz⟩ := hid_of (codeF k i j)
          rw [Hz.out] at HLs HCf
          clear hcf
          go_upto_if 36 with fail
          go_cut [9] (fun u wx => u = .int .u8 (z.toNat : Int) ∧ wx = wr)
          case first =>
            by_cases hik : i < k
            · have hikI : ¬ (k : Int) ≤ (i : Int) := by omega
              have hzz : z = idm i j := by rw [HCf.out, if_pos hik]
              by_cases hij : i = j
              · have hz1 : z = 1 := by rw [hzz]; simp [idm, hij]
                subst hz1
                subst hij
                clear hzz
                go_wp2
                go_meet
                case rel => exact ⟨rfl, rfl⟩
              · have hz1 : z = 0 := by rw [hzz]; simp [idm, hij]
                subst hz1
                have hne : ((i : Int) == (j : Int)) = false := by simp; omega
                clear hzz
                go_wp2
                go_meet
                case rel => exact ⟨rfl, rfl⟩
            · have hikI : (k : Int) ≤ (i : Int) := by omega
              have hji : (j : Int) < 32 := by omega
              have hii : (i : Int) < 32 := by omega
              have hx : bits .xor .i64 (i : Int) (j : Int) = ((UInt8.ofNat i ^^^ UInt8.ofNat j).toNat : Int) := by
                rw [byte_nat i (by omega), byte_nat j (by omega), i64_xor_u8]
              have hne : UInt8.ofNat i ^^^ UInt8.ofNat j ≠ 0 := byte_ne i j (by omega) (by omega) (by omega)
              have hzz : z = quo 1 (UInt8.ofNat i ^^^ UInt8.ofNat j) := by rw [HCf.out, if_neg hik]
              obtain ⟨d, Hd⟩ := hid_of (UInt8.ofNat i ^^^ UInt8.ofNat j)
              rw [Hd.out] at hx hne hzz
              have hd := d.toNat_lt
              have hm : (d.toNat : Int) % 256 = (d.toNat : Int) := by omega
              have HDiv : Hid (∀ wx, Calls Try.prog 27 #[.int .u8 1, .int .u8 (d.toNat : Int)] wx fun e w' => e = .returned (.tuple #[.int .u8 (z.toNat : Int), .bool true]) ∧ wx = w') := fun wx => by rw [hzz]; exact refDiv_yes 1 d wx hne
              clear hne hzz
              go_wp2_with fail
              refine (HDiv.out _).mono ?_
              rintro e w' ⟨rfl, rfl⟩
              go_wp2
              go_meet
              case rel => exact ⟨rfl, rfl⟩
          case rest =>
            obtain ⟨rfl, rfl⟩ := hcut
            go_wp2_with (at_builtin; refine stopped ?_)
            refine going (wpList_append_bytes _ rfl _ _ 29 29 rfl w1.heap.size 5 5 Try.underlying29 Try.underlying29 infoByte _ L _ rfl (own_fr HO.out ((Fr.refl (fun _ => False) wc).alloc _) (fun _ _ h => h)) _ [z] rfl (RB.lit _ _ _ rfl (by simp [maxLen]) (by simp) rfl) (by rw [HLn.out]; simp; omega) (by have := HBk.out.size; simp; omega) ?_)
            intro v3 w3 ho3 hb3 hg3
            rw [HLs.out] at ho3
            have HO3 := Lib.hid ho3
            have HB3 : Hid (Below w1.heap.size w1 w3) := HBk.out.trans (((Below.refl w1.heap.size wc).alloc HBk.out.size _).trans hb3)
            clear ho3 hb3 hg3
            go_wp2
            go_roundw
            case rel => exact ⟨j + 1, by omega, by go_num, HO3.out, HB3.out⟩
            case measure => simp [intOf]; omega
        · obtain rfl : k = j := by omega
          have hrbv := RB.own HO.out
          have hsep : ∀ x, (Value.slice va k vc).ownBlock = some x → w1.heap.size ≤ x := fun x hx => (HO.out.lt x hx).1
          obtain ⟨L, HL⟩ := hid_of (line k (codeF k i))
          obtain ⟨Ts, HTs⟩ := hid_of (tab i k (codeF k))
          have HTl : Hid (Ts.length = i) := by rw [← HTs.out]; exact tab_length _ _ _
          have HTn : Hid (Ts ++ [L] = tab (i + 1) k (codeF k)) := by rw [← HTs.out, ← HL.out]; exact (tab_succ _ _ _).symm
          rw [HTs.out] at HCt
          rw [HL.out] at hrbv
          have HRv := Lib.hid hrbv
          have HSep := Lib.hid hsep
          clear hrbv hsep
          go_wp2_with (at_builtin; refine stopped ?_)
          have hba : Below w1.heap.size w1 (wr.alloc (.cells #[.slice va k vc] 29)) := HBk.out.alloc HBk.out.size _
          refine going (wpList_push_row _ rfl _ _ 22 rfl w.heap.size 29 Try.underlying22 infoRow _ Ts rfl (HCt.out.below hba rfl) wr.heap.size (.slice va k vc) L rfl (by rw [cell_of_row _ _ 0 _ _ _ (heap_alloc_new wr _)]; rfl) (HRv.out.below ((Below.refl wr.heap.size wr).alloc (Nat.le_refl _) _) rfl) (fun _ x hx hx2 => by have h1 := HSep.out x hx; have h2 := (HCt.out.lt x hx2).2; omega) (by rw [HTl.out]; omega) (by have := HBe.out.size; have := hba.size; omega) ?_)
          intro v3 w3 ho3 hb3 hg3
          rw [HTn.out] at ho3
          have HO3 := Lib.hid ho3
          have HB3 : Hid (Below w.heap.size w w3) := HBe.out.trans ((hba.mono HBe.out.size).trans hb3)
          clear ho3 hb3 hg3 hba
          go_wp2
          refine ⟨⟨i + 1, by omega, by go_num, HO3.out, HB3.out⟩, by simp [intOf]; omega⟩
    · obtain rfl : n = i := by omega
      have HRead := Lib.hid HCt.out.read
      go_wp2
      go_ret
      exact ⟨_, rfl, HRead.out, HBe.out⟩
set_option maxRecDepth 100000 in
set_option maxHeartbeats 4000000 in
theorem refOne_any (n : Nat) (w : World) (h3 : n ≤ 32) :
    Calls Try.prog 16 #[.int .i64 (n : Int)] w fun e w' => ∃ v, e = .returned v ∧ RT w' v (tab n n idm) ∧ Below w.heap.size w w' := by
  have HC0 : Hid (CTb w.heap.size 29 (w.alloc (.cells #[] 29)) (.slice (some ⟨w.heap.size, 0, none⟩) 0 0) (tab 0 n idm)) := CTb.start (w := w) (Nat.le_refl _) rfl
  have HB0 : Hid (Below w.heap.size w (w.alloc (.cells #[] 29))) := (Below.refl _ _).alloc (Nat.le_refl _) _
  go_enter Try.func16, Try.ntmps16
  go_wp2
  go_loopw [3, 4] (fun v x wr => ∃ i : Nat, i ≤ n ∧ x = .int .i64 (i : Int) ∧ CTb w.heap.size 29 wr v (tab i n idm) ∧ Below w.heap.size w wr) (fun _ x _ => n - (intOf x).toNat)
  case atStart => exact ⟨0, by omega, rfl, HC0.out, HB0.out⟩
  case round =>
    clear HC0 HB0
    obtain ⟨i, hi, rfl, hct, hbe⟩ := hrel
    obtain ⟨oa, oc, rfl, ho1, ho2⟩ := hct.shape
    rw [tab_length] at ho1 hct ⊢
    simp only [maxLen] at ho2
    have HCt := Lib.hid hct
    have HBe := Lib.hid hbe
    clear hct hbe
    by_cases hlt : i < n
    · have hin : (i : Int) < (n : Int) := by omega
      have hmk := make_bytes n (by omega) wr
      have hm0 := (made_row wr 5 n rfl).set i 1
      have hc0 := (made_row wr 5 n rfl).cell i hlt
      have hf0 := (made_row wr 5 n rfl).frozen i
      rw [World.setCell_alloc_at _ _ _ _ _ rfl, show ((1 : UInt8).toNat : Int) = 1 from rfl] at hm0
      have hrow := hm0.congr (f' := idm i) (fun j hj => by simp [idm, eq_comm])
      have hrb := hrow.read (Nat.le_refl n) (by simp only [maxLen]; omega)
      have hb1 : Below wr.heap.size wr (wr.alloc (.cells ((madeCells #[.int .u8 0] n).setIfInBounds i (.int .u8 1)) 5)) := (Below.refl _ _).alloc (Nat.le_refl _) _
      have hct1 := HCt.out.below hb1 rfl
      obtain ⟨L, HL⟩ := hid_of (line n (idm i))
      obtain ⟨Ts, HTs⟩ := hid_of (tab i n idm)
      have HTl : Hid (Ts.length = i) := by rw [← HTs.out]; exact tab_length _ _ _
      have HTn : Hid (Ts ++ [L] = tab (i + 1) n idm) := by rw [← HTs.out, ← HL.out]; exact (tab_succ _ _ _).symm
      rw [HTs.out] at hct1 HCt
      rw [HL.out] at hrb
      have HRv := Lib.hid hrb
      have HC1 := Lib.hid hct1
      have HB1 := Lib.hid hb1
      clear hrb hct1 hb1 hrow hm0
      go_wp2_with (at_builtin; refine stopped ?_)
      obtain ⟨w2, hw2⟩ : ∃ w2, w2 = wr.alloc (.cells ((madeCells #[.int .u8 0] n).setIfInBounds i (.int .u8 1)) 5) := ⟨_, rfl⟩
      have hsz : w2.heap.size = wr.heap.size + 1 := by rw [hw2]; simp
      rw [← hw2] at HRv HC1 HB1 ⊢
      rw [← hsz]
      clear hw2
      have hba : Below wr.heap.size wr (w2.alloc (.cells #[.slice (some ⟨wr.heap.size, 0, none⟩) n n] 29)) := HB1.out.alloc HB1.out.size _
      refine going (wpList_push_row _ rfl _ _ 22 rfl w.heap.size 29 Try.underlying22 infoRow _ Ts rfl (HCt.out.below hba rfl) w2.heap.size (.slice (some ⟨wr.heap.size, 0, none⟩) n n) L rfl (by rw [cell_of_row _ _ 0 _ _ _ (heap_alloc_new w2 _)]; rfl) (HRv.out.below ((Below.refl w2.heap.size w2).alloc (Nat.le_refl _) _) rfl) (fun _ x hx hx2 => by have h1 : wr.heap.size = x := (by simpa [Value.ownBlock] using hx); have h2 := (HCt.out.lt x hx2).2; omega) (by rw [HTl.out]; omega) (by have := HBe.out.size; have := hba.size; omega) ?_)
      intro v3 w3 ho3 hb3 hg3
      rw [HTn.out] at ho3
      have HO3 := Lib.hid ho3
      have HB3 : Hid (Below w.heap.size w w3) := HBe.out.trans ((hba.mono HBe.out.size).trans hb3)
      clear ho3 hb3 hg3 hba hmk hc0 hf0
      go_wp2
      go_roundw
      case rel => exact ⟨i + 1, by omega, by go_num, HO3.out, HB3.out⟩
      case measure => simp [intOf]; omega
    · obtain rfl : n = i := by omega
      have HRead := Lib.hid HCt.out.read
      go_wp2
      go_ret
      exact ⟨_, rfl, HRead.out, HBe.out⟩
end Go.Proofs.Ytdcjcbfnniimpaa
