/-
  kistlaw02.MatTimes, MatGroups, MatCode: their walks.
-/
import Derived.Test.YtdcjcbfnniimpaaMatAwake
import Derived.Test.YtdcjcbfnniimpaaRefCode
namespace Go.Proofs.Ytdcjcbfnniimpaa
open Go.RowKit
set_option linter.unusedVariables false

theorem fits_iff {A B : List (List UInt8)} : fits A B = true ↔ Table A ∧ Table B ∧ cols A = B.length := by
  simp [fits, tableB, and_assoc]
theorem fits_cases (A B : List (List UInt8)) : fits A B = false ∨ (Table A ∧ Table B ∧ cols A = B.length) := by
  cases h : fits A B
  · exact .inl rfl
  · exact .inr (fits_iff.1 h)
theorem times_table {A B : List (List UInt8)} (hA : Table A) (hB : Table B) : Table (timesT A B) := tab_table _ _ _ hA.1 hA.2.1 hB.2.2.1 hB.2.2.2.1
theorem times_cols {A B : List (List UInt8)} (hA : Table A) : cols (timesT A B) = cols B := tab_cols _ _ _ hA.1
theorem times_length (A B : List (List UInt8)) : (timesT A B).length = A.length := tab_length _ _ _
theorem times_at {A B : List (List UInt8)} {i j : Nat} (hi : i < A.length) (hj : j < cols B) : At (timesT A B) i j = pr B.length (At A) (At B) i j := at_tab _ i j hi hj
theorem times_assoc {A B C : List (List UInt8)} (hA : Table A) (hB : Table B) (hC : Table C) (h1 : cols A = B.length) (h2 : cols B = C.length) : timesT (timesT A B) C = timesT A (timesT B C) := by
  have e1 : timesT (timesT A B) C = tab A.length (cols C) (pr C.length (At (timesT A B)) (At C)) := by
    show tab (timesT A B).length (cols C) (pr C.length (At (timesT A B)) (At C)) = _
    rw [times_length]
  have e2 : timesT A (timesT B C) = tab A.length (cols C) (pr B.length (At A) (At (timesT B C))) := by
    show tab A.length (cols (timesT B C)) (pr (timesT B C).length (At A) (At (timesT B C))) = _
    rw [show (timesT B C).length = B.length from times_length B C, show cols (timesT B C) = cols C from times_cols hB]
  rw [e1, e2]
  refine tab_congr fun i j hi hj => ?_
  rw [pr_congr (A' := pr B.length (At A) (At B)) (fun k hk => times_at hi (by rw [h2]; exact hk)) (fun _ _ => rfl), pr_assoc]
  exact pr_congr (fun _ _ => rfl) (fun k hk => (times_at hk hj).symm)
theorem dec_true {α : Type} [DecidableEq α] (a : α) : decide (a = a) = true := decide_eq_true rfl

set_option maxRecDepth 100000 in
set_option maxHeartbeats 4000000 in
theorem matTimes_walk (va : Value) (A : List (List UInt8)) (vb : Value) (B : List (List UInt8)) (w : World) (ha : RT w va A) (hb : RT w vb B) :
    Calls Try.prog 3 #[va, vb] w fun e w' => e = .returned (.bool true) ∧ Below w.heap.size w w' := by
  have HA := Lib.hid ha
  have HB := Lib.hid hb
  clear ha hb
  rcases fits_cases A B with hno | ⟨hA, hB, hf⟩
  · have HNo := Lib.hid hno
    clear hno
    go_enter Try.func3, Try.ntmps3
    go_wp2_with fail
    refine (times_no _ _ A B _ HA.out HB.out HNo.out).mono ?_
    rintro e w1 ⟨rfl, rfl⟩
    go_wp2_with fail
    refine (refTimes_no _ _ A B _ HA.out HB.out HNo.out).mono ?_
    rintro e w2 ⟨rfl, hb2⟩
    have HB2 := Lib.hid hb2
    clear hb2
    go_wp2_with fail
    refine (awake_any _).mono ?_
    rintro e w3 ⟨rfl, hb3⟩
    have HB3 := Lib.hid (HB2.out.trans (hb3.mono HB2.out.size))
    clear hb3 HB2
    go_wp2_with fail
    refine (same_any _ [] _ [] _ (RT.nil _) (RT.nil _)).mono ?_
    rintro e w4 ⟨rfl, d, rfl⟩
    rw [dec_true]
    have HB4 := Lib.hid (Below.drewN2 HB3.out d)
    go_wp2
    go_ret
    exact ⟨rfl, HB4.out⟩
  · have HTA := Lib.hid hA
    have HTB := Lib.hid hB
    have HF := Lib.hid hf
    clear hA hB hf
    go_enter Try.func3, Try.ntmps3
    go_wp2_with fail
    refine (times_yes _ _ A B _ HA.out HB.out HTA.out HTB.out HF.out).mono ?_
    rintro e w1 ⟨v1, rfl, hr1, hb1⟩
    have HR1 := Lib.hid hr1
    have HB1 := Lib.hid hb1
    have HA1 := Lib.hid (HA.out.below hb1 rfl)
    have HBb1 := Lib.hid (HB.out.below hb1 rfl)
    clear hr1 hb1
    go_wp2_with fail
    refine (refTimes_yes _ _ A B _ HA1.out HBb1.out HTA.out HTB.out HF.out).mono ?_
    rintro e w2 ⟨v2, rfl, hr2, hb2⟩
    have HR2 := Lib.hid hr2
    have HR12 := Lib.hid (HR1.out.below hb2 rfl)
    have HB2 := Lib.hid (HB1.out.trans (hb2.mono HB1.out.size))
    clear hr2 hb2
    go_wp2_with fail
    refine (awake_any _).mono ?_
    rintro e w3 ⟨rfl, hb3⟩
    have HR23 := Lib.hid (HR2.out.below hb3 rfl)
    have HR13 := Lib.hid (HR12.out.below hb3 rfl)
    have HB3 := Lib.hid (HB2.out.trans (hb3.mono HB2.out.size))
    clear hb3
    go_wp2_with fail
    refine (same_any _ _ _ _ _ HR13.out HR23.out).mono ?_
    rintro e w4 ⟨rfl, d, rfl⟩
    rw [dec_true]
    have HB4 := Lib.hid (Below.drewN2 HB3.out d)
    clear HR1 HB1 HA1 HBb1 HR2 HR12 HB2 HR23 HR13 HB3
    go_wp2
    go_ret
    exact ⟨rfl, HB4.out⟩
set_option maxRecDepth 100000 in
set_option maxHeartbeats 4000000 in
theorem matCode_walk (k n : Int) (w : World) (hk : (Lit.int .i64 k).wf = true) (hn : (Lit.int .i64 n).wf = true) :
    Calls Try.prog 5 #[.int .i64 k, .int .i64 n] w fun e w' => e = .returned (.bool true) ∧ Below w.heap.size w w' := by
  clear hk hn
  by_cases hno : k < 1 ∨ n < k ∨ 32 < n
  · have HNo := Lib.hid hno
    clear hno
    go_enter Try.func5, Try.ntmps5
    go_wp2_with fail
    refine (awake_any _).mono ?_
    rintro e w1 ⟨rfl, hb1⟩
    have HB1 := Lib.hid hb1
    clear hb1
    go_wp2_with fail
    refine (code_no k n _ HNo.out).mono ?_
    rintro e w2 ⟨rfl, rfl⟩
    go_wp2_with fail
    refine (refCode_no k n _ HNo.out).mono ?_
    rintro e w3 ⟨v3, rfl, hr3, hb3⟩
    have HR3 := Lib.hid hr3
    have HB3 := Lib.hid (HB1.out.trans (hb3.mono HB1.out.size))
    clear hr3 hb3
    go_wp2_with fail
    refine (same_any _ [] _ [] _ (RT.nil _) HR3.out).mono ?_
    rintro e w4 ⟨rfl, d, rfl⟩
    rw [dec_true]
    have HB4 := Lib.hid (Below.drewN2 HB3.out d)
    clear HB1 HR3 HB3
    go_wp2
    go_ret
    exact ⟨rfl, HB4.out⟩
  · obtain ⟨k, rfl⟩ : ∃ m : Nat, k = (m : Int) := ⟨k.toNat, by omega⟩
    obtain ⟨n, rfl⟩ : ∃ m : Nat, n = (m : Int) := ⟨n.toNat, by omega⟩
    have HK : Hid (1 ≤ k ∧ k ≤ n ∧ n ≤ 32) := (by omega : 1 ≤ k ∧ k ≤ n ∧ n ≤ 32)
    clear hno
    go_enter Try.func5, Try.ntmps5
    go_wp2_with fail
    refine (awake_any _).mono ?_
    rintro e w1 ⟨rfl, hb1⟩
    have HB1 := Lib.hid hb1
    clear hb1
    go_wp2_with fail
    refine (code_yes k n _ HK.out.1 HK.out.2.1 HK.out.2.2).mono ?_
    rintro e w2 ⟨v2, rfl, hr2, hb2⟩
    have HR2 := Lib.hid hr2
    have HB2 := Lib.hid (HB1.out.trans (hb2.mono HB1.out.size))
    clear hr2 hb2
    go_wp2_with fail
    refine (refCode_yes k n _ HK.out.1 HK.out.2.1 HK.out.2.2).mono ?_
    rintro e w3 ⟨v3, rfl, hr3, hb3⟩
    have HR3 := Lib.hid hr3
    have HR23 := Lib.hid (HR2.out.below hb3 rfl)
    have HB3 := Lib.hid (HB2.out.trans (hb3.mono HB2.out.size))
    clear hr3 hb3
    go_wp2_with fail
    refine (same_any _ _ _ _ _ HR23.out HR3.out).mono ?_
    rintro e w4 ⟨rfl, d, rfl⟩
    rw [dec_true]
    have HB4 := Lib.hid (Below.drewN2 HB3.out d)
    clear HB1 HR3 HB3 HB2 HR2 HR23
    go_wp2
    go_ret
    exact ⟨rfl, HB4.out⟩
set_option maxRecDepth 100000 in
set_option maxHeartbeats 8000000 in
theorem matGroups_walk (va : Value) (A : List (List UInt8)) (vb : Value) (B : List (List UInt8)) (vc : Value) (C : List (List UInt8)) (w : World) (ha : RT w va A) (hb : RT w vb B) (hc : RT w vc C) :
    Calls Try.prog 7 #[va, vb, vc] w fun e w' => e = .returned (.bool true) ∧ Below w.heap.size w w' := by
  have HA := Lib.hid ha
  have HB := Lib.hid hb
  have HC := Lib.hid hc
  clear ha hb hc
  -- what a product comes to, whichever way
  have T : Hid (∀ va vb A B wx, RT wx va A → RT wx vb B → Calls Try.prog 9 #[va, vb] wx fun e w' => ∃ v, e = .returned (.tuple #[v, .bool (fits A B)]) ∧ (fits A B = true → RT w' v (timesT A B)) ∧ Below wx.heap.size wx w') := by
    intro va vb A B wx h1 h2
    rcases fits_cases A B with hno | ⟨hA, hB, hf⟩
    · refine (times_no va vb A B wx h1 h2 hno).mono ?_
      rintro e w' ⟨rfl, rfl⟩
      exact ⟨_, by rw [hno], fun h => (by rw [hno] at h; cases h), Below.refl _ _⟩
    · refine (times_yes va vb A B wx h1 h2 hA hB hf).mono ?_
      rintro e w' ⟨v, rfl, hr, hb⟩
      exact ⟨v, by rw [fits_iff.2 ⟨hA, hB, hf⟩], fun _ => hr, hb⟩
  go_enter Try.func7, Try.ntmps7
  go_wp2_with fail
  refine (T.out _ _ A B _ HA.out HB.out).mono ?_
  rintro e w1 ⟨x, rfl, hx, hb1⟩
  have HX := Lib.hid hx
  have HB1 := Lib.hid hb1
  have HA1 := Lib.hid (HA.out.below hb1 rfl)
  have HBb1 := Lib.hid (HB.out.below hb1 rfl)
  have HC1 := Lib.hid (HC.out.below hb1 rfl)
  clear hx hb1
  go_wp2_with fail
  refine (T.out _ _ B C _ HBb1.out HC1.out).mono ?_
  rintro e w2 ⟨y, rfl, hy, hb2⟩
  have HY := Lib.hid hy
  have HX2 : Hid (fits A B = true → RT w2 x (timesT A B)) := fun h => (HX.out h).below hb2 rfl
  have HB2 := Lib.hid (HB1.out.trans (hb2.mono HB1.out.size))
  have HA2 := Lib.hid (HA1.out.below hb2 rfl)
  have HC2 := Lib.hid (HC1.out.below hb2 rfl)
  clear hy hb2 HX HB1 HA1 HBb1 HC1
  obtain ⟨f1, Hf1⟩ := hid_of (fits A B)
  obtain ⟨f2, Hf2⟩ := hid_of (fits B C)
  rw [Hf1.out, Hf2.out]
  cases f1
  · go_wp2_with fail
    refine (awake_any _).mono ?_
    rintro e w3 ⟨rfl, hb3⟩
    have HB3 := Lib.hid (HB2.out.trans (hb3.mono HB2.out.size))
    clear hb3
    go_wp2
    go_ret
    exact ⟨rfl, HB3.out⟩
  · cases f2
    · go_wp2_with fail
      refine (awake_any _).mono ?_
      rintro e w3 ⟨rfl, hb3⟩
      have HB3 := Lib.hid (HB2.out.trans (hb3.mono HB2.out.size))
      clear hb3
      go_wp2
      go_ret
      exact ⟨rfl, HB3.out⟩
    · have g1 := fits_iff.1 Hf1.out
      have g2 := fits_iff.1 Hf2.out
      have HX3 := Lib.hid (HX2.out Hf1.out)
      have HY3 := Lib.hid (HY.out Hf2.out)
      have HF3 : Hid (fits (timesT A B) C = true) := fits_iff.2 ⟨times_table g1.1 g1.2.1, g2.2.1, by rw [times_cols g1.1]; exact g2.2.2⟩
      have HF4 : Hid (fits A (timesT B C) = true) := fits_iff.2 ⟨g1.1, times_table g2.1 g2.2.1, by rw [times_length]; exact g1.2.2⟩
      have HAs : Hid (timesT (timesT A B) C = timesT A (timesT B C)) := times_assoc g1.1 g1.2.1 g2.2.1 g1.2.2 g2.2.2
      clear g1 g2 HX2 HY
      go_wp2_with fail
      refine (T.out _ _ (timesT A B) C _ HX3.out HC2.out).mono ?_
      rintro e w3 ⟨p, rfl, hp, hb3⟩
      rw [HF3.out]
      have HP := Lib.hid (hp HF3.out)
      have HA3 := Lib.hid (HA2.out.below hb3 rfl)
      have HY4 := Lib.hid (HY3.out.below hb3 rfl)
      have HB3 := Lib.hid (HB2.out.trans (hb3.mono HB2.out.size))
      clear hp hb3 HX3 HA2 HC2 HY3
      go_wp2_with fail
      refine (T.out _ _ A (timesT B C) _ HA3.out HY4.out).mono ?_
      rintro e w4 ⟨s, rfl, hs, hb4⟩
      rw [HF4.out]
      have HS4 := Lib.hid (hs HF4.out)
      have HP4 := Lib.hid (HP.out.below hb4 rfl)
      have HB4 := Lib.hid (HB3.out.trans (hb4.mono HB3.out.size))
      clear hs hb4 HP HA3 HY4
      go_wp2_with fail
      refine (awake_any _).mono ?_
      rintro e w5 ⟨rfl, hb5⟩
      have HS5 := Lib.hid (HS4.out.below hb5 rfl)
      have HP5 := Lib.hid (HP4.out.below hb5 rfl)
      have HB5 := Lib.hid (HB4.out.trans (hb5.mono HB4.out.size))
      clear hb5 HS4 HP4
      go_wp2_with fail
      refine (same_any _ _ _ _ _ HP5.out HS5.out).mono ?_
      rintro e w6 ⟨rfl, d, rfl⟩
      rw [HAs.out, dec_true]
      have HB6 := Lib.hid (Below.drewN2 HB5.out d)
      clear HP5 HS5
      go_wp2
      go_ret
      exact ⟨rfl, HB6.out⟩
end Go.Proofs.Ytdcjcbfnniimpaa
