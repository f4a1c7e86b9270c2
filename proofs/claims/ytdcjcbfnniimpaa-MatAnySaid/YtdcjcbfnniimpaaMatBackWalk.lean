/-
  kistlaw02.MatBack: its walk.
-/
import Derived.Test.YtdcjcbfnniimpaaMatInvertsWalk
namespace Go.Proofs.Ytdcjcbfnniimpaa
open Go.RowKit
set_option linter.unusedVariables false

theorem both_congr {n : Nat} {A A' X X' : Fm} (h : Both n A X) (h1 : ∀ i j, i < n → j < n → A i j = A' i j) (h2 : ∀ i j, i < n → j < n → X i j = X' i j) : Both n A' X' := by
  refine ⟨fun i j hi hj => ?_, fun i j hi hj => ?_⟩
  · rw [← h.1 i j hi hj]
    exact pr_congr (fun k hk => (h2 i k hi hk).symm) (fun k hk => (h1 k j hk hj).symm)
  · rw [← h.2 i j hi hj]
    exact pr_congr (fun k hk => (h1 i k hi hk).symm) (fun k hk => (h2 k j hk hj).symm)
theorem times_all (va vb : Value) (A B : List (List UInt8)) (wx : World) (h1 : RT wx va A) (h2 : RT wx vb B) :
    Calls Try.prog 9 #[va, vb] wx fun e w' => ∃ v, e = .returned (.tuple #[v, .bool (fits A B)]) ∧ (fits A B = true → RT w' v (timesT A B)) ∧ Below wx.heap.size wx w' := by
  rcases fits_cases A B with hno | ⟨hA, hB, hf⟩
  · refine (times_no va vb A B wx h1 h2 hno).mono ?_
    rintro e w' ⟨rfl, rfl⟩
    exact ⟨_, by rw [hno], fun h => (by rw [hno] at h; cases h), Below.refl _ _⟩
  · refine (times_yes va vb A B wx h1 h2 hA hB hf).mono ?_
    rintro e w' ⟨v, rfl, hr, hb⟩
    exact ⟨v, by rw [fits_iff.2 ⟨hA, hB, hf⟩], fun _ => hr, hb⟩
/-- turned back, an inverse is the table itself -/
theorem back_again {A : List (List UInt8)} {X X2 : Fm} (hT : Table A) (hs : A.length = cols A) (h : Both A.length (At A) X) (h2 : Both A.length (At (tab A.length A.length X)) X2) : tab A.length A.length X2 = A := by
  have h3 : Both A.length X (At A) := h.symm
  have h4 : Both A.length X X2 := both_congr h2 (fun i j hi hj => at_tab X i j hi hj) (fun _ _ _ _ => rfl)
  have h5 := both_only h3 h4
  conv => rhs; rw [tab_at (A := A) rfl (fun i hi => hT.2.2.2.2 i hi)]
  rw [← hs]
  exact tab_congr fun i j hi hj => (h5 i j hi hj).symm
theorem back_prod {A B : List (List UInt8)} {X Y : Fm} (hT : Table A) (hs : A.length = cols A) (hsB : B.length = cols B) (hf : cols A = B.length) (hX : Both A.length (At A) X) (hY : Both B.length (At B) Y) :
    (timesT A B).length = A.length ∧ cols (timesT A B) = A.length ∧ Both A.length (At (timesT A B)) (pr A.length Y X) := by
  have e : B.length = A.length := by rw [hs, hf]
  have e2 : cols B = A.length := by rw [← hsB, e]
  refine ⟨times_length A B, by rw [times_cols hT, e2], ?_⟩
  rw [e] at hY
  refine both_congr (both_prod hX hY) (fun i j hi hj => ?_) (fun _ _ _ _ => rfl)
  rw [times_at hi (by rw [e2]; exact hj), e]
theorem turned_eq {n : Nat} {X Y Z : Fm} {P : Fm} (hn : 1 ≤ n) (h : Both n P (pr n Y X)) (hz : Both n P Z) : timesT (tab n n Y) (tab n n X) = tab n n Z := by
  unfold timesT
  rw [tab_length, tab_length, tab_cols _ _ _ hn]
  refine tab_congr fun i j hi hj => ?_
  rw [pr_congr (fun k hk => at_tab Y i k hi hk) (fun k hk => at_tab X k j hk hj)]
  exact both_only h hz i j hi hj

set_option maxRecDepth 100000 in
set_option maxHeartbeats 8000000 in
theorem matBack_walk (va : Value) (A : List (List UInt8)) (vb : Value) (B : List (List UInt8)) (w : World) (ha : RT w va A) (hb : RT w vb B) :
    Calls Try.prog 8 #[va, vb] w fun e w' => e = .returned (.bool true) ∧ Below w.heap.size w w' := by
  have HA := Lib.hid ha
  have HB := Lib.hid hb
  clear ha hb
  go_enter Try.func8, Try.ntmps8
  go_wp2_with fail
  refine (inv_all _ A _ HA.out).mono ?_
  rintro e w1 ⟨hok1, hb1⟩
  have HOk1 := Lib.hid hok1
  have HA1 := Lib.hid (HA.out.below hb1 rfl)
  have HB1 := Lib.hid (HB.out.below hb1 rfl)
  have HBe1 := Lib.hid hb1
  clear hb1 hok1
  obtain ⟨x, one, rfl, hx⟩ : ∃ x one, e = .returned (.tuple #[x, .bool one]) ∧ (one = true → ∃ X, RT w1 x (tab A.length A.length X) ∧ Table A ∧ A.length = cols A ∧ Both A.length (At A) X) := by
    rcases HOk1.out with ⟨v, X, rfl, hr, hT, hs, hB⟩ | ⟨rfl, hn⟩
    · exact ⟨v, true, rfl, fun _ => ⟨X, hr, hT, hs, hB⟩⟩
    · exact ⟨_, false, rfl, fun h => by cases h⟩
  have HX := Lib.hid hx
  clear hx HOk1
  go_wp2_with fail
  refine (inv_all _ B _ HB1.out).mono ?_
  rintro e w2 ⟨hok2, hb2⟩
  have HOk2 := Lib.hid hok2
  have HA2 := Lib.hid (HA1.out.below hb2 rfl)
  have HB2 := Lib.hid (HB1.out.below hb2 rfl)
  have HX2 : Hid (one = true → ∃ X, RT w2 x (tab A.length A.length X) ∧ Table A ∧ A.length = cols A ∧ Both A.length (At A) X) := fun h => by
    obtain ⟨X, h1, h2⟩ := HX.out h
    exact ⟨X, h1.below hb2 rfl, h2⟩
  have HBe2 := Lib.hid (HBe1.out.trans (hb2.mono HBe1.out.size))
  clear hb2 hok2
  obtain ⟨y, two, rfl, hy⟩ : ∃ y two, e = .returned (.tuple #[y, .bool two]) ∧ (two = true → ∃ Y, RT w2 y (tab B.length B.length Y) ∧ Table B ∧ B.length = cols B ∧ Both B.length (At B) Y) := by
    rcases HOk2.out with ⟨v, X, rfl, hr, hT, hs, hB⟩ | ⟨rfl, hn⟩
    · exact ⟨v, true, rfl, fun _ => ⟨X, hr, hT, hs, hB⟩⟩
    · exact ⟨_, false, rfl, fun h => by cases h⟩
  have HY := Lib.hid hy
  clear hy HOk2 HX HA1 HB1 HBe1
  cases one
  · go_wp2_with fail
    refine (awake_any _).mono ?_
    rintro e w3 ⟨rfl, hb3⟩
    have HB3 := Lib.hid (HBe2.out.trans (hb3.mono HBe2.out.size))
    clear hb3
    go_wp2
    go_ret
    exact ⟨rfl, HB3.out⟩
  · obtain ⟨X, hr, hT, hs, hboth⟩ := HX2.out rfl
    have HR := Lib.hid hr
    have HT : Hid (Table A ∧ A.length = cols A) := ⟨hT, hs⟩
    have HBo := Lib.hid hboth
    have HTX := Lib.hid (sq_table hT hs X)
    clear hr hT hs hboth HX2
    go_wp2_with fail
    refine (inv_all _ _ _ HR.out).mono ?_
    rintro e w3 ⟨hok3, hb3⟩
    obtain ⟨v3, X2, rfl, hr3, hb33⟩ : ∃ v X2, e = .returned (.tuple #[v, .bool true]) ∧ RT w3 v (tab A.length A.length X2) ∧ Both A.length (At (tab A.length A.length X)) X2 := by
      rcases hok3 with ⟨v, X2, rfl, hr, hT, hs, hB⟩ | ⟨rfl, hn⟩
      · rw [tab_length] at hr hB
        exact ⟨v, X2, rfl, hr, hB⟩
      · refine absurd ⟨HTX.out, ?_, ?_⟩ hn
        · rw [tab_length, tab_cols _ _ _ HT.out.1.1]
        · rw [tab_length]
          exact inj_of_left (both_congr HBo.out.symm (fun i j hi hj => (at_tab X i j hi hj).symm) (fun _ _ _ _ => rfl)).1
    rw [back_again HT.out.1 HT.out.2 HBo.out hb33] at hr3
    have HR3 := Lib.hid hr3
    have HA3 := Lib.hid (HA2.out.below hb3 rfl)
    have HB3 := Lib.hid (HB2.out.below hb3 rfl)
    have HRx := Lib.hid (HR.out.below hb3 rfl)
    have HY3 : Hid (two = true → ∃ Y, RT w3 y (tab B.length B.length Y) ∧ Table B ∧ B.length = cols B ∧ Both B.length (At B) Y) := fun h => by
      obtain ⟨Y, h1, h2⟩ := HY.out h
      exact ⟨Y, h1.below hb3 rfl, h2⟩
    have HBe3 := Lib.hid (HBe2.out.trans (hb3.mono HBe2.out.size))
    clear hok3 hb3 hr3 hb33 HY HR HA2 HB2 HBe2
    go_wp2_with fail
    refine (same_any _ _ _ _ _ HR3.out HA3.out).mono ?_
    rintro e w4 ⟨rfl, d, rfl⟩
    rw [dec_true]
    obtain ⟨w4, Hw4⟩ := hid_of (w3.drewN d)
    have HA4 : Hid (RT w4 va A) := by rw [← Hw4.out]; exact HA3.out.drewN d
    have HB4 : Hid (RT w4 vb B) := by rw [← Hw4.out]; exact HB3.out.drewN d
    have HRx4 : Hid (RT w4 x (tab A.length A.length X)) := by rw [← Hw4.out]; exact HRx.out.drewN d
    have HY4 : Hid (two = true → ∃ Y, RT w4 y (tab B.length B.length Y) ∧ Table B ∧ B.length = cols B ∧ Both B.length (At B) Y) := fun h => by
      obtain ⟨Y, h1, h2⟩ := HY3.out h
      exact ⟨Y, by rw [← Hw4.out]; exact h1.drewN d, h2⟩
    have HBe4 : Hid (Below w.heap.size w w4) := by rw [← Hw4.out]; exact Below.drewN2 HBe3.out d
    rw [Hw4.out]
    clear Hw4 HR3 HA3 HB3 HRx HY3 HBe3
    go_wp2_with fail
    refine (times_all _ _ A B _ HA4.out HB4.out).mono ?_
    rintro e w5 ⟨p, rfl, hp, hb5⟩
    have HP := Lib.hid hp
    have HRx5 := Lib.hid (HRx4.out.below hb5 rfl)
    have HY5 : Hid (two = true → ∃ Y, RT w5 y (tab B.length B.length Y) ∧ Table B ∧ B.length = cols B ∧ Both B.length (At B) Y) := fun h => by
      obtain ⟨Y, h1, h2⟩ := HY4.out h
      exact ⟨Y, h1.below hb5 rfl, h2⟩
    have HBe5 := Lib.hid (HBe4.out.trans (hb5.mono HBe4.out.size))
    clear hp hb5 HA4 HB4 HRx4 HY4 HBe4
    obtain ⟨f1, Hf1⟩ := hid_of (fits A B)
    rw [Hf1.out]
    cases two
    · go_wp2_with fail
      refine (awake_any _).mono ?_
      rintro e w6 ⟨rfl, hb6⟩
      have HB6 := Lib.hid (HBe5.out.trans (hb6.mono HBe5.out.size))
      clear hb6
      go_wp2
      go_ret
      exact ⟨rfl, HB6.out⟩
    · cases f1
      · go_wp2_with fail
        refine (awake_any _).mono ?_
        rintro e w6 ⟨rfl, hb6⟩
        have HB6 := Lib.hid (HBe5.out.trans (hb6.mono HBe5.out.size))
        clear hb6
        go_wp2
        go_ret
        exact ⟨rfl, HB6.out⟩
      · have g1 := fits_iff.1 Hf1.out
        obtain ⟨Y, hry, hTB, hsB, hbY⟩ := HY5.out rfl
        have hbp := back_prod HT.out.1 HT.out.2 hsB g1.2.2 HBo.out hbY
        have e1 : B.length = A.length := by rw [HT.out.2, g1.2.2]
        rw [e1] at hry
        have HRy := Lib.hid hry
        have HP5 := Lib.hid (HP.out Hf1.out)
        have HBp := Lib.hid hbp
        have HTp : Hid (Table (timesT A B)) := times_table g1.1 g1.2.1
        have HTy : Hid (Table (tab A.length A.length Y)) := sq_table HT.out.1 HT.out.2 Y
        clear g1 hry hTB hsB hbY hbp e1 HY5 HP
        go_wp2_with fail
        refine (inv_all _ _ _ HP5.out).mono ?_
        rintro e w6 ⟨hok6, hb6⟩
        obtain ⟨v6, Z, rfl, hr6, hbz⟩ : ∃ v Z, e = .returned (.tuple #[v, .bool true]) ∧ RT w6 v (tab A.length A.length Z) ∧ Both A.length (At (timesT A B)) Z := by
          rcases hok6 with ⟨v, Z, rfl, hr, hT, hs, hB⟩ | ⟨rfl, hn⟩
          · rw [HBp.out.1] at hr hB
            exact ⟨v, Z, rfl, hr, hB⟩
          · refine absurd ⟨HTp.out, by rw [HBp.out.1, HBp.out.2.1], ?_⟩ hn
            rw [HBp.out.1]
            exact inj_of_left HBp.out.2.2.1
        have HR6 := Lib.hid hr6
        have HEq : Hid (timesT (tab A.length A.length Y) (tab A.length A.length X) = tab A.length A.length Z) := turned_eq HT.out.1.1 HBp.out.2.2 hbz
        have HRx6 := Lib.hid (HRx5.out.below hb6 rfl)
        have HRy6 := Lib.hid (HRy.out.below hb6 rfl)
        have HBe6 := Lib.hid (HBe5.out.trans (hb6.mono HBe5.out.size))
        have HF6 : Hid (fits (tab A.length A.length Y) (tab A.length A.length X) = true) := fits_iff.2 ⟨HTy.out, HTX.out, by rw [tab_cols _ _ _ HT.out.1.1, tab_length]⟩
        clear hok6 hb6 hr6 hbz HRx5 HRy HBe5 HP5
        go_wp2_with fail
        refine (times_all _ _ _ _ _ HRy6.out HRx6.out).mono ?_
        rintro e w7 ⟨t, rfl, ht, hb7⟩
        have ht' := ht HF6.out
        rw [HEq.out] at ht'
        rw [HF6.out]
        have HT7 := Lib.hid ht'
        have HR7 := Lib.hid (HR6.out.below hb7 rfl)
        have HBe7 := Lib.hid (HBe6.out.trans (hb7.mono HBe6.out.size))
        clear ht ht' hb7 HR6 HRx6 HRy6 HBe6
        go_wp2_with fail
        refine (awake_any _).mono ?_
        rintro e w8 ⟨rfl, hb8⟩
        have HT8 := Lib.hid (HT7.out.below hb8 rfl)
        have HR8 := Lib.hid (HR7.out.below hb8 rfl)
        have HBe8 := Lib.hid (HBe7.out.trans (hb8.mono HBe7.out.size))
        clear hb8 HT7 HR7 HBe7
        go_wp2_with fail
        refine (same_any _ _ _ _ _ HR8.out HT8.out).mono ?_
        rintro e w9 ⟨rfl, d9, rfl⟩
        rw [dec_true]
        have HB9 := Lib.hid (Below.drewN2 HBe8.out d9)
        clear HT8 HR8 HBe8
        go_wp2
        go_ret
        exact ⟨rfl, HB9.out⟩
end Go.Proofs.Ytdcjcbfnniimpaa
