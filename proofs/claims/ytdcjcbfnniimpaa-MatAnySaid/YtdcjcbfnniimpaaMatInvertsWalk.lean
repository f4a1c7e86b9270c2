/-
  kistlaw02.MatInverts, MatBack, MatAny: their walks.
-/
import Derived.Test.YtdcjcbfnniimpaaMatTimesWalk
import Derived.Test.YtdcjcbfnniimpaaRefFull
import Derived.Test.YtdcjcbfnniimpaaMatChosen
import Derived.Test.YtdcjcbfnniimpaaMatCauchy
namespace Go.Proofs.Ytdcjcbfnniimpaa
open Go.RowKit
set_option linter.unusedVariables false

/-- the tables of a turned one -/
theorem sq_table {A : List (List UInt8)} (hT : Table A) (hs : A.length = cols A) (X : Fm) : Table (tab A.length A.length X) := tab_table _ _ _ hT.1 hT.2.1 hT.1 hT.2.1
theorem prod_one {A : List (List UInt8)} {X : Fm} (hT : Table A) (hs : A.length = cols A) (h : Both A.length (At A) X) : timesT A (tab A.length A.length X) = tab A.length A.length idm := by
  unfold timesT
  rw [tab_cols _ _ _ hT.1, tab_length]
  refine tab_congr fun i j hi hj => ?_
  rw [pr_congr (fun _ _ => rfl) (fun k hk => at_tab X k j hk hj)]
  exact h.2 i j hi hj
theorem one_prod {A : List (List UInt8)} {X : Fm} (hT : Table A) (hs : A.length = cols A) (h : Both A.length (At A) X) : timesT (tab A.length A.length X) A = tab A.length A.length idm := by
  unfold timesT
  rw [tab_length, ← hs]
  refine tab_congr fun i j hi hj => ?_
  rw [pr_congr (fun k hk => at_tab X i k hi hk) (fun _ _ => rfl)]
  exact h.1 i j hi hj
/-- 'Invert', one contract for whatever table -/
def InvAll (w' : World) (A : List (List UInt8)) (e : Ending) : Prop :=
  (∃ v X, e = .returned (.tuple #[v, .bool true]) ∧ RT w' v (tab A.length A.length X) ∧ Table A ∧ A.length = cols A ∧ Both A.length (At A) X) ∨ (e = .returned (.tuple #[.slice none 0 0, .bool false]) ∧ ¬ (Table A ∧ A.length = cols A ∧ Inj A.length (At A)))
theorem inv_all (va : Value) (A : List (List UInt8)) (w : World) (ha : RT w va A) :
    Calls Try.prog 13 #[va] w fun e w' => InvAll w' A e ∧ Below w.heap.size w w' := by
  by_cases h : Table A ∧ A.length = cols A
  · refine (inv_sq va A w ha h.1 h.2).mono ?_
    rintro e w' ⟨⟨v, X, rfl, hr, hB⟩ | ⟨rfl, hn⟩, hb⟩
    · exact ⟨.inl ⟨v, X, rfl, hr, h.1, h.2, hB⟩, hb⟩
    · exact ⟨.inr ⟨rfl, fun h' => hn h'.2.2⟩, hb⟩
  · refine (inv_no va A w ha h).mono ?_
    rintro e w' ⟨rfl, rfl⟩
    exact ⟨.inr ⟨rfl, fun h' => h ⟨h'.1, h'.2.1⟩⟩, Below.refl _ _⟩

set_option maxRecDepth 100000 in
set_option maxHeartbeats 8000000 in
theorem matInverts_walk (va : Value) (A : List (List UInt8)) (w : World) (ha : RT w va A) :
    Calls Try.prog 4 #[va] w fun e w' => e = .returned (.bool true) ∧ Below w.heap.size w w' := by
  obtain ⟨a, ca, rfl, ha1, ha2⟩ := ha.shape
  simp only [maxLen] at ha2
  obtain ⟨n, Hn⟩ := hid_of A.length
  have HA : Hid (RT w (.slice a n ca) A) := by rw [← Hn.out]; exact ha
  rw [Hn.out] at ha1 ⊢
  clear ha
  go_enter Try.func4, Try.ntmps4
  go_wp2_with fail
  refine (inv_all _ A _ HA.out).mono ?_
  rintro e w1 ⟨hok, hb1⟩
  have HB1 := Lib.hid hb1
  have HA1 := Lib.hid (HA.out.below hb1 rfl)
  clear hb1
  rcases hok with ⟨v, X, rfl, hr, hT, hs, hboth⟩ | ⟨rfl, hno⟩
  · rw [Hn.out] at hr
    have HR := Lib.hid hr
    obtain ⟨xa, xc, rfl, hx1, hx2⟩ := hr.shape
    rw [tab_length] at hx1 HR ⊢
    have HTs : Hid (Table A ∧ A.length = cols A) := ⟨hT, hs⟩
    have HBoth := Lib.hid hboth
    have HInj : Hid (Inj A.length (At A)) := inj_of_left hboth.1
    have HTX : Hid (Table (tab n n X)) := by rw [← Hn.out]; exact sq_table hT hs X
    have HP1 : Hid (timesT A (tab n n X) = tab n n idm) := by rw [← Hn.out]; exact prod_one hT hs hboth
    have HP2 : Hid (timesT (tab n n X) A = tab n n idm) := by rw [← Hn.out]; exact one_prod hT hs hboth
    have HF1 : Hid (cols A = (tab n n X).length) := by rw [tab_length, ← Hn.out]; exact hs.symm
    have HF2 : Hid (cols (tab n n X) = A.length) := by rw [Hn.out]; exact tab_cols _ _ _ (by rw [← Hn.out]; exact hT.1)
    obtain ⟨g, o, rfl, hg, hra⟩ := Rows.of HA1.out Hn.out hT
    rw [← hs, Hn.out] at hra
    have hn1 : 1 ≤ n ∧ n ≤ 32 := by rw [← Hn.out]; exact ⟨hT.1, hT.2.1⟩
    obtain ⟨hn1, hn32⟩ := hn1
    have HRa := Lib.hid hra
    have HG := Lib.hid hg
    clear hr hT hs hboth hra hg
    have hp0 : (0 : Int) < (n : Int) := by omega
    go_wp2_with fail
    refine (refTable_any _ A _ HA1.out).mono ?_
    rintro e w2 ⟨rfl, d, rfl⟩
    rw [table_yes HTs.out.1]
    obtain ⟨w2, Hw2⟩ := hid_of (w1.drewN d)
    have HA2 : Hid (RT w2 (.slice (some ⟨g, o, none⟩) n ca) A) := by rw [← Hw2.out]; exact HA1.out.drewN d
    have HR2 : Hid (RT w2 (.slice xa n xc) (tab n n X)) := by rw [← Hw2.out]; exact HR.out.drewN d
    have HB2 : Hid (Below w.heap.size w w2) := by rw [← Hw2.out]; exact Below.drewN2 HB1.out d
    obtain ⟨ua, uc, hu0, hu1, hu2, _⟩ := HRa.out 0 (by omega)
    rw [Nat.add_zero] at hu0
    have hu0' : w2.cell? ⟨g, o, none⟩ = some (.slice ua n uc) := by rw [← Hw2.out]; exact hu0
    rw [Hw2.out]
    clear hu0 Hw2 HA1 HR HB1 HRa
    go_wp2_with fail
    refine (refFull_any _ A _ HA2.out HTs.out.1 HTs.out.2).mono ?_
    rintro e w3 ⟨⟨b, rfl, hb⟩, hb3⟩
    have hbt : b = true := hb.2 HInj.out
    subst hbt
    have HA3 := Lib.hid (HA2.out.below hb3 rfl)
    have HR3 := Lib.hid (HR2.out.below hb3 rfl)
    have HB3 := Lib.hid (HB2.out.trans (hb3.mono HB2.out.size))
    clear hb hb3 HA2 HR2 HB2 hu0'
    go_wp2_with fail
    refine (refTimes_yes _ _ A (tab n n X) _ HA3.out HR3.out HTs.out.1 HTX.out HF1.out).mono ?_
    rintro e w4 ⟨p, rfl, hp, hb4⟩
    rw [HP1.out] at hp
    have HP := Lib.hid hp
    have HA4 := Lib.hid (HA3.out.below hb4 rfl)
    have HR4 := Lib.hid (HR3.out.below hb4 rfl)
    have HB4 := Lib.hid (HB3.out.trans (hb4.mono HB3.out.size))
    clear hp hb4 HA3 HR3 HB3
    go_wp2_with fail
    refine (refTimes_yes _ _ (tab n n X) A _ HR4.out HA4.out HTX.out HTs.out.1 HF2.out).mono ?_
    rintro e w5 ⟨s, rfl, hs5, hb5⟩
    rw [HP2.out] at hs5
    have HS := Lib.hid hs5
    have HP5 := Lib.hid (HP.out.below hb5 rfl)
    have HB5 := Lib.hid (HB4.out.trans (hb5.mono HB4.out.size))
    clear hs5 hb5 HA4 HR4 HB4 HP
    go_wp2_with fail
    refine (awake_any _).mono ?_
    rintro e w6 ⟨rfl, hb6⟩
    have HS6 := Lib.hid (HS.out.below hb6 rfl)
    have HP6 := Lib.hid (HP5.out.below hb6 rfl)
    have HB6 := Lib.hid (HB5.out.trans (hb6.mono HB5.out.size))
    clear hb6 HS HP5 HB5
    go_wp2_with fail
    refine (refOne_any n _ hn32).mono ?_
    rintro e w7 ⟨o1, rfl, ho1, hb7⟩
    have HO1 := Lib.hid ho1
    have HS7 := Lib.hid (HS6.out.below hb7 rfl)
    have HP7 := Lib.hid (HP6.out.below hb7 rfl)
    have HB7 := Lib.hid (HB6.out.trans (hb7.mono HB6.out.size))
    clear ho1 hb7 HS6 HP6 HB6
    go_wp2_with fail
    refine (same_any _ _ _ _ _ HP7.out HO1.out).mono ?_
    rintro e w8 ⟨rfl, d8, rfl⟩
    rw [dec_true]
    obtain ⟨w8, Hw8⟩ := hid_of (w7.drewN d8)
    have HS8 : Hid (RT w8 s (tab n n idm)) := by rw [← Hw8.out]; exact HS7.out.drewN d8
    have HB8 : Hid (Below w.heap.size w w8) := by rw [← Hw8.out]; exact Below.drewN2 HB7.out d8
    rw [Hw8.out]
    clear Hw8 HS7 HP7 HO1 HB7
    go_wp2_with fail
    refine (refOne_any n _ hn32).mono ?_
    rintro e w9 ⟨o2, rfl, ho2, hb9⟩
    have HO2 := Lib.hid ho2
    have HS9 := Lib.hid (HS8.out.below hb9 rfl)
    have HB9 := Lib.hid (HB8.out.trans (hb9.mono HB8.out.size))
    clear ho2 hb9 HS8 HB8
    go_wp2_with fail
    refine (same_any _ _ _ _ _ HS9.out HO2.out).mono ?_
    rintro e w10 ⟨rfl, d10, rfl⟩
    rw [dec_true]
    have HB10 := Lib.hid (Below.drewN2 HB9.out d10)
    clear HS9 HO2 HB9
    go_wp2
    go_ret
    exact ⟨rfl, HB10.out⟩
  · have HNo := Lib.hid hno
    by_cases hT : Table A
    · have hn1 : 1 ≤ n := by rw [← Hn.out]; exact hT.1
      obtain ⟨g, o, rfl, hg, hra⟩ := Rows.of HA1.out Hn.out hT
      obtain ⟨ua, uc, hu0, hu1, hu2, _⟩ := hra 0 (by omega)
      rw [Nat.add_zero] at hu0
      obtain ⟨m, Hm⟩ := hid_of (cols A)
      rw [Hm.out] at hu0 hu1
      have hp0 : (0 : Int) < (n : Int) := by omega
      have HT := Lib.hid hT
      clear hno hT hra
      by_cases hs : n = m
      · have HSq : Hid (A.length = cols A) := by rw [Hn.out, Hm.out]; exact hs
        have HNi : Hid (¬ Inj A.length (At A)) := fun h => HNo.out ⟨HT.out, HSq.out, h⟩
        subst hs
        go_wp2_with fail
        refine (refTable_any _ A _ HA1.out).mono ?_
        rintro e w2 ⟨rfl, d, rfl⟩
        rw [table_yes HT.out]
        obtain ⟨w2, Hw2⟩ := hid_of (w1.drewN d)
        have HA2 : Hid (RT w2 (.slice (some ⟨g, o, none⟩) n ca) A) := by rw [← Hw2.out]; exact HA1.out.drewN d
        have HB2 : Hid (Below w.heap.size w w2) := by rw [← Hw2.out]; exact Below.drewN2 HB1.out d
        have hu0' : w2.cell? ⟨g, o, none⟩ = some (.slice ua n uc) := by rw [← Hw2.out]; exact hu0
        rw [Hw2.out]
        clear hu0 Hw2 HA1 HB1
        go_wp2_with fail
        refine (refFull_any _ A _ HA2.out HT.out HSq.out).mono ?_
        rintro e w3 ⟨⟨b, rfl, hb⟩, hb3⟩
        have hbf : b = false := by
          cases b
          · rfl
          · exact absurd (hb.1 rfl) HNi.out
        subst hbf
        have HB3 := Lib.hid (HB2.out.trans (hb3.mono HB2.out.size))
        clear hb hb3 HA2 HB2 hu0'
        go_wp2_with fail
        refine (awake_any _).mono ?_
        rintro e w4 ⟨rfl, hb4⟩
        have HB4 := Lib.hid (HB3.out.trans (hb4.mono HB3.out.size))
        clear hb4 HB3
        go_wp2
        go_ret
        exact ⟨rfl, HB4.out⟩
      · have hne : ((n : Int) == (m : Int)) = false := by simp; omega
        go_wp2_with fail
        refine (refTable_any _ A _ HA1.out).mono ?_
        rintro e w2 ⟨rfl, d, rfl⟩
        rw [table_yes HT.out]
        obtain ⟨w2, Hw2⟩ := hid_of (w1.drewN d)
        have HB2 : Hid (Below w.heap.size w w2) := by rw [← Hw2.out]; exact Below.drewN2 HB1.out d
        have hu0' : w2.cell? ⟨g, o, none⟩ = some (.slice ua m uc) := by rw [← Hw2.out]; exact hu0
        rw [Hw2.out]
        clear hu0 Hw2 HA1 HB1
        go_wp2_with fail
        refine (awake_any _).mono ?_
        rintro e w4 ⟨rfl, hb4⟩
        have HB4 := Lib.hid (HB2.out.trans (hb4.mono HB2.out.size))
        clear hb4 HB2 hu0'
        go_wp2
        go_ret
        exact ⟨rfl, HB4.out⟩
    · have HT := Lib.hid hT
      clear hno hT
      go_wp2_with fail
      refine (refTable_any _ A _ HA1.out).mono ?_
      rintro e w2 ⟨rfl, d, rfl⟩
      rw [table_no HT.out]
      have HB2 := Lib.hid (Below.drewN2 HB1.out d)
      obtain ⟨w2, Hw2⟩ := hid_of (w1.drewN d)
      rw [Hw2.out] at HB2 ⊢
      clear Hw2 HA1 HB1
      go_wp2_with fail
      refine (awake_any _).mono ?_
      rintro e w4 ⟨rfl, hb4⟩
      have HB4 := Lib.hid (HB2.out.trans (hb4.mono HB2.out.size))
      clear hb4 HB2
      go_wp2
      go_ret
      exact ⟨rfl, HB4.out⟩
end Go.Proofs.Ytdcjcbfnniimpaa
