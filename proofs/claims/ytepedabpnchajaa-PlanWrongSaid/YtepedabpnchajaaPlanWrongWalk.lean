/-
  kistlaw19.PlanWrong: its walk.
-/
import Derived.Test.YtepedabpnchajaaPlanPlain
namespace Go.Proofs.Ytepedabpnchajaa
open Go.RowKit
set_option linter.unusedVariables false
set_option linter.unusedSimpArgs false

set_option maxRecDepth 100000 in
set_option maxHeartbeats 4000000 in
theorem planWrong_core (v : Value) (l : List UInt8) (size : Int) (sum : List UInt8) (w : World) (h : RB w v l) :
    Calls Try.prog 6 #[v, .int .i64 size, .string (S sum)] w fun e w' => e = .returned (.bool true) ∧ Below w.heap.size w w' := by
  have HSh : Hid (Calls Try.prog 17 #[v, .int .i64 512] w fun e w' => ∃ d, e = .returned d ∧ RB w' d (l.take 512) ∧ Below w.heap.size w w') := (short_any v l 512 w h (by omega)).mono fun e w' ⟨d, h1, h2, h3⟩ => ⟨d, h1, RB.own h2, h3⟩
  have hdl : (l.take 512).length ≤ 512 := by rw [List.length_take]; omega
  obtain ⟨L, HL⟩ := hid_of (l.take 512)
  rw [HL.out] at HSh hdl
  obtain ⟨n, Hn⟩ := hid_of L.length
  obtain ⟨M, HM⟩ := hid_of (10 * Blob.gN L.length)
  obtain ⟨D, HD⟩ := hid_of (dig L)
  obtain ⟨E, HE⟩ := hid_of (S L)
  have hok : Blob.RecOk [107] 3 L := ⟨hdl, by decide, by decide⟩
  have hM : M ≤ 1000 := by have := Blob.gN_le L.length; rw [← HM.out]; omega
  obtain ⟨T, HT⟩ := hid_of (Plan.shards L M)
  have HEn : Hid (∀ wx d, RB wx d L → Calls Try.prog 18 #[.string ⟨#[107]⟩, .int .i64 3, d] wx fun e w' =>
      (∃ pa pc lv sa sc, e = .returned (.tuple #[.agg #[.string ⟨#[107]⟩, .int .i64 3, .int .i64 (n : Int), .string (S D), .slice pa M pc], lv, .slice sa M sc]) ∧ RT w' (.slice sa M sc) T) ∧ Below wx.heap.size wx w') := fun wx d hx => by
    have := entry_any [107] 3 d L wx hx hok
    rw [HM.out, HD.out, Hn.out, HT.out] at this
    exact this
  obtain ⟨hjo, hjl⟩ := Plan.join_own hdl
  have HW0 : Hid (Plan.wholeE M T n D = 0 ∧ Plan.wholeB M T n D = L) := by
    have := (Plan.whole_own hdl (L.length : Int) (dig L)).1 ⟨hjo, by rw [hjl]⟩
    rw [HM.out, HT.out, HD.out, Hn.out] at this
    rw [Hn.out] at hjl
    rw [hjl] at this
    exact this
  have HWx : Hid ((sum = D ∧ Plan.wholeE M T n sum = 0 ∧ Plan.wholeB M T n sum = L) ∨ (sum ≠ D ∧ Plan.wholeE M T n sum = 9 ∧ Plan.wholeB M T n sum = [])) := by
    by_cases hs : sum = D
    · left
      rw [hs]
      exact ⟨rfl, HW0.out⟩
    · right
      have := (Plan.whole_own hdl (L.length : Int) sum).2 (fun hc => hs (by rw [← hc.2, hjl, HD.out]))
      rw [HM.out, HT.out, Hn.out] at this
      exact ⟨hs, this⟩
  have HWy : Hid ((Plan.wholeE M T size D = 0 ∧ ((Plan.wholeB M T size D).length : Int) = size) ∨ (Plan.wholeE M T size D = 9 ∧ Plan.wholeB M T size D = [])) := by
    by_cases hs : Blob.okB (Blob.split L) size = true ∧ dig (Blob.join (Blob.split L) size) = dig L
    · left
      have := (Plan.whole_own hdl size (dig L)).1 hs
      rw [HM.out, HT.out, HD.out] at this
      exact ⟨this.1, by rw [this.2]; exact Plan.join_size hs.1⟩
    · right
      have := (Plan.whole_own hdl size (dig L)).2 hs
      rw [HM.out, HT.out, HD.out] at this
      exact this
  have HWh : Hid (∀ wx (a pa : Option Addr) (c pc : Nat) (z : Int) (s : List UInt8), RT wx (.slice a M c) T → Calls Try.prog 15 #[.agg #[.string ⟨#[107]⟩, .int .i64 3, .int .i64 z, .string (S s), .slice pa M pc], .slice a M c] wx fun e w' =>
      (∃ a k c, e = .returned (.tuple #[.slice a k c, .int .i64 (Plan.wholeE M T z s)]) ∧ RB w' (.slice a k c) (Plan.wholeB M T z s)) ∧ Below wx.heap.size wx w') := fun wx a pa c pc z s hx => pwhole_any [107] s 3 z pa M pc (.slice a M c) T wx hx hM
  have hn5 : n ≤ 512 := by rw [← Hn.out]; exact hdl
  clear h hdl hok hM hjo hjl
  go_enter Try.func6, Try.ntmps6
  go_wp2_with fail
  refine HSh.out.mono ?_
  rintro e w1 ⟨d, rfl, hr1, hb1⟩
  have HD1 := Lib.hid hr1
  have HB1 := Lib.hid hb1
  clear hr1 hb1
  go_wp2_with fail
  refine (HEn.out _ _ HD1.out).mono ?_
  rintro e w2 ⟨⟨pa, pc, lv, sa, sc, rfl, hr2⟩, hb2⟩
  have HD2 := Lib.hid (HD1.out.below hb2 rfl)
  have HB2 := Lib.hid (HB1.out.trans (hb2.mono HB1.out.size))
  have HT2 := Lib.hid hr2
  have HQ : Hid (Blk (w2.alloc (.cells #[.string ⟨#[107]⟩, .int .i64 3, .int .i64 (n : Int), .string (S D), .slice pa M pc] 24)) w2.heap.size (entC [107] 3 n D (.slice pa M pc)).toList 24) := Blk.new w2 _ _ rfl
  have hba : Below w2.heap.size w2 (w2.alloc (.cells #[.string ⟨#[107]⟩, .int .i64 3, .int .i64 (n : Int), .string (S D), .slice pa M pc] 24)) := (Below.refl _ _).alloc (Nat.le_refl _) _
  have HT2a := Lib.hid (HT2.out.below hba rfl)
  have HBa := Lib.hid hba
  clear hr2 hb2 hba
  go_wp2_with fail
  refine (HWh.out _ _ _ _ _ _ _ HT2a.out).mono ?_
  rintro e w3 ⟨⟨a3, n3, c3, rfl, hr3⟩, hb3⟩
  rw [HW0.out.1]
  rw [HW0.out.2] at hr3
  have hba3 := HBa.out.trans (hb3.mono HBa.out.size)
  have HB3 := Lib.hid (HB2.out.trans (hba3.mono HB2.out.size))
  have HD3 := Lib.hid (HD2.out.below hba3 rfl)
  have HT3 := Lib.hid (HT2.out.below hba3 rfl)
  have HQ3 := Lib.hid (HQ.out.below hb3 HQ.out.lt)
  obtain ⟨q0, q1, q2, q3, q4⟩ := ent_cells HQ3.out
  rw [show S [107] = (⟨#[107]⟩ : ByteArray) from rfl] at q0
  have hcv1 := run_convert_S (P := Try.prog) hr3 35 9 5 Try.underlying35 Try.underlying5 Try.underlying9
  have hcv2 := run_convert_S (P := Try.prog) HD3.out 35 9 5 Try.underlying35 Try.underlying5 Try.underlying9
  rw [HE.out] at hcv1 hcv2
  clear hba3 hb3 hr3
  go_wp2_with fail
  have a0 := fun o => (ent_cells (HQ3.out.alloc o)).1
  have a1 := fun o => (ent_cells (HQ3.out.alloc o)).2.1
  have a2 := fun o => (ent_cells (HQ3.out.alloc o)).2.2.1
  have a3' := fun o => (ent_cells (HQ3.out.alloc o)).2.2.2.1
  have a4 := fun o => (ent_cells (HQ3.out.alloc o)).2.2.2.2
  have b0 := fun o o' => (ent_cells ((HQ3.out.alloc o).alloc o')).1
  have b1 := fun o o' => (ent_cells ((HQ3.out.alloc o).alloc o')).2.1
  have b2 := fun o o' => (ent_cells ((HQ3.out.alloc o).alloc o')).2.2.1
  have b3 := fun o o' => (ent_cells ((HQ3.out.alloc o).alloc o')).2.2.2.1
  have b4 := fun o o' => (ent_cells ((HQ3.out.alloc o).alloc o')).2.2.2.2
  rw [show S [107] = (⟨#[107]⟩ : ByteArray) from rfl] at a0 b0
  go_region
  all_goals go_wp2_with fail
  · have HX4 : Hid (Blk ((w3.alloc (.cells #[.string ⟨#[107]⟩, .int .i64 3, .int .i64 (n : Int), .string (S sum), .slice pa M pc] 24)).alloc (.cells #[.string ⟨#[107]⟩, .int .i64 3, .int .i64 size, .string (S D), .slice pa M pc] 24)).drew w3.heap.size (entC [107] 3 n sum (.slice pa M pc)).toList 24) := ((Blk.new w3 _ _ rfl).alloc _).drew
    have HY4 : Hid (Blk ((w3.alloc (.cells #[.string ⟨#[107]⟩, .int .i64 3, .int .i64 (n : Int), .string (S sum), .slice pa M pc] 24)).alloc (.cells #[.string ⟨#[107]⟩, .int .i64 3, .int .i64 size, .string (S D), .slice pa M pc] 24)).drew (w3.heap.size + 1) (entC [107] 3 size D (.slice pa M pc)).toList 24) := (Blk.new _ _ _ (by simp)).drew
    have HZ4 : Hid (Blk ((w3.alloc (.cells #[.string ⟨#[107]⟩, .int .i64 3, .int .i64 (n : Int), .string (S sum), .slice pa M pc] 24)).alloc (.cells #[.string ⟨#[107]⟩, .int .i64 3, .int .i64 size, .string (S D), .slice pa M pc] 24)).drew w2.heap.size (entC [107] 3 n D (.slice pa M pc)).toList 24) := ((HQ3.out.alloc _).alloc _).drew
    have hb4 : Below w3.heap.size w3 ((w3.alloc (.cells #[.string ⟨#[107]⟩, .int .i64 3, .int .i64 (n : Int), .string (S sum), .slice pa M pc] 24)).alloc (.cells #[.string ⟨#[107]⟩, .int .i64 3, .int .i64 size, .string (S D), .slice pa M pc] 24)).drew := (((Below.refl w3.heap.size w3).alloc (Nat.le_refl _) _).alloc (by simp) _).drew
    obtain ⟨W4, HW4⟩ := hid_of ((w3.alloc (.cells #[.string ⟨#[107]⟩, .int .i64 3, .int .i64 (n : Int), .string (S sum), .slice pa M pc] 24)).alloc (.cells #[.string ⟨#[107]⟩, .int .i64 3, .int .i64 size, .string (S D), .slice pa M pc] 24)).drew
    rw [HW4.out] at HX4 HY4 HZ4 hb4
    rw [HW4.out]
    have HB4 := Lib.hid (HB3.out.trans (hb4.mono HB3.out.size))
    have HT4 := Lib.hid (HT3.out.below hb4 rfl)
    have HD4 := Lib.hid (HD3.out.below hb4 rfl)
    clear hb4 a0 a1 a2 a3' a4 b0 b1 b2 b3 b4 q0 q1 q2 q3 q4 hcv1 hcv2
    refine (HWh.out _ _ _ _ _ _ _ HT4.out).mono ?_
    rintro e w5 ⟨⟨a5, n5, c5, rfl, hr5⟩, hb5⟩
    have HB5 := Lib.hid (HB4.out.trans (hb5.mono HB4.out.size))
    have HT5 := Lib.hid (HT4.out.below hb5 rfl)
    have HD5 := Lib.hid (HD4.out.below hb5 rfl)
    have HY5 := Lib.hid (HY4.out.below hb5 HY4.out.lt)
    have HZ5 := Lib.hid (HZ4.out.below hb5 HZ4.out.lt)
    have HR5 := Lib.hid hr5
    obtain ⟨q0, q1, q2, q3, q4⟩ := ent_cells HY5.out
    rw [show S [107] = (⟨#[107]⟩ : ByteArray) from rfl] at q0
    clear hb5 hr5
    go_wp2_with fail
    refine (HWh.out _ _ _ _ _ _ _ HT5.out).mono ?_
    rintro e w6 ⟨⟨a6, n6, c6, rfl, hr6⟩, hb6⟩
    have HB6 := Lib.hid (HB5.out.trans (hb6.mono HB5.out.size))
    have HZ6 := Lib.hid (HZ5.out.below hb6 HZ5.out.lt)
    have HR56 := Lib.hid (HR5.out.below hb6 rfl)
    have HD6 := Lib.hid (HD5.out.below hb6 rfl)
    have HL6 : Hid (n6 = (Plan.wholeB M T size D).length) := by
      obtain ⟨_, _, he, _, _⟩ := hr6.shape
      simp only [Value.slice.injEq] at he
      exact he.2.1
    have HL5 : Hid (n5 = (Plan.wholeB M T n sum).length) := by
      obtain ⟨_, _, he, _, _⟩ := HR5.out.shape
      simp only [Value.slice.injEq] at he
      exact he.2.1
    clear hb6 hr6 q0 q1 q2 q3 q4
    have q3 : w6.cell? ⟨w2.heap.size, 3, none⟩ = some (.string (S D)) := (ent_cells HZ6.out).2.2.2.1
    have hY : (Plan.wholeE M T size D = 0 ∧ (n6 : Int) = size) ∨ (Plan.wholeE M T size D = 9 ∧ n6 = 0) := by
      rcases HWy.out with ⟨h1, h2⟩ | ⟨h1, h2⟩
      · exact .inl ⟨h1, by rw [HL6.out]; exact h2⟩
      · exact .inr ⟨h1, by rw [HL6.out, h2]; rfl⟩
    rcases HWx.out with ⟨rfl, hE, hB⟩ | ⟨hne, hE, hB⟩
    · rw [hE]
      rw [hB] at HR56
      have hcv1 := run_convert_S (P := Try.prog) HR56.out 35 9 5 Try.underlying35 Try.underlying5 Try.underlying9
      have hcv2 := run_convert_S (P := Try.prog) HD6.out 35 9 5 Try.underlying35 Try.underlying5 Try.underlying9
      rw [HE.out] at hcv1 hcv2
      clear hE hB
      rcases hY with ⟨hE, rfl⟩ | ⟨hE, rfl⟩
      · rw [hE]
        clear hE
        go_wp2_with fail
        refine (awake19_any _).mono ?_
        rintro e w7 ⟨rfl, hb7⟩
        have HB7 := Lib.hid (HB6.out.trans (hb7.mono HB6.out.size))
        clear hb7
        go_wp2
        go_ret
        exact ⟨rfl, HB7.out⟩
      · rw [hE]
        clear hE
        go_wp2_with fail
        refine (awake19_any _).mono ?_
        rintro e w7 ⟨rfl, hb7⟩
        have HB7 := Lib.hid (HB6.out.trans (hb7.mono HB6.out.size))
        clear hb7
        go_wp2
        go_ret
        exact ⟨rfl, HB7.out⟩
    · rw [hE]
      have hn5z : n5 = 0 := by rw [HL5.out, hB]; rfl
      subst hn5z
      have hne1 : ((S sum).toList == (S D).toList) = false := by rw [S_beq]; exact decide_eq_false hne
      have hne2 : ¬ (S sum).toList = (S D).toList := by rw [S_eqs]; exact hne
      clear hE hB hne
      rcases hY with ⟨hE, rfl⟩ | ⟨hE, rfl⟩
      · rw [hE]
        clear hE
        go_wp2_with fail
        refine (awake19_any _).mono ?_
        rintro e w7 ⟨rfl, hb7⟩
        have HB7 := Lib.hid (HB6.out.trans (hb7.mono HB6.out.size))
        clear hb7
        go_wp2
        go_ret
        exact ⟨rfl, HB7.out⟩
      · rw [hE]
        clear hE
        go_wp2_with fail
        refine (awake19_any _).mono ?_
        rintro e w7 ⟨rfl, hb7⟩
        have HB7 := Lib.hid (HB6.out.trans (hb7.mono HB6.out.size))
        clear hb7
        go_wp2
        go_ret
        exact ⟨rfl, HB7.out⟩
  · have HX4 : Hid (Blk ((w3.alloc (.cells #[.string ⟨#[107]⟩, .int .i64 3, .int .i64 size, .string (S D), .slice pa M pc] 24)).alloc (.cells #[.string ⟨#[107]⟩, .int .i64 3, .int .i64 (n : Int), .string (S sum), .slice pa M pc] 24)).drew (w3.heap.size + 1) (entC [107] 3 n sum (.slice pa M pc)).toList 24) := (Blk.new _ _ _ (by simp)).drew
    have HY4 : Hid (Blk ((w3.alloc (.cells #[.string ⟨#[107]⟩, .int .i64 3, .int .i64 size, .string (S D), .slice pa M pc] 24)).alloc (.cells #[.string ⟨#[107]⟩, .int .i64 3, .int .i64 (n : Int), .string (S sum), .slice pa M pc] 24)).drew w3.heap.size (entC [107] 3 size D (.slice pa M pc)).toList 24) := ((Blk.new w3 _ _ rfl).alloc _).drew
    have HZ4 : Hid (Blk ((w3.alloc (.cells #[.string ⟨#[107]⟩, .int .i64 3, .int .i64 size, .string (S D), .slice pa M pc] 24)).alloc (.cells #[.string ⟨#[107]⟩, .int .i64 3, .int .i64 (n : Int), .string (S sum), .slice pa M pc] 24)).drew w2.heap.size (entC [107] 3 n D (.slice pa M pc)).toList 24) := ((HQ3.out.alloc _).alloc _).drew
    have hb4 : Below w3.heap.size w3 ((w3.alloc (.cells #[.string ⟨#[107]⟩, .int .i64 3, .int .i64 size, .string (S D), .slice pa M pc] 24)).alloc (.cells #[.string ⟨#[107]⟩, .int .i64 3, .int .i64 (n : Int), .string (S sum), .slice pa M pc] 24)).drew := (((Below.refl w3.heap.size w3).alloc (Nat.le_refl _) _).alloc (by simp) _).drew
    obtain ⟨W4, HW4⟩ := hid_of ((w3.alloc (.cells #[.string ⟨#[107]⟩, .int .i64 3, .int .i64 size, .string (S D), .slice pa M pc] 24)).alloc (.cells #[.string ⟨#[107]⟩, .int .i64 3, .int .i64 (n : Int), .string (S sum), .slice pa M pc] 24)).drew
    rw [HW4.out] at HX4 HY4 HZ4 hb4
    rw [HW4.out]
    have HB4 := Lib.hid (HB3.out.trans (hb4.mono HB3.out.size))
    have HT4 := Lib.hid (HT3.out.below hb4 rfl)
    have HD4 := Lib.hid (HD3.out.below hb4 rfl)
    clear hb4 a0 a1 a2 a3' a4 b0 b1 b2 b3 b4 q0 q1 q2 q3 q4 hcv1 hcv2
    refine (HWh.out _ _ _ _ _ _ _ HT4.out).mono ?_
    rintro e w5 ⟨⟨a5, n5, c5, rfl, hr5⟩, hb5⟩
    have HB5 := Lib.hid (HB4.out.trans (hb5.mono HB4.out.size))
    have HT5 := Lib.hid (HT4.out.below hb5 rfl)
    have HD5 := Lib.hid (HD4.out.below hb5 rfl)
    have HY5 := Lib.hid (HY4.out.below hb5 HY4.out.lt)
    have HZ5 := Lib.hid (HZ4.out.below hb5 HZ4.out.lt)
    have HR5 := Lib.hid hr5
    obtain ⟨q0, q1, q2, q3, q4⟩ := ent_cells HY5.out
    rw [show S [107] = (⟨#[107]⟩ : ByteArray) from rfl] at q0
    clear hb5 hr5
    go_wp2_with fail
    refine (HWh.out _ _ _ _ _ _ _ HT5.out).mono ?_
    rintro e w6 ⟨⟨a6, n6, c6, rfl, hr6⟩, hb6⟩
    have HB6 := Lib.hid (HB5.out.trans (hb6.mono HB5.out.size))
    have HZ6 := Lib.hid (HZ5.out.below hb6 HZ5.out.lt)
    have HR56 := Lib.hid (HR5.out.below hb6 rfl)
    have HD6 := Lib.hid (HD5.out.below hb6 rfl)
    have HL6 : Hid (n6 = (Plan.wholeB M T size D).length) := by
      obtain ⟨_, _, he, _, _⟩ := hr6.shape
      simp only [Value.slice.injEq] at he
      exact he.2.1
    have HL5 : Hid (n5 = (Plan.wholeB M T n sum).length) := by
      obtain ⟨_, _, he, _, _⟩ := HR5.out.shape
      simp only [Value.slice.injEq] at he
      exact he.2.1
    clear hb6 hr6 q0 q1 q2 q3 q4
    have q3 : w6.cell? ⟨w2.heap.size, 3, none⟩ = some (.string (S D)) := (ent_cells HZ6.out).2.2.2.1
    have hY : (Plan.wholeE M T size D = 0 ∧ (n6 : Int) = size) ∨ (Plan.wholeE M T size D = 9 ∧ n6 = 0) := by
      rcases HWy.out with ⟨h1, h2⟩ | ⟨h1, h2⟩
      · exact .inl ⟨h1, by rw [HL6.out]; exact h2⟩
      · exact .inr ⟨h1, by rw [HL6.out, h2]; rfl⟩
    rcases HWx.out with ⟨rfl, hE, hB⟩ | ⟨hne, hE, hB⟩
    · rw [hE]
      rw [hB] at HR56
      have hcv1 := run_convert_S (P := Try.prog) HR56.out 35 9 5 Try.underlying35 Try.underlying5 Try.underlying9
      have hcv2 := run_convert_S (P := Try.prog) HD6.out 35 9 5 Try.underlying35 Try.underlying5 Try.underlying9
      rw [HE.out] at hcv1 hcv2
      clear hE hB
      rcases hY with ⟨hE, rfl⟩ | ⟨hE, rfl⟩
      · rw [hE]
        clear hE
        go_wp2_with fail
        refine (awake19_any _).mono ?_
        rintro e w7 ⟨rfl, hb7⟩
        have HB7 := Lib.hid (HB6.out.trans (hb7.mono HB6.out.size))
        clear hb7
        go_wp2
        go_ret
        exact ⟨rfl, HB7.out⟩
      · rw [hE]
        clear hE
        go_wp2_with fail
        refine (awake19_any _).mono ?_
        rintro e w7 ⟨rfl, hb7⟩
        have HB7 := Lib.hid (HB6.out.trans (hb7.mono HB6.out.size))
        clear hb7
        go_wp2
        go_ret
        exact ⟨rfl, HB7.out⟩
    · rw [hE]
      have hn5z : n5 = 0 := by rw [HL5.out, hB]; rfl
      subst hn5z
      have hne1 : ((S sum).toList == (S D).toList) = false := by rw [S_beq]; exact decide_eq_false hne
      have hne2 : ¬ (S sum).toList = (S D).toList := by rw [S_eqs]; exact hne
      clear hE hB hne
      rcases hY with ⟨hE, rfl⟩ | ⟨hE, rfl⟩
      · rw [hE]
        clear hE
        go_wp2_with fail
        refine (awake19_any _).mono ?_
        rintro e w7 ⟨rfl, hb7⟩
        have HB7 := Lib.hid (HB6.out.trans (hb7.mono HB6.out.size))
        clear hb7
        go_wp2
        go_ret
        exact ⟨rfl, HB7.out⟩
      · rw [hE]
        clear hE
        go_wp2_with fail
        refine (awake19_any _).mono ?_
        rintro e w7 ⟨rfl, hb7⟩
        have HB7 := Lib.hid (HB6.out.trans (hb7.mono HB6.out.size))
        clear hb7
        go_wp2
        go_ret
        exact ⟨rfl, HB7.out⟩
theorem planWrong_walk (v : Value) (l : List UInt8) (size : Int) (sum : ByteArray) (w : World) (h : RB w v l) (hl : l.length ≤ 140737488351232) (hw : (Lit.int .i64 size).wf = true) (hs : sum.size ≤ 140737488351232) :
    Calls Try.prog 6 #[v, .int .i64 size, .string sum] w fun e w' => e = .returned (.bool true) ∧ Below w.heap.size w w' := by
  rw [S_of sum]
  exact planWrong_core v l size sum.data.toList w h
end Go.Proofs.Ytepedabpnchajaa
