/-
  kistlaw02.awake: a fixed fact.
-/
import Derived.Test.YtdcjcbfnniimpaaMatInvert
import Derived.Test.YtdcjcbfnniimpaaMatCode
namespace Go.Proofs.Ytdcjcbfnniimpaa
open Go.RowKit
set_option linter.unusedVariables false
set_option linter.unusedSimpArgs false

theorem alloc_top {w : World} {o : Obj} {i : Nat} (h : i = w.heap.size) : (w.alloc o).heap[i]? = some o := by
  subst h
  exact heap_alloc_new w o
theorem alloc_low {w : World} {o : Obj} {i : Nat} (h : i < w.heap.size) : (w.alloc o).heap[i]? = w.heap[i]? := Below.heap_alloc w o i h
theorem RB.blk {w : World} {p : Nat} {t : TypeId} {cs : Array Value} (h : w.heap[p]? = some (.cells cs t (0, 0))) (l : List UInt8) (hc : cs = (Bs l).toArray) (hm : l.length ≤ maxLen) {n : Nat} (hn : n = l.length) : RB w (.slice (some ⟨p, 0, none⟩) n n) l := by
  subst hn
  subst hc
  refine ⟨some ⟨p, 0, none⟩, l.length, rfl, Nat.le_refl _, hm, fun h => (by cases h), .inr ⟨p, 0, rfl, fun i hi => ?_⟩⟩
  rw [cell_of_row w p (0 + i) _ t (0, 0) h, Nat.zero_add]
  simp [Bs, hi, B]
theorem RT.blk {w : World} {g : Nat} {t : TypeId} {cs : Array Value} (h : w.heap[g]? = some (.cells cs t (0, 0))) (rows : List (List UInt8)) {n : Nat} (hn : n = rows.length) (hm : n ≤ maxLen) (hc : ∀ i, i < rows.length → ∃ u, cs[i]? = some u ∧ RB w u (rows.getD i [])) : RT w (.slice (some ⟨g, 0, none⟩) n n) rows := by
  refine RT.of hn (Nat.le_refl _) hm fun i hi => ?_
  obtain ⟨u, hu, hr⟩ := hc i hi
  exact ⟨u, by rw [cell_of_row w g (0 + i) cs t (0, 0) h, Nat.zero_add]; exact hu, hr⟩
theorem awake_times : timesT [[1, 2]] [[3], [4]] = [[11]] := by decide +kernel
theorem awake_code : codeT 2 3 = [[1, 0], [0, 1], [142, 244]] := by decide +kernel
theorem awake_two (X : Fm) (h : Both 1 (At [[2]]) X) : tab 1 1 X = [[142]] := by
  have h1 := h.1 0 0 (by omega) (by omega)
  have h2 : mul (X 0 0) 2 = 1 := by simpa [pr, sm, At, idm, zxor] using h1
  have h3 : X 0 0 = quo 1 2 := quo_only (by decide) h2
  have h4 : quo 1 2 = 142 := by decide +kernel
  simp [tab, line, h3, h4]
theorem awake_ones : ¬ Inj 2 (At [[1, 1], [1, 1]]) := by
  intro h
  have := h (fun _ => 1) (fun i hi => by
    have : i = 0 ∨ i = 1 := by omega
    rcases this with rfl | rfl <;> decide +kernel) 0 (by omega)
  exact absurd this (by decide)
theorem awake_inj2 : Inj 1 (At [[2]]) := by
  intro v hv j hj
  have : j = 0 := by omega
  subst this
  have h := hv 0 (by omega)
  have h2 : mul 2 (v 0) = 0 := by simpa [ap, sm, At, zxor] using h
  rcases mul_eq_zero h2 with h | h
  · exact absurd h (by decide)
  · exact h
set_option maxRecDepth 100000 in
set_option maxHeartbeats 4000000 in
theorem awake_any (w : World) : Calls Try.prog 11 #[] w fun e w' => e = .returned (.bool true) ∧ Below w.heap.size w w' := by
  go_enter Try.func11, Try.ntmps11
  go_wp2_with fail
  refine (times_yes _ _ [[1, 2]] [[3], [4]] _ ?_ ?_ (by decide) (by decide) (by decide)).mono ?_
  · refine RT.blk (t := 29) (cs := #[.slice (some ⟨w.heap.size, 0, none⟩) 2 2]) (by repeat (first | refine (alloc_low (by simp only [World.size_alloc]; omega)).trans ?_ | exact alloc_top (by simp))) [[1, 2]] rfl (by simp [maxLen]) (fun i hi => ?_)
    have h : i = 0 := by simp at hi; omega
    subst h
    exact ⟨_, rfl, RB.blk (t := 5) (cs := #[.int .u8 1, .int .u8 2]) (by repeat (first | refine (alloc_low (by simp only [World.size_alloc]; omega)).trans ?_ | exact alloc_top (by simp))) [1, 2] rfl (by simp [maxLen]) rfl⟩
  · refine RT.blk (t := 29) (cs := #[.slice (some ⟨w.heap.size + 1 + 1, 0, none⟩) 1 1, .slice (some ⟨w.heap.size + 1 + 1 + 1, 0, none⟩) 1 1]) (by repeat (first | refine (alloc_low (by simp only [World.size_alloc]; omega)).trans ?_ | exact alloc_top (by simp))) [[3], [4]] rfl (by simp [maxLen]) (fun i hi => ?_)
    have h : i = 0 ∨ i = 1 := by simp at hi; omega
    rcases h with rfl | rfl
    · exact ⟨_, rfl, RB.blk (t := 5) (cs := #[.int .u8 3]) (by repeat (first | refine (alloc_low (by simp only [World.size_alloc]; omega)).trans ?_ | exact alloc_top (by simp))) [3] rfl (by simp [maxLen]) rfl⟩
    · exact ⟨_, rfl, RB.blk (t := 5) (cs := #[.int .u8 4]) (by repeat (first | refine (alloc_low (by simp only [World.size_alloc]; omega)).trans ?_ | exact alloc_top (by simp))) [4] rfl (by simp [maxLen]) rfl⟩
  rintro e w1 ⟨v1, rfl, hr1, hb1⟩
  rw [awake_times] at hr1
  have HB1 : Hid (Below w.heap.size w w1) := (((((((Below.refl w.heap.size w).alloc (Nat.le_refl _) _).alloc (by simp) _).alloc (by simp; omega) _).alloc (by simp; omega) _).alloc (by simp; omega) _)).trans (hb1.mono (by simp; omega))
  have HR1 := Lib.hid hr1
  obtain ⟨a1, c1, rfl, _, _⟩ := hr1.shape
  clear hr1 hb1
  go_wp2_with fail
  refine (inv_sq _ [[2]] _ ?_ (by decide) (by decide)).mono ?_
  · refine RT.blk (t := 29) (cs := #[.slice (some ⟨w1.heap.size, 0, none⟩) 1 1]) (by repeat (first | refine (alloc_low (by simp only [World.size_alloc]; omega)).trans ?_ | exact alloc_top (by simp))) [[2]] rfl (by simp [maxLen]) (fun i hi => ?_)
    have h : i = 0 := by simp at hi; omega
    subst h
    exact ⟨_, rfl, RB.blk (t := 5) (cs := #[.int .u8 2]) (by repeat (first | refine (alloc_low (by simp only [World.size_alloc]; omega)).trans ?_ | exact alloc_top (by simp))) [2] rfl (by simp [maxLen]) rfl⟩
  rintro e w2 ⟨hok, hb2⟩
  rcases hok with ⟨v2, X, rfl, hr2, hboth⟩ | ⟨rfl, hni⟩
  case inr => exact absurd awake_inj2 hni
  rw [show ([[2]] : List (List UInt8)).length = 1 from rfl] at hr2 hboth
  rw [awake_two X hboth] at hr2
  have hb2' : Below w1.heap.size w1 w2 := (((Below.refl w1.heap.size w1).alloc (Nat.le_refl _) _).alloc (by simp) _).trans (hb2.mono (by simp; omega))
  have HB2 : Hid (Below w.heap.size w w2) := HB1.out.trans (hb2'.mono HB1.out.size)
  have HR1' := Lib.hid (HR1.out.below hb2' rfl)
  have HR2 := Lib.hid hr2
  obtain ⟨a2, c2, rfl, _, _⟩ := hr2.shape
  clear hr2 hb2 hb2' hboth HR1
  go_wp2_with fail
  refine (inv_sq _ [[1, 1], [1, 1]] _ ?_ (by decide) (by decide)).mono ?_
  · refine RT.blk (t := 29) (cs := #[.slice (some ⟨w2.heap.size, 0, none⟩) 2 2, .slice (some ⟨w2.heap.size + 1, 0, none⟩) 2 2]) (by repeat (first | refine (alloc_low (by simp only [World.size_alloc]; omega)).trans ?_ | exact alloc_top (by simp))) [[1, 1], [1, 1]] rfl (by simp [maxLen]) (fun i hi => ?_)
    have h : i = 0 ∨ i = 1 := by simp at hi; omega
    rcases h with rfl | rfl
    · exact ⟨_, rfl, RB.blk (t := 5) (cs := #[.int .u8 1, .int .u8 1]) (by repeat (first | refine (alloc_low (by simp only [World.size_alloc]; omega)).trans ?_ | exact alloc_top (by simp))) [1, 1] rfl (by simp [maxLen]) rfl⟩
    · exact ⟨_, rfl, RB.blk (t := 5) (cs := #[.int .u8 1, .int .u8 1]) (by repeat (first | refine (alloc_low (by simp only [World.size_alloc]; omega)).trans ?_ | exact alloc_top (by simp))) [1, 1] rfl (by simp [maxLen]) rfl⟩
  rintro e w3 ⟨hok, hb3⟩
  rcases hok with ⟨v3, X3, rfl, hr3, hboth⟩ | ⟨rfl, hni⟩
  case inl => exact absurd (inj_of_left hboth.1) awake_ones
  have hb3' : Below w2.heap.size w2 w3 := ((((Below.refl w2.heap.size w2).alloc (Nat.le_refl _) _).alloc (by simp) _).alloc (by simp; omega) _).trans (hb3.mono (by simp; omega))
  have HB3 : Hid (Below w.heap.size w w3) := HB2.out.trans (hb3'.mono HB2.out.size)
  have HR1 := Lib.hid (HR1'.out.below hb3' rfl)
  have HR2' := Lib.hid (HR2.out.below hb3' rfl)
  clear hb3 hb3' hni HR1' HR2
  go_wp2_with fail
  refine (same_any _ [[11]] _ [[11]] _ (HR1.out.below (((Below.refl w3.heap.size w3).alloc (Nat.le_refl _) _).alloc (by simp) _) rfl) ?_).mono ?_
  · refine RT.blk (t := 29) (cs := #[.slice (some ⟨w3.heap.size, 0, none⟩) 1 1]) (by repeat (first | refine (alloc_low (by simp only [World.size_alloc]; omega)).trans ?_ | exact alloc_top (by simp))) [[11]] rfl (by simp [maxLen]) (fun i hi => ?_)
    have h : i = 0 := by simp at hi; omega
    subst h
    exact ⟨_, rfl, RB.blk (t := 5) (cs := #[.int .u8 11]) (by repeat (first | refine (alloc_low (by simp only [World.size_alloc]; omega)).trans ?_ | exact alloc_top (by simp))) [11] rfl (by simp [maxLen]) rfl⟩
  rintro e w4 ⟨rfl, d4, rfl⟩
  have hb4 : Below w3.heap.size w3 (((w3.alloc (.cells #[.int .u8 11] 5)).alloc (.cells #[.slice (some ⟨w3.heap.size, 0, none⟩) 1 1] 29)).drewN d4) := Below.drewN2 (((Below.refl w3.heap.size w3).alloc (Nat.le_refl _) _).alloc (by simp) _) d4
  have HB4 := Lib.hid (HB3.out.trans (hb4.mono HB3.out.size))
  have HR2 := Lib.hid (HR2'.out.below hb4 rfl)
  obtain ⟨w4, Hw4⟩ := hid_of (((w3.alloc (.cells #[.int .u8 11] 5)).alloc (.cells #[.slice (some ⟨w3.heap.size, 0, none⟩) 1 1] 29)).drewN d4)
  rw [Hw4.out] at HB4 HR2 ⊢
  rw [show decide (([[11]] : List (List UInt8)) = [[11]]) = true from rfl]
  clear hb4 Hw4 HR2' HR1
  go_wp2_with fail
  refine (same_any _ [[142]] _ [[142]] _ (HR2.out.below (((Below.refl w4.heap.size w4).alloc (Nat.le_refl _) _).alloc (by simp) _) rfl) ?_).mono ?_
  · refine RT.blk (t := 29) (cs := #[.slice (some ⟨w4.heap.size, 0, none⟩) 1 1]) (by repeat (first | refine (alloc_low (by simp only [World.size_alloc]; omega)).trans ?_ | exact alloc_top (by simp))) [[142]] rfl (by simp [maxLen]) (fun i hi => ?_)
    have h : i = 0 := by simp at hi; omega
    subst h
    exact ⟨_, rfl, RB.blk (t := 5) (cs := #[.int .u8 142]) (by repeat (first | refine (alloc_low (by simp only [World.size_alloc]; omega)).trans ?_ | exact alloc_top (by simp))) [142] rfl (by simp [maxLen]) rfl⟩
  rintro e w6 ⟨rfl, d5, rfl⟩
  have hb5 : Below w4.heap.size w4 (((w4.alloc (.cells #[.int .u8 142] 5)).alloc (.cells #[.slice (some ⟨w4.heap.size, 0, none⟩) 1 1] 29)).drewN d5) := Below.drewN2 (((Below.refl w4.heap.size w4).alloc (Nat.le_refl _) _).alloc (by simp) _) d5
  have HB5 := Lib.hid (HB4.out.trans (hb5.mono HB4.out.size))
  obtain ⟨w5, Hw5⟩ := hid_of (((w4.alloc (.cells #[.int .u8 142] 5)).alloc (.cells #[.slice (some ⟨w4.heap.size, 0, none⟩) 1 1] 29)).drewN d5)
  rw [Hw5.out] at HB5 ⊢
  rw [show decide (([[142]] : List (List UInt8)) = [[142]]) = true from rfl]
  clear hb5 Hw5 HR2
  go_wp2_with fail
  refine (code_yes 2 3 _ (by omega) (by omega) (by omega)).mono ?_
  rintro e w7 ⟨v7, rfl, hr7, hb7⟩
  rw [awake_code] at hr7
  have HR7 := Lib.hid hr7
  have HB7 := Lib.hid (HB5.out.trans (hb7.mono HB5.out.size))
  obtain ⟨a7, c7, rfl, _, _⟩ := hr7.shape
  clear hr7 hb7 HB5
  obtain ⟨w5, Hw5⟩ := hid_of w7
  rw [Hw5.out] at HR7 HB7 ⊢
  clear Hw5
  go_wp2_with fail
  refine (same_any _ [[1, 0], [0, 1], [142, 244]] _ [[1, 0], [0, 1], [142, 244]] _ (HR7.out.below ((((Below.refl w5.heap.size w5).alloc (Nat.le_refl _) _).alloc (by simp) _).alloc (by simp; omega) _ |>.alloc (by simp; omega) _) rfl) ?_).mono ?_
  · refine RT.blk (t := 29) (cs := #[.slice (some ⟨w5.heap.size, 0, none⟩) 2 2, .slice (some ⟨w5.heap.size + 1, 0, none⟩) 2 2, .slice (some ⟨w5.heap.size + 1 + 1, 0, none⟩) 2 2]) (by repeat (first | refine (alloc_low (by simp only [World.size_alloc]; omega)).trans ?_ | exact alloc_top (by simp))) [[1, 0], [0, 1], [142, 244]] rfl (by simp [maxLen]) (fun i hi => ?_)
    have h : i = 0 ∨ i = 1 ∨ i = 2 := by simp at hi; omega
    rcases h with rfl | rfl | rfl
    · exact ⟨_, rfl, RB.blk (t := 5) (cs := #[.int .u8 1, .int .u8 0]) (by repeat (first | refine (alloc_low (by simp only [World.size_alloc]; omega)).trans ?_ | exact alloc_top (by simp))) [1, 0] rfl (by simp [maxLen]) rfl⟩
    · exact ⟨_, rfl, RB.blk (t := 5) (cs := #[.int .u8 0, .int .u8 1]) (by repeat (first | refine (alloc_low (by simp only [World.size_alloc]; omega)).trans ?_ | exact alloc_top (by simp))) [0, 1] rfl (by simp [maxLen]) rfl⟩
    · exact ⟨_, rfl, RB.blk (t := 5) (cs := #[.int .u8 142, .int .u8 244]) (by repeat (first | refine (alloc_low (by simp only [World.size_alloc]; omega)).trans ?_ | exact alloc_top (by simp))) [142, 244] rfl (by simp [maxLen]) rfl⟩
  rintro e w8 ⟨rfl, d8, rfl⟩
  have HB8 : Hid (Below w.heap.size w ((((((w5.alloc (.cells #[.int .u8 1, .int .u8 0] 5)).alloc (.cells #[.int .u8 0, .int .u8 1] 5)).alloc (.cells #[.int .u8 142, .int .u8 244] 5)).alloc (.cells #[.slice (some ⟨w5.heap.size, 0, none⟩) 2 2, .slice (some ⟨w5.heap.size + 1, 0, none⟩) 2 2, .slice (some ⟨w5.heap.size + 1 + 1, 0, none⟩) 2 2] 29))).drewN d8)) := HB7.out.trans ((Below.drewN2 (((((Below.refl w5.heap.size w5).alloc (Nat.le_refl _) _).alloc (by simp) _).alloc (by simp; omega) _).alloc (by simp; omega) _) d8).mono HB7.out.size)
  rw [show decide (([[1, 0], [0, 1], [142, 244]] : List (List UInt8)) = [[1, 0], [0, 1], [142, 244]]) = true from rfl]
  go_wp2
  go_ret
  exact ⟨rfl, HB8.out⟩
end Go.Proofs.Ytdcjcbfnniimpaa
