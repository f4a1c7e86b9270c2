/-
  kistlaw19: short, slots, awake.
-/
import Derived.Test.YtepedabpnchajaaRefPlanFirst
import Derived.Test.YtepedabpnchajaaPlanGood
import Derived.Test.YtepedabpnchajaaRefPlanWhole

namespace Go.Proofs.Ytepedabpnchajaa
open Go.RowKit
set_option linter.unusedVariables false
set_option linter.unusedSimpArgs false

/-- an entry's cells -/
def entC (k : List UInt8) (g z : Int) (s : List UInt8) (p : Value) : Array Value := #[.string (S k), .int .i64 g, .int .i64 z, .string (S s), p]
theorem ent_cells {w : World} {p : Nat} {k s : List UInt8} {g z : Int} {v : Value} {t : TypeId} (h : Blk w p (entC k g z s v).toList t) :
    w.cell? ⟨p, 0, none⟩ = some (.string (S k)) ∧ w.cell? ⟨p, 1, none⟩ = some (.int .i64 g) ∧ w.cell? ⟨p, 2, none⟩ = some (.int .i64 z) ∧ w.cell? ⟨p, 3, none⟩ = some (.string (S s)) ∧ w.cell? ⟨p, 4, none⟩ = some v :=
  ⟨h.cell 0 (by simp [entC]), h.cell 1 (by simp [entC]), h.cell 2 (by simp [entC]), h.cell 3 (by simp [entC]), h.cell 4 (by simp [entC])⟩
set_option maxRecDepth 100000 in
set_option maxHeartbeats 1000000 in
theorem slots_any (k s : List UInt8) (g z : Int) (pa : Option Addr) (n pc : Nat) (w : World) (h1 : n ≤ pc) (h2 : pc ≤ maxLen) :
    Calls Try.prog 9 #[.agg #[.string (S k), .int .i64 g, .int .i64 z, .string (S s), .slice pa n pc]] w fun e w' =>
      (∃ m, m ≤ 60 ∧ m ≤ pc ∧ e = .returned (.agg #[.string (S k), .int .i64 g, .int .i64 z, .string (S s), .slice pa m pc])) ∧ Below w.heap.size w w' := by
  simp only [maxLen] at h2
  by_cases h60 : n > 60
  · have h60' : (n : Int) > 60 := by omega
    go_enter Try.func9, Try.ntmps9
    go_wp2
    refine bodyPost_ret (results_cell_row rfl _ _ (w.heap.size + 1) 24 (entC k g z s (.slice pa 60 pc)) (0, 0) _ rfl ?hg Try.underlying24 rfl (by kernel_rfl)) rfl ?_
    case hg => exact alloc_top (by simp)
    exact ⟨⟨60, by omega, by omega, rfl⟩, ((Below.refl _ _).alloc (Nat.le_refl _) _).alloc (by simp) _⟩
  · have h60' : ¬ (n : Int) > 60 := by omega
    go_enter Try.func9, Try.ntmps9
    go_wp2
    refine bodyPost_ret (results_cell_row rfl _ _ (w.heap.size + 1) 24 (entC k g z s (.slice pa n pc)) (0, 0) _ rfl ?hg Try.underlying24 rfl (by kernel_rfl)) rfl ?_
    case hg => exact alloc_top (by simp)
    exact ⟨⟨n, by omega, by omega, rfl⟩, ((Below.refl _ _).alloc (Nat.le_refl _) _).alloc (by simp) _⟩
set_option maxHeartbeats 400000 in
theorem short_any (v : Value) (l : List UInt8) (most : Nat) (w : World) (h : RB w v l) (hm : most ≤ 2000) :
    Calls Try.prog 17 #[v, .int .i64 most] w (Makes 5 w (l.take most)) := by
  obtain ⟨a, cap, rfl, h1, h2⟩ := h.shape
  have hcap := h2
  simp only [maxLen] at hcap
  by_cases hlt : most < l.length
  · have hs := h.sliced 0 most (Nat.zero_le _) (by omega)
    have H : Hid (RB w (.slice a most cap) (l.take most)) := by
      have : sliced a 0 most cap 1 = .slice a most cap := by simp [sliced, Addr.add]
      rw [this] at hs
      exact hs
    clear h hs
    go_enter Try.func17, Try.ntmps17
    go_wp2_with (at_builtin; go_must (refine wpList_append_bytes _ rfl _ _ 35 35 rfl w.heap.size 5 5 Try.underlying35 Try.underlying35 infoByte _ [] 0 rfl (own_empty w (Nat.le_refl _) rfl) (.slice a most cap) (l.take most) rfl ?c1 ?c2 ?c3 ?_; rotate_left 3; intro v' w1 hown hb _))
    case c1 => exact H.out.below ((Below.refl _ _).alloc (Nat.le_refl _) _) rfl
    case c2 => simp; omega
    case c3 => simp
    rw [List.nil_append] at hown
    go_wp2
    go_ret
    exact ⟨v', rfl, hown, ((Below.refl _ _).alloc (Nat.le_refl _) _).trans hb⟩
  · have H := Lib.hid h
    have H2 := Lib.hid (List.take_of_length_le (show l.length ≤ most by omega))
    clear h
    go_enter Try.func17, Try.ntmps17
    go_wp2_with (at_builtin; go_must (refine wpList_append_bytes _ rfl _ _ 35 35 rfl w.heap.size 5 5 Try.underlying35 Try.underlying35 infoByte _ [] 0 rfl (own_empty w (Nat.le_refl _) rfl) (.slice a l.length cap) l rfl ?c1 ?c2 ?c3 ?_; rotate_left 3; intro v' w1 hown hb _))
    case c1 => exact H.out.below ((Below.refl _ _).alloc (Nat.le_refl _) _) rfl
    case c2 => simp; omega
    case c3 => simp
    rw [List.nil_append] at hown
    go_wp2
    go_ret
    exact ⟨v', rfl, by rw [H2.out]; exact hown, ((Below.refl _ _).alloc (Nat.le_refl _) _).trans hb⟩
def b3f : List Bool := [false, false, true]
def b3t : List Bool := [true, true, true]
def b10 : List Bool := [true, true, true, true, true, true, true, true, false, true]
theorem aw_1 : ¬ Plan.Few b3f 1 ∧ Plan.firsts b3f 1 = [0, 1, 3, 4, 5, 6, 7, 8] := by
  refine ⟨Plan.few_no (fun g hg => ?_), by decide⟩
  obtain rfl : g = 0 := by omega
  decide
theorem aw_2 : Plan.Few b3t 1 := ⟨0, by omega, by decide⟩
theorem aw_3 : Plan.moreR 10 b10 5 = (8, true) := Plan.more_yes (k := 8) (by omega) (by omega) (by decide) (by decide) (by decide)
theorem aw_4 : Plan.wholeE 10 [] 0 [] = 1 ∧ Plan.wholeB 10 [] 0 [] = [] := by
  have h : Plan.wholeE 10 [] 0 [] = 1 := Plan.whole_arg (.inl (by decide))
  exact ⟨h, Plan.wholeB_no (by rw [h]; decide)⟩
theorem RF.lit {w : World} (l : List Bool) {cs : Array Value} {t : TypeId} (hcs : cs = (l.map Value.bool).toArray) (hm : l.length ≤ maxLen) {n g : Nat} (hn : n = l.length) (hg : g = w.heap.size) : RF (w.alloc (.cells cs t)) (.slice (some ⟨g, 0, none⟩) n n) l := by
  subst hcs hn hg
  refine ⟨_, _, rfl, Nat.le_refl _, hm, fun h => (by cases h), .inr ⟨w.heap.size, 0, rfl, fun i hi => ⟨[.bool l[i]], rfl, fun j hj => ?_, rfl⟩⟩⟩
  obtain rfl : j = 0 := by simpa using hj
  rw [cell_of_row _ _ _ _ _ _ (heap_alloc_new w _)]
  simp [hi]
theorem infoPlace : (Try.prog.info? 66).map (fun i => (i.zero, i.size, i.bytes)) = some (some (.agg #[.int .i64 0, .int .i64 0]), 2, 16) := by kernel_rfl
theorem make_places (q : Nat) (hq : q ≤ 1000000) (wx : World) : (Instr.makeSlice 22 (.int .i64 (q : Int)) (.int .i64 (q : Int))).run Try.prog wx = .ok (.slice (some ⟨wx.heap.size, 0, none⟩) q q) (wx.alloc (.cells (madeCells #[.int .i64 0, .int .i64 0] (q * 2)) 66)) := by
  obtain ⟨i0, hi, hz0, hz1, hz2⟩ := info_parts infoPlace
  have := run_make (P := Try.prog) wx 22 66 i0 _ Try.underlying22 hi hz0 .i64 .i64 (q : Int) (q : Int) (by omega) (by omega) (by rw [hz2]; omega) (by omega)
  simpa [Value.cells, hz1] using this
set_option maxRecDepth 100000 in
set_option maxHeartbeats 4000000 in
theorem awake19_any (w : World) : Calls Try.prog 14 #[] w fun e w' => e = .returned (.bool true) ∧ Below w.heap.size w w' := by
  have hmk := make_places 10 (by omega) w
  rw [show ((10 : Nat) : Int) = 10 from rfl] at hmk
  have HF1 : Hid (∀ wx a c v, RF wx v b3f → Calls Try.prog 10 #[.agg #[.string ⟨#[]⟩, .int .i64 0, .int .i64 0, .string ⟨#[]⟩, .slice a 10 c], v] wx fun e w' => (∃ g c, e = .returned (.tuple #[.slice (some ⟨g, 0, none⟩) 8 c, .bool true]) ∧ w'.cell? ⟨g, 2, none⟩ = some (.int .i64 3) ∧ w'.cell? ⟨g, 7, none⟩ = some (.int .i64 8)) ∧ Below wx.heap.size wx w') := fun wx a c v hx => (first_any ⟨#[]⟩ ⟨#[]⟩ 0 0 a 10 c v b3f wx hx (by omega)).mono fun e w' ⟨h, hb⟩ => by
    refine ⟨?_, hb⟩
    rcases h with ⟨h, -⟩ | ⟨-, v', h1, h2⟩
    · exact absurd h aw_1.1
    · rw [show (10 : Nat) / 10 = 1 from rfl, aw_1.2] at h2
      obtain ⟨a', c', rfl, -, -⟩ := h2.shape
      obtain ⟨g, rfl, -, -, hc⟩ := OI.at h2 (by decide)
      exact ⟨g, c', h1, hc 2 (by decide), hc 7 (by decide)⟩
  have HF2 : Hid (∀ wx a c v, RF wx v b3t → Calls Try.prog 10 #[.agg #[.string ⟨#[]⟩, .int .i64 0, .int .i64 0, .string ⟨#[]⟩, .slice a 10 c], v] wx fun e w' => e = .returned (.tuple #[.slice none 0 0, .bool false]) ∧ Below wx.heap.size wx w') := fun wx a c v hx => (first_any ⟨#[]⟩ ⟨#[]⟩ 0 0 a 10 c v b3t wx hx (by omega)).mono fun e w' ⟨h, hb⟩ => by
    refine ⟨?_, hb⟩
    rcases h with ⟨-, h⟩ | ⟨h, -⟩
    · exact h
    · exact absurd aw_2 h
  have HMo : Hid (∀ wx a c v, RF wx v b10 → Calls Try.prog 12 #[.agg #[.string ⟨#[]⟩, .int .i64 0, .int .i64 0, .string ⟨#[]⟩, .slice a 10 c], v, .int .i64 5] wx fun e w' => e = .returned (.tuple #[.int .i64 8, .bool true]) ∧ Below wx.heap.size wx w') := fun wx a c v hx => by
    have := more_any ⟨#[]⟩ ⟨#[]⟩ 0 0 a 10 c v b10 5 wx hx (by omega)
    rw [aw_3] at this
    exact this
  have HWh : Hid (∀ wx a c, Calls Try.prog 15 #[.agg #[.string ⟨#[]⟩, .int .i64 0, .int .i64 0, .string ⟨#[]⟩, .slice a 10 c], .slice none 0 0] wx fun e w' => (∃ a k c, e = .returned (.tuple #[.slice a k c, .int .i64 1])) ∧ Below wx.heap.size wx w') := fun wx a c => (pwhole_any [] [] 0 0 a 10 c (.slice none 0 0) [] wx (RT.nil wx) (by omega)).mono fun e w' ⟨⟨a, k, c, h1, _⟩, hb⟩ => by
    rw [aw_4.1] at h1
    exact ⟨⟨a, k, c, h1⟩, hb⟩
  go_enter Try.func14, Try.ntmps14
  have HP0 : Hid (Blk ((w.alloc (.cells (madeCells #[.int .i64 0, .int .i64 0] (10 * 2)) 66)).alloc (.cells #[.string ⟨#[]⟩, .int .i64 0, .int .i64 0, .string ⟨#[]⟩, .slice (some ⟨w.heap.size, 0, none⟩) 10 10] 24)) (w.heap.size + 1) (entC [] 0 0 [] (.slice (some ⟨w.heap.size, 0, none⟩) 10 10)).toList 24) := Blk.new _ _ _ (by simp)
  obtain ⟨W1, HW1⟩ := hid_of ((w.alloc (.cells (madeCells #[.int .i64 0, .int .i64 0] (10 * 2)) 66)).alloc (.cells #[.string ⟨#[]⟩, .int .i64 0, .int .i64 0, .string ⟨#[]⟩, .slice (some ⟨w.heap.size, 0, none⟩) 10 10] 24))
  have HBW1 : Hid (Below w.heap.size w W1) := by rw [← HW1.out]; exact ((Below.refl _ _).alloc (Nat.le_refl _) _).alloc (by simp) _
  have hszW : W1.heap.size = w.heap.size + 1 + 1 := by rw [← HW1.out]; simp
  rw [HW1.out] at HP0
  have HEn : Hid (∀ wx, Below W1.heap.size W1 wx → wx.cell? ⟨w.heap.size + 1, 0, none⟩ = some (.string ⟨#[]⟩) ∧ wx.cell? ⟨w.heap.size + 1, 1, none⟩ = some (.int .i64 0) ∧ wx.cell? ⟨w.heap.size + 1, 2, none⟩ = some (.int .i64 0) ∧ wx.cell? ⟨w.heap.size + 1, 3, none⟩ = some (.string ⟨#[]⟩) ∧ wx.cell? ⟨w.heap.size + 1, 4, none⟩ = some (.slice (some ⟨w.heap.size, 0, none⟩) 10 10)) := fun wx hx => ent_cells (HP0.out.below hx HP0.out.lt)
  have HL3f : Hid (∀ wx, RF (World.alloc wx (.cells #[.bool false, .bool false, .bool true] 4)) (.slice (some ⟨wx.heap.size, 0, none⟩) 3 3) b3f) := fun wx => RF.lit b3f rfl (by decide) rfl rfl
  have HL3t : Hid (∀ wx, RF (World.alloc wx (.cells #[.bool true, .bool true, .bool true] 4)) (.slice (some ⟨wx.heap.size, 0, none⟩) 3 3) b3t) := fun wx => RF.lit b3t rfl (by decide) rfl rfl
  have HL10 : Hid (∀ wx, RF (World.alloc wx (.cells #[.bool true, .bool true, .bool true, .bool true, .bool true, .bool true, .bool true, .bool true, .bool false, .bool true] 4)) (.slice (some ⟨wx.heap.size, 0, none⟩) 10 10) b10) := fun wx => RF.lit b10 rfl (by decide) rfl rfl
  go_wp2_with fail
  rw [HW1.out, ← hszW]
  refine (HF1.out _ _ _ _ (HL3f.out W1)).mono ?_
  rintro e w2 ⟨⟨g, c, rfl, hx2, hx7⟩, hb2⟩
  have hgl := World.block_lt_of_cell? w2 _ hx2
  have HX2 := Lib.hid hx2
  have HX7 := Lib.hid hx7
  have HB2 : Hid (Below W1.heap.size W1 w2) := ((Below.refl W1.heap.size W1).alloc (Nat.le_refl _) _).trans (hb2.mono (by simp))
  clear hx2 hx7 hb2
  obtain ⟨q0, q1, q2, q3, q4⟩ := HEn.out w2 HB2.out
  go_wp2_with fail
  refine (HF2.out _ _ _ _ (HL3t.out w2)).mono ?_
  rintro e w3 ⟨rfl, hb3⟩
  have hb3' : Below w2.heap.size w2 w3 := ((Below.refl w2.heap.size w2).alloc (Nat.le_refl _) _).trans (hb3.mono (by simp))
  have HB3 := Lib.hid (HB2.out.trans (hb3'.mono HB2.out.size))
  have HB23 := Lib.hid hb3'
  clear q0 q1 q2 q3 q4 hb3 hb3'
  obtain ⟨q0, q1, q2, q3, q4⟩ := HEn.out w3 HB3.out
  go_wp2_with fail
  refine (HMo.out _ _ _ _ (HL10.out w3)).mono ?_
  rintro e w4 ⟨rfl, hb4⟩
  have hb4' : Below w3.heap.size w3 w4 := ((Below.refl w3.heap.size w3).alloc (Nat.le_refl _) _).trans (hb4.mono (by simp))
  have HB4 := Lib.hid (HB3.out.trans (hb4'.mono HB3.out.size))
  have HB24 := Lib.hid (HB23.out.trans (hb4'.mono HB23.out.size))
  clear q0 q1 q2 q3 q4 hb4 hb4'
  obtain ⟨q0, q1, q2, q3, q4⟩ := HEn.out w4 HB4.out
  go_wp2_with fail
  refine (HWh.out _ _ _).mono ?_
  rintro e w5 ⟨⟨wa, wk, wc, rfl⟩, hb5⟩
  have HB5 := Lib.hid (HB4.out.trans (hb5.mono HB4.out.size))
  have HB25 := Lib.hid (HB24.out.trans (hb5.mono HB24.out.size))
  have hy2 : w5.cell? ⟨g, 2, none⟩ = some (.int .i64 3) := (HB25.out.cell (p := ⟨g, 2, none⟩) hgl).trans HX2.out
  have hy7 : w5.cell? ⟨g, 7, none⟩ = some (.int .i64 8) := (HB25.out.cell (p := ⟨g, 7, none⟩) hgl).trans HX7.out
  clear q0 q1 q2 q3 q4 hb5
  go_wp2
  go_ret
  exact ⟨rfl, HBW1.out.trans (HB5.out.mono HBW1.out.size)⟩
end Go.Proofs.Ytepedabpnchajaa
