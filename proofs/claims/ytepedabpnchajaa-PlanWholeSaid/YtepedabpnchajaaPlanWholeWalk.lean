/-
  kistlaw19.PlanWhole: its walk.
-/
import Derived.Test.YtepedabpnchajaaPlanArg
namespace Go.Proofs.Ytepedabpnchajaa
open Go.RowKit
set_option linter.unusedVariables false
set_option linter.unusedSimpArgs false

set_option maxRecDepth 100000 in
set_option maxHeartbeats 4000000 in
theorem planWhole_walk (ev v : Value) (sh : List (List UInt8)) (w : World) (he : EntR ev) (h : RSl CB 1 w v sh) :
    Calls Try.prog 4 #[ev, v] w fun e w' => e = .returned (.bool true) ∧ Below w.heap.size w w' := by
  obtain ⟨k, s, g, z, pa, n, pc, rfl, h1, h2, hk, hs⟩ := he
  have HT : Hid (RT w v sh) := h
  have HSl : Hid (∀ wx, Calls Try.prog 9 #[.agg #[.string (S k), .int .i64 g, .int .i64 z, .string (S s), .slice pa n pc]] wx fun e w' => (∃ m, m ≤ 60 ∧ m ≤ pc ∧ e = .returned (.agg #[.string (S k), .int .i64 g, .int .i64 z, .string (S s), .slice pa m pc])) ∧ Below wx.heap.size wx w') := fun wx => slots_any k s g z pa n pc wx h1 h2
  have HP0 : Hid (Below w.heap.size w (w.alloc (.cells #[.string (S k), .int .i64 g, .int .i64 z, .string (S s), .slice pa n pc] 24))) := (Below.refl _ _).alloc (Nat.le_refl _) _
  clear h h1 h2 hk hs
  go_enter Try.func4, Try.ntmps4
  go_wp2_with fail
  refine (HSl.out _).mono ?_
  rintro e w1 ⟨⟨m, hm, -, rfl⟩, hb1⟩
  have HB1 := Lib.hid (HP0.out.trans (hb1.mono HP0.out.size))
  have HQ : Hid (Blk (w1.alloc (.cells #[.string (S k), .int .i64 g, .int .i64 z, .string (S s), .slice pa m pc] 24)) w1.heap.size (entC k g z s (.slice pa m pc)).toList 24) := Blk.new w1 _ _ rfl
  have hba : Below w1.heap.size w1 (w1.alloc (.cells #[.string (S k), .int .i64 g, .int .i64 z, .string (S s), .slice pa m pc] 24)) := (Below.refl _ _).alloc (Nat.le_refl _) _
  have HB2 := Lib.hid (HB1.out.trans (hba.mono HB1.out.size))
  have HT2 := Lib.hid (HT.out.below HB2.out rfl)
  obtain ⟨Z, HZ⟩ := hid_of (Plan.wholeE m sh z s)
  obtain ⟨J, HJ⟩ := hid_of (Plan.wholeB m sh z s)
  obtain ⟨E, HE⟩ := hid_of (S J)
  have HW1 : Hid (∀ wx, RT wx v sh → Calls Try.prog 15 #[.agg #[.string (S k), .int .i64 g, .int .i64 z, .string (S s), .slice pa m pc], v] wx fun e w' => (∃ a k c, e = .returned (.tuple #[.slice a k c, .int .i64 Z]) ∧ RB w' (.slice a k c) J) ∧ Below wx.heap.size wx w') := fun wx hx => by
    rw [← HZ.out, ← HJ.out]; exact pwhole_any k s g z pa m pc v sh wx hx (by omega)
  have HW2 : Hid (∀ wx, RT wx v sh → Calls Try.prog 16 #[.agg #[.string (S k), .int .i64 g, .int .i64 z, .string (S s), .slice pa m pc], v] wx fun e w' => (∃ a k c, e = .returned (.tuple #[.slice a k c, .int .i64 Z]) ∧ RB w' (.slice a k c) J) ∧ Below wx.heap.size wx w') := fun wx hx => by
    rw [← HZ.out, ← HJ.out]; exact refWhole_any k s g z pa m pc v sh wx hx (by omega)
  clear hb1 hba HP0 HSl
  go_wp2_with fail
  refine (HW1.out _ HT2.out).mono ?_
  rintro e w3 ⟨⟨a3, n3, c3, rfl, hr3⟩, hb3⟩
  have HR3 := Lib.hid hr3
  have HT3 := Lib.hid (HT2.out.below hb3 rfl)
  have HB3 := Lib.hid (HB2.out.trans (hb3.mono HB2.out.size))
  obtain ⟨q0, q1, q2, q3, q4⟩ := ent_cells (HQ.out.below hb3 HQ.out.lt)
  clear hb3 hr3
  go_wp2_with fail
  refine (HW2.out _ HT3.out).mono ?_
  rintro e w4 ⟨⟨a4, n4, c4, rfl, hr4⟩, hb4⟩
  have HR4 := Lib.hid hr4
  have HR34 := Lib.hid (HR3.out.below hb4 rfl)
  have HB4 := Lib.hid (HB3.out.trans (hb4.mono HB3.out.size))
  clear hb4 hr4 q0 q1 q2 q3 q4
  go_wp2_with fail
  refine (awake19_any _).mono ?_
  rintro e w5 ⟨rfl, hb5⟩
  have hc1 := run_convert_S (P := Try.prog) (HR34.out.below hb5 rfl) 35 9 5 Try.underlying35 Try.underlying5 Try.underlying9
  have hc2 := run_convert_S (P := Try.prog) (HR4.out.below hb5 rfl) 35 9 5 Try.underlying35 Try.underlying5 Try.underlying9
  have HB5 := Lib.hid (HB4.out.trans (hb5.mono HB4.out.size))
  clear hb5
  rw [HE.out] at hc1 hc2
  go_wp2
  go_ret
  exact ⟨rfl, HB5.out⟩
end Go.Proofs.Ytepedabpnchajaa
