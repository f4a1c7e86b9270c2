/-
  kistlaw05.DigOf: its walk. kistref05.Of answers as kist/dig.Of.
-/
import Derived.Test.YtfcgmomankkmpaaDigAwake
import Derived.Test.YtfcgmomankkmpaaDigRefOf
namespace Go.Proofs.Ytfcgmomankkmpaa
open Go.RowKit
set_option linter.unusedVariables false

theorem RefOf_any (v : Value) (b : List UInt8) (w : World) (h : RB w v b) (hb : b.length + 200 ≤ 140737488355328) :
    Calls Try.prog 9 #[v] w fun e w' => e = .returned (.string (S (dig b))) ∧ Below w.heap.size w w' :=
  RefOf_walk v b w h hb (padded b) (blocks b) (padded_length b) rfl (fun v w n h hn => at_any v b n w h hb hn) stones (fun n hn w => stone_any n hn w) mixH
    (fun s l => ⟨sched l, fun n hn => by rw [sched_low l n hn, partWord_four]; rfl, fun n h1 h2 => sched_high l n h1 h2, rfl⟩) sums (fun _ _ => rfl) (fun _ _ _ => rfl)

set_option maxRecDepth 20000 in
set_option maxHeartbeats 4000000 in
theorem digOf_walk (v : Value) (b : List UInt8) (w : World) (h : RB w v b) (hb : b.length ≤ 140737488351232) :
    Calls Try.prog 3 #[v] w fun e w' => e = .returned (.bool true) ∧ Below w.heap.size w w' := by
  have H := Lib.hid h
  clear h
  go_enter Try.func3, Try.ntmps3
  go_wp2_with fail
  refine (short_any v b _ H.out hb).mono ?_
  rintro e w1 ⟨xv, rfl, hox, hbx⟩
  have HX := Lib.hid (RB.own hox)
  have HB1 := Lib.hid hbx
  have hx600 : (b.take 600).length ≤ 600 := List.length_take_le _ _
  obtain ⟨X, HXl⟩ := hid_of (b.take 600)
  rw [HXl.out] at HX hx600
  have HXn : Hid (X.length + 200 ≤ 140737488355328) := (by omega : X.length + 200 ≤ 140737488355328)
  clear hox hbx HXl
  go_wp2_with fail
  refine (awake_any _).mono ?_
  rintro e w4 ⟨rfl, hb4⟩
  have HX4 := Lib.hid (HX.out.below hb4 rfl)
  have HB4 : Hid (Below w.heap.size w w4) := HB1.out.trans (hb4.mono HB1.out.size)
  clear hb4 HX HB1
  go_wp2_with fail
  refine (Of_any _ _ _ HX4.out HXn.out).mono ?_
  rintro e w5 ⟨rfl, hb5⟩
  have HX5 := Lib.hid (HX4.out.below hb5 rfl)
  have HB5 : Hid (Below w.heap.size w w5) := HB4.out.trans (hb5.mono HB4.out.size)
  clear hb5 HX4 HB4
  go_wp2_with fail
  refine (RefOf_any _ _ _ HX5.out HXn.out).mono ?_
  rintro e w6 ⟨rfl, hb6⟩
  have HB6 : Hid (Below w.heap.size w w6) := HB5.out.trans (hb6.mono HB5.out.size)
  obtain ⟨E, HE⟩ := hid_of (S (dig X))
  rw [HE.out]
  clear hb6 HX5 HB5
  go_wp2
  go_ret
  exact ⟨rfl, HB6.out⟩
end Go.Proofs.Ytfcgmomankkmpaa
