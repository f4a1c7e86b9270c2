/-
  kistlaw11: the fixed fact.
-/
import Derived.Test.YtajahgiijhjckaaDskUse
namespace Go.Proofs.Ytajahgiijhjckaa
open Go.RowKit
set_option linter.unusedVariables false

set_option maxHeartbeats 2000000 in
theorem awake_any (w : World) : Calls Try.prog 15 #[] w fun e w' => e = .returned (.bool true) ∧ Below w.heap.size w w' := by
  obtain ⟨p, HP⟩ := hid_of w.heap.size
  rw [HP.out]
  go_enter Try.func15, Try.ntmps15
  go_wp2_with fail
  refine (new_d w).mono ?_
  rintro e w1 ⟨rfl, hd, hb⟩
  rw [HP.out] at hd hb ⊢
  have hd1 := Lib.hid hd
  have hb1 := Lib.hid hb
  clear hd hb
  -- Append "ab"
  go_wp2_with fail
  refine (append_d (hd1.out.alloc _) (RB.lit _ _ [97, 98] rfl (by simp [maxLen]) rfl rfl) (hd1.out.fresh (fun k hk => by simp [Value.ownBlock] at hk; omega))).mono ?_
  rw [show DS.new.append [97, 98] = (0, ⟨[97, 98], 0, false, 0⟩) from rfl]
  rintro e w2 ⟨rfl, ⟨bv2, hd⟩, hb⟩
  have hd2 := Lib.hid hd
  have hb2 : Hid (Below p w w2) := (hb1.out.alloc (by have := hd1.out.lt; omega) _).trans hb
  clear hd hb hd1 hb1
  -- Sync
  go_wp2_with fail
  refine (sync_d hd2.out).mono ?_
  rw [show DS.sync ⟨[97, 98], 0, false, 0⟩ = (0, ⟨[97, 98], 2, false, 0⟩) from rfl]
  rintro e w3 ⟨rfl, ⟨bv3, hd⟩, hb⟩
  have hd3 := Lib.hid hd
  have hb3 : Hid (Below p w w3) := hb2.out.trans hb
  clear hd hb hd2 hb2
  -- Append "cde"
  go_wp2_with fail
  refine (append_d (hd3.out.alloc _) (RB.lit _ _ [99, 100, 101] rfl (by simp [maxLen]) rfl rfl) (hd3.out.fresh (fun k hk => by simp [Value.ownBlock] at hk; omega))).mono ?_
  rw [show DS.append ⟨[97, 98], 2, false, 0⟩ [99, 100, 101] = (0, ⟨[97, 98, 99, 100, 101], 2, false, 0⟩) from rfl]
  rintro e w4 ⟨rfl, ⟨bv4, hd⟩, hb⟩
  have hd4 := Lib.hid hd
  have hb4 : Hid (Below p w w4) := (hb3.out.alloc (by have := hd3.out.lt; omega) _).trans hb
  clear hd hb hd3 hb3
  -- Loose
  go_wp2_with fail
  refine (loose_any _ _ _ _ hd4.out).mono ?_
  rw [show ((DS.loose ⟨[97, 98, 99, 100, 101], 2, false, 0⟩ : Nat) : Int) = 3 from rfl]
  rintro e w' ⟨rfl, n5, rfl⟩
  have hd5 : Hid (Dk (w4.drewN n5) p bv4 ⟨[97, 98, 99, 100, 101], 2, false, 0⟩) := hd4.out
  have hb5 : Hid (Below p w (w4.drewN n5)) := hb4.out.trans ⟨rfl, rfl, rfl, Nat.le_refl _, fun _ _ => rfl⟩
  clear hd4 hb4
  -- Crash
  go_wp2_with fail
  refine (crash_d hd5.out 1 (by omega) (by omega)).mono ?_
  rw [show DS.crash ⟨[97, 98, 99, 100, 101], 2, false, 0⟩ 1 = ⟨[97, 98, 99], 3, false, 0⟩ from rfl]
  rintro e w6 ⟨rfl, ⟨bv6, hd⟩, hb⟩
  have hd6 := Lib.hid hd
  have hb6 : Hid (Below p w w6) := hb5.out.trans hb
  clear hd hb hd5 hb5
  -- Bytes
  go_wp2_with fail
  refine (bytes_any _ _ _ _ hd6.out).mono ?_
  rintro e w7 ⟨v7, rfl, hown, hb⟩
  have hcv := run_convert_RB (P := Try.prog) (RB.own hown) 25 9 5 Try.underlying25 Try.underlying5 Try.underlying9
  have hd7 := Lib.hid (hd6.out.below hb)
  have hb7 : Hid (Below p w w7) := hb6.out.trans (hb.mono (by have := hd6.out.lt; omega))
  clear hown hb hd6 hb6
  -- Fuse
  go_wp2_with fail
  clear hcv
  refine (fuse_d hd7.out 1 (by omega)).mono ?_
  rw [show DS.setFuse ⟨[97, 98, 99], 3, false, 0⟩ 1 = ⟨[97, 98, 99], 3, true, 1⟩ from rfl]
  rintro e w8 ⟨rfl, ⟨bv8, hd⟩, hb⟩
  have hd8 := Lib.hid hd
  have hb8 : Hid (Below p w w8) := hb7.out.trans hb
  clear hd hb hd7 hb7
  -- Append "d"
  go_wp2_with fail
  refine (append_d (hd8.out.alloc _) (RB.lit _ _ [100] rfl (by simp [maxLen]) rfl rfl) (hd8.out.fresh (fun k hk => by simp [Value.ownBlock] at hk; omega))).mono ?_
  rw [show DS.append ⟨[97, 98, 99], 3, true, 1⟩ [100] = (0, ⟨[97, 98, 99, 100], 3, true, 0⟩) from rfl]
  rintro e w9 ⟨rfl, ⟨bv9, hd⟩, hb⟩
  have hd9 := Lib.hid hd
  have hb9 : Hid (Below p w w9) := (hb8.out.alloc (by have := hd8.out.lt; omega) _).trans hb
  clear hd hb hd8 hb8
  -- Sync
  go_wp2_with fail
  refine (sync_d hd9.out).mono ?_
  rw [show DS.sync ⟨[97, 98, 99, 100], 3, true, 0⟩ = (11, ⟨[97, 98, 99, 100], 3, true, 0⟩) from rfl]
  rintro e w10 ⟨rfl, ⟨bv10, hd⟩, hb⟩
  have hd10 := Lib.hid hd
  have hb10 : Hid (Below p w w10) := hb9.out.trans hb
  clear hd hb hd9 hb9
  have hstr : ((⟨#[97, 98, 99]⟩ : ByteArray).toList == (⟨#[97, 98, 99]⟩ : ByteArray).toList) = true := by rw [ByteArray.toList_eq]; rfl
  -- Loose
  go_wp2_with fail
  refine (loose_any _ _ _ _ hd10.out).mono ?_
  rw [show ((DS.loose ⟨[97, 98, 99, 100], 3, true, 0⟩ : Nat) : Int) = 1 from rfl]
  rintro e w' ⟨rfl, n11, rfl⟩
  go_wp2
  go_ret
  exact ⟨rfl, hb10.out.trans ⟨rfl, rfl, rfl, Nat.le_refl _, fun _ _ => rfl⟩⟩
end Go.Proofs.Ytajahgiijhjckaa
