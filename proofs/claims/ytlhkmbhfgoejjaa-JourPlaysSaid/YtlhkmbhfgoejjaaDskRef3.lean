/-
  kistref11: Crash.
-/
import Derived.Test.YtlhkmbhfgoejjaaDskRef2

namespace Go.Proofs.Ytlhkmbhfgoejjaa
open Go.RowKit
set_option linter.unusedVariables false

set_option maxRecDepth 20000 in
set_option maxHeartbeats 2000000 in
theorem refCrash_any (w : World) (q : Nat) (s : DS) (h : Rk w q s) (keep : Int) (hk1 : -9223372036854775808 ≤ keep) (hk2 : keep ≤ 9223372036854775807) :
    Calls Try.prog 38 #[.pointer (some ⟨q, 0, none⟩), .int .i64 keep] w (Turned w q (.tuple #[]) (s.crash keep)) := by
  obtain ⟨c1, c2, c3⟩ := h.2
  have H := Lib.hid h
  obtain ⟨g0, g1, g2⟩ := h.cells
  obtain ⟨f0, f1, f2⟩ := h.free
  have hlen : (s.b.take s.sure).length + (s.b.drop s.sure).length = s.b.length := by rw [List.length_take, List.length_drop]; omega
  have hlA : (s.b.take s.sure).length = s.sure := by rw [List.length_take]; omega
  have hS1 := S_size (s.b.drop s.sure)
  obtain ⟨A, HA⟩ := hid_of (s.b.take s.sure)
  obtain ⟨B', HB⟩ := hid_of (s.b.drop s.sure)
  obtain ⟨K, HK⟩ := hid_of keep.toNat
  obtain ⟨KK, HKK⟩ := hid_of (min K B'.length)
  have hKK : KK ≤ B'.length := by have := HKK.out; omega
  have hadd : ∀ wx : World, (Op.stringOp .add (S A) (S (B'.take KK))).run Try.prog wx = .ok (.string (S (A ++ B'.take KK))) wx := fun wx => by
    rw [run_add_S wx A (B'.take KK) (by rw [← HA.out, List.length_take, ← HB.out]; rw [List.length_take, List.length_drop]; omega)]
  have hst := S_take B' KK
  have e0 : (s.crash keep).b.take (s.crash keep).sure = A ++ B'.take KK := by
    show (s.b.take (s.sure + min keep.toNat s.loose)).take (s.sure + min keep.toNat s.loose) = _
    have hl : s.loose = B'.length := by rw [← HB.out, List.length_drop]; rfl
    rw [HK.out, hl, HKK.out, List.take_take, Nat.min_self, List.take_add, HA.out, HB.out]
  have e1 : (s.crash keep).b.drop (s.crash keep).sure = [] := by
    show (s.b.take (s.sure + min keep.toNat s.loose)).drop (s.sure + min keep.toNat s.loose) = _
    exact List.drop_eq_nil_of_le (by rw [List.length_take]; omega)
  have e2 : (s.crash keep).left = -1 := rfl
  have hok : (s.crash keep).ok := by
    refine ⟨?_, ?_, c3⟩
    · show s.sure + min keep.toNat s.loose ≤ (s.b.take (s.sure + min keep.toNat s.loose)).length
      have hl : s.loose = s.b.length - s.sure := rfl
      rw [List.length_take, hl]
      omega
    · show (s.b.take (s.sure + min keep.toNat s.loose)).length ≤ _
      rw [List.length_take]
      omega
  have HE0 := Lib.hid e0
  have HE1 := Lib.hid e1
  have HE2 := Lib.hid e2
  have HOk := Lib.hid hok
  have hB := h.1
  rw [HA.out, HB.out] at hB
  have HBlk := Lib.hid hB
  rw [HA.out] at g0 hlA hlen
  rw [HB.out] at g1 hS1 hlen
  have hn := S_nil
  clear h e0 e1 e2 hok hB
  go_enter Try.func38, Try.ntmps38
  go_upto_if 5 with fail
  go_cut [1] (fun z wx => z = .int .i64 (K : Int) ∧ wx = w)
  case first =>
    by_cases h0 : keep < 0
    · go_wp2
      go_meet
      case rel => exact ⟨by have := HK.out; congr 1; omega, rfl⟩
    · go_wp2
      go_meet
      case rel => exact ⟨by have := HK.out; congr 1; omega, rfl⟩
  obtain ⟨rfl, rfl⟩ := hcut
  go_upto_if 12 with fail
  obtain ⟨wz, hwz⟩ : ∃ wz : World, wz = wc := ⟨_, rfl⟩
  subst hwz
  go_cut [1] (fun z wx => z = .int .i64 (KK : Int) ∧ wx = wz)
  case first =>
    by_cases h0 : B'.length < K
    · go_wp2
      go_meet
      case rel => exact ⟨by have := HKK.out; congr 1; omega, rfl⟩
    · go_wp2
      go_meet
      case rel => exact ⟨by have := HKK.out; congr 1; omega, rfl⟩
  obtain ⟨rfl, rfl⟩ := hcut
  have hki : ¬ (B'.length : Int) < (KK : Int) := by omega
  go_wp2_with fail
  go_region_with (fail)
  all_goals
    go_wp2
    go_end0
    refine ⟨rfl, ⟨?_, HOk.out⟩, ?_⟩
    · rw [HE0.out, HE1.out, HE2.out]
      first
        | exact ((HBlk.out.set 0 _).set 1 _).set 2 _
        | exact ((HBlk.out.set 0 _).set 2 _).set 1 _
        | exact ((HBlk.out.set 1 _).set 0 _).set 2 _
        | exact ((HBlk.out.set 1 _).set 2 _).set 0 _
        | exact ((HBlk.out.set 2 _).set 0 _).set 1 _
        | exact ((HBlk.out.set 2 _).set 1 _).set 0 _
    · refine Fr.setCell (Fr.setCell (Fr.setCell (Fr.refl (fun k => k = q) _).drew ?_ _) ?_ _) ?_ _ <;> exact fun _ => rfl
end Go.Proofs.Ytlhkmbhfgoejjaa
