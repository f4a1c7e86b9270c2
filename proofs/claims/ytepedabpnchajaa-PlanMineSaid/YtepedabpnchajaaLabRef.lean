/-
  kistref09: in, Groups, bare, Good.
-/
import Derived.Test.YtepedabpnchajaaLabSame
import Derived.Test.YtepedabpnchajaaLabRefPlain
import Derived.Test.YtepedabpnchajaaLabBody
import Derived.Deep.RegionHeld

namespace Go.Proofs.Ytepedabpnchajaa
open Go.RowKit
set_option linter.unusedVariables false
set_option linter.unusedSimpArgs false

theorem rgroups_any (n : Int) (w : World) (h0 : 0 ≤ n) (h1 : n ≤ 512) :
    Calls Try.prog 68 #[.int .i64 n] w fun e w' => e = .returned (.int .i64 (Lab.groupsI n)) ∧ w = w' := by
  have HG : Hid (Lab.groupsI n = if (n + 127) / 128 < 1 then 1 else (n + 127) / 128) := rfl
  go_enter Try.func68, Try.ntmps68
  go_wp2
  go_loop [3] (fun x => ∃ i : Nat, 1 ≤ i ∧ i ≤ 4 ∧ (i = 1 ∨ 128 * ((i : Int) - 1) < n) ∧ x = .int .i64 (i : Int)) (fun x => 5 - (intOf x).toNat)
  case atStart => exact ⟨1, by omega, by omega, .inl rfl, rfl⟩
  case round =>
    obtain ⟨i, hi1, hi4, hlo, rfl⟩ := hrel
    have HLo := Lib.hid hlo
    clear hlo
    by_cases hlt : 128 * (i : Int) < n
    · have hi5 : (i : Int) < 5 := by omega
      go_wp2
      go_round
      case rel => exact ⟨i + 1, by omega, by omega, .inr (by push_cast; omega), by go_num⟩
      case measure => simp [intOf]; omega
    · go_wp2
      go_ret
      refine ⟨ret_i64 ?_, rfl⟩
      rw [HG.out]
      have := HLo.out
      split <;> omega
end Go.Proofs.Ytepedabpnchajaa
