/-
  kistref11: Append and Crash.
-/
import Derived.Test.YtlhkmbhfgoejjaaDskRef
import Derived.Deep.DeepCutAuto

namespace Go.Proofs.Ytlhkmbhfgoejjaa
open Go.RowKit
set_option linter.unusedVariables false

theorem Rk.put1 {w : World} {q : Nat} {s s' : DS} (h : Rk w q s) (ht : s'.b.take s'.sure = s.b.take s.sure) (hl : s'.left = s.left) (hok : s'.ok) :
    Rk (w.setCell ⟨q, 1, none⟩ (.string (S (s'.b.drop s'.sure)))) q s' ∧ Fr (fun k => k = q) w (w.setCell ⟨q, 1, none⟩ (.string (S (s'.b.drop s'.sure)))) := by
  refine ⟨⟨?_, hok⟩, (Fr.refl (fun k => k = q) w).setCell (p := ⟨q, 1, none⟩) (fun _ => rfl) _⟩
  have := h.1.set 1 (.string (S (s'.b.drop s'.sure)))
  rw [hl, ht]
  exact this

set_option maxHeartbeats 2000000 in
theorem refAppend_any (w : World) (q : Nat) (s : DS) (h : Rk w q s) (v : Value) (x : List UInt8) (hx : RB w v x) (hv : 0 < x.length → ∀ k, v.ownBlock = some k → k ≠ q) :
    Calls Try.prog 35 #[.pointer (some ⟨q, 0, none⟩), v] w (Turned w q (.int .i64 (s.append x).1) (s.append x).2) := by
  obtain ⟨a, cap, rfl, hc1, hc2⟩ := hx.shape
  simp only [maxLen] at hc2
  obtain ⟨c1, c2, c3⟩ := h.2
  have H := Lib.hid h
  have HX := Lib.hid hx
  have HV := Lib.hid hv
  obtain ⟨g0, g1, -⟩ := h.cells
  have hlen : (s.b.take s.sure).length + (s.b.drop s.sure).length = s.b.length := by rw [List.length_take, List.length_drop]; omega
  have hS0 := S_size (s.b.take s.sure)
  have hS1 := S_size (s.b.drop s.sure)
  obtain ⟨A, HA⟩ := hid_of (s.b.take s.sure)
  obtain ⟨B', HB⟩ := hid_of (s.b.drop s.sure)
  rw [HA.out] at g0 hlen hS0
  rw [HB.out] at g1 hlen hS1
  clear h hx hv
  by_cases hbig : 262144 < x.length
  · have hs : Hid (s.append x = (16, s)) := if_pos (by omega)
    rw [hs.out]
    have hd : decide ((262144 : Int) < (x.length : Int)) = true := by rw [decide_eq_true_iff]; omega
    have hbI : (262144 : Int) < (x.length : Int) := by omega
    go_enter Try.func35, Try.ntmps35
    go_wp2
    go_quiet (fail)
    go_wp2
    go_ret
    exact ⟨rfl, H.out.fr (fr_drewN (fun _ => False) w nq) (fun h => h), fr_drewN _ w nq⟩
  · have hbI : ¬ (262144 : Int) < (x.length : Int) := by omega
    have hw1 : IntKind.i64.wrap ((A.length : Int) + (B'.length : Int)) = (s.b.length : Int) := by rw [IntWalk.i64_in _ (by omega)]; omega
    have hw2 : IntKind.i64.wrap ((s.b.length : Int) + (x.length : Int)) = (s.b.length : Int) + (x.length : Int) := IntWalk.i64_in _ (by omega)
    by_cases hsum : 262144 < s.b.length + x.length
    · have hs : Hid (s.append x = (16, s)) := if_pos (by omega)
      rw [hs.out]
      go_enter Try.func35, Try.ntmps35
      go_wp2
      have hsd : decide ((262144 : Int) < (s.b.length : Int) + (x.length : Int)) = true := by
        rw [decide_eq_true_iff]
        omega
      go_quiet (fail)
      go_wp2
      go_ret
      exact ⟨rfl, H.out.fr (fr_drewN (fun _ => False) w nq) (fun h => h), fr_drewN _ w nq⟩
    · by_cases hc : s.can = true
      · have hs : Hid (s.append x = (0, { s.tick with b := s.b ++ x })) := by
          show s.append x = _
          unfold DS.append
          rw [if_neg hsum, if_pos hc]
        rw [hs.out]
        have HC := Lib.hid hc
        clear hc
        go_enter Try.func35, Try.ntmps35
        go_wp2
        have hsd : decide ((262144 : Int) < (s.b.length : Int) + (x.length : Int)) = false := by
          rw [decide_eq_false_iff_not]
          omega
        go_quiet (fail)
        go_wp2_with (go_at_call 66; refine stopped ?_)
        refine going ((step_any _ q s (H.out.fr (fr_drewN (fun _ => False) w nq) (fun h => h))).mono ?_)
        rw [HC.out]
        rintro e w1 ⟨rfl, hd1, hf1⟩
        simp only [if_true] at hd1
        have HD2 : Hid (Rk w1.drew q s.tick) := hd1
        have HFd : Hid (Fr (fun k => k = q) w w1.drew) := ((fr_drewN _ w nq).trans hf1 (fun _ _ h => h)).drew
        obtain ⟨-, g1', -⟩ := hd1.cells
        obtain ⟨-, f1', -⟩ := hd1.free
        rw [(tick_b s).1, (tick_b s).2, HB.out] at g1'
        have hcv := run_convert_S (P := Try.prog) ((HX.out.fr HFd.out (fun hl k hk e => HV.out hl k hk e))) 22 9 5 Try.underlying22 Try.underlying5 Try.underlying9
        have hadd : ∀ wx : World, (Op.stringOp .add (S B') (S x)).run Try.prog wx = .ok (.string (S (B' ++ x))) wx := fun wx => run_add_S wx B' x (by omega)
        have hok : DS.ok { s.tick with b := s.b ++ x } := ⟨by show s.tick.sure ≤ (s.b ++ x).length; rw [(tick_b s).2, List.length_append]; omega, by show (s.b ++ x).length ≤ _; rw [List.length_append]; omega, (tick_ok H.out.2).2.2⟩
        have e0 : ({ s.tick with b := s.b ++ x } : DS).b.take ({ s.tick with b := s.b ++ x } : DS).sure = s.tick.b.take s.tick.sure := by
          show (s.b ++ x).take s.tick.sure = s.tick.b.take s.tick.sure
          rw [(tick_b s).1, (tick_b s).2, List.take_append_of_le_length c1]
        have e1 : ({ s.tick with b := s.b ++ x } : DS).b.drop ({ s.tick with b := s.b ++ x } : DS).sure = B' ++ x := by
          show (s.b ++ x).drop s.tick.sure = B' ++ x
          rw [(tick_b s).2, List.drop_append_of_le_length c1, HB.out]
        have hfin := HD2.out.put1 (s' := { s.tick with b := s.b ++ x }) e0 rfl hok
        rw [e1] at hfin
        have HFin := Lib.hid hfin
        clear hfin e0 e1 hok hd1 hf1 g0 g1 hS0 hS1
        go_wp2
        go_region_with (fail)
        all_goals
          go_wp2
          go_ret
          exact ⟨rfl, HFin.out.1, HFd.out.trans HFin.out.2 (fun _ _ h => h)⟩
      · have hc' : s.can = false := by simpa using hc
        have hs : Hid (s.append x = (11, s)) := by
          show s.append x = _
          unfold DS.append
          rw [if_neg hsum, if_neg hc]
        rw [hs.out]
        have HC := Lib.hid hc'
        clear hc hc'
        go_enter Try.func35, Try.ntmps35
        go_wp2
        have hsd : decide ((262144 : Int) < (s.b.length : Int) + (x.length : Int)) = false := by
          rw [decide_eq_false_iff_not]
          omega
        go_quiet (fail)
        go_wp2_with (go_at_call 66; refine stopped ?_)
        refine going ((step_any _ q s (H.out.fr (fr_drewN (fun _ => False) w nq) (fun h => h))).mono ?_)
        rw [HC.out]
        rintro e w1 ⟨rfl, hd1, hf1⟩
        have HD1 := Lib.hid hd1
        have HF1 := Lib.hid ((fr_drewN (fun k => k = q) w nq).trans hf1 (fun _ _ h => h))
        clear hd1 hf1 g0 g1 hS0 hS1
        go_wp2
        go_ret
        exact ⟨rfl, by simpa using HD1.out, HF1.out⟩
end Go.Proofs.Ytlhkmbhfgoejjaa
