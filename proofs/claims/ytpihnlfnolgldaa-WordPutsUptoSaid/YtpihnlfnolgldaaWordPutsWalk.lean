/-
  The walk of kistlaw06.WordPuts, for arguments of some size.
-/
import Derived.Test.YtpihnlfnolgldaaWordRefPut
import Derived.Deep.RegionHeld
namespace Go.Proofs.Ytpihnlfnolgldaa
open Go.RowKit
set_option linter.unusedVariables false

set_option maxRecDepth 100000 in
set_option maxHeartbeats 4000000 in
theorem wordPuts_core (v : Value) (b : List UInt8) (n : Int) (s : List UInt8) (w : World) (hb : RB w v b) (hz : b.length ≤ 1048576) (hn : (Lit.int .i64 n).wf = true) (hs : s.length ≤ 1048576) :
    Calls Try.prog 3 #[v, .int .i64 n, .string (S s)] w fun e w' => e = .returned (.bool true) ∧ Below w.heap.size w w' := by
  have HB := Lib.hid hb
  have HN := Lib.hid hn
  clear hb hn
  have HZ1 : Hid (b.length + 20 ≤ 140737488355328) := Lib.hid (by omega)
  have HZ2 : Hid (b.length + 20 + s.length ≤ 140737488355328) := Lib.hid (by omega)
  clear hz hs
  obtain ⟨T1, HT1⟩ := hid_of (b ++ Word.enc n.toNat)
  obtain ⟨T2, HT2⟩ := hid_of (b ++ Word.enc s.length ++ s)
  go_enter Try.func3, Try.ntmps3
  go_wp2_with fail
  go_region_held (fun _ => True) (trivial)
    (first
    | (go_at_call 9
       refine (awake_any _).mono ?_
       rintro e wA ⟨rfl, hbA⟩
       have hA : Below w.heap.size w wA := ⟨hbA.os, hbA.tape, hbA.output, hbA.size, hbA.block⟩
       have HA := Lib.hid hA
       have HBA := Lib.hid (HB.out.below hA rfl)
       clear hbA hA)
    | (go_at_call 10
       refine (Put_any v b n _ HBA.out HN.out HZ1.out).mono ?_
       rintro e wP ⟨vP, rfl, hoP, hbP⟩
       rw [HT1.out] at hoP
       have HOP := Lib.hid (RB.own hoP)
       have hcvP := run_convert_S HOP.out 22 9 5 Try.underlying22 Try.underlying5 Try.underlying9
       have HBP := Lib.hid (HBA.out.below hbP rfl)
       have HP := Lib.hid (HA.out.trans (hbP.mono HA.out.size))
       clear hoP hbP)
    | (go_at_call 11
       refine (RPut_any v b n _ HBP.out HN.out HZ1.out).mono ?_
       rintro e wQ ⟨vQ, rfl, hoQ, hbQ⟩
       rw [HT1.out] at hoQ
       have hcvQ := run_convert_S (RB.own hoQ) 22 9 5 Try.underlying22 Try.underlying5 Try.underlying9
       have hcvPQ := run_convert_S (HOP.out.below hbQ rfl) 22 9 5 Try.underlying22 Try.underlying5 Try.underlying9
       have HBQ := Lib.hid (HBP.out.below hbQ rfl)
       have HQ := Lib.hid (HP.out.trans (hbQ.mono HP.out.size))
       clear hoQ hbQ)
    | (go_at_call 12
       refine (WText_any v b s _ HBQ.out HZ2.out).mono ?_
       rintro e wT ⟨vT, rfl, hoT, hbT⟩
       rw [HT2.out] at hoT
       clear hcvQ hcvPQ hcvP
       have HOT := Lib.hid (RB.own hoT)
       have hcvT := run_convert_S HOT.out 22 9 5 Try.underlying22 Try.underlying5 Try.underlying9
       have HBT := Lib.hid (HBQ.out.below hbT rfl)
       have HT := Lib.hid (HQ.out.trans (hbT.mono HQ.out.size))
       clear hoT hbT)
    | (go_at_call 13
       refine (RefText_any v b s _ HBT.out HZ2.out).mono ?_
       rintro e wU ⟨vU, rfl, hoU, hbU⟩
       rw [HT2.out] at hoU
       have hcvU := run_convert_S (RB.own hoU) 22 9 5 Try.underlying22 Try.underlying5 Try.underlying9
       have hcvTU := run_convert_S (HOT.out.below hbU rfl) 22 9 5 Try.underlying22 Try.underlying5 Try.underlying9
       have HU := Lib.hid (HT.out.trans (hbU.mono HT.out.size))
       clear hoU hbU))
  all_goals
    go_wp2
    go_ret
    exact ⟨rfl, HU.out⟩
theorem wordPuts_walk (v : Value) (b : List UInt8) (n : Int) (s : ByteArray) (w : World) (hb : RB w v b) (hz : b.length ≤ 1048576) (hn : (Lit.int .i64 n).wf = true) (hs : s.size ≤ 1048576) :
    Calls Try.prog 3 #[v, .int .i64 n, .string s] w fun e w' => e = .returned (.bool true) ∧ Below w.heap.size w w' := by
  rw [S_of s]
  exact wordPuts_core v b n s.data.toList w hb hz hn (by rw [Array.length_toList]; exact hs)
end Go.Proofs.Ytpihnlfnolgldaa
