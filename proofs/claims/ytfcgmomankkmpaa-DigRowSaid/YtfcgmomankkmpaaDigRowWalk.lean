/-
  kistlaw05.DigRow: its walk.
-/
import Derived.Test.YtfcgmomankkmpaaDigOfWalk
namespace Go.Proofs.Ytfcgmomankkmpaa
open Go.RowKit
set_option linter.unusedVariables false

set_option maxRecDepth 20000 in
set_option maxHeartbeats 4000000 in
theorem digRow_walk (z n : Int) (w : World) (hz : (Lit.int .u8 z).wf = true) (hn : (Lit.int .u8 n).wf = true) :
    Calls Try.prog 4 #[.int .u8 z, .int .u8 n] w fun e w' => e = .returned (.bool true) ∧ Below w.heap.size w w' := by
  obtain ⟨z, rfl⟩ := u8_of hz
  obtain ⟨m, rfl⟩ := u8_of hn
  clear hz hn
  have hm := m.toNat_lt
  obtain ⟨n, hn⟩ : ∃ n, n = m.toNat := ⟨_, rfl⟩
  rw [← hn] at hm ⊢
  clear hn
  have hm2 : n < 256 := hm
  clear hm
  go_enter Try.func4, Try.ntmps4
  go_wp2
  have hown0 : (w.alloc (.cells #[] 5)).ownsRow w.heap.size 5 1 (.slice (some ⟨w.heap.size, 0, none⟩) 0 0) 0 (Bs []) := ⟨by simp [Bs], .inr ⟨w.heap.size, 0, #[], rfl, Nat.le_refl _, heap_alloc_new w _, Nat.le_refl _, Nat.zero_le _, by simp, by simp [Bs]⟩⟩
  have HOwn0 := Lib.hid hown0
  have HB0 : Hid (Below w.heap.size w (w.alloc (.cells #[] 5))) := (Below.refl _ _).alloc (Nat.le_refl _) _
  clear hown0
  go_loopw [5, 6] (fun v x wx => ∃ k : Nat, k ≤ n ∧ x = .int .i64 (k : Int) ∧ wx.ownsRow w.heap.size 5 1 v (List.replicate k z).length (Bs (List.replicate k z)) ∧ Below w.heap.size w wx) (fun _ x _ => n - (intOf x).toNat)
  case atStart => exact ⟨0, by omega, rfl, HOwn0.out, HB0.out⟩
  case round =>
    clear HOwn0 HB0
    obtain ⟨k, hk, rfl, hown, hbk⟩ := hrel
    have HO := Lib.hid hown
    have HBk := Lib.hid hbk
    clear hown hbk
    have hstep : List.replicate k z ++ [z] = List.replicate (k + 1) z := by rw [List.replicate_succ']
    have hlen : (List.replicate k z).length = k := by simp
    have HLen := Lib.hid hlen
    have HStep := Lib.hid hstep
    obtain ⟨L, HL⟩ := hid_of (List.replicate k z)
    rw [HL.out] at HO HStep hlen
    obtain ⟨oa, oc, rfl, hoc, hom⟩ := (RB.own HO.out).shape
    rw [hlen] at HO hoc ⊢
    have HLl := Lib.hid hlen
    clear hstep hlen hoc
    by_cases hlt : k < n
    · go_wp2_with (at_builtin; refine stopped ?_)
      refine going (wpList_append_bytes _ rfl _ _ 22 22 rfl w.heap.size 5 5 Try.underlying22 Try.underlying22 infoU8 _ L _ rfl (own_fr HO.out ((Fr.refl (fun _ => False) wr).alloc _) (fun _ _ h => h)) _ [z] rfl (RB.lit _ _ _ rfl (by simp [maxLen]) (by simp) rfl) (by rw [HLl.out]; simp; omega) (by have := HBk.out.size; simp; omega) ?_)
      intro v3 w3 ho3 hb3 hg3
      rw [HStep.out] at ho3
      have HO3 := Lib.hid ho3
      have HB3 : Hid (Below w.heap.size w w3) := HBk.out.trans (((Below.refl _ _).alloc HBk.out.size _).trans hb3)
      clear ho3 hb3 hg3
      go_wp2
      go_roundw
      case rel => exact ⟨k + 1, by omega, by go_num, HO3.out, HB3.out⟩
      case measure => simp [intOf]; omega
    · obtain rfl : k = n := by omega
      have HX := Lib.hid (RB.own HO.out)
      have HXn : Hid (L.length + 200 ≤ 140737488355328) := by rw [HLl.out]; exact (by omega : k + 200 ≤ 140737488355328)
      clear HO HL HStep
      go_wp2_with fail
      refine (Of_any _ _ _ HX.out HXn.out).mono ?_
      rintro e w5 ⟨rfl, hb5⟩
      have HX5 := Lib.hid (HX.out.below hb5 rfl)
      have HB5 : Hid (Below w.heap.size w w5) := HBk.out.trans (hb5.mono HBk.out.size)
      clear hb5 HX HBk
      go_wp2_with fail
      refine (awake_any _).mono ?_
      rintro e w4 ⟨rfl, hb4⟩
      have HX4 := Lib.hid (HX5.out.below hb4 rfl)
      have HB4 : Hid (Below w.heap.size w w4) := HB5.out.trans (hb4.mono HB5.out.size)
      have hsz : (S (dig L)).size = 32 := by rw [S_size, dig_length]
      obtain ⟨E, HE⟩ := hid_of (S (dig L))
      rw [HE.out] at hsz ⊢
      clear hb4 HX5 HB5
      go_wp2_with fail
      refine (RefOf_any _ _ _ HX4.out HXn.out).mono ?_
      rintro e w6 ⟨rfl, hb6⟩
      have HB6 : Hid (Below w.heap.size w w6) := HB4.out.trans (hb6.mono HB4.out.size)
      rw [HE.out]
      clear hb6 HX4 HB4
      go_wp2
      go_ret
      exact ⟨rfl, HB6.out⟩
end Go.Proofs.Ytfcgmomankkmpaa
