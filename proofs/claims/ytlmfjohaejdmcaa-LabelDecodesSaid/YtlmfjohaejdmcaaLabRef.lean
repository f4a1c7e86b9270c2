/-
  kistref09: in, Groups, bare, Good.
-/
import Derived.Test.YtlmfjohaejdmcaaLabSame
import Derived.Test.YtlmfjohaejdmcaaLabRefPlain
import Derived.Test.YtlmfjohaejdmcaaLabBody
import Derived.Test.YtlmfjohaejdmcaaLabParse
import Derived.Deep.RegionHeld
namespace Go.Proofs.Ytlmfjohaejdmcaa
open Go.RowKit
set_option linter.unusedVariables false
set_option linter.unusedSimpArgs false

theorem in_any (n a b : Int) (w : World) :
    Calls Try.prog 29 #[.int .i64 n, .int .i64 a, .int .i64 b] w fun e w' => e = .returned (.bool (decide (a ≤ n ∧ n ≤ b))) ∧ w = w' := by
  by_cases h0 : a ≤ n
  · by_cases h1 : n ≤ b
    · rw [decide_eq_true (show a ≤ n ∧ n ≤ b from ⟨h0, h1⟩)]
      go_enter Try.func29, Try.ntmps29
      go_wp2
      go_ret
      exact ⟨rfl, rfl⟩
    · rw [decide_eq_false (fun h : a ≤ n ∧ n ≤ b => h1 h.2)]
      go_enter Try.func29, Try.ntmps29
      go_wp2
      go_ret
      exact ⟨rfl, rfl⟩
  · rw [decide_eq_false (fun h : a ≤ n ∧ n ≤ b => h0 h.1)]
    go_enter Try.func29, Try.ntmps29
    go_wp2
    go_ret
    exact ⟨rfl, rfl⟩
theorem rgroups_any (n : Int) (w : World) (h0 : 0 ≤ n) (h1 : n ≤ 512) :
    Calls Try.prog 31 #[.int .i64 n] w fun e w' => e = .returned (.int .i64 (Lab.groupsI n)) ∧ w = w' := by
  have HG : Hid (Lab.groupsI n = if (n + 127) / 128 < 1 then 1 else (n + 127) / 128) := rfl
  go_enter Try.func31, Try.ntmps31
  go_wp2
  go_loop [3] (fun x => ∃ i : Nat, 1 ≤ i ∧ i ≤ 4 ∧ (i = 1 ∨ 128 * ((i : Int) - 1) < n) ∧ x = .int .i64 (i : Int)) (fun x => 5 - (intOf x).toNat)
  case atStart => exact ⟨1, by omega, by omega, .inl rfl, rfl⟩
  case round =>
    obtain ⟨i, hi1, hi4, hlo, rfl⟩ := hrel
    have HLo := Lib.hid hlo
    clear hlo
    by_cases hlt : 128 * (i : Int) < n
    · have hi5 : (i : Int) < 5 := by omega
      go_wp2
      go_round
      case rel => exact ⟨i + 1, by omega, by omega, .inr (by push_cast; omega), by go_num⟩
      case measure => simp [intOf]; omega
    · go_wp2
      go_ret
      refine ⟨ret_i64 ?_, rfl⟩
      rw [HG.out]
      have := HLo.out
      split <;> omega
set_option maxRecDepth 100000 in
set_option maxHeartbeats 1000000 in
theorem bare_1x (r : Rc) (a : Option Addr) (n c : Nat) (w : World) (hr : RB w (.slice a n c) r.data) (hk2 : r.kind ≠ 2) :
    Calls Try.prog 30 #[recV r (.slice a n c)] w fun e w' => ∃ d, e = .returned (recV (bareR r) d) ∧ RB w' d (bareR r).data ∧ Below w.heap.size w w' := by
  have HK2 := Lib.hid hk2
  clear hk2
  by_cases k1 : r.kind = 1
  · unfold recV
    go_enter Try.func30, Try.ntmps30
    go_wp2
    refine bodyPost_ret (results_cell_row rfl _ _ (w.heap.size + 1) 24 (recC { Rc.zero with kind := 1, cart := r.cart } (.slice none 0 0)) (0, 0) _ rfl ?hg Try.underlying24 rfl (by kernel_rfl)) rfl ?_
    case hg => exact Blk.row (Blk.new _ (recC { Rc.zero with kind := 1, cart := r.cart } (.slice none 0 0)) 24 (by simp))
    refine ⟨.slice none 0 0, ?_, ?_, ((Below.refl _ _).alloc (Nat.le_refl _) _).alloc (by simp) _⟩
    · unfold bareR; rw [if_pos k1]; rfl
    · unfold bareR; rw [if_pos k1]; exact RB.nil _
  · by_cases k2 : r.kind = 2
    · exact absurd k2 HK2.out
    · unfold recV
      go_enter Try.func30, Try.ntmps30
      go_wp2
      refine bodyPost_ret (results_cell_row rfl _ _ (w.heap.size + 1) 24 (recC { Rc.zero with kind := r.kind, key := r.key, gen := r.gen } (.slice none 0 0)) (0, 0) _ rfl ?hg Try.underlying24 rfl (by kernel_rfl)) rfl ?_
      case hg => exact Blk.row (Blk.alloc (cs := (recC { Rc.zero with kind := r.kind, key := r.key, gen := r.gen } (.slice none 0 0)).toList) (Blk.new _ (recC { Rc.zero with kind := r.kind, key := r.key, gen := r.gen } (.slice none 0 0)) 24 (by simp)) _)
      have eb : bareR r = { Rc.zero with kind := r.kind, key := r.key, gen := r.gen } := by unfold bareR; rw [if_neg k1, if_neg k2]
      rw [eb]
      exact ⟨.slice none 0 0, rfl, RB.nil _, (((Below.refl _ _).alloc (Nat.le_refl _) _).alloc (by simp) _).alloc (by simp; omega) _⟩
set_option maxRecDepth 100000 in
set_option maxHeartbeats 2000000 in
theorem bare_2 (r : Rc) (a : Option Addr) (n c : Nat) (w : World) (hr : RB w (.slice a n c) r.data) (k2 : r.kind = 2) :
    Calls Try.prog 30 #[recV r (.slice a n c)] w fun e w' => ∃ d, e = .returned (recV (bareR r) d) ∧ RB w' d (bareR r).data ∧ Below w.heap.size w w' := by
  obtain ⟨kind, cart, key, gen, group, groups, index, size, sum, data⟩ := r
  simp only at k2 hr
  subst k2
  have HR := Lib.hid hr
  clear hr
  have HW0 : Hid (Blk (((w.alloc (.cells #[.int .i64 2, .int .i64 cart, .string (S key), .int .i64 gen, .int .i64 group, .int .i64 groups, .int .i64 index, .int .i64 size, .string (S sum), .slice a n c] 24)).alloc (.cells #[.int .i64 0, .int .i64 0, .string ⟨#[]⟩, .int .i64 0, .int .i64 0, .int .i64 0, .int .i64 0, .int .i64 0, .string ⟨#[]⟩, .slice none 0 0] 24)).alloc (.cells #[.int .i64 2, .int .i64 0, .string (S key), .int .i64 gen, .int .i64 0, .int .i64 0, .int .i64 0, .int .i64 0, .string ⟨#[]⟩, .slice none 0 0] 24)) w.heap.size (recC ⟨2, cart, key, gen, group, groups, index, size, sum, data⟩ (.slice a n c)).toList 24) := ((Blk.new w _ _ rfl).alloc _).alloc _
  have HW1 : Hid (Blk (((w.alloc (.cells #[.int .i64 2, .int .i64 cart, .string (S key), .int .i64 gen, .int .i64 group, .int .i64 groups, .int .i64 index, .int .i64 size, .string (S sum), .slice a n c] 24)).alloc (.cells #[.int .i64 0, .int .i64 0, .string ⟨#[]⟩, .int .i64 0, .int .i64 0, .int .i64 0, .int .i64 0, .int .i64 0, .string ⟨#[]⟩, .slice none 0 0] 24)).alloc (.cells #[.int .i64 2, .int .i64 0, .string (S key), .int .i64 gen, .int .i64 0, .int .i64 0, .int .i64 0, .int .i64 0, .string ⟨#[]⟩, .slice none 0 0] 24)) (w.heap.size + 1 + 1) (recC ⟨2, 0, key, gen, 0, 0, 0, 0, [], []⟩ (.slice none 0 0)).toList 24) := Blk.new _ _ _ (by simp)
  have HWz : Hid (Blk (((w.alloc (.cells #[.int .i64 2, .int .i64 cart, .string (S key), .int .i64 gen, .int .i64 group, .int .i64 groups, .int .i64 index, .int .i64 size, .string (S sum), .slice a n c] 24)).alloc (.cells #[.int .i64 0, .int .i64 0, .string ⟨#[]⟩, .int .i64 0, .int .i64 0, .int .i64 0, .int .i64 0, .int .i64 0, .string ⟨#[]⟩, .slice none 0 0] 24)).alloc (.cells #[.int .i64 2, .int .i64 0, .string (S key), .int .i64 gen, .int .i64 0, .int .i64 0, .int .i64 0, .int .i64 0, .string ⟨#[]⟩, .slice none 0 0] 24)) (w.heap.size + 1) (recC Rc.zero (.slice none 0 0)).toList 24) := (Blk.new _ _ _ (by simp)).alloc _
  have HWb : Hid (Below w.heap.size w (((w.alloc (.cells #[.int .i64 2, .int .i64 cart, .string (S key), .int .i64 gen, .int .i64 group, .int .i64 groups, .int .i64 index, .int .i64 size, .string (S sum), .slice a n c] 24)).alloc (.cells #[.int .i64 0, .int .i64 0, .string ⟨#[]⟩, .int .i64 0, .int .i64 0, .int .i64 0, .int .i64 0, .int .i64 0, .string ⟨#[]⟩, .slice none 0 0] 24)).alloc (.cells #[.int .i64 2, .int .i64 0, .string (S key), .int .i64 gen, .int .i64 0, .int .i64 0, .int .i64 0, .int .i64 0, .string ⟨#[]⟩, .slice none 0 0] 24))) := (((Below.refl _ _).alloc (Nat.le_refl _) _).alloc (by simp) _).alloc (by simp; omega) _
  unfold recV
  go_enter Try.func30, Try.ntmps30
  go_wp2
  obtain ⟨W, HWW⟩ := hid_of (((w.alloc (.cells #[.int .i64 2, .int .i64 cart, .string (S key), .int .i64 gen, .int .i64 group, .int .i64 groups, .int .i64 index, .int .i64 size, .string (S sum), .slice a n c] 24)).alloc (.cells #[.int .i64 0, .int .i64 0, .string ⟨#[]⟩, .int .i64 0, .int .i64 0, .int .i64 0, .int .i64 0, .int .i64 0, .string ⟨#[]⟩, .slice none 0 0] 24)).alloc (.cells #[.int .i64 2, .int .i64 0, .string (S key), .int .i64 gen, .int .i64 0, .int .i64 0, .int .i64 0, .int .i64 0, .string ⟨#[]⟩, .slice none 0 0] 24))
  rw [HWW.out] at HW0 HW1 HWz HWb
  rw [HWW.out]
  have HA := HW0
  have HO := HW1
  clear HWW
  obtain ⟨a0, a1, a2, a3, a4, a5, a6, a7, a8, a9⟩ := rec_cells HA.out
  obtain ⟨o0, o1, o2, o3, o4, o5, o6, o7, o8, o9⟩ := rec_cells HO.out
  have fo := HO.out.frozen
  simp only [Rc.zero] at a4 a5 a6 a7 a8 a9 o4 o5 o6 o7 o8 o9
  clear a0 a1 a2 a3 o0 o1 o2 o3
  have HF : Hid (∀ (wx : World) (i j : Nat) (v : Value), (wx.setCell ⟨w.heap.size + 1 + 1, j, none⟩ v).cell? ⟨w.heap.size, i, none⟩ = wx.cell? ⟨w.heap.size, i, none⟩) := fun wx i j v => World.cell?_of_block (Below.heap_setCell _ _ _ _ (by simp; omega))
  go_region_held (fun wx => (wx.cell? ⟨w.heap.size, 4, none⟩ = some (.int .i64 group) ∧ wx.cell? ⟨w.heap.size, 5, none⟩ = some (.int .i64 groups) ∧ wx.cell? ⟨w.heap.size, 6, none⟩ = some (.int .i64 index) ∧ wx.cell? ⟨w.heap.size, 7, none⟩ = some (.int .i64 size) ∧ wx.cell? ⟨w.heap.size, 8, none⟩ = some (.string (S sum)) ∧ wx.cell? ⟨w.heap.size, 9, none⟩ = some (.slice a n c)))
    (refine ⟨?_, ?_, ?_, ?_, ?_, ?_⟩ <;> (simp only [World.cell?_drew, HF.out]; first | exact a4 | exact a5 | exact a6 | exact a7 | exact a8 | exact a9)) (fail)

  clear a4 a5 a6 a7 a8 a9 o4 o5 o6 o7 o8 o9 fo HA HO HF
  have HV1 : Hid (Blk ((((((W.setCell ⟨w.heap.size + 1 + 1, 4, none⟩ (.int .i64 group)).setCell ⟨w.heap.size + 1 + 1, 5, none⟩ (.int .i64 groups)).setCell ⟨w.heap.size + 1 + 1, 6, none⟩ (.int .i64 index)).setCell ⟨w.heap.size + 1 + 1, 7, none⟩ (.int .i64 size)).setCell ⟨w.heap.size + 1 + 1, 8, none⟩ (.string (S sum))).setCell ⟨w.heap.size + 1 + 1, 9, none⟩ (.slice a n c)).drew (w.heap.size + 1 + 1) (recC ⟨2, 0, key, gen, group, groups, index, size, sum, data⟩ (.slice a n c)).toList 24) := ((((((HW1.out.set 4 _).set 5 _).set 6 _).set 7 _).set 8 _).set 9 _).drew
  have HVz : Hid (Blk ((((((W.setCell ⟨w.heap.size + 1 + 1, 4, none⟩ (.int .i64 group)).setCell ⟨w.heap.size + 1 + 1, 5, none⟩ (.int .i64 groups)).setCell ⟨w.heap.size + 1 + 1, 6, none⟩ (.int .i64 index)).setCell ⟨w.heap.size + 1 + 1, 7, none⟩ (.int .i64 size)).setCell ⟨w.heap.size + 1 + 1, 8, none⟩ (.string (S sum))).setCell ⟨w.heap.size + 1 + 1, 9, none⟩ (.slice a n c)).drew (w.heap.size + 1) (recC Rc.zero (.slice none 0 0)).toList 24) := ((((((HWz.out.set_far (q := w.heap.size + 1 + 1) (by omega) 4 _).set_far (q := w.heap.size + 1 + 1) (by omega) 5 _).set_far (q := w.heap.size + 1 + 1) (by omega) 6 _).set_far (q := w.heap.size + 1 + 1) (by omega) 7 _).set_far (q := w.heap.size + 1 + 1) (by omega) 8 _).set_far (q := w.heap.size + 1 + 1) (by omega) 9 _).drew
  have HVf : Hid (Fr (fun k => k = w.heap.size + 1 + 1) W ((((((W.setCell ⟨w.heap.size + 1 + 1, 4, none⟩ (.int .i64 group)).setCell ⟨w.heap.size + 1 + 1, 5, none⟩ (.int .i64 groups)).setCell ⟨w.heap.size + 1 + 1, 6, none⟩ (.int .i64 index)).setCell ⟨w.heap.size + 1 + 1, 7, none⟩ (.int .i64 size)).setCell ⟨w.heap.size + 1 + 1, 8, none⟩ (.string (S sum))).setCell ⟨w.heap.size + 1 + 1, 9, none⟩ (.slice a n c)).drew) := (((((((Fr.refl (fun k => k = w.heap.size + 1 + 1) W).setCell (p := ⟨w.heap.size + 1 + 1, 4, none⟩) (fun _ => rfl) _).setCell (p := ⟨w.heap.size + 1 + 1, 5, none⟩) (fun _ => rfl) _).setCell (p := ⟨w.heap.size + 1 + 1, 6, none⟩) (fun _ => rfl) _).setCell (p := ⟨w.heap.size + 1 + 1, 7, none⟩) (fun _ => rfl) _).setCell (p := ⟨w.heap.size + 1 + 1, 8, none⟩) (fun _ => rfl) _).setCell (p := ⟨w.heap.size + 1 + 1, 9, none⟩) (fun _ => rfl) _).drew
  obtain ⟨V, HVV⟩ := hid_of ((((((W.setCell ⟨w.heap.size + 1 + 1, 4, none⟩ (.int .i64 group)).setCell ⟨w.heap.size + 1 + 1, 5, none⟩ (.int .i64 groups)).setCell ⟨w.heap.size + 1 + 1, 6, none⟩ (.int .i64 index)).setCell ⟨w.heap.size + 1 + 1, 7, none⟩ (.int .i64 size)).setCell ⟨w.heap.size + 1 + 1, 8, none⟩ (.string (S sum))).setCell ⟨w.heap.size + 1 + 1, 9, none⟩ (.slice a n c)).drew
  rw [HVV.out] at HV1 HVz HVf
  rw [HVV.out]
  have HVb := Lib.hid (HWb.out.trans (HVf.out.below (B := w.heap.size) HWb.out.size (fun k hk he => by omega)))
  have HVr := Lib.hid (HR.out.below HVb.out rfl)
  clear HVV HVf HW0 HW1 HWz HWb
  obtain ⟨o0, o1, o2, o3, o4, o5, o6, o7, o8, o9⟩ := rec_cells HV1.out
  obtain ⟨z0, z1, z2, z3, z4, z5, z6, z7, z8, z9⟩ := rec_cells HVz.out
  have fz := HVz.out.frozen
  simp only [Rc.zero] at o0 o1 o2 o3 o4 o5 o6 o7 o8 o9 z0 z1 z2 z3 z4 z5 z6 z7 z8 z9
  go_wp2
  refine bodyPost_ret (results_cell_row rfl _ _ (w.heap.size + 1) 24 (recC ⟨2, 0, key, gen, group, groups, index, size, sum, data⟩ (.slice a n c)) (0, 0) _ rfl ?hg Try.underlying24 rfl (by kernel_rfl)) rfl ?_
  case hg =>
    refine Blk.put10 (l := (recC Rc.zero (.slice none 0 0)).toList) ?_ rfl _ _ _ _ _ _ _ _ _ _
    exact HVz.out
  have eb : bareR ⟨2, cart, key, gen, group, groups, index, size, sum, data⟩ = ⟨2, 0, key, gen, group, groups, index, size, sum, data⟩ := rfl
  rw [eb]
  exact ⟨.slice a n c, rfl, HR.out.below (Below.put10 HVb.out (by omega) _ _ _ _ _ _ _ _ _ _) rfl, Below.put10 HVb.out (by omega) _ _ _ _ _ _ _ _ _ _⟩
theorem bare_any (r : Rc) (a : Option Addr) (n c : Nat) (w : World) (hr : RB w (.slice a n c) r.data) :
    Calls Try.prog 30 #[recV r (.slice a n c)] w fun e w' => ∃ d, e = .returned (recV (bareR r) d) ∧ RB w' d (bareR r).data ∧ Below w.heap.size w w' := by
  by_cases k2 : r.kind = 2
  · exact bare_2 r a n c w hr k2
  · exact bare_1x r a n c w hr k2
end Go.Proofs.Ytlmfjohaejdmcaa
