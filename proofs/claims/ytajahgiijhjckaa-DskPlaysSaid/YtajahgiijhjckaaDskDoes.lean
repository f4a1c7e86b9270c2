/-
  kistlaw11.does: the same act of both disks.
-/
import Derived.Test.YtajahgiijhjckaaDskTwo
import Derived.Deep.RegionHeld
namespace Go.Proofs.Ytajahgiijhjckaa
open Go.RowKit
set_option linter.unusedVariables false

def Does (w : World) (p q : Nat) (e : Ending) (w' : World) : Prop := e = .returned (.bool true) ∧ (∃ s', Mid w' p q (fun _ => False) s' s') ∧ Below p w w'
set_option maxRecDepth 20000 in
set_option maxHeartbeats 4000000 in
theorem does_any (w : World) (p q : Nat) (s : DS) (h : Mid w p q (fun _ => False) s s) (d : UInt8) (n : Int) (hn : (Lit.int .i64 n).wf = true) (v : Value) (x : List UInt8) (hx : RB w v x) (hv : 0 < x.length → ∀ k, v.ownBlock = some k → k < p) :
    Calls Try.prog 19 #[.pointer (some ⟨p, 0, none⟩), .pointer (some ⟨q, 0, none⟩), .agg #[.int .u8 (d.toNat : Int), .int .i64 n, v]] w (Does w p q) := by
  have hn1 : -9223372036854775808 ≤ n ∧ n ≤ 9223372036854775807 := by
    simp [Lit.wf, IntKind.min, IntKind.max, IntKind.bits, IntKind.signed] at hn; omega
  have HN := Lib.hid hn1
  have HV := Lib.hid hv
  have HM := Lib.hid (h.box (.cells #[.int .u8 (d.toNat : Int), .int .i64 n, v] 36))
  have hpg : p ≤ w.heap.size := by have := h.lt; omega
  have HX := Lib.hid (hx.fr (S := fun _ => False) ((Fr.refl _ w).alloc (.cells #[.int .u8 (d.toNat : Int), .int .i64 n, v] 36)) (fun _ _ _ h => h))
  have HB : Hid (Below p w (w.alloc (.cells #[.int .u8 (d.toNat : Int), .int .i64 n, v] 36))) := (Below.refl p w).alloc hpg _
  clear hn hn1 hv h hx
  have hblk := Blk.new w #[.int .u8 (d.toNat : Int), .int .i64 n, v] 36 rfl
  have HC1 := Lib.hid (hblk.cell 1 (by simp))
  have HC2 := Lib.hid (hblk.cell 2 (by simp))
  simp only [List.getElem_cons_zero, List.getElem_cons_succ] at HC1 HC2
  clear hblk
  have hmod : d.toNat % 12 < 12 := Nat.mod_lt _ (by decide)
  go_enter Try.func19, Try.ntmps19
  have HFX : Hid (∀ wq, Below p (w.alloc (.cells #[.int .u8 (d.toNat : Int), .int .i64 n, v] 36)) wq → RB wq v x) := fun wq hb => HX.out.fr (Fr.of_below (S := fun k => p ≤ k) hb (fun k _ h => h)) (fun hl k hk e => by have := HV.out hl k hk; omega)
  have hcase : d.toNat % 12 = 0 ∨ d.toNat % 12 = 1 ∨ d.toNat % 12 = 2 ∨ d.toNat % 12 = 3 ∨ d.toNat % 12 = 4 ∨ d.toNat % 12 = 5 ∨ d.toNat % 12 = 6 ∨ 7 ≤ d.toNat % 12 := by omega
  rcases hcase with hm | hm | hm | hm | hm | hm | hm | hm
  · have hmi : (d.toNat : Int) % 12 = 0 := by omega
    go_wp2_with fail
    refine (both_fuse HM.out n HN.out.2).mono ?_
    rintro e w1 ⟨rfl, hm1, hb1, hf1⟩
    have hc1 := hf1.cell HC1.out (fun h => h rfl)
    have HM1 := Lib.hid hm1
    have HB1 := Lib.hid (HB.out.trans hb1)
    clear hm1 hb1 hf1 HM HX HFX
    go_wp2_with fail
    refine (twin_fuse HM1.out n HN.out.1 HN.out.2).mono ?_
    rintro e w2 ⟨rfl, hm2, hb2, -⟩
    have HM2 := Lib.hid hm2
    have HB2 := Lib.hid (HB1.out.trans hb2)
    clear hm2 hb2
    go_wp2
    go_ret
    exact ⟨rfl, ⟨_, HM2.out.less⟩, HB2.out⟩
  · have hmi : (d.toNat : Int) % 12 = 1 := by omega
    go_wp2_with fail
    refine (both_crash HM.out n HN.out.1 HN.out.2).mono ?_
    rintro e w1 ⟨rfl, hm1, hb1, hf1⟩
    have hc1 := hf1.cell HC1.out (fun h => h rfl)
    have HM1 := Lib.hid hm1
    have HB1 := Lib.hid (HB.out.trans hb1)
    clear hm1 hb1 hf1 HM HX HFX
    go_wp2_with fail
    refine (twin_crash HM1.out n HN.out.1 HN.out.2).mono ?_
    rintro e w2 ⟨rfl, hm2, hb2, -⟩
    have HM2 := Lib.hid hm2
    have HB2 := Lib.hid (HB1.out.trans hb2)
    clear hm2 hb2
    go_wp2
    go_ret
    exact ⟨rfl, ⟨_, HM2.out.less⟩, HB2.out⟩
  · have hmi : (d.toNat : Int) % 12 = 2 := by omega
    by_cases h4 : n.tmod 4 = 0
    · have h4' : (n.tmod 4 == 0) = true := by rw [beq_iff_eq]; exact h4
      clear h4
      go_wp2_with fail
      refine (both_wipe HM.out).mono ?_
      rintro e w1 ⟨rfl, hm1, hb1, hf1⟩
      have HM1 := Lib.hid hm1
      have HB1 := Lib.hid (HB.out.trans hb1)
      clear hm1 hb1 hf1 HM HX HFX
      go_wp2_with fail
      refine (twin_wipe HM1.out).mono ?_
      rintro e w2 ⟨rfl, hm2, hb2, -⟩
      have HM2 := Lib.hid hm2
      have HB2 := Lib.hid (HB1.out.trans hb2)
      clear hm2 hb2
      go_wp2
      go_ret
      exact ⟨rfl, ⟨_, HM2.out.less⟩, HB2.out⟩
    · have h4' : (n.tmod 4 == 0) = false := by rw [beq_eq_false_iff_ne]; exact h4
      clear h4
      go_wp2
      go_ret
      exact ⟨rfl, ⟨_, HM.out.less⟩, HB.out⟩
  · have hmi : (d.toNat : Int) % 12 = 3 := by omega
    have HMd := Lib.hid HM.out.drew
    have hcd : (w.alloc (.cells #[.int .u8 (d.toNat : Int), .int .i64 n, v] 36)).drew.cell? ⟨w.heap.size, 2, none⟩ = some v := HC2.out
    have HXd := Lib.hid (HX.out.drew)
    obtain ⟨⟨r1, r2⟩, HR⟩ := hid_of (s.swap x)
    clear HM HX
    go_wp2_with fail
    go_region_held (fun wq => wq.cell? ⟨w.heap.size, 2, none⟩ = some v)
      (first | exact hcd | exact hc1 | exact hc2)
      (first
      | (go_at_call 17
         refine (both_swap HMd.out HXd.out HV.out).mono ?_
         rw [HR.out]
         rintro e w1 ⟨rfl, hm1, hb1, hf1⟩
         have hc1 := hf1.cell (a := ⟨w.heap.size, 2, none⟩) hcd (fun h => h rfl)
         have HM1 := Lib.hid hm1
         have hb0 : Below p (w.alloc (.cells #[.int .u8 (d.toNat : Int), .int .i64 n, v] 36)) w1 := ⟨hb1.os, hb1.tape, hb1.output, hb1.size, hb1.block⟩
         have HX1 := Lib.hid (HFX.out w1 hb0)
         have HB1 := Lib.hid (HB.out.trans hb0)
         clear hm1 hb1 hf1 hb0)
      | (go_at_call 27
         refine (twin_swap HM1.out HX1.out HV.out).mono ?_
         rw [HR.out]
         rintro e w2 ⟨rfl, hm2, hb2, hf2⟩
         have hc2 := hf2.cell (a := ⟨w.heap.size, 2, none⟩) hc1 (fun h => h rfl)
         have HM2 := Lib.hid hm2
         have HB2 := Lib.hid (HB1.out.trans hb2)
         clear hm2 hb2 hf2))
    go_wp2
    go_ret
    exact ⟨rfl, ⟨_, HM2.out.less⟩, HB2.out⟩
  · have hmi : (d.toNat : Int) % 12 = 4 := by omega
    obtain ⟨⟨r1, r2⟩, HR⟩ := hid_of s.sync
    go_wp2_with fail
    refine (both_sync HM.out).mono ?_
    rw [HR.out]
    rintro e w1 ⟨rfl, hm1, hb1, hf1⟩
    have HM1 := Lib.hid hm1
    have HB1 := Lib.hid (HB.out.trans hb1)
    clear hm1 hb1 hf1 HM HX HFX
    go_wp2_with fail
    refine (twin_sync HM1.out).mono ?_
    rw [HR.out]
    rintro e w2 ⟨rfl, hm2, hb2, -⟩
    have HM2 := Lib.hid hm2
    have HB2 := Lib.hid (HB1.out.trans hb2)
    clear hm2 hb2
    go_wp2
    go_ret
    exact ⟨rfl, ⟨_, HM2.out.less⟩, HB2.out⟩
  · have hmi : (d.toNat : Int) % 12 = 5 := by omega
    obtain ⟨⟨r1, r2⟩, HR⟩ := hid_of s.sync
    go_wp2_with fail
    refine (both_sync HM.out).mono ?_
    rw [HR.out]
    rintro e w1 ⟨rfl, hm1, hb1, hf1⟩
    have HM1 := Lib.hid hm1
    have HB1 := Lib.hid (HB.out.trans hb1)
    clear hm1 hb1 hf1 HM HX HFX
    go_wp2_with fail
    refine (twin_sync HM1.out).mono ?_
    rw [HR.out]
    rintro e w2 ⟨rfl, hm2, hb2, -⟩
    have HM2 := Lib.hid hm2
    have HB2 := Lib.hid (HB1.out.trans hb2)
    clear hm2 hb2
    go_wp2
    go_ret
    exact ⟨rfl, ⟨_, HM2.out.less⟩, HB2.out⟩
  · have hmi : (d.toNat : Int) % 12 = 6 := by omega
    obtain ⟨⟨r1, r2⟩, HR⟩ := hid_of s.sync
    go_wp2_with fail
    refine (both_sync HM.out).mono ?_
    rw [HR.out]
    rintro e w1 ⟨rfl, hm1, hb1, hf1⟩
    have HM1 := Lib.hid hm1
    have HB1 := Lib.hid (HB.out.trans hb1)
    clear hm1 hb1 hf1 HM HX HFX
    go_wp2_with fail
    refine (twin_sync HM1.out).mono ?_
    rw [HR.out]
    rintro e w2 ⟨rfl, hm2, hb2, -⟩
    have HM2 := Lib.hid hm2
    have HB2 := Lib.hid (HB1.out.trans hb2)
    clear hm2 hb2
    go_wp2
    go_ret
    exact ⟨rfl, ⟨_, HM2.out.less⟩, HB2.out⟩
  · have ht0 : ((d.toNat : Int) % 12 == 0) = false := by rw [beq_eq_false_iff_ne]; omega
    have ht1 : ((d.toNat : Int) % 12 == 1) = false := by rw [beq_eq_false_iff_ne]; omega
    have ht2 : ((d.toNat : Int) % 12 == 2) = false := by rw [beq_eq_false_iff_ne]; omega
    have ht3 : ((d.toNat : Int) % 12 == 3) = false := by rw [beq_eq_false_iff_ne]; omega
    have ht4 : ((d.toNat : Int) % 12 == 4) = false := by rw [beq_eq_false_iff_ne]; omega
    have ht5 : ((d.toNat : Int) % 12 == 5) = false := by rw [beq_eq_false_iff_ne]; omega
    have ht6 : ((d.toNat : Int) % 12 == 6) = false := by rw [beq_eq_false_iff_ne]; omega
    have HMd := Lib.hid HM.out.drew
    have hcd : (w.alloc (.cells #[.int .u8 (d.toNat : Int), .int .i64 n, v] 36)).drew.cell? ⟨w.heap.size, 2, none⟩ = some v := HC2.out
    have HXd := Lib.hid (HX.out.drew)
    obtain ⟨⟨r1, r2⟩, HR⟩ := hid_of (s.append x)
    clear HM HX
    go_wp2_with fail
    go_region_held (fun wq => wq.cell? ⟨w.heap.size, 2, none⟩ = some v)
      (first | exact hcd | exact hc1 | exact hc2)
      (first
      | (go_at_call 10
         refine (both_append HMd.out HXd.out HV.out).mono ?_
         rw [HR.out]
         rintro e w1 ⟨rfl, hm1, hb1, hf1⟩
         have hc1 := hf1.cell (a := ⟨w.heap.size, 2, none⟩) hcd (fun h => h rfl)
         have HM1 := Lib.hid hm1
         have hb0 : Below p (w.alloc (.cells #[.int .u8 (d.toNat : Int), .int .i64 n, v] 36)) w1 := ⟨hb1.os, hb1.tape, hb1.output, hb1.size, hb1.block⟩
         have HX1 := Lib.hid (HFX.out w1 hb0)
         have HB1 := Lib.hid (HB.out.trans hb0)
         clear hm1 hb1 hf1 hb0)
      | (go_at_call 29
         refine (twin_append HM1.out HX1.out HV.out).mono ?_
         rw [HR.out]
         rintro e w2 ⟨rfl, hm2, hb2, hf2⟩
         have hc2 := hf2.cell (a := ⟨w.heap.size, 2, none⟩) hc1 (fun h => h rfl)
         have HM2 := Lib.hid hm2
         have HB2 := Lib.hid (HB1.out.trans hb2)
         clear hm2 hb2 hf2))
    go_wp2
    go_ret
    exact ⟨rfl, ⟨_, HM2.out.less⟩, HB2.out⟩
end Go.Proofs.Ytajahgiijhjckaa
