/-
  The walk of kistlaw11.DskFuse.
-/
import Derived.Test.YtajahgiijhjckaaDskAwake
import Derived.Test.YtajahgiijhjckaaActs
import Derived.Deep.DeepCutAuto
import Derived.Deep.RegionHeld
namespace Go.Proofs.Ytajahgiijhjckaa
open Go.RowKit
set_option linter.unusedVariables false

theorem Dk.drew {w : World} {p : Nat} {bv : Value} {s : DS} (h : Dk w p bv s) : Dk w.drew p bv s := h.fr (S := fun _ => False) (Fr.refl _ w).drew (fun _ _ h => h)
theorem Dk.drewN {w : World} {p : Nat} {bv : Value} {s : DS} (h : Dk w p bv s) (n : Nat) : Dk (w.drewN n) p bv s := h.fr (S := fun _ => False) (fr_drewN _ w n) (fun _ _ h => h)
theorem fused_append (a x : List UInt8) (su f : Nat) (h : a.length + x.length ≤ 262144) : DS.append ⟨a, su, true, f⟩ x = if 0 < f then (0, ⟨a ++ x, su, true, f - 1⟩) else (11, ⟨a, su, true, f⟩) := by
  show (if 262144 < a.length + x.length then _ else _) = _
  rw [if_neg (by omega)]
  by_cases hf : 0 < f
  · rw [if_pos hf, if_pos (by simp [DS.can]; omega)]
    rfl
  · have : f = 0 := by omega
    subst this
    rfl
theorem fused_sync (a : List UInt8) (su f : Nat) : DS.sync ⟨a, su, true, f⟩ = if 0 < f then (0, ⟨a, a.length, true, f - 1⟩) else (11, ⟨a, su, true, f⟩) := by
  by_cases hf : 0 < f
  · rw [if_pos hf]
    unfold DS.sync
    rw [if_pos (by simp [DS.can]; omega)]
    rfl
  · have : f = 0 := by omega
    subst this
    rfl
theorem fused_swap (a x : List UInt8) (su f : Nat) (h : x.length ≤ 262144) : DS.swap ⟨a, su, true, f⟩ x = if 0 < f then (0, ⟨x, x.length, true, f - 1⟩) else (11, ⟨a, su, true, f⟩) := by
  show (if 262144 < x.length then _ else _) = _
  rw [if_neg (by omega)]
  by_cases hf : 0 < f
  · rw [if_pos hf, if_pos (by simp [DS.can]; omega)]
    rfl
  · have : f = 0 := by omega
    subst this
    rfl

theorem q_sync (a : List UInt8) (su f : Nat) : DS.sync ⟨a, su, false, f⟩ = (0, ⟨a, a.length, false, f⟩) := rfl
theorem q_append (a x : List UInt8) (su f : Nat) (h : a.length + x.length ≤ 262144) : DS.append ⟨a, su, false, f⟩ x = (0, ⟨a ++ x, su, false, f⟩) := by
  show (if 262144 < a.length + x.length then _ else _) = _
  rw [if_neg (by omega)]
  rfl
theorem q_swap (a x : List UInt8) (su f : Nat) (h : x.length ≤ 262144) : DS.swap ⟨a, su, false, f⟩ x = (0, ⟨x, x.length, false, f⟩) := by
  show (if 262144 < x.length then _ else _) = _
  rw [if_neg (by omega)]
  rfl
theorem q_crash (s : DS) (k : Int) : ∃ C c f, s.crash k = ⟨C, c, false, f⟩ ∧ C.length ≤ s.b.length := ⟨_, _, _, rfl, by simp; omega⟩

set_option maxRecDepth 100000 in
set_option maxHeartbeats 4000000 in
theorem dskFuse_walk (n : Int) (vl : Value) (L : List (UInt8 × Int × List UInt8)) (w : World) (hn : (Lit.int .i64 n).wf = true) (hl : RSl CA 3 w vl L) :
    Calls Try.prog 4 #[.int .i64 n, vl] w fun e w' => e = .returned (.bool true) ∧ Below w.heap.size w w' := by
  have hn2 : n ≤ 9223372036854775807 := by
    simp [Lit.wf, IntKind.min, IntKind.max, IntKind.bits, IntKind.signed] at hn; omega
  clear hn
  obtain ⟨p, HP⟩ := hid_of w.heap.size
  rw [HP.out]
  obtain ⟨al, cl, rfl, hl1, hl2⟩ := hl.shape
  simp only [maxLen] at hl2
  have HL := Lib.hid hl
  clear hl
  obtain ⟨N, HN⟩ := hid_of n.toNat
  go_enter Try.func4, Try.ntmps4
  go_wp2_with fail
  refine (new_d w).mono ?_
  rintro e w1 ⟨rfl, hd, hb⟩
  rw [HP.out] at hd hb ⊢
  have hd1 := Lib.hid hd
  have hb1 := Lib.hid hb
  clear hd hb
  go_wp2_with fail
  refine (fuse_d hd1.out n hn2).mono ?_
  rintro e w2 ⟨rfl, ⟨bv2, hd⟩, hb⟩
  have hs2 : DS.new.setFuse n = ⟨[], 0, true, N⟩ := by rw [← HN.out]; rfl
  rw [hs2] at hd
  have hd2 := Lib.hid hd
  have hb2 : Hid (Below p w w2) := hb1.out.trans hb
  clear hd hb hd1 hb1 hs2
  go_upto_if 17 with fail
  go_cut [6] (fun z wx => z = .int .i64 (N : Int) ∧ wx = w2)
  case first =>
    by_cases h0 : n < 0
    · go_wp2
      go_meet
      case rel => exact ⟨by have := HN.out; congr 1; omega, rfl⟩
    · go_wp2
      go_meet
      case rel => exact ⟨by have := HN.out; congr 1; omega, rfl⟩
  obtain ⟨rfl, rfl⟩ := hcut
  clear HN hn2
  go_wp2
  go_loopw [6, 7] (fun f i wr => ∃ (j : Nat) (a : List UInt8) (su left : Nat), j ≤ 40 ∧ j ≤ L.length ∧ i = .int .i64 j ∧ f = .int .i64 left ∧ a.length ≤ j * 1000 ∧ su ≤ a.length ∧ (∃ bv, Dk wr p bv ⟨a, su, true, left⟩) ∧ Below p w wr)
    (fun _ i _ => 40 - (intOf i).toNat)
  case atStart => exact ⟨0, [], 0, N, by omega, by omega, rfl, rfl, by simp, by simp, ⟨_, hd2.out⟩, hb2.out⟩
  case round =>
    clear hd2 hb2
    obtain ⟨j, a, su, left, hj40, hjL, rfl, rfl, ha, hsu, ⟨bv, hd⟩, hb⟩ := hrel
    have hlf : left ≤ 9223372036854775807 := hd.2.2.2.2
    have hd2 := Lib.hid hd
    have hb2 := Lib.hid hb
    clear hd hb
    by_cases hlt : j < L.length ∧ j < 40
    · obtain ⟨hlt1, hlt2⟩ := hlt
      obtain ⟨b, off, cap', hv, cs, hcs, hcell, x, hcx, hwf, hx⟩ := HL.out.at j hlt1
      subst hcx
      simp only [Value.slice.injEq] at hv
      obtain ⟨rfl, _, rfl⟩ := hv
      have hc0 := hcell 0 (by simp)
      have hc2 := hcell 2 (by simp)
      simp only [Nat.add_zero, List.getElem_cons_zero, List.getElem_cons_succ] at hc0 hc2
      have hlb := World.block_lt_of_cell? _ _ hc0
      simp only [HP.out] at hlb
      rw [← hb2.out.cell (p := ⟨b, off + j * 3, none⟩) hlb] at hc0
      rw [← hb2.out.cell (p := ⟨b, off + j * 3 + 2, none⟩) hlb] at hc2
      have hxr := Lib.hid (hx.below hb2.out HP.out.symm)
      have hxo : Hid (0 < L[j].2.2.length → ∀ q, x.ownBlock = some q → q < p) := by
        intro hn q hq
        obtain ⟨q', hq', hl'⟩ := hx.block (by omega)
        rw [hq] at hq'
        obtain rfl := Option.some.inj hq'
        rw [← HP.out]
        exact hl'
      obtain ⟨ax, cx, rfl, hcx1, hcx2⟩ := hx.shape
      simp only [maxLen] at hcx2
      clear hcell hx hwf
      obtain ⟨⟨d, X0, X⟩, HX⟩ := hid_of L[j]
      rw [HX.out] at hc0 hc2 hxr hxo hcx1
      simp only at hc0 hc2 hxr hxo hcx1
      have HC0 := Lib.hid hc0
      have HC2 := Lib.hid hc2
      have hi1 : (j : Int) < (L.length : Int) := by omega
      have hi2 : (j : Int) < 40 := by omega
      by_cases hbig : 1000 < X.length
      · have hbig' : (1000 : Int) < (X.length : Int) := by omega
        go_wp2
        go_roundw
        case rel => exact ⟨j + 1, a, su, left, by omega, by omega, by go_num, rfl, by omega, hsu, ⟨bv, hd2.out⟩, hb2.out⟩
        case measure => simp [intOf]; omega
      · have hbig' : ¬ (1000 : Int) < (X.length : Int) := by omega
        have hdd := Lib.hid hd2.out.drew
        go_upto_region 10 with fail
        go_cut [8, 9] (fun s8 s9 wx => s8 = .string (S a) ∧ s9 = .int .i64 ((a.length - su : Nat) : Int) ∧ Dk wx p bv ⟨a, su, true, left⟩ ∧ Below wr.heap.size wr wx)
        case first =>
          go_wp2_with fail
          go_region_held (fun _ => True) (trivial)
            (first
            | (go_at_call 13
               refine (bytes_any _ p bv _ hdd.out).mono ?_
               rintro e wB ⟨v, rfl, ho, hb⟩
               have HO := Lib.hid (RB.own ho)
               have hcv1 := run_convert_S HO.out 25 9 5 Try.underlying25 Try.underlying5 Try.underlying9
               have HDB := Lib.hid (hdd.out.below hb)
               have HBB : Hid (Below wr.heap.size wr wB) := Lib.hid ⟨hb.os, hb.tape, hb.output, hb.size, hb.block⟩
               clear ho hb)
            | (go_at_call 12
               refine (loose_any _ p bv _ HDB.out).mono ?_
               rintro e wL ⟨rfl, m, rfl⟩
               have hcv2 := run_convert_S (HO.out.drewN m) 25 9 5 Try.underlying25 Try.underlying5 Try.underlying9))
          all_goals
            go_wp2
            go_meet
            case rel => exact ⟨rfl, rfl, HDB.out.drewN m, ⟨HBB.out.os, HBB.out.tape, HBB.out.output, HBB.out.size, HBB.out.block⟩⟩
        obtain ⟨rfl, rfl, hd, hbc⟩ := hcut
        have hszr : Hid (p ≤ wr.heap.size) := Lib.hid (Nat.le_of_lt hd2.out.lt)
        have hd3 := Lib.hid hd
        have hxr3 := Lib.hid (hxr.out.below hbc rfl)
        have hc0 : wc.cell? ⟨b, off + j * 3, none⟩ = some (.int .u8 (d.toNat : Int)) := (hbc.cell (p := ⟨b, off + j * 3, none⟩) (by have := hszr.out; show b < _; omega)).trans HC0.out
        have hc2 : wc.cell? ⟨b, off + j * 3 + 2, none⟩ = some (.slice ax X.length cx) := (hbc.cell (p := ⟨b, off + j * 3 + 2, none⟩) (by have := hszr.out; show b < _; omega)).trans HC2.out
        have hb3 : Hid (Below p w wc) := hb2.out.trans (hbc.mono hszr.out)
        have hsz3 : Hid (p ≤ wc.heap.size) := Lib.hid (Nat.le_of_lt hd.lt)
        clear hd hbc hdd hd2 hb2 hxr HC0 HC2 hcs
        obtain ⟨LO, HLO⟩ := hid_of (a.length - su)
        rw [HLO.out]
        have hm : d.toNat % 3 = 0 ∨ d.toNat % 3 = 1 ∨ d.toNat % 3 = 2 := by omega
        by_cases hf : 0 < left
        · rcases hm with hm | hm | hm
          · have ht0 : ((d.toNat : Int) % 3 == 0) = true := by rw [beq_iff_eq]; omega
            clear hm
            go_wp2_with fail
            refine (append_d hd3.out hxr3.out (hd3.out.old hxo.out)).mono ?_
            rw [fused_append a X su left (by omega), if_pos hf]
            rintro e wE ⟨rfl, ⟨bv4, hd⟩, hb⟩
            have hd4 := Lib.hid hd
            have hb4 : Hid (Below p w wE) := hb3.out.trans hb
            clear hd hb hd3 hb3 hc0 hc2 hxr3 hsz3
            have hfI : (0 : Int) < (left : Int) := by omega
            go_wp2
            go_roundw
            case rel => exact ⟨j + 1, a ++ X, su, left - 1, by omega, by omega, by go_num, by go_num, (by rw [List.length_append]; omega), (by rw [List.length_append]; omega), ⟨bv4, hd4.out⟩, hb4.out⟩
            case measure => simp [intOf]; omega
          · have ht0 : ((d.toNat : Int) % 3 == 0) = false := by rw [beq_eq_false_iff_ne]; omega
            have ht1 : ((d.toNat : Int) % 3 == 1) = true := by rw [beq_iff_eq]; omega
            clear hm
            go_wp2_with fail
            refine (sync_d hd3.out).mono ?_
            rw [fused_sync a su left, if_pos hf]
            rintro e wE ⟨rfl, ⟨bv4, hd⟩, hb⟩
            have hd4 := Lib.hid hd
            have hb4 : Hid (Below p w wE) := hb3.out.trans hb
            clear hd hb hd3 hb3 hc0 hc2 hxr3 hsz3
            have hfI : (0 : Int) < (left : Int) := by omega
            go_wp2
            go_roundw
            case rel => exact ⟨j + 1, a, a.length, left - 1, by omega, by omega, by go_num, by go_num, (by omega), (Nat.le_refl _), ⟨bv4, hd4.out⟩, hb4.out⟩
            case measure => simp [intOf]; omega
          · have ht0 : ((d.toNat : Int) % 3 == 0) = false := by rw [beq_eq_false_iff_ne]; omega
            have ht1 : ((d.toNat : Int) % 3 == 1) = false := by rw [beq_eq_false_iff_ne]; omega
            clear hm
            go_wp2_with fail
            refine (swap_d hd3.out hxr3.out (hd3.out.old hxo.out)).mono ?_
            rw [fused_swap a X su left (by omega), if_pos hf]
            rintro e wE ⟨rfl, ⟨bv4, hd⟩, hb⟩
            have hd4 := Lib.hid hd
            have hb4 : Hid (Below p w wE) := hb3.out.trans hb
            clear hd hb hd3 hb3 hc0 hc2 hxr3 hsz3
            have hfI : (0 : Int) < (left : Int) := by omega
            go_wp2
            go_roundw
            case rel => exact ⟨j + 1, X, X.length, left - 1, by omega, by omega, by go_num, by go_num, (by omega), (Nat.le_refl _), ⟨bv4, hd4.out⟩, hb4.out⟩
            case measure => simp [intOf]; omega
        · rcases hm with hm | hm | hm
          · have ht0 : ((d.toNat : Int) % 3 == 0) = true := by rw [beq_iff_eq]; omega
            clear hm
            go_wp2_with fail
            refine (append_d hd3.out hxr3.out (hd3.out.old hxo.out)).mono ?_
            rw [fused_append a X su left (by omega), if_neg hf]
            rintro e wE ⟨rfl, ⟨bv4, hd⟩, hb⟩
            have hd4 := Lib.hid hd
            have hb4 : Hid (Below p w wE) := hb3.out.trans hb
            clear hd hb hd3 hb3 hc0 hc2 hxr3 hsz3
            have hl0 : left = 0 := by omega
            subst hl0
            clear hf
            go_wp2_with fail
            refine (bytes_any _ p bv4 _ hd4.out).mono ?_
            rintro e wB ⟨v, rfl, ho, hb⟩
            have hcv1 := run_convert_S (RB.own ho) 25 9 5 Try.underlying25 Try.underlying5 Try.underlying9
            have hd5 := Lib.hid (hd4.out.below hb)
            have hb5 : Hid (Below p w wB) := hb4.out.trans (hb.mono (Nat.le_of_lt hd4.out.lt))
            clear ho hb hd4 hb4
            go_wp2_with fail
            refine (loose_any _ p bv4 _ hd5.out).mono ?_
            rintro e wL ⟨rfl, m, rfl⟩
            have hlo : ((DS.loose ⟨a, su, true, 0⟩ : Nat) : Int) = (LO : Int) := by rw [← HLO.out]; rfl
            rw [hlo]
            go_wp2
            go_roundw
            case rel => exact ⟨j + 1, a, su, 0, by omega, by omega, by go_num, rfl, by omega, hsu, ⟨bv4, hd5.out.drewN m⟩, ⟨hb5.out.os, hb5.out.tape, hb5.out.output, hb5.out.size, hb5.out.block⟩⟩
            case measure => simp [intOf]; omega
          · have ht0 : ((d.toNat : Int) % 3 == 0) = false := by rw [beq_eq_false_iff_ne]; omega
            have ht1 : ((d.toNat : Int) % 3 == 1) = true := by rw [beq_iff_eq]; omega
            clear hm
            go_wp2_with fail
            refine (sync_d hd3.out).mono ?_
            rw [fused_sync a su left, if_neg hf]
            rintro e wE ⟨rfl, ⟨bv4, hd⟩, hb⟩
            have hd4 := Lib.hid hd
            have hb4 : Hid (Below p w wE) := hb3.out.trans hb
            clear hd hb hd3 hb3 hc0 hc2 hxr3 hsz3
            have hl0 : left = 0 := by omega
            subst hl0
            clear hf
            go_wp2_with fail
            refine (bytes_any _ p bv4 _ hd4.out).mono ?_
            rintro e wB ⟨v, rfl, ho, hb⟩
            have hcv1 := run_convert_S (RB.own ho) 25 9 5 Try.underlying25 Try.underlying5 Try.underlying9
            have hd5 := Lib.hid (hd4.out.below hb)
            have hb5 : Hid (Below p w wB) := hb4.out.trans (hb.mono (Nat.le_of_lt hd4.out.lt))
            clear ho hb hd4 hb4
            go_wp2_with fail
            refine (loose_any _ p bv4 _ hd5.out).mono ?_
            rintro e wL ⟨rfl, m, rfl⟩
            have hlo : ((DS.loose ⟨a, su, true, 0⟩ : Nat) : Int) = (LO : Int) := by rw [← HLO.out]; rfl
            rw [hlo]
            go_wp2
            go_roundw
            case rel => exact ⟨j + 1, a, su, 0, by omega, by omega, by go_num, rfl, by omega, hsu, ⟨bv4, hd5.out.drewN m⟩, ⟨hb5.out.os, hb5.out.tape, hb5.out.output, hb5.out.size, hb5.out.block⟩⟩
            case measure => simp [intOf]; omega
          · have ht0 : ((d.toNat : Int) % 3 == 0) = false := by rw [beq_eq_false_iff_ne]; omega
            have ht1 : ((d.toNat : Int) % 3 == 1) = false := by rw [beq_eq_false_iff_ne]; omega
            clear hm
            go_wp2_with fail
            refine (swap_d hd3.out hxr3.out (hd3.out.old hxo.out)).mono ?_
            rw [fused_swap a X su left (by omega), if_neg hf]
            rintro e wE ⟨rfl, ⟨bv4, hd⟩, hb⟩
            have hd4 := Lib.hid hd
            have hb4 : Hid (Below p w wE) := hb3.out.trans hb
            clear hd hb hd3 hb3 hc0 hc2 hxr3 hsz3
            have hl0 : left = 0 := by omega
            subst hl0
            clear hf
            go_wp2_with fail
            refine (bytes_any _ p bv4 _ hd4.out).mono ?_
            rintro e wB ⟨v, rfl, ho, hb⟩
            have hcv1 := run_convert_S (RB.own ho) 25 9 5 Try.underlying25 Try.underlying5 Try.underlying9
            have hd5 := Lib.hid (hd4.out.below hb)
            have hb5 : Hid (Below p w wB) := hb4.out.trans (hb.mono (Nat.le_of_lt hd4.out.lt))
            clear ho hb hd4 hb4
            go_wp2_with fail
            refine (loose_any _ p bv4 _ hd5.out).mono ?_
            rintro e wL ⟨rfl, m, rfl⟩
            have hlo : ((DS.loose ⟨a, su, true, 0⟩ : Nat) : Int) = (LO : Int) := by rw [← HLO.out]; rfl
            rw [hlo]
            go_wp2
            go_roundw
            case rel => exact ⟨j + 1, a, su, 0, by omega, by omega, by go_num, rfl, by omega, hsu, ⟨bv4, hd5.out.drewN m⟩, ⟨hb5.out.os, hb5.out.tape, hb5.out.output, hb5.out.size, hb5.out.block⟩⟩
            case measure => simp [intOf]; omega
    · have hex : (L.length ≤ j) ∨ (j < L.length ∧ 40 ≤ j) := by omega
      obtain ⟨C, c, f, hcr, hC⟩ := q_crash ⟨a, su, true, left⟩ 0
      have hC2 : C.length ≤ 40000 := by have : C.length ≤ a.length := hC; omega
      have HCr := Lib.hid hcr
      clear hcr hC hlf
      rcases hex with hex | ⟨hex1, hex2⟩
      · have hexI : ¬ (j : Int) < (L.length : Int) := by omega
        clear hex hlt
        go_wp2_with fail
        refine (crash_d hd2.out 0 (by omega) (by omega)).mono ?_
        rw [HCr.out]
        rintro e w3 ⟨rfl, ⟨bv3, hd⟩, hb⟩
        have hd3 := Lib.hid hd
        have hb3 : Hid (Below p w w3) := hb2.out.trans hb
        clear hd hb hd2 hb2 HCr HL
        go_wp2_with fail
        go_region_held (fun _ => True) (trivial)
          (first
          | (go_at_call 15
             refine (awake_any _).mono ?_
             rintro e wA ⟨rfl, hbA⟩
             have hA : Below w3.heap.size w3 wA := ⟨hbA.os, hbA.tape, hbA.output, hbA.size, hbA.block⟩
             have HDA := Lib.hid (hd3.out.below hA)
             have HBA : Hid (Below p w wA) := hb3.out.trans (hA.mono (Nat.le_of_lt hd3.out.lt))
             clear hbA hA)
          | (go_at_call 11
             refine (sync_d HDA.out).mono ?_
             rw [q_sync]
             rintro e wS ⟨rfl, ⟨bvS, hd⟩, hb⟩
             have HDS := Lib.hid hd
             have HDSa := Lib.hid (hd.alloc (.cells #[.int .u8 1] 5))
             have HBSa : Hid (Below p w (wS.alloc (.cells #[.int .u8 1] 5))) := (HBA.out.trans hb).alloc (Nat.le_of_lt hd.lt) _
             clear hd hb)
          | (go_at_call 10
             refine (append_d HDSa.out (RB.lit wS (e := 5) (n := 1) (g := wS.heap.size) #[.int .u8 1] [1] (by simp [Bs, B]) (by simp [maxLen]) rfl rfl) (HDS.out.fresh (fun k hk => by simp [Value.ownBlock] at hk; omega))).mono ?_
             rw [q_append C [1] C.length f (by simp; omega)]
             rintro e wP ⟨rfl, ⟨bvP, hd⟩, hb⟩
             have HDP := Lib.hid hd
             have HDPa := Lib.hid (hd.alloc (.cells #[.int .u8 2] 5))
             have HBPa : Hid (Below p w (wP.alloc (.cells #[.int .u8 2] 5))) := (HBSa.out.trans hb).alloc (Nat.le_of_lt hd.lt) _
             clear hd hb)
          | (go_at_call 17
             refine (swap_d HDPa.out (RB.lit wP (e := 5) (n := 1) (g := wP.heap.size) #[.int .u8 2] [2] (by simp [Bs, B]) (by simp [maxLen]) rfl rfl) (HDP.out.fresh (fun k hk => by simp [Value.ownBlock] at hk; omega))).mono ?_
             rw [q_swap (C ++ [1]) [2] C.length f (by simp)]
             rintro e wQ ⟨rfl, ⟨bvQ, hd⟩, hb⟩
             have HDQ := Lib.hid hd
             have HDQa := Lib.hid (hd.alloc (.cells #[.int .u8 2] 5))
             have HBQ : Hid (Below p w wQ) := HBPa.out.trans hb
             have HBQa : Hid (Below p w (wQ.alloc (.cells #[.int .u8 2] 5))) := HBQ.out.alloc (Nat.le_of_lt hd.lt) _
             have hcL0 := run_convert_S (RB.lit wQ (e := 5) (n := 1) (g := wQ.heap.size) #[.int .u8 2] [2] (by simp [Bs, B]) (by simp [maxLen]) rfl rfl) 25 9 5 Try.underlying25 Try.underlying5 Try.underlying9
             clear hd hb)
          | (go_at_call 13
             refine (bytes_any _ p bvQ ⟨[2], ([2] : List UInt8).length, false, f⟩ ?_).mono ?_
             first | exact HDQ.out | exact HDQa.out
             rintro e wB ⟨v, rfl, ho, hb⟩
             have hcB := run_convert_S (RB.own ho) 25 9 5 Try.underlying25 Try.underlying5 Try.underlying9
             have hcB2 := run_convert_S ((RB.own ho).fr ((Fr.refl (fun _ => False) wB).alloc (.cells #[.int .u8 2] 5)) (fun _ _ _ h => h)) 25 9 5 Try.underlying25 Try.underlying5 Try.underlying9
             have hcL := run_convert_S (RB.lit wB (e := 5) (n := 1) (g := wB.heap.size) #[.int .u8 2] [2] (by simp [Bs, B]) (by simp [maxLen]) rfl rfl) 25 9 5 Try.underlying25 Try.underlying5 Try.underlying9
             try have hcL2 := run_convert_S ((RB.lit wQ (e := 5) (n := 1) (g := wQ.heap.size) #[.int .u8 2] [2] (by simp [Bs, B]) (by simp [maxLen]) rfl rfl).below hb rfl) 25 9 5 Try.underlying25 Try.underlying5 Try.underlying9
             have HFin : Hid (Below p w wB) := by first | exact HBQ.out.trans (hb.mono (Nat.le_of_lt HDQ.out.lt)) | exact HBQa.out.trans (hb.mono (Nat.le_of_lt HDQa.out.lt))
             clear ho hb))
        all_goals
          go_wp2
          go_ret
          first
            | exact ⟨rfl, HFin.out⟩
            | exact ⟨rfl, HFin.out.alloc (by rw [← HP.out]; exact HFin.out.size) _⟩
      · have hexI : (j : Int) < (L.length : Int) := by omega
        have hexI2 : ¬ (j : Int) < 40 := by omega
        clear hex1 hex2 hlt
        go_wp2_with fail
        refine (crash_d hd2.out 0 (by omega) (by omega)).mono ?_
        rw [HCr.out]
        rintro e w3 ⟨rfl, ⟨bv3, hd⟩, hb⟩
        have hd3 := Lib.hid hd
        have hb3 : Hid (Below p w w3) := hb2.out.trans hb
        clear hd hb hd2 hb2 HCr HL
        go_wp2_with fail
        go_region_held (fun _ => True) (trivial)
          (first
          | (go_at_call 15
             refine (awake_any _).mono ?_
             rintro e wA ⟨rfl, hbA⟩
             have hA : Below w3.heap.size w3 wA := ⟨hbA.os, hbA.tape, hbA.output, hbA.size, hbA.block⟩
             have HDA := Lib.hid (hd3.out.below hA)
             have HBA : Hid (Below p w wA) := hb3.out.trans (hA.mono (Nat.le_of_lt hd3.out.lt))
             clear hbA hA)
          | (go_at_call 11
             refine (sync_d HDA.out).mono ?_
             rw [q_sync]
             rintro e wS ⟨rfl, ⟨bvS, hd⟩, hb⟩
             have HDS := Lib.hid hd
             have HDSa := Lib.hid (hd.alloc (.cells #[.int .u8 1] 5))
             have HBSa : Hid (Below p w (wS.alloc (.cells #[.int .u8 1] 5))) := (HBA.out.trans hb).alloc (Nat.le_of_lt hd.lt) _
             clear hd hb)
          | (go_at_call 10
             refine (append_d HDSa.out (RB.lit wS (e := 5) (n := 1) (g := wS.heap.size) #[.int .u8 1] [1] (by simp [Bs, B]) (by simp [maxLen]) rfl rfl) (HDS.out.fresh (fun k hk => by simp [Value.ownBlock] at hk; omega))).mono ?_
             rw [q_append C [1] C.length f (by simp; omega)]
             rintro e wP ⟨rfl, ⟨bvP, hd⟩, hb⟩
             have HDP := Lib.hid hd
             have HDPa := Lib.hid (hd.alloc (.cells #[.int .u8 2] 5))
             have HBPa : Hid (Below p w (wP.alloc (.cells #[.int .u8 2] 5))) := (HBSa.out.trans hb).alloc (Nat.le_of_lt hd.lt) _
             clear hd hb)
          | (go_at_call 17
             refine (swap_d HDPa.out (RB.lit wP (e := 5) (n := 1) (g := wP.heap.size) #[.int .u8 2] [2] (by simp [Bs, B]) (by simp [maxLen]) rfl rfl) (HDP.out.fresh (fun k hk => by simp [Value.ownBlock] at hk; omega))).mono ?_
             rw [q_swap (C ++ [1]) [2] C.length f (by simp)]
             rintro e wQ ⟨rfl, ⟨bvQ, hd⟩, hb⟩
             have HDQ := Lib.hid hd
             have HDQa := Lib.hid (hd.alloc (.cells #[.int .u8 2] 5))
             have HBQ : Hid (Below p w wQ) := HBPa.out.trans hb
             have HBQa : Hid (Below p w (wQ.alloc (.cells #[.int .u8 2] 5))) := HBQ.out.alloc (Nat.le_of_lt hd.lt) _
             have hcL0 := run_convert_S (RB.lit wQ (e := 5) (n := 1) (g := wQ.heap.size) #[.int .u8 2] [2] (by simp [Bs, B]) (by simp [maxLen]) rfl rfl) 25 9 5 Try.underlying25 Try.underlying5 Try.underlying9
             clear hd hb)
          | (go_at_call 13
             refine (bytes_any _ p bvQ ⟨[2], ([2] : List UInt8).length, false, f⟩ ?_).mono ?_
             first | exact HDQ.out | exact HDQa.out
             rintro e wB ⟨v, rfl, ho, hb⟩
             have hcB := run_convert_S (RB.own ho) 25 9 5 Try.underlying25 Try.underlying5 Try.underlying9
             have hcB2 := run_convert_S ((RB.own ho).fr ((Fr.refl (fun _ => False) wB).alloc (.cells #[.int .u8 2] 5)) (fun _ _ _ h => h)) 25 9 5 Try.underlying25 Try.underlying5 Try.underlying9
             have hcL := run_convert_S (RB.lit wB (e := 5) (n := 1) (g := wB.heap.size) #[.int .u8 2] [2] (by simp [Bs, B]) (by simp [maxLen]) rfl rfl) 25 9 5 Try.underlying25 Try.underlying5 Try.underlying9
             try have hcL2 := run_convert_S ((RB.lit wQ (e := 5) (n := 1) (g := wQ.heap.size) #[.int .u8 2] [2] (by simp [Bs, B]) (by simp [maxLen]) rfl rfl).below hb rfl) 25 9 5 Try.underlying25 Try.underlying5 Try.underlying9
             have HFin : Hid (Below p w wB) := by first | exact HBQ.out.trans (hb.mono (Nat.le_of_lt HDQ.out.lt)) | exact HBQa.out.trans (hb.mono (Nat.le_of_lt HDQa.out.lt))
             clear ho hb))
        all_goals
          go_wp2
          go_ret
          first
            | exact ⟨rfl, HFin.out⟩
            | exact ⟨rfl, HFin.out.alloc (by rw [← HP.out]; exact HFin.out.size) _⟩
end Go.Proofs.Ytajahgiijhjckaa
