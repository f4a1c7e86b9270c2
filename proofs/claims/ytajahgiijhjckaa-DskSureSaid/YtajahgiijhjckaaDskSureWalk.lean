/-
  The walk of kistlaw11.DskSure.
-/
import Derived.Test.YtajahgiijhjckaaDskAwake
import Derived.Deep.DeepCutAuto
namespace Go.Proofs.Ytajahgiijhjckaa
open Go.RowKit
set_option linter.unusedVariables false

theorem plain_append (a x : List UInt8) (su : Nat) (h : a.length + x.length ≤ 262144) : DS.append ⟨a, su, false, 0⟩ x = (0, ⟨a ++ x, su, false, 0⟩) := by
  show (if 262144 < a.length + x.length then _ else _) = _
  rw [if_neg (by omega)]
  rfl
theorem plain_sync (a : List UInt8) (su : Nat) : DS.sync ⟨a, su, false, 0⟩ = (0, ⟨a, a.length, false, 0⟩) := rfl

set_option maxRecDepth 100000 in
set_option maxHeartbeats 2000000 in
theorem dskSure_walk (v0 : Value) (parts : List (List UInt8)) (sy : Int) (keep : Int) (w : World) (h0 : RSl CB 1 w v0 parts) (hs : (Lit.int .u8 sy).wf = true) (hk : (Lit.int .i64 keep).wf = true) :
    Calls Try.prog 3 #[v0, .int .u8 sy, .int .i64 keep] w fun e w' => e = .returned (.bool true) ∧ Below w.heap.size w w' := by
  obtain ⟨sy, rfl⟩ := u8_of hs
  have hsy : sy.toNat < 256 := sy.toNat_lt
  simp only [Lit.wf, IntKind.min, IntKind.max, IntKind.bits, IntKind.signed] at hk
  simp at hk
  obtain ⟨hk1, hk2⟩ := hk
  clear hs
  obtain ⟨p, HP⟩ := hid_of w.heap.size
  rw [HP.out]
  obtain ⟨pa, pcap, rfl, hpc1, hpc2⟩ := h0.shape
  simp only [maxLen] at hpc2
  have H0 := Lib.hid h0
  clear h0
  go_enter Try.func3, Try.ntmps3
  go_wp2_with fail
  refine (new_d w).mono ?_
  rintro e w1 ⟨rfl, hd, hb⟩
  rw [HP.out] at hd hb ⊢
  have hd1 := Lib.hid hd
  have hb1 := Lib.hid hb
  clear hd hb
  go_wp2
  go_loopw [8, 9, 10] (fun s8 s9 i wr => ∃ (k : Nat) (a : List UInt8) (su : Nat), k ≤ 30 ∧ k ≤ parts.length ∧ i = .int .i64 k ∧ s8 = .string (S a) ∧ s9 = .int .i64 su ∧ a.length ≤ k * 1000 ∧ su ≤ a.length ∧ (∃ bv, Dk wr p bv ⟨a, su, false, 0⟩) ∧ Below p w wr)
    (fun _ _ i _ => 30 - (intOf i).toNat)
  case atStart => exact ⟨0, [], 0, by omega, by omega, rfl, rfl, rfl, by simp, by simp, ⟨_, hd1.out⟩, hb1.out⟩
  case round =>
    clear hd1 hb1
    obtain ⟨k, a, su, hk30, hkp, rfl, rfl, rfl, ha, hsu, ⟨bv, hd⟩, hb⟩ := hrel
    have hd2 := Lib.hid hd
    have hb2 := Lib.hid hb
    clear hd hb
    by_cases hlt : k < parts.length ∧ k < 30
    · obtain ⟨hlt1, hlt2⟩ := hlt
      obtain ⟨b, off, cap', hv, cs, hcs, hcell, x, hcx, hx⟩ := H0.out.at k hlt1
      subst hcx
      simp only [Value.slice.injEq] at hv
      obtain ⟨rfl, _, rfl⟩ := hv
      have hc0 := hcell 0 (by simp)
      simp only [Nat.mul_one, Nat.add_zero, List.getElem_cons_zero] at hc0
      have hlb := World.block_lt_of_cell? _ _ hc0
      simp only [HP.out] at hlb
      rw [← hb2.out.cell (p := ⟨b, off + k, none⟩) hlb] at hc0
      have hxr := Lib.hid (hx.below hb2.out HP.out.symm)
      have hxo : Hid (0 < parts[k].length → ∀ q, x.ownBlock = some q → q < p) := by
        intro hn q hq
        obtain ⟨q', hq', hl'⟩ := hx.block (by omega)
        rw [hq] at hq'
        obtain rfl := Option.some.inj hq'
        rw [← HP.out]
        exact hl'
      obtain ⟨ax, cx, rfl, hcx1, hcx2⟩ := hx.shape
      simp only [maxLen] at hcx2
      clear hcell hx
      obtain ⟨X, HX⟩ := hid_of parts[k]
      rw [HX.out] at hc0 hxr hxo hcx1
      have hi1 : (k : Int) < (parts.length : Int) := by omega
      have hi2 : (k : Int) < 30 := by omega
      by_cases hbig : 1000 < X.length
      · have hbig' : (1000 : Int) < (X.length : Int) := by omega
        go_wp2
        go_roundw
        case rel => exact ⟨k + 1, a, su, by omega, by omega, by go_num, rfl, rfl, by omega, hsu, ⟨bv, hd2.out⟩, hb2.out⟩
        case measure => simp [intOf]; omega
      · have hbig' : ¬ (1000 : Int) < (X.length : Int) := by omega
        go_wp2_with fail
        refine (append_d hd2.out hxr.out (hd2.out.old hxo.out)).mono ?_
        rw [plain_append a X su (by omega)]
        rintro e w3 ⟨rfl, ⟨bv3, hd⟩, hb⟩
        have hd3 := Lib.hid hd
        have hb3 : Hid (Below p w w3) := hb2.out.trans hb
        have hc3 : w3.cell? ⟨b, off + k, none⟩ = some (.slice ax X.length cx) := by
          rw [hb.cell (p := ⟨b, off + k, none⟩) hlb]; exact hc0
        have hcv := run_convert_S (P := Try.prog) (hxr.out.fr (S := fun q => p ≤ q) ⟨hb.os, hb.tape, hb.output, hb.size, fun q _ hq => hb.block q (by omega)⟩ (fun hn q hq hpq => by have := hxo.out hn q hq; omega)) 25 9 5 Try.underlying25 Try.underlying5 Try.underlying9
        have hadd : (Op.stringOp .add (S a) (S X)).run Try.prog w3 = .ok (.string (S (a ++ X))) w3 := by
          rw [run_string_add_sum (P := Try.prog) w3 (S a) (S X) (by rw [S_size, S_size]; omega), S_append]
        clear hd hb hc0 hxr hxo hd2 hb2
        have hS := S_size (a ++ X)
        rw [List.length_append] at hS
        by_cases hsync : k = sy.toNat % 30
        · have hsync' : ((k : Int) == (sy.toNat : Int) % 30) = true := by rw [beq_iff_eq]; omega
          have HSY := Lib.hid hsync
          clear hsync
          go_wp2_with fail
          refine (sync_d hd3.out).mono ?_
          rw [plain_sync]
          rintro e w4 ⟨rfl, ⟨bv4, hd⟩, hb⟩
          have hd4 := Lib.hid hd
          have hb4 : Hid (Below p w w4) := hb3.out.trans hb
          clear hd hb hd3 hb3 hc3 hcv hadd
          go_wp2
          go_roundw
          case rel => exact ⟨k + 1, a ++ X, (a ++ X).length, by omega, by omega, by go_num, rfl, by rw [List.length_append]; rfl, by rw [List.length_append]; omega, Nat.le_refl _, ⟨bv4, hd4.out⟩, hb4.out⟩
          case measure => simp [intOf]; omega
        · have hsync' : ((k : Int) == (sy.toNat : Int) % 30) = false := by rw [beq_eq_false_iff_ne]; omega
          clear hsync
          go_wp2
          go_roundw
          case rel => exact ⟨k + 1, a ++ X, su, by omega, by omega, by go_num, rfl, rfl, by rw [List.length_append]; omega, by rw [List.length_append]; omega, ⟨bv3, hd3.out⟩, hb3.out⟩
          case measure => simp [intOf]; omega
    · have hex : (parts.length ≤ k) ∨ (k < parts.length ∧ 30 ≤ k) := by omega
      have hs1 := S_size a
      have hl3 : Hid ((DS.loose ⟨a, su, false, 0⟩ : Int) = (a.length : Int) - (su : Int)) := by show ((a.length - su : Nat) : Int) = _; omega
      have ha2 : a.length ≤ 30000 := by omega
      -- what the crash leaves
      have hn : ∃ n : Nat, n ≤ a.length ∧ DS.crash ⟨a, su, false, 0⟩ keep = ⟨a.take n, n, false, 0⟩ ∧
          ((((a.length : Int) - (su : Int)) ≤ keep ∧ n = a.length) ∨ (keep < (a.length : Int) - (su : Int) ∧ ((keep ≤ 0 ∧ n = su) ∨ (0 < keep ∧ (n : Int) = (su : Int) + keep)))) := by
        refine ⟨su + min keep.toNat (a.length - su), by omega, rfl, by omega⟩
      obtain ⟨n, hn1, hcr, hn2⟩ := hn
      have HCR := Lib.hid hcr
      clear hcr hlt ha
      clear H0
      rcases hex with hex | ⟨hex, hex'⟩
      all_goals
        go_wp2_with fail
        refine (loose_any _ _ _ _ hd2.out).mono ?_
        rw [hl3.out]
        rintro e w' ⟨rfl, n5, rfl⟩
        have hd3 : Hid (Dk (wr.drewN n5) p bv ⟨a, su, false, 0⟩) := hd2.out
        have hb3 : Hid (Below p w (wr.drewN n5)) := hb2.out.trans ⟨rfl, rfl, rfl, Nat.le_refl _, fun _ _ => rfl⟩
        have hbeq : (((a.length : Int) - (su : Int)) != ((a.length : Int) - (su : Int))) = false := by simp
        go_wp2_with fail
        refine (bytes_any _ _ _ _ hd3.out).mono ?_
        rintro e w7 ⟨v7, rfl, hown, hb⟩
        have hcv := run_convert_S (P := Try.prog) (RB.own hown) 25 9 5 Try.underlying25 Try.underlying5 Try.underlying9
        have hd7 := Lib.hid (hd3.out.below hb)
        have hb7 : Hid (Below p w w7) := hb3.out.trans (hb.mono (by have := hd3.out.lt; omega))
        clear hown hb
        go_wp2_with fail
        clear hcv
        refine (crash_d hd7.out keep hk1 hk2).mono ?_
        rw [HCR.out]
        rintro e w8 ⟨rfl, ⟨bv8, hd⟩, hb⟩
        have hd8 : Hid (Dk w8.drew p bv8 ⟨a.take n, n, false, 0⟩) := hd
        have hb8 : Hid (Below p w w8.drew) := (hb7.out.trans hb).drew
        clear hd hb hd7 hb7 hd3 hb3 hbeq
        have hl9 : Hid ((DS.loose ⟨a.take n, n, false, 0⟩ : Int) = 0) := by show (((a.take n).length - n : Nat) : Int) = 0; simp; omega
        have hext := S_take a n
        have hself : (S (a.take n)).toList == (S (a.take n)).toList := by simp
        have HN := Lib.hid hn2
        clear hn2
        have Hself := Lib.hid hself
        clear hself
        have n0 : (0 : Int) ≤ (n : Int) := by omega
        have n1 : (n : Int) ≤ (a.length : Int) := by omega
        rcases HN.out with ⟨hq, hn⟩ | ⟨hq, ⟨hq2, hn⟩ | ⟨hq2, hn⟩⟩
        · subst hn
          go_wp2
          go_region_with (first
            | (go_at_call 15; refine (awake_any _).mono ?_; rintro e w9 ⟨rfl, hb9⟩; have hd9 := hd8.out.below hb9)
            | (go_at_call 13; refine (bytes_any _ _ _ _ hd9).mono ?_; rintro e w10 ⟨v10, rfl, hown, hb10⟩; have hd10 := hd9.below hb10; have hcv := run_convert_S (P := Try.prog) (RB.own hown) 25 9 5 Try.underlying25 Try.underlying5 Try.underlying9)
            | (go_at_call 12; refine (loose_any _ _ _ _ hd10).mono ?_; rw [hl9.out]; rintro e w' ⟨rfl, n11, rfl⟩))
          go_wp2
          go_ret
          refine ⟨rfl, hb8.out.trans ((hb9.mono ?_).trans ((hb10.mono ?_).trans ⟨rfl, rfl, rfl, Nat.le_refl _, fun _ _ => rfl⟩))⟩
          · have := hd8.out.lt; omega
          · have := hd9.lt; omega
        · subst hn
          go_wp2
          go_region_with (first
            | (go_at_call 15; refine (awake_any _).mono ?_; rintro e w9 ⟨rfl, hb9⟩; have hd9 := hd8.out.below hb9)
            | (go_at_call 13; refine (bytes_any _ _ _ _ hd9).mono ?_; rintro e w10 ⟨v10, rfl, hown, hb10⟩; have hd10 := hd9.below hb10; have hcv := run_convert_S (P := Try.prog) (RB.own hown) 25 9 5 Try.underlying25 Try.underlying5 Try.underlying9)
            | (go_at_call 12; refine (loose_any _ _ _ _ hd10).mono ?_; rw [hl9.out]; rintro e w' ⟨rfl, n11, rfl⟩))
          go_wp2
          go_ret
          refine ⟨rfl, hb8.out.trans ((hb9.mono ?_).trans ((hb10.mono ?_).trans ⟨rfl, rfl, rfl, Nat.le_refl _, fun _ _ => rfl⟩))⟩
          · have := hd8.out.lt; omega
          · have := hd9.lt; omega
        · have hn' := hn.symm
          clear hn
          have hw3 : IntKind.i64.wrap (n : Int) = (n : Int) := IntWalk.i64_in _ (by omega)
          go_wp2
          go_region_with (first
            | (go_at_call 15; refine (awake_any _).mono ?_; rintro e w9 ⟨rfl, hb9⟩; have hd9 := hd8.out.below hb9)
            | (go_at_call 13; refine (bytes_any _ _ _ _ hd9).mono ?_; rintro e w10 ⟨v10, rfl, hown, hb10⟩; have hd10 := hd9.below hb10; have hcv := run_convert_S (P := Try.prog) (RB.own hown) 25 9 5 Try.underlying25 Try.underlying5 Try.underlying9)
            | (go_at_call 12; refine (loose_any _ _ _ _ hd10).mono ?_; rw [hl9.out]; rintro e w' ⟨rfl, n11, rfl⟩))
          go_wp2
          go_ret
          refine ⟨rfl, hb8.out.trans ((hb9.mono ?_).trans ((hb10.mono ?_).trans ⟨rfl, rfl, rfl, Nat.le_refl _, fun _ _ => rfl⟩))⟩
          · have := hd8.out.lt; omega
          · have := hd9.lt; omega
end Go.Proofs.Ytajahgiijhjckaa
