/-
  The walk of kistlaw11.DskOver.
-/
import Derived.Test.YtajahgiijhjckaaDskAwake
namespace Go.Proofs.Ytajahgiijhjckaa
open Go.RowKit
set_option linter.unusedVariables false

theorem made_bytes (w : World) (n : Nat) (hn : n ≤ maxLen) {g : Nat} (hg : g = w.heap.size) : RB (w.alloc (.cells (madeCells #[.int .u8 0] n) 5)) (.slice (some ⟨g, 0, none⟩) n n) (List.replicate n 0) := by
  have h : (madeCells #[.int .u8 0] n) = (Bs (List.replicate n 0)).toArray := by
    apply Array.ext'
    rw [toList_madeCells_one]
    simp [Bs, B]
  exact RB.lit w _ _ h (by simpa using hn) (by simp) hg
theorem run_made (n : Nat) (hn : n ≤ 281474976710656) (wx : World) : (Instr.makeSlice 25 (.int .i64 (n : Int)) (.int .i64 (n : Int))).run Try.prog wx = .ok (.slice (some ⟨wx.heap.size, 0, none⟩) n n) (wx.alloc (.cells (madeCells #[.int .u8 0] n) 5)) := by
  obtain ⟨i0, hi, hz0, hz1, hz2⟩ := info_parts infoU8
  have := run_make (P := Try.prog) wx 25 5 i0 _ Try.underlying25 hi hz0 .i64 .i64 (n : Int) (n : Int) (by omega) (by omega) (by rw [hz2]; omega) (by omega)
  rw [hz1] at this
  simpa [Value.cells] using this

set_option maxHeartbeats 1000000 in
theorem dskOver_core (n : Nat) (hn : n < 65536) (v : Value) (l : List UInt8) (w : World) (h : RB w v l) :
    Calls Try.prog 5 #[.int .u16 (n : Int), v] w fun e w' => e = .returned (.bool true) ∧ Below w.heap.size w w' := by
  obtain ⟨p, HP⟩ := hid_of w.heap.size
  rw [HP.out]
  have ho : Hid (0 < l.length → ∀ q, v.ownBlock = some q → q < p) := by
    intro hl q hq
    obtain ⟨q', hq', hl'⟩ := h.block hl
    rw [hq] at hq'
    obtain rfl := Option.some.inj hq'
    rw [← HP.out]
    exact hl'
  obtain ⟨a, cap, rfl, h1, h2⟩ := h.shape
  simp only [maxLen] at h2
  have H := Lib.hid h
  clear h
  go_enter Try.func5, Try.ntmps5
  go_wp2_with fail
  refine (new_d w).mono ?_
  rintro e w1 ⟨rfl, hd, hb⟩
  rw [HP.out] at hd hb ⊢
  have hd1 := Lib.hid hd
  have hb1 := Lib.hid hb
  clear hd hb
  by_cases hbig : 60000 < l.length
  · have hbig' : (60000 : Int) < (l.length : Int) := by omega
    go_wp2_with fail
    refine (awake_any _).mono ?_
    rintro e w2 ⟨rfl, hb2⟩
    have HB := Lib.hid hb2
    clear hb2
    go_wp2
    go_ret
    exact ⟨rfl, hb1.out.trans (HB.out.mono (Nat.le_of_lt hd1.out.lt))⟩
  · have hbig' : ¬ (60000 : Int) < (l.length : Int) := by omega
    obtain ⟨m, hm⟩ : ∃ m : Nat, m = 262144 - n := ⟨_, rfl⟩
    have hmi : (262144 : Int) - (n : Int) = (m : Int) := by omega
    have Hm := Lib.hid hm
    clear hm
    have hm1 : m ≤ 262144 := by have := Hm.out; omega
    have hmk := run_made m (by omega)
    have hmk2 : ∀ wx : World, (Instr.makeSlice 25 (.int .i64 262145) (.int .i64 262145)).run Try.prog wx = .ok (.slice (some ⟨wx.heap.size, 0, none⟩) 262145 262145) (wx.alloc (.cells (madeCells #[.int .u8 0] 262145) 5)) := run_made 262145 (by omega)
    have HB1 : Hid (∀ (wx : World) (g : Nat), g = wx.heap.size → RB (wx.alloc (.cells (madeCells #[.int .u8 0] m) 5)) (.slice (some ⟨g, 0, none⟩) m m) (List.replicate m 0)) := fun wx g hg => made_bytes wx m (by simp only [maxLen]; omega) hg
    have HB2 : Hid (∀ (wx : World) (g : Nat), g = wx.heap.size → RB (wx.alloc (.cells (madeCells #[.int .u8 0] 262145) 5)) (.slice (some ⟨g, 0, none⟩) 262145 262145) (List.replicate 262145 0)) := fun wx g hg => made_bytes wx 262145 (by simp only [maxLen]; omega) hg
    have hX : (List.replicate m (0 : UInt8)).length = m := List.length_replicate ..
    have hY : (List.replicate 262145 (0 : UInt8)).length = 262145 := List.length_replicate ..
    generalize List.replicate m (0 : UInt8) = X at *
    generalize List.replicate 262145 (0 : UInt8) = Y at *
    generalize madeCells #[Value.int .u8 0] m = CX at *
    generalize madeCells #[Value.int .u8 0] 262145 = CY at *
    have s1 : Hid (DS.new.swap X = (0, ⟨X, m, false, 0⟩)) := by
      show (if 262144 < X.length then _ else _) = _
      rw [if_neg (by omega), hX]
      rfl
    have s2 : Hid (DS.swap ⟨X, m, true, 1⟩ Y = (16, ⟨X, m, true, 1⟩)) := by
      show (if 262144 < Y.length then _ else _) = _
      rw [if_pos (by omega)]
    have HXl := Lib.hid hX
    clear hX hY
    go_wp2_with fail
    refine (swap_d (hd1.out.alloc _) (HB1.out _ _ rfl) (hd1.out.fresh (fun k hk => by simp [Value.ownBlock] at hk; omega))).mono ?_
    rw [s1.out]
    rintro e w2 ⟨rfl, ⟨bv2, hd⟩, hb⟩
    have hd2 := Lib.hid hd
    have hb2 : Hid (Below p w w2) := (hb1.out.alloc (by have := hd1.out.lt; omega) _).trans hb
    clear hd hb hd1 hb1
    go_wp2_with fail
    refine (fuse_d hd2.out 1 (by omega)).mono ?_
    rw [show DS.setFuse ⟨X, m, false, 0⟩ 1 = ⟨X, m, true, 1⟩ from rfl]
    rintro e w3 ⟨rfl, ⟨bv3, hd⟩, hb⟩
    have hd3 := Lib.hid hd
    have hb3 : Hid (Below p w w3) := hb2.out.trans hb
    clear hd hb hd2 hb2
    go_wp2_with fail
    refine (swap_d (hd3.out.alloc _) (HB2.out _ _ rfl) (hd3.out.fresh (fun k hk => by simp [Value.ownBlock] at hk; omega))).mono ?_
    rw [s2.out]
    rintro e w4 ⟨rfl, ⟨bv4, hd⟩, hb⟩
    have hd4 := Lib.hid hd
    have hb4 : Hid (Below p w w4) := (hb3.out.alloc (by have := hd3.out.lt; omega) _).trans hb
    clear hd hb hd3 hb3 hmk hmk2 HB1 HB2 s1 s2
    go_wp2_with fail
    refine (append_d hd4.out (H.out.below hb4.out HP.out.symm) (hd4.out.old ho.out)).mono ?_
    clear H ho
    by_cases hl : n < l.length
    · have s3 : Hid (DS.append ⟨X, m, true, 1⟩ l = (16, ⟨X, m, true, 1⟩)) := by
        show (if 262144 < X.length + l.length then _ else _) = _
        rw [if_pos (by have := Hm.out; have := HXl.out; omega)]
      rw [s3.out]
      rintro e w5 ⟨rfl, ⟨bv5, hd⟩, hb⟩
      have hd5 := Lib.hid hd
      have hb5 : Hid (Below p w w5) := hb4.out.trans hb
      clear hd hb hd4 hb4 s3
      have hl' : (n : Int) < (l.length : Int) := by omega
      go_wp2_with fail
      refine (awake_any _).mono ?_
      rintro e w6 ⟨rfl, hb⟩
      have hd6 := Lib.hid (hd5.out.below hb)
      have hb6 : Hid (Below p w w6) := hb5.out.trans (hb.mono (Nat.le_of_lt hd5.out.lt))
      clear hb hd5 hb5
      go_wp2_with fail
      refine (sync_d hd6.out).mono ?_
      rw [show DS.sync ⟨X, m, true, 1⟩ = (0, ⟨X, X.length, true, 0⟩) from rfl]
      rintro e w7 ⟨rfl, ⟨bv7, hd⟩, hb⟩
      have hd7 := Lib.hid hd
      have hb7 : Hid (Below p w w7) := hb6.out.trans hb
      clear hd hb hd6 hb6
      go_wp2_with fail
      refine (loose_any _ _ _ _ hd7.out).mono ?_
      rw [show ((DS.loose ⟨X, X.length, true, 0⟩ : Nat) : Int) = 0 by show ((X.length - X.length : Nat) : Int) = 0; simp]
      rintro e w' ⟨rfl, n8, rfl⟩
      have hd8 : Hid (Dk (w7.drewN n8) p bv7 ⟨X, X.length, true, 0⟩) := hd7.out
      have hb8 : Hid (Below p w (w7.drewN n8)) := hb7.out.trans ⟨rfl, rfl, rfl, Nat.le_refl _, fun _ _ => rfl⟩
      go_wp2_with fail
      refine (bytes_any _ _ _ _ hd8.out).mono ?_
      rintro e w9 ⟨v9, rfl, hown, hb⟩
      obtain ⟨a9, c9, rfl, _, _⟩ := (RB.own hown).shape
      have hb9 : Hid (Below p w w9) := hb8.out.trans (hb.mono (Nat.le_of_lt hd8.out.lt))
      clear hown hb hd8 hb8 hd7 hb7
      have hX' : (X.length : Int) = (m : Int) := by have := HXl.out; omega
      go_wp2
      go_ret
      exact ⟨by simp, hb9.out⟩
    · have s3 : Hid (DS.append ⟨X, m, true, 1⟩ l = (0, ⟨X ++ l, m, true, 0⟩)) := by
        show (if 262144 < X.length + l.length then _ else _) = _
        rw [if_neg (by have := Hm.out; have := HXl.out; omega)]
        rfl
      rw [s3.out]
      rintro e w5 ⟨rfl, ⟨bv5, hd⟩, hb⟩
      have hd5 := Lib.hid hd
      have hb5 : Hid (Below p w w5) := hb4.out.trans hb
      clear hd hb hd4 hb4 s3
      have hl' : ¬ (n : Int) < (l.length : Int) := by omega
      go_wp2_with fail
      refine (awake_any _).mono ?_
      rintro e w6 ⟨rfl, hb⟩
      have hd6 := Lib.hid (hd5.out.below hb)
      have hb6 : Hid (Below p w w6) := hb5.out.trans (hb.mono (Nat.le_of_lt hd5.out.lt))
      clear hb hd5 hb5
      go_wp2_with fail
      refine (sync_d hd6.out).mono ?_
      rw [show DS.sync ⟨X ++ l, m, true, 0⟩ = (11, ⟨X ++ l, m, true, 0⟩) from rfl]
      rintro e w7 ⟨rfl, ⟨bv7, hd⟩, hb⟩
      have hd7 := Lib.hid hd
      have hb7 : Hid (Below p w w7) := hb6.out.trans hb
      clear hd hb hd6 hb6
      have hlo : Hid (((DS.loose ⟨X ++ l, m, true, 0⟩ : Nat) : Int) = (l.length : Int)) := by
        show (((X ++ l).length - m : Nat) : Int) = _
        rw [List.length_append]
        have := HXl.out
        omega
      go_wp2_with fail
      refine (loose_any _ _ _ _ hd7.out).mono ?_
      rw [hlo.out]
      rintro e w' ⟨rfl, n8, rfl⟩
      have hd8 : Hid (Dk (w7.drewN n8) p bv7 ⟨X ++ l, m, true, 0⟩) := hd7.out
      have hb8 : Hid (Below p w (w7.drewN n8)) := hb7.out.trans ⟨rfl, rfl, rfl, Nat.le_refl _, fun _ _ => rfl⟩
      go_wp2_with fail
      refine (bytes_any _ _ _ _ hd8.out).mono ?_
      rintro e w9 ⟨v9, rfl, hown, hb⟩
      obtain ⟨a9, c9, hv9, _, _⟩ := (RB.own hown).shape
      rw [List.length_append, HXl.out] at hv9
      subst hv9
      have hb9 : Hid (Below p w w9) := hb8.out.trans (hb.mono (Nat.le_of_lt hd8.out.lt))
      clear hown hb hd8 hb8 hd7 hb7
      go_wp2
      go_ret
      exact ⟨by simp, hb9.out⟩

theorem dskOver_walk (n : Int) (v : Value) (l : List UInt8) (w : World) (hn : (Lit.int .u16 n).wf = true) (h : RB w v l) (_hr : l.length ≤ 140737488351232) :
    Calls Try.prog 5 #[.int .u16 n, v] w fun e w' => e = .returned (.bool true) ∧ Below w.heap.size w w' := by
  simp only [Lit.wf, IntKind.min, IntKind.max, IntKind.bits, IntKind.signed] at hn
  simp at hn
  obtain ⟨n, rfl⟩ := Int.eq_ofNat_of_zero_le hn.1
  exact dskOver_core n (by omega) v l w h
end Go.Proofs.Ytajahgiijhjckaa
