/-
  kistlaw19.PlanFirst: its walk.
-/
import Derived.Test.YtepedabpnchajaaPlanArg
import Derived.BigQuiet
namespace Go.Proofs.Ytepedabpnchajaa
open Go.RowKit
set_option linter.unusedVariables false
set_option linter.unusedSimpArgs false

set_option maxRecDepth 100000 in
set_option maxHeartbeats 4000000 in
theorem planFirst_walk (ev v : Value) (l : List Bool) (slot : Int) (w : World) (he : EntR ev) (h : RSl CF 1 w v l) (hw : (Lit.int .i64 slot).wf = true) :
    Calls Try.prog 3 #[ev, v, .int .i64 slot] w fun e w' => e = .returned (.bool true) ∧ Below w.heap.size w w' := by
  obtain ⟨k, s, g, z, pa, n, pc, rfl, h1, h2, hk, hs⟩ := he
  have HT : Hid (RF w v l) := h
  have HSl : Hid (∀ wx, Calls Try.prog 9 #[.agg #[.string (S k), .int .i64 g, .int .i64 z, .string (S s), .slice pa n pc]] wx fun e w' => (∃ m, m ≤ 60 ∧ m ≤ pc ∧ e = .returned (.agg #[.string (S k), .int .i64 g, .int .i64 z, .string (S s), .slice pa m pc])) ∧ Below wx.heap.size wx w') := fun wx => slots_any k s g z pa n pc wx h1 h2
  have HP0 : Hid (Below w.heap.size w (w.alloc (.cells #[.string (S k), .int .i64 g, .int .i64 z, .string (S s), .slice pa n pc] 24))) := (Below.refl _ _).alloc (Nat.le_refl _) _
  clear h h1 h2 hk hs hw
  go_enter Try.func3, Try.ntmps3
  go_wp2_with fail
  refine (HSl.out _).mono ?_
  rintro e w1 ⟨⟨m, hm, -, rfl⟩, hb1⟩
  have HB1 := Lib.hid (HP0.out.trans (hb1.mono HP0.out.size))
  have HQ : Hid (Blk (w1.alloc (.cells #[.string (S k), .int .i64 g, .int .i64 z, .string (S s), .slice pa m pc] 24)) w1.heap.size (entC k g z s (.slice pa m pc)).toList 24) := Blk.new w1 _ _ rfl
  have hba : Below w1.heap.size w1 (w1.alloc (.cells #[.string (S k), .int .i64 g, .int .i64 z, .string (S s), .slice pa m pc] 24)) := (Below.refl _ _).alloc (Nat.le_refl _) _
  have HB2 := Lib.hid (HB1.out.trans (hba.mono HB1.out.size))
  have HT2 := Lib.hid (HT.out.below HB2.out rfl)
  obtain ⟨G, HG⟩ := hid_of (m / 10)
  obtain ⟨mi, Hmi⟩ := hid_of (Plan.moreR m l slot).1
  obtain ⟨mb, Hmb⟩ := hid_of (Plan.moreR m l slot).2
  have HF1 : Hid (∀ wx, RF wx v l → Calls Try.prog 10 #[.agg #[.string (S k), .int .i64 g, .int .i64 z, .string (S s), .slice pa m pc], v] wx fun e w' => FirstOk wx.heap.size w' l G e ∧ Below wx.heap.size wx w') := fun wx hx => by
    rw [← HG.out]; exact first_any (S k) (S s) g z pa m pc v l wx hx (by omega)
  have HF2 : Hid (∀ wx, RF wx v l → Calls Try.prog 11 #[.agg #[.string (S k), .int .i64 g, .int .i64 z, .string (S s), .slice pa m pc], v] wx fun e w' => FirstOk wx.heap.size w' l G e ∧ Below wx.heap.size wx w') := fun wx hx => by
    rw [← HG.out]; exact refFirst_any (S k) (S s) g z pa m pc v l wx hx (by omega)
  have HM1 : Hid (∀ wx, RF wx v l → Calls Try.prog 12 #[.agg #[.string (S k), .int .i64 g, .int .i64 z, .string (S s), .slice pa m pc], v, .int .i64 slot] wx fun e w' => e = .returned (.tuple #[.int .i64 mi, .bool mb]) ∧ Below wx.heap.size wx w') := fun wx hx => by
    rw [← Hmi.out, ← Hmb.out]; exact more_any (S k) (S s) g z pa m pc v l slot wx hx (by omega)
  have HM2 : Hid (∀ wx, RF wx v l → Calls Try.prog 13 #[.agg #[.string (S k), .int .i64 g, .int .i64 z, .string (S s), .slice pa m pc], v, .int .i64 slot] wx fun e w' => e = .returned (.tuple #[.int .i64 mi, .bool mb]) ∧ Below wx.heap.size wx w') := fun wx hx => by
    rw [← Hmi.out, ← Hmb.out]; exact refMore_any (S k) (S s) g z pa m pc v l slot wx hx (by omega)
  have hG : G ≤ 6 := by rw [← HG.out]; omega
  clear hb1 hba HP0 HSl
  go_wp2_with fail
  refine (HF1.out _ HT2.out).mono ?_
  rintro e w3 ⟨hok1, hb3⟩
  have HT3 := Lib.hid (HT2.out.below hb3 rfl)
  have HB3 := Lib.hid (HB2.out.trans (hb3.mono HB2.out.size))
  have HQ3 := Lib.hid (HQ.out.below hb3 HQ.out.lt)
  obtain ⟨q0, q1, q2, q3, q4⟩ := ent_cells HQ3.out
  clear hb3
  rcases hok1 with ⟨hfew, rfl⟩ | ⟨hnf, v3, rfl, ho3⟩
  · go_wp2_with fail
    refine (HF2.out _ HT3.out).mono ?_
    rintro e w4 ⟨hok2, hb4⟩
    have HT4 := Lib.hid (HT3.out.below hb4 rfl)
    have HB4 := Lib.hid (HB3.out.trans (hb4.mono HB3.out.size))
    have HQ4 := Lib.hid (HQ3.out.below hb4 HQ3.out.lt)
    clear q0 q1 q2 q3 q4 hb4
    obtain ⟨q0, q1, q2, q3, q4⟩ := ent_cells HQ4.out
    rcases hok2 with ⟨-, rfl⟩ | ⟨hnf, -⟩
    case inr => exact absurd hfew hnf
    clear hfew
    go_wp2
    go_loopw [12] (fun x wr => x = .int .i64 0 ∧ w4 = wr) (fun _ _ => 0)
    case atStart => exact ⟨rfl, rfl⟩
    case round =>
      obtain ⟨rfl, rfl⟩ := hrel
      go_wp2_with fail
      refine (HM1.out _ HT4.out).mono ?_
      rintro e w5 ⟨rfl, hb5⟩
      have HT5 := Lib.hid (HT4.out.below hb5 rfl)
      have HB5 := Lib.hid (HB4.out.trans (hb5.mono HB4.out.size))
      have HQ5 := Lib.hid (HQ4.out.below hb5 HQ4.out.lt)
      clear q0 q1 q2 q3 q4 hb5
      obtain ⟨q0, q1, q2, q3, q4⟩ := ent_cells HQ5.out
      go_wp2_with fail
      refine (HM2.out _ HT5.out).mono ?_
      rintro e w6 ⟨rfl, hb6⟩
      have HB6 := Lib.hid (HB5.out.trans (hb6.mono HB5.out.size))
      clear q0 q1 q2 q3 q4 hb6
      go_wp2_with fail
      refine (awake19_any _).mono ?_
      rintro e w7 ⟨rfl, hb7⟩
      have HB7 := Lib.hid (HB6.out.trans (hb7.mono HB6.out.size))
      clear hb7
      go_wp2
      go_ret
      exact ⟨rfl, HB7.out⟩
  · have HLen := Plan.firsts_len l G
    obtain ⟨a3, c3, rfl, -, -⟩ := ho3.shape
    have HO3 := Lib.hid ho3
    obtain ⟨b, Hb⟩ := hid_of (decide (0 < G))
    go_wp2_with fail
    refine (HF2.out _ HT3.out).mono ?_
    rintro e w4 ⟨hok2, hb4⟩
    have HT4 := Lib.hid (HT3.out.below hb4 rfl)
    have HB4 := Lib.hid (HB3.out.trans (hb4.mono HB3.out.size))
    have HQ4 := Lib.hid (HQ3.out.below hb4 HQ3.out.lt)
    have HO34 := Lib.hid (HO3.out.below hb4 rfl)
    clear q0 q1 q2 q3 q4 hb4 ho3
    rcases hok2 with ⟨hfew, -⟩ | ⟨-, v4, rfl, ho4⟩
    case inl => exact absurd hfew hnf
    obtain ⟨a4, c4, rfl, -, -⟩ := ho4.shape
    have HO4 := Lib.hid ho4
    clear hnf ho4
    obtain ⟨F, HF⟩ := hid_of (Plan.firsts l G)
    rw [HF.out] at HO34 HO4 HLen ⊢
    obtain ⟨q, Hq⟩ := hid_of F.length
    rw [Hq.out] at HO34 HO4 HLen ⊢
    rw [Hb.out]
    have hq : (q : Int) ≤ 48 := by omega
    go_wp2
    go_loopw [12] (fun x wr => ∃ i : Nat, i ≤ q ∧ x = .int .i64 (i : Int) ∧ Below w4.heap.size w4 wr) (fun x _ => q - (intOf x).toNat)
    case atStart => exact ⟨0, by omega, rfl, Below.refl _ _⟩
    case round =>
      obtain ⟨i, hi, rfl, hbe⟩ := hrel
      have HBe := Lib.hid hbe
      clear hbe
      by_cases hlt : i < q
      · have hin : (i : Int) < (q : Int) := by omega
        obtain ⟨g3, rfl, -, hg3, hc3⟩ := OI.at HO34.out (by rw [Hq.out]; omega)
        obtain ⟨g4, rfl, -, hg4, hc4⟩ := OI.at HO4.out (by rw [Hq.out]; omega)
        have hx3 := (HBe.out.cell (p := ⟨g3, i, none⟩) hg3).trans (hc3 i (by rw [Hq.out]; exact hlt))
        have hx4 := (HBe.out.cell (p := ⟨g4, i, none⟩) hg4).trans (hc4 i (by rw [Hq.out]; exact hlt))
        obtain ⟨y, Hy⟩ := hid_of (F.getD i 0)
        rw [Hy.out] at hx3 hx4
        clear hc3 hc4 hg3 hg4
        go_wp2_with fail
        go_quiet (fail)
        go_wp2
        go_roundw
        case rel => exact ⟨i + 1, by omega, by go_num, Below.drewN2 HBe.out _⟩
        case measure => simp [intOf]; omega
      · obtain rfl : i = q := by omega
        have HT5 := Lib.hid (HT4.out.below HBe.out rfl)
        have HB5 := Lib.hid (HB4.out.trans (HBe.out.mono HB4.out.size))
        have HQ5 := Lib.hid (HQ4.out.below HBe.out HQ4.out.lt)
        obtain ⟨q0, q1, q2, q3, q4⟩ := ent_cells HQ5.out
        go_wp2_with fail
        refine (HM1.out _ HT5.out).mono ?_
        rintro e w6 ⟨rfl, hb6⟩
        have HT6 := Lib.hid (HT5.out.below hb6 rfl)
        have HB6 := Lib.hid (HB5.out.trans (hb6.mono HB5.out.size))
        have HQ6 := Lib.hid (HQ5.out.below hb6 HQ5.out.lt)
        clear q0 q1 q2 q3 q4 hb6
        obtain ⟨q0, q1, q2, q3, q4⟩ := ent_cells HQ6.out
        go_wp2_with fail
        refine (HM2.out _ HT6.out).mono ?_
        rintro e w7 ⟨rfl, hb7⟩
        have HB7 := Lib.hid (HB6.out.trans (hb7.mono HB6.out.size))
        clear q0 q1 q2 q3 q4 hb7
        go_wp2_with fail
        refine (awake19_any _).mono ?_
        rintro e w8 ⟨rfl, hb8⟩
        have HB8 := Lib.hid (HB7.out.trans (hb8.mono HB7.out.size))
        clear hb8
        go_wp2
        go_ret
        exact ⟨rfl, HB8.out⟩
end Go.Proofs.Ytepedabpnchajaa
