/-
  kist/jour.one: the note that bytes begin with.
-/
import Derived.Test.YtlhkmbhfgoejjaaJourFrame
import Derived.Test.YtlhkmbhfgoejjaaJourDec
import Derived.Test.YtlhkmbhfgoejjaaJourOwn

namespace Go.Proofs.Ytlhkmbhfgoejjaa
open Go.RowKit
set_option linter.unusedVariables false
set_option linter.unusedSimpArgs false

theorem i64_or_nat (a b : Nat) (ha : a < 4294967296) (hb : b < 4294967296) : bits .or .i64 (a : Int) (b : Int) = ((a ||| b : Nat) : Int) := by
  have hx : a ||| b < 2 ^ 32 := Nat.or_lt_two_pow (by omega) (by omega)
  show IntKind.i64.wrap ((BitVec.ofInt 64 (a : Int) ||| BitVec.ofInt 64 (b : Int)).toNat : Int) = _
  have e : ∀ x : Nat, x < 4294967296 → (BitVec.ofInt 64 (x : Int)).toNat = x := fun x hx => by
    rw [BitVec.toNat_ofInt]
    omega
  rw [BitVec.toNat_or, e a ha, e b hb]
  simp only [IntKind.wrap, IntKind.bits, IntKind.signed]
  simp
  omega
theorem or_add (x y k : Nat) (h : x < 2 ^ k) : x ||| y * 2 ^ k = x + y * 2 ^ k := by
  have := Nat.shiftLeft_add_eq_or_of_lt h y
  rw [Nat.shiftLeft_eq] at this
  rw [Nat.or_comm, ← this, Nat.add_comm]
theorem four_walk (y0 y1 y2 y3 : Nat) (h0 : y0 < 256) (h1 : y1 < 256) (h2 : y2 < 256) (h3 : y3 < 256) :
    bits .or .i64 (bits .or .i64 (bits .or .i64 (y0 : Int) ((y1 : Int) * 256)) ((y2 : Int) * 65536)) ((y3 : Int) * 16777216) = ((y0 + y1 * 256 + y2 * 65536 + y3 * 16777216 : Nat) : Int) := by
  rw [show (y1 : Int) * 256 = ((y1 * 2 ^ 8 : Nat) : Int) by omega, i64_or_nat _ _ (by omega) (by omega), or_add _ _ _ (by omega),
    show (y2 : Int) * 65536 = ((y2 * 2 ^ 16 : Nat) : Int) by omega, i64_or_nat _ _ (by omega) (by omega), or_add _ _ _ (by omega),
    show (y3 : Int) * 16777216 = ((y3 * 2 ^ 24 : Nat) : Int) by omega, i64_or_nat _ _ (by omega) (by omega), or_add _ _ _ (by omega)]
/-- the eight cells of a note are stored one by one -/
def put8 (w : World) (q : Nat) (v0 v1 v2 v3 v4 v5 v6 v7 : Value) : World := (((((((w.setCell ⟨q, 0, none⟩ v0).setCell ⟨q, 1, none⟩ v1).setCell ⟨q, 2, none⟩ v2).setCell ⟨q, 3, none⟩ v3).setCell ⟨q, 4, none⟩ v4).setCell ⟨q, 5, none⟩ v5).setCell ⟨q, 6, none⟩ v6).setCell ⟨q, 7, none⟩ v7
section
variable {w : World} {q : Nat} {t : TypeId} {z0 z1 z2 z3 z4 z5 z6 z7 : Value}
theorem Blk.put8 (h : Blk w q [z0, z1, z2, z3, z4, z5, z6, z7] t) (v0 v1 v2 v3 v4 v5 v6 v7 : Value) : Blk (put8 w q v0 v1 v2 v3 v4 v5 v6 v7) q [v0, v1, v2, v3, v4, v5, v6, v7] t :=
  (((((((h.set 0 v0).set 1 v1).set 2 v2).set 3 v3).set 4 v4).set 5 v5).set 6 v6).set 7 v7
theorem Fr.put8 (w : World) (q : Nat) (v0 v1 v2 v3 v4 v5 v6 v7 : Value) : Fr (fun k => k = q) w (put8 w q v0 v1 v2 v3 v4 v5 v6 v7) :=
  ((((((((Fr.refl (fun k => k = q) w).setCell (fun _ => rfl) _).setCell (fun _ => rfl) _).setCell (fun _ => rfl) _).setCell (fun _ => rfl) _).setCell (fun _ => rfl) _).setCell (fun _ => rfl) _).setCell (fun _ => rfl) _).setCell (fun _ => rfl) _
theorem Blk.all8 (h : Blk w q [z0, z1, z2, z3, z4, z5, z6, z7] t) : (w.cell? ⟨q, 0, none⟩ = some z0 ∧ w.cell? ⟨q, 1, none⟩ = some z1 ∧ w.cell? ⟨q, 2, none⟩ = some z2 ∧ w.cell? ⟨q, 3, none⟩ = some z3 ∧ w.cell? ⟨q, 4, none⟩ = some z4 ∧ w.cell? ⟨q, 5, none⟩ = some z5 ∧ w.cell? ⟨q, 6, none⟩ = some z6 ∧ w.cell? ⟨q, 7, none⟩ = some z7) ∧
    (w.frozen? ⟨q, 0, none⟩ = false ∧ w.frozen? ⟨q, 1, none⟩ = false ∧ w.frozen? ⟨q, 2, none⟩ = false ∧ w.frozen? ⟨q, 3, none⟩ = false ∧ w.frozen? ⟨q, 4, none⟩ = false ∧ w.frozen? ⟨q, 5, none⟩ = false ∧ w.frozen? ⟨q, 6, none⟩ = false ∧ w.frozen? ⟨q, 7, none⟩ = false) :=
  ⟨⟨h.cell 0 (by simp), h.cell 1 (by simp), h.cell 2 (by simp), h.cell 3 (by simp), h.cell 4 (by simp), h.cell 5 (by simp), h.cell 6 (by simp), h.cell 7 (by simp)⟩, h.frozen 0, h.frozen 1, h.frozen 2, h.frozen 3, h.frozen 4, h.frozen 5, h.frozen 6, h.frozen 7⟩
end
theorem i64_in {x : Int} (h1 : -9223372036854775808 ≤ x) (h2 : x ≤ 9223372036854775807) : IntKind.i64.wrap x = x := by
  simp only [IntKind.wrap, IntKind.bits, IntKind.signed]
  simp
  omega
/-- what one answers -/
def OneOk (B : Nat) (w' : World) (b : List UInt8) (e : Ending) : Prop :=
  (∃ n d p, Jour.Fits b n ∧ e = .returned (.tuple #[ntV n d p, .int .i64 ((8 + (Jour.code n).length : Nat) : Int)]) ∧ NtR w' d p n ∧ (∀ k, d.ownBlock = some k → B ≤ k) ∧ ∀ k, p.ownBlock = some k → B ≤ k) ∨
    ((∀ n, ¬ Jour.Fits b n) ∧ e = .returned (.tuple #[ntV Nt.zero (.slice none 0 0) (.slice none 0 0), .int .i64 0]))
set_option maxRecDepth 100000 in
set_option maxHeartbeats 4000000 in
theorem one_any (v : Value) (b : List UInt8) (w : World) (h : RB w v b) (hb : b.length ≤ 1000000) :
    Calls Try.prog 60 #[v] w fun e w' => OneOk w.heap.size w' b e ∧ Below w.heap.size w w' := by
  obtain ⟨a, c, rfl, p1, p2⟩ := h.shape
  simp only [maxLen] at p2
  obtain ⟨n, Hn⟩ := hid_of b.length
  have H : Hid (RB w (.slice a n c) b) := by rw [← Hn.out]; exact h
  rw [Hn.out] at p1 hb ⊢
  clear h
  by_cases h8 : n < 8
  case pos =>
    have HNo : Hid (∀ m, ¬ Jour.Fits b m) := Jour.fits_short (by rw [Hn.out]; omega)
    have h8' : (n : Int) < 8 := by omega
    go_enter Try.func60, Try.ntmps60
    go_wp2
    refine bodyPost_ret (results_row_one rfl _ _ w.heap.size 25 #[.int .i64 0, .string ⟨#[]⟩, .int .i64 0, .int .i64 0, .slice none 0 0, .string ⟨#[]⟩, .int .i64 0, .slice none 0 0] (0, 0) _ _ rfl ?hg Try.underlying25 rfl (by kernel_rfl) rfl) rfl ?_
    case hg => exact alloc_top rfl
    exact ⟨.inr ⟨HNo.out, rfl⟩, (Below.refl _ _).alloc (Nat.le_refl _) _⟩
  case neg =>
  have h8' : ¬ (n : Int) < 8 := by omega
  obtain ⟨bb, bo, rfl, hbb, hcell⟩ := H.out.at (by rw [Hn.out]; omega)
  have hc0 := hcell 0 (by rw [Hn.out]; omega)
  have hc1 := hcell 1 (by rw [Hn.out]; omega)
  have hc2 := hcell 2 (by rw [Hn.out]; omega)
  have hc3 := hcell 3 (by rw [Hn.out]; omega)
  clear hcell
  have z0 := (b.getD 0 0).toNat_lt
  have z1 := (b.getD 1 0).toNat_lt
  have z2 := (b.getD 2 0).toNat_lt
  have z3 := (b.getD 3 0).toNat_lt
  obtain ⟨y0, Y0⟩ := hid_of (b.getD 0 0).toNat
  obtain ⟨y1, Y1⟩ := hid_of (b.getD 1 0).toNat
  obtain ⟨y2, Y2⟩ := hid_of (b.getD 2 0).toNat
  obtain ⟨y3, Y3⟩ := hid_of (b.getD 3 0).toNat
  rw [Y0.out] at hc0 z0
  rw [Y1.out] at hc1 z1
  rw [Y2.out] at hc2 z2
  rw [Y3.out] at hc3 z3
  have hb0 : Below w.heap.size w (w.alloc (.cells #[.int .i64 0, .string ⟨#[]⟩, .int .i64 0, .int .i64 0, .slice none 0 0, .string ⟨#[]⟩, .int .i64 0, .slice none 0 0] 25)) := (Below.refl _ _).alloc (Nat.le_refl _) _
  have g0 := (hb0.cell (p := ⟨bb, bo + 0, none⟩) hbb).trans hc0
  have g1 := (hb0.cell (p := ⟨bb, bo + 1, none⟩) hbb).trans hc1
  have g2 := (hb0.cell (p := ⟨bb, bo + 2, none⟩) hbb).trans hc2
  have g3 := (hb0.cell (p := ⟨bb, bo + 3, none⟩) hbb).trans hc3
  rw [Nat.add_zero] at g0
  obtain ⟨s, Hs⟩ := hid_of (Jour.val4 b)
  have hv : bits .or .i64 (bits .or .i64 (bits .or .i64 (y0 : Int) ((y1 : Int) * 256)) ((y2 : Int) * 65536)) ((y3 : Int) * 16777216) = (s : Int) := by
    rw [four_walk y0 y1 y2 y3 z0 z1 z2 z3, ← Hs.out]
    unfold Jour.val4
    rw [Y0.out, Y1.out, Y2.out, Y3.out]
  have hs32 : s < 4294967296 := by rw [← Hs.out]; exact Jour.val4_lt b
  have HBz : Hid (Blk (w.alloc (.cells #[.int .i64 0, .string ⟨#[]⟩, .int .i64 0, .int .i64 0, .slice none 0 0, .string ⟨#[]⟩, .int .i64 0, .slice none 0 0] 25)) w.heap.size [.int .i64 0, .string ⟨#[]⟩, .int .i64 0, .int .i64 0, .slice none 0 0, .string ⟨#[]⟩, .int .i64 0, .slice none 0 0] 25) := Blk.new w _ _ rfl
  have HB0 := Lib.hid hb0
  clear hb0 hc0 hc1 hc2 hc3 Y0 Y1 Y2 Y3 hbb
  go_enter Try.func60, Try.ntmps60
  go_wp2
  go_quiet (fail)
  clear hv g0 g1 g2 g3 z0 z1 z2 z3
  obtain ⟨w1, HW1⟩ := hid_of ((w.alloc (.cells #[.int .i64 0, .string ⟨#[]⟩, .int .i64 0, .int .i64 0, .slice none 0 0, .string ⟨#[]⟩, .int .i64 0, .slice none 0 0] 25)).drewN nq)
  rw [HW1.out]
  by_cases hbig : s + 8 ≤ n
  case neg =>
    have HNo : Hid (∀ m, ¬ Jour.Fits b m) := fun m hm => by
      have := (Jour.fits_long hm).2.2.1
      rw [Hs.out, Hn.out] at this
      exact hbig this
    have hgt : (n : Int) - 8 < (s : Int) := by omega
    go_wp2
    go_quiet (fail)
    have HBz2 : Hid (Blk (w1.drewN nq) w.heap.size [.int .i64 0, .string ⟨#[]⟩, .int .i64 0, .int .i64 0, .slice none 0 0, .string ⟨#[]⟩, .int .i64 0, .slice none 0 0] 25) := by rw [← HW1.out]; exact HBz.out
    obtain ⟨⟨x0, x1, x2, x3, x4, x5, x6, x7⟩, f0, f1, f2, f3, f4, f5, f6, f7⟩ := HBz2.out.all8
    go_wp2
    refine bodyPost_ret (results_row_one rfl _ _ w.heap.size 25 #[.int .i64 0, .string ⟨#[]⟩, .int .i64 0, .int .i64 0, .slice none 0 0, .string ⟨#[]⟩, .int .i64 0, .slice none 0 0] (0, 0) _ _ rfl ?hg Try.underlying25 rfl (by kernel_rfl) rfl) rfl ?_
    case hg => exact HBz2.out.put8 _ _ _ _ _ _ _ _
    refine ⟨.inr ⟨HNo.out, rfl⟩, ?_⟩
    have hbw : Below w.heap.size w (w1.drewN nq) := by rw [← HW1.out]; exact ⟨HB0.out.os, HB0.out.tape, HB0.out.output, HB0.out.size, HB0.out.block⟩
    exact hbw.trans ((Fr.put8 _ _ _ _ _ _ _ _ _ _).below (B := w.heap.size) hbw.size (fun k hk he => by omega))
  case pos =>
  have hgt : ¬ (n : Int) - 8 < (s : Int) := by omega
  have HBw1 : Hid (Below w.heap.size w w1) := by rw [← HW1.out]; exact ⟨HB0.out.os, HB0.out.tape, HB0.out.output, HB0.out.size, HB0.out.block⟩
  have HBz1 : Hid (Blk w1 w.heap.size [.int .i64 0, .string ⟨#[]⟩, .int .i64 0, .int .i64 0, .slice none 0 0, .string ⟨#[]⟩, .int .i64 0, .slice none 0 0] 25) := by rw [← HW1.out]; exact HBz.out
  have hlb : b.length ≤ 1000000 := by rw [Hn.out]; exact hb
  obtain ⟨c8, Hc8⟩ := hid_of ((b.drop 8).take s)
  have hcl : c8.length = s := by rw [← Hc8.out, List.length_take, List.length_drop, Hn.out]; omega
  have e8 : (b.take (8 + s)).drop 8 = c8 := by rw [List.drop_take, Nat.add_sub_cancel_left]; exact Hc8.out
  have HT : Hid (∀ wx, Below w.heap.size w wx → RB wx (.slice (some ⟨bb, bo, none⟩) (8 + s) c) (b.take (8 + s))) := fun wx hx => by
    have := (H.out.below hx rfl).sliced 0 (8 + s) (Nat.zero_le _) (by omega)
    rw [List.drop_zero, show sliced (some ⟨bb, bo, none⟩) 0 (8 + s) c 1 = .slice (some ⟨bb, bo, none⟩) (8 + s) c by simp [sliced, Addr.add]] at this
    exact this
  have HS8 : Hid (∀ wx, Below w.heap.size w wx → RB wx (sliced (some ⟨bb, bo, none⟩) 8 (8 + s) c 1) c8) := fun wx hx => by
    have := (H.out.below hx rfl).sliced 8 (8 + s) (by omega) (by omega)
    rw [e8] at this
    exact this
  have HEq : Hid (∀ m, Jour.Fits b m → Jour.fr c8 = b.take (8 + s) ∧ Jour.code m = c8) := fun m hm => by
    obtain ⟨-, -, -, h1, h2⟩ := Jour.fits_long hm
    rw [Hs.out] at h1 h2
    rw [Hc8.out] at h2
    exact ⟨by rw [h1, h2], h2.symm⟩
  have HOf : Hid (∀ m, Jour.Good m → Jour.code m = c8 → Jour.fr c8 = b.take (8 + s) → Jour.Fits b m ∧ (Jour.code m).length = s) := fun m hg hc hf => by
    refine ⟨Jour.fits_of hg (by rw [Hs.out, Hn.out]; omega) ?_ ?_, by rw [hc]; exact hcl⟩
    · rw [Hs.out, Hc8.out]; exact hf
    · rw [Hs.out, Hc8.out]; exact hc
  have HL8 : Hid (c8.length ≤ 1000000) := by rw [hcl]; exact (by omega : s ≤ 1000000)
  clear HBz HB0
  obtain ⟨t8, Ht8⟩ := hid_of (b.take (8 + s))
  rw [Ht8.out] at HT HEq HOf
  obtain ⟨E, HE⟩ := hid_of (decide (Jour.fr c8 = t8))
  have hcase : c = 8 ∧ n = 8 ∧ s = 0 ∨ ¬ c = 8 := by omega
  rcases hcase with ⟨rfl, rfl, rfl⟩ | hc8
  case' inl => rw [show sliced (some ⟨bb, bo, none⟩) 8 (8 + 0) 8 1 = .slice (some ⟨bb, bo, none⟩) 0 0 by simp [sliced, Addr.add]] at HS8; rw [Nat.add_zero] at HT
  case' inr =>
    rw [show sliced (some ⟨bb, bo, none⟩) 8 (8 + s) c 1 = .slice (some ⟨bb, bo + 8, none⟩) s (c - 8) by unfold sliced; rw [if_neg (by omega)]; simp [Addr.add_lit]] at HS8
    have hw8 : IntKind.i64.wrap ((n : Int) - 8) = (n : Int) - 8 := i64_in (by omega) (by omega)
    have hw9 : IntKind.i64.wrap (8 + (s : Int)) = 8 + (s : Int) := i64_in (by omega) (by omega)
    have hdec : decide ((n : Int) - 8 < (s : Int)) = false := decide_eq_false (by omega)
  all_goals
    have HFrm := Lib.hid (fun wx (hx : Below w.heap.size w wx) => frame_any _ c8 wx (HS8.out wx hx) HL8.out)
    have HDec := Lib.hid (fun wx (hx : Below w.heap.size w wx) => jdecode_any _ c8 wx (HS8.out wx hx) (Nat.le_trans HL8.out (by decide)))
    go_wp2
    go_region_held (fun _ => True) (trivial)
      (first
      | (go_at_call 63
         refine (HFrm.out _ ?_).mono ?_
         · exact HBw1.out.drew
         rintro e w2 ⟨v2, rfl, hown2, hb2⟩
         have HR2 := Lib.hid (RB.own hown2)
         have HB2 := Lib.hid (HBw1.out.drew.trans (hb2.mono HBw1.out.size))
         have HQ2 : Hid (Below w1.heap.size w1 w2) := (Below.refl w1.heap.size w1).drew.trans hb2
         clear hown2 hb2)
      | (go_at_call 57
         refine (bequal_any _ _ _ _ _ HR2.out (HT.out _ HB2.out)).mono ?_
         rw [HE.out]
         rintro e wz ⟨rfl, rfl⟩))
  all_goals
    have HBz2 : Hid (Blk w2 w.heap.size [.int .i64 0, .string ⟨#[]⟩, .int .i64 0, .int .i64 0, .slice none 0 0, .string ⟨#[]⟩, .int .i64 0, .slice none 0 0] 25) := HBz1.out.below HQ2.out HBz1.out.lt
    cases E with
    | false =>
      have HNo : Hid (∀ m, ¬ Jour.Fits b m) := fun m hm => of_decide_eq_false HE.out (HEq.out m hm).1
      obtain ⟨⟨x0, x1, x2, x3, x4, x5, x6, x7⟩, f0, f1, f2, f3, f4, f5, f6, f7⟩ := HBz2.out.all8
      go_wp2
      refine bodyPost_ret (results_row_one rfl _ _ w.heap.size 25 #[.int .i64 0, .string ⟨#[]⟩, .int .i64 0, .int .i64 0, .slice none 0 0, .string ⟨#[]⟩, .int .i64 0, .slice none 0 0] (0, 0) _ _ rfl ?hg Try.underlying25 rfl (by kernel_rfl) rfl) rfl ?_
      case hg => exact HBz2.out.put8 _ _ _ _ _ _ _ _
      exact ⟨.inr ⟨HNo.out, rfl⟩, HB2.out.trans ((Fr.put8 _ _ _ _ _ _ _ _ _ _).below (B := w.heap.size) HB2.out.size (fun k hk he => by omega))⟩
    | true =>
      go_wp2_with fail
      refine (HDec.out _ HB2.out).mono ?_
      rintro e w4 ⟨hd, hb4⟩
      have HB4 := Lib.hid (HB2.out.trans (hb4.mono HB2.out.size))
      have HBz4 : Hid (Blk w4 w.heap.size [.int .i64 0, .string ⟨#[]⟩, .int .i64 0, .int .i64 0, .slice none 0 0, .string ⟨#[]⟩, .int .i64 0, .slice none 0 0] 25) := HBz2.out.below hb4 HBz2.out.lt
      have HS2 : Hid (w.heap.size ≤ w2.heap.size) := HB2.out.size
      clear hb4
      rcases hd with ⟨m, d, p, hg, hc, rfl, hr, hd1, hp1⟩ | ⟨hno, rfl⟩
      · have hfi := HOf.out m hg hc (of_decide_eq_true HE.out)
        have HFi := Lib.hid hfi.1
        have HLm := Lib.hid hfi.2
        have HR := Lib.hid hr
        have HD1 := Lib.hid hd1
        have HP1 := Lib.hid hp1
        obtain ⟨da, dc, rfl, -, -⟩ := hr.1.1.shape
        obtain ⟨pa, pc, rfl, -, -⟩ := hr.1.2.shape
        clear hg hc hr hd1 hp1 hfi
        have hlt4 : w.heap.size < w4.heap.size := HBz4.out.lt
        have hlt2 : w.heap.size < w2.heap.size := HBz2.out.lt
        have hne4 : ¬ w.heap.size = w4.heap.size := by omega
        have hne5 : ¬ w4.heap.size = w.heap.size := by omega
        obtain ⟨⟨x0, x1, x2, x3, x4, x5, x6, x7⟩, f0, f1, f2, f3, f4, f5, f6, f7⟩ := HBz4.out.all8
        simp only [ntV, ntC]
        go_wp2
        refine bodyPost_ret (results_row_one rfl _ _ w.heap.size 25 #[.int .i64 m.kind, .string (S m.key), .int .i64 m.gen, .int .i64 m.cart, .slice da m.data.length dc, .string (S m.sum), .int .i64 m.size, .slice pa m.places.length pc] (0, 0) _ _ rfl ?hg Try.underlying25 rfl (by kernel_rfl) rfl) rfl ?_
        case hg => exact (HBz4.out.put8 _ _ _ _ _ _ _ _).alloc _
        have hfp := Fr.put8 w4 w.heap.size (.int .i64 m.kind) (.string (S m.key)) (.int .i64 m.gen) (.int .i64 m.cart) (.slice da m.data.length dc) (.string (S m.sum)) (.int .i64 m.size) (.slice pa m.places.length pc)
        refine ⟨.inl ⟨m, .slice da m.data.length dc, .slice pa m.places.length pc, HFi.out, by rw [HLm.out]; rfl, ?_, fun k hk => by have := HD1.out k hk; omega, fun k hk => by have := HP1.out k hk; omega⟩, ?_⟩
        · exact (HR.out.fr hfp (fun _ k hk he => by have := HD1.out k hk; omega) (fun _ k hk he => by have := HP1.out k hk; omega)).below ((Below.refl _ _).alloc (Nat.le_refl _) _) rfl
        · exact (HB4.out.trans (hfp.below (B := w.heap.size) HB4.out.size (fun k hk he => by omega))).alloc (Nat.le_trans HB4.out.size hfp.size) _
      · have HNo : Hid (∀ m, ¬ Jour.Fits b m) := fun m hm => hno ⟨m, hm.1, (HEq.out m hm).2⟩
        have hlt4 : w.heap.size < w4.heap.size := HBz4.out.lt
        have hne4 : ¬ w.heap.size = w4.heap.size := by omega
        have hne5 : ¬ w4.heap.size = w.heap.size := by omega
        clear hno
        obtain ⟨⟨x0, x1, x2, x3, x4, x5, x6, x7⟩, f0, f1, f2, f3, f4, f5, f6, f7⟩ := HBz4.out.all8
        simp only [ntV, ntC, Nt.zero]
        go_wp2
        refine bodyPost_ret (results_row_one rfl _ _ w.heap.size 25 #[.int .i64 0, .string ⟨#[]⟩, .int .i64 0, .int .i64 0, .slice none 0 0, .string ⟨#[]⟩, .int .i64 0, .slice none 0 0] (0, 0) _ _ rfl ?hg Try.underlying25 rfl (by kernel_rfl) rfl) rfl ?_
        case hg => exact (HBz4.out.put8 _ _ _ _ _ _ _ _).alloc _
        have hfp := Fr.put8 w4 w.heap.size (.int .i64 0) (.string ⟨#[]⟩) (.int .i64 0) (.int .i64 0) (.slice none 0 0) (.string ⟨#[]⟩) (.int .i64 0) (.slice none 0 0)
        exact ⟨.inr ⟨HNo.out, rfl⟩, (HB4.out.trans (hfp.below (B := w.heap.size) HB4.out.size (fun k hk he => by omega))).alloc (Nat.le_trans HB4.out.size hfp.size) _⟩
end Go.Proofs.Ytlhkmbhfgoejjaa
