/-
  kist/dig.schedule.
-/
import Derived.Test.YtepedabpnchajaaDigPad
import Derived.Deep.MidRow
import Derived.StillTailTactics

namespace Go.Proofs.Ytepedabpnchajaa
open Go.RowKit
set_option linter.unusedVariables false

/-- a word of four bytes -/
def word4 (a b c d : UInt8) : UInt32 := (a.toUInt32 <<< 24) ||| (b.toUInt32 <<< 16) ||| (c.toUInt32 <<< 8) ||| d.toUInt32
def wordAt (b : List UInt8) (n : Nat) : UInt32 := word4 (b.getD (4 * n) 0) (b.getD (4 * n + 1) 0) (b.getD (4 * n + 2) 0) (b.getD (4 * n + 3) 0)
def sig0 (x : UInt32) : UInt32 := rot x 7 ^^^ rot x 18 ^^^ (x >>> 3)
def sig1 (y : UInt32) : UInt32 := rot y 17 ^^^ rot y 19 ^^^ (y >>> 10)
/-- the word that comes next -/
def nextW (l : List UInt32) : UInt32 := l.getD (l.length - 16) 0 + l.getD (l.length - 7) 0 + sig0 (l.getD (l.length - 15) 0) + sig1 (l.getD (l.length - 2) 0)
def ext : Nat → List UInt32 → List UInt32
  | 0, l => l
  | k + 1, l => ext k l ++ [nextW (ext k l)]
def firstW (b : List UInt8) (k : Nat) : List UInt32 := (List.range k).map (wordAt b)
def sched (b : List UInt8) : List UInt32 := ext 48 (firstW b 16)
theorem ext_length (k : Nat) (l : List UInt32) : (ext k l).length = l.length + k := by
  induction k with
  | zero => rfl
  | succ k ih => rw [ext, List.length_append, ih]; simp; omega
theorem firstW_length (b : List UInt8) (k : Nat) : (firstW b k).length = k := by simp [firstW]
theorem sched_length (b : List UInt8) : (sched b).length = 64 := by rw [sched, ext_length, firstW_length]

/-- so many words at first, noughts behind them -/
def fill64 (l : List UInt32) : List UInt32 := l ++ List.replicate (64 - l.length) 0
theorem fill64_length (l : List UInt32) (h : l.length ≤ 64) : (fill64 l).length = 64 := by simp [fill64]; omega
theorem fill64_set (l : List UInt32) (h : l.length < 64) (x : UInt32) : (fill64 l).set l.length x = fill64 (l ++ [x]) := by
  unfold fill64
  rw [show 64 - l.length = (64 - (l ++ [x]).length) + 1 by simp; omega, List.replicate_succ]
  simp

theorem or_u32 (x y : UInt32) : bits .or .u32 (x.toNat : Int) (y.toNat : Int) = ((x ||| y).toNat : Int) := by
  rw [u32_bits_or _ _ x.toNat_lt y.toNat_lt, UInt32.toNat_or]
theorem u8_word (z : UInt8) (n : Nat) (hn : n ≤ 24) : IntKind.u32.wrap (IntKind.u32.wrap (z.toNat : Int) * 2 ^ n) = ((z.toUInt32 <<< UInt32.ofNat n).toNat : Int) := by
  have hz := z.toNat_lt
  have h1 : IntKind.u32.wrap (z.toNat : Int) = (z.toNat : Int) := IntWalk.u32_in _ (by omega)
  have hm : n % 4294967296 % 32 = n := by omega
  rw [h1, UInt32.toNat_shiftLeft, UInt32.toNat_ofNat', UInt8.toNat_toUInt32, Nat.shiftLeft_eq, hm]
  simp [IntKind.wrap, IntKind.bits, IntKind.signed]
theorem word4_walk (z0 z1 z2 z3 : UInt8) : Value.int IntKind.u32 (bits BinOp.or IntKind.u32 (bits BinOp.or IntKind.u32 (bits BinOp.or IntKind.u32 (IntKind.u32.wrap (IntKind.u32.wrap (z0.toNat : Int) * 16777216)) (IntKind.u32.wrap (IntKind.u32.wrap (z1.toNat : Int) * 65536))) (IntKind.u32.wrap (IntKind.u32.wrap (z2.toNat : Int) * 256))) (IntKind.u32.wrap (z3.toNat : Int))) = W (word4 z0 z1 z2 z3) := by
  have h0 := u8_word z0 24 (by omega)
  have h1 := u8_word z1 16 (by omega)
  have h2 := u8_word z2 8 (by omega)
  have h3 := u8_word z3 0 (by omega)
  rw [show (2 : Int) ^ 24 = 16777216 by rfl] at h0
  rw [show (2 : Int) ^ 16 = 65536 by rfl] at h1
  rw [show (2 : Int) ^ 8 = 256 by rfl] at h2
  have h3' : IntKind.u32.wrap (z3.toNat : Int) = (z3.toUInt32.toNat : Int) := by
    rw [UInt8.toNat_toUInt32]
    exact IntWalk.u32_in _ (by have := z3.toNat_lt; omega)
  rw [h0, h1, h2, h3', or_u32, or_u32, or_u32]
  rfl
theorem firstW_succ (b : List UInt8) (k : Nat) : firstW b (k + 1) = firstW b k ++ [wordAt b k] := by simp [firstW, List.range_succ]
theorem cell_far {w : World} {p q o k : Nat} {x v : Value} (hne : p ≠ q) (h : w.cell? ⟨p, o, none⟩ = some x) : (w.setCell ⟨q, k, none⟩ v).drew.cell? ⟨p, o, none⟩ = some x := by
  rw [World.cell?_drew, World.cell?_setCell_far _ _ _ _ (by simpa using (Ne.symm hne))]
  exact h
theorem xor_u32 (x y : UInt32) : bits .xor .u32 (x.toNat : Int) (y.toNat : Int) = ((x ^^^ y).toNat : Int) := by
  rw [u32_xor_nat _ _ x.toNat_lt y.toNat_lt, UInt32.toNat_xor]
theorem and_u32 (x y : UInt32) : bits .and .u32 (x.toNat : Int) (y.toNat : Int) = ((x &&& y).toNat : Int) := by
  rw [u32_and_nat _ _ x.toNat_lt y.toNat_lt, UInt32.toNat_and]
theorem add_u32 (x y : UInt32) : IntKind.u32.wrap ((x.toNat : Int) + (y.toNat : Int)) = ((x + y).toNat : Int) := by
  rw [UInt32.toNat_add]
  simp [IntKind.wrap, IntKind.bits, IntKind.signed]
theorem shr_u32 (x : UInt32) (n : Nat) (hn : n < 32) : (x.toNat : Int) / 2 ^ n = ((x >>> UInt32.ofNat n).toNat : Int) := by
  have hm : n % 4294967296 % 32 = n := by omega
  rw [UInt32.toNat_shiftRight, UInt32.toNat_ofNat', Nat.shiftRight_eq_div_pow, hm]
  push_cast
  rfl
theorem next_walk (y16 y7 a7 a18 y15 a17 a19 y2 : UInt32) : Value.int IntKind.u32 (IntKind.u32.wrap (IntKind.u32.wrap (IntKind.u32.wrap ((y16.toNat : Int) + (y7.toNat : Int)) + bits BinOp.xor IntKind.u32 (bits BinOp.xor IntKind.u32 (a7.toNat : Int) (a18.toNat : Int)) ((y15.toNat : Int) / 8)) + bits BinOp.xor IntKind.u32 (bits BinOp.xor IntKind.u32 (a17.toNat : Int) (a19.toNat : Int)) ((y2.toNat : Int) / 1024))) = W (y16 + y7 + (a7 ^^^ a18 ^^^ (y15 >>> 3)) + (a17 ^^^ a19 ^^^ (y2 >>> 10))) := by
  have h3 := shr_u32 y15 3 (by omega)
  have h10 := shr_u32 y2 10 (by omega)
  rw [show (2 : Int) ^ 3 = 8 by rfl] at h3
  rw [show (2 : Int) ^ 10 = 1024 by rfl] at h10
  rw [h3, h10, xor_u32, xor_u32, xor_u32, xor_u32, add_u32, add_u32, add_u32]
  rfl
theorem sched_end {b : List UInt8} {w : World} {g : Nat} {t : TypeId} (h : WB w g (fill64 (ext (64 - 16) (firstW b 16))) t) : WB w g (sched b) t := by
  have e : ∀ l : List UInt32, l.length = 64 → fill64 l = l := fun l hl => by
    unfold fill64
    rw [hl]
    exact List.append_nil _
  rw [e _ (by rw [ext_length, firstW_length])] at h
  exact h
theorem sched_size (b : List UInt8) : ((sched b).map W).toArray.size = 64 := by
  rw [List.size_toArray, List.length_map, sched_length]
theorem Below.setRow' {B g : Nat} {w0 w : World} (hb : Below B w0 w) (hBg : B ≤ g) (cs : Array Value) : Below B w0 (w.setRow g cs) :=
  hb.trans ⟨rfl, rfl, rfl, by simp [World.setRow], fun k hk => setRow_other w g k cs (by omega)⟩
theorem Below.drewN' {B : Nat} {w w' : World} (h : Below B w w') (n : Nat) : Below B w (w'.drewN n) := ⟨h.os, h.tape, h.output, h.size, h.block⟩
theorem cell_off {w : World} {p o k : Nat} {x v : Value} (hne : o ≠ k) (h : w.cell? ⟨p, o, none⟩ = some x) : (w.setCell ⟨p, k, none⟩ v).cell? ⟨p, o, none⟩ = some x := by
  rw [World.cell?_setCell_other _ _ _ _ (by intro e; cases e; exact hne rfl)]
  exact h
set_option maxRecDepth 20000 in
set_option maxHeartbeats 6000000 in
theorem schedule_walk (v : Value) (b : List UInt8) (w : World) (h : RB w v b) (hb : b.length = 64) (R : List UInt32) (hR : ∀ wx g, WB wx g (fill64 (ext (64 - 16) (firstW b 16))) 103 → WB wx g R 103) (hsz : (R.map W).toArray.size = 64) :
    Calls Try.prog 64 #[v] w fun e w' => e = .returned (Ws R) ∧ Below w.heap.size w w' := by
  obtain ⟨va, vc, rfl, hv1, hv2, _, hcell⟩ := h
  rcases hcell with rfl | ⟨bp, off, rfl, hcell⟩
  · simp at hb
  have HC := Lib.hid hcell
  rw [hb] at hv1 ⊢
  have HR := Lib.hid hR
  have HSz := Lib.hid hsz
  clear hR hsz
  clear hcell
  simp only [maxLen] at hv2
  go_enter Try.func64, Try.ntmps64
  have hw0 : WB (w.alloc (.cells (Array.replicate 64 (.int .u32 0)) 103)) w.heap.size (fill64 (firstW b 0)) 103 := Blk.new w _ _ rfl
  have HW0 := Lib.hid hw0
  clear hw0
  go_wp2
  go_loopw [7] (fun x wr => ∃ k : Nat, k ≤ 16 ∧ x = .int .i64 k ∧ WB wr w.heap.size (fill64 (firstW b k)) 103 ∧ Below w.heap.size w wr) (fun x _ => 16 - (intOf x).toNat)
  case atStart => exact ⟨0, by omega, rfl, HW0.out, (Below.refl _ _).alloc (Nat.le_refl _) _⟩
  case round =>
    clear HW0
    obtain ⟨k, hk, rfl, hwb, hbr⟩ := hrel
    have HW := Lib.hid hwb
    have HBr := Lib.hid hbr
    clear hwb hbr
    by_cases hlt : k < 16
    · skip
      have hbk : ∀ j, j < 4 → ∃ z : UInt8, Hid (b.getD (4 * k + j) 0 = z) ∧ wr.cell? ⟨bp, off + (4 * k + j), none⟩ = some (.int .u8 (z.toNat : Int)) := fun j hj => ⟨_, rfl, by
        have h1 : 4 * k + j < b.length := by omega
        rw [HBr.out.cell (World.block_lt_of_cell? w _ (HC.out _ h1)), HC.out _ h1]
        simp [List.getD_eq_getElem?_getD, h1]⟩
      obtain ⟨z0, Hz0, hz0⟩ := hbk 0 (by omega)
      obtain ⟨z1, Hz1, hz1⟩ := hbk 1 (by omega)
      obtain ⟨z2, Hz2, hz2⟩ := hbk 2 (by omega)
      obtain ⟨z3, Hz3, hz3⟩ := hbk 3 (by omega)
      have hst : ∃ y, wr.cell? ⟨w.heap.size, k, none⟩ = some y := ⟨_, HW.out.cell k (by rw [fill64_length _ (by rw [firstW_length]; omega)]; omega)⟩
      obtain ⟨y, hst⟩ := hst
      have hfr := HW.out.frozen k
      clear hbk
      have k0 : (4 * (k : Int)) < 64 := by omega
      have k1 : (4 * (k : Int)) + 1 < 64 := by omega
      have k2 : (4 * (k : Int)) + 2 < 64 := by omega
      have k3 : (4 * (k : Int)) + 3 < 64 := by omega
      go_wp2
      have i0 : IntKind.i64.wrap (4 * (k : Int)) = 4 * (k : Int) := IntWalk.i64_in _ (by omega)
      have i1 : IntKind.i64.wrap (4 * (k : Int) + 1) = 4 * (k : Int) + 1 := IntWalk.i64_in _ (by omega)
      have i2 : IntKind.i64.wrap (4 * (k : Int) + 2) = 4 * (k : Int) + 2 := IntWalk.i64_in _ (by omega)
      have i3 : IntKind.i64.wrap (4 * (k : Int) + 3) = 4 * (k : Int) + 3 := IntWalk.i64_in _ (by omega)
      have k64 : (k : Int) < 64 := by omega
      have j0 : 0 ≤ (4 * (k : Int)) := by omega
      have j1 : 0 ≤ (4 * (k : Int)) + 1 := by omega
      have j2 : 0 ≤ (4 * (k : Int)) + 2 := by omega
      have j3 : 0 ≤ (4 * (k : Int)) + 3 := by omega
      have hne : bp ≠ w.heap.size := by
        have := World.block_lt_of_cell? w _ (HC.out 0 (by omega))
        simp only at this; omega
      have t0 : (4 * (k : Int)).toNat = 4 * k + 0 := by omega
      have t1 : (4 * (k : Int) + 1).toNat = 4 * k + 1 := by omega
      have t2 : (4 * (k : Int) + 2).toNat = 4 * k + 2 := by omega
      have t3 : (4 * (k : Int) + 3).toNat = 4 * k + 3 := by omega
      rw [← t0] at hz0
      rw [← t1] at hz1
      rw [← t2] at hz2
      rw [← t3] at hz3
      clear t0 t1 t2 t3
      go_region_held (fun wx => wx.cell? ⟨bp, off + (4 * (k : Int)).toNat, none⟩ = some (.int .u8 (z0.toNat : Int)) ∧ wx.cell? ⟨bp, off + (4 * (k : Int) + 1).toNat, none⟩ = some (.int .u8 (z1.toNat : Int)) ∧ wx.cell? ⟨bp, off + (4 * (k : Int) + 2).toNat, none⟩ = some (.int .u8 (z2.toNat : Int)) ∧ wx.cell? ⟨bp, off + (4 * (k : Int) + 3).toNat, none⟩ = some (.int .u8 (z3.toNat : Int))) (first | exact ⟨hz0, hz1, hz2, hz3⟩ | exact ⟨cell_far hne hz0, cell_far hne hz1, cell_far hne hz2, cell_far hne hz3⟩) (fail)
      rw [word4_walk]
      have hx : wordAt b k = word4 z0 z1 z2 z3 := by
        rw [← Hz0.out, ← Hz1.out, ← Hz2.out, ← Hz3.out]
        rfl
      rw [← hx]
      have hw1 : WB (wr.setCell ⟨w.heap.size, k, none⟩ (W (wordAt b k))).drew w.heap.size (fill64 (firstW b (k + 1))) 103 := by
        rw [firstW_succ, ← fill64_set _ (by rw [firstW_length]; omega), firstW_length]
        exact HW.out.set k _
      have HW1 := Lib.hid hw1
      have HB1 : Hid (Below w.heap.size w (wr.setCell ⟨w.heap.size, k, none⟩ (W (wordAt b k))).drew) := (HBr.out.setCell (Nat.le_refl _) _).drew
      obtain ⟨wn, Hwn⟩ := hid_of (wr.setCell ⟨w.heap.size, k, none⟩ (W (wordAt b k))).drew
      rw [Hwn.out] at HW1 HB1 ⊢
      clear hw1 hx hz0 hz1 hz2 hz3 k0 k1 k2 k3 k64 j0 j1 j2 j3 i0 i1 i2 i3 hst hfr
      go_wp2
      go_roundw
      case rel => exact ⟨k + 1, by omega, by go_num, HW1.out, HB1.out⟩
      case measure => simp [intOf]; omega
    · obtain rfl : k = 16 := by omega
      rw [show ((16 : Nat) : Int) = 16 from rfl]
      have HW2 : Hid (WB wr w.heap.size (fill64 (ext 0 (firstW b 16))) 103) := HW.out
      clear HW
      go_wp2
      go_loopw [4] (fun x w2 => ∃ k : Nat, 16 ≤ k ∧ k ≤ 64 ∧ x = .int .i64 k ∧ WB w2 w.heap.size (fill64 (ext (k - 16) (firstW b 16))) 103 ∧ Below w.heap.size w w2) (fun x _ => 64 - (intOf x).toNat)
      case atStart => exact ⟨16, by omega, by omega, rfl, HW2.out, HBr.out⟩
      case round =>
        clear HW2 HBr
        obtain ⟨k, hk16, hk, rfl, hwb, hbr⟩ := hrel
        have HW := Lib.hid hwb
        have HBr := Lib.hid hbr
        clear hwb hbr
        by_cases hlt : k < 64
        · obtain ⟨L, HL⟩ := hid_of (ext (k - 16) (firstW b 16))
          rw [HL.out] at HW
          have hLl : L.length = k := by rw [← HL.out, ext_length, firstW_length]; omega
          have hcell : ∀ i, i < k → wr.cell? ⟨w.heap.size, i, none⟩ = some (W (L.getD i 0)) := fun i hi => by
            rw [HW.out.cell i (by rw [fill64_length _ (by omega)]; omega)]
            have hL : i < L.length := by omega
            simp [fill64, hL, List.getD_eq_getElem?_getD]
          have hc15 := hcell (k - 15) (by omega)
          have hc2 := hcell (k - 2) (by omega)
          have hc16 := hcell (k - 16) (by omega)
          have hc7 := hcell (k - 7) (by omega)
          obtain ⟨y15, H15⟩ := hid_of (L.getD (k - 15) 0)
          obtain ⟨y2, H2⟩ := hid_of (L.getD (k - 2) 0)
          obtain ⟨y16, H16⟩ := hid_of (L.getD (k - 16) 0)
          obtain ⟨y7, H7⟩ := hid_of (L.getD (k - 7) 0)
          rw [H15.out] at hc15
          have hd15 := hc15
          rw [show k - 15 = ((k : Int) - 15).toNat by omega] at hd15
          rw [H2.out] at hc2
          have hd2 := hc2
          rw [show k - 2 = ((k : Int) - 2).toNat by omega] at hd2
          rw [H16.out] at hc16
          have hd16 := hc16
          rw [show k - 16 = ((k : Int) - 16).toNat by omega] at hd16
          rw [H7.out] at hc7
          have hd7 := hc7
          rw [show k - 7 = ((k : Int) - 7).toNat by omega] at hd7
          have hst : ∃ y, wr.cell? ⟨w.heap.size, k, none⟩ = some y := ⟨_, HW.out.cell k (by rw [fill64_length _ (by omega)]; omega)⟩
          obtain ⟨y, hst⟩ := hst
          have hfr := HW.out.frozen k
          unfold W at hc15 hc2 hc16 hc7 hd15 hd2 hd16 hd7
          clear hcell
          have i15 : IntKind.i64.wrap ((k : Int) - 15) = (k : Int) - 15 := IntWalk.i64_in _ (by omega)
          have i2 : IntKind.i64.wrap ((k : Int) - 2) = (k : Int) - 2 := IntWalk.i64_in _ (by omega)
          have i16 : IntKind.i64.wrap ((k : Int) - 16) = (k : Int) - 16 := IntWalk.i64_in _ (by omega)
          have i7 : IntKind.i64.wrap ((k : Int) - 7) = (k : Int) - 7 := IntWalk.i64_in _ (by omega)
          have j15 : 0 ≤ (k : Int) - 15 := by omega
          have j2 : 0 ≤ (k : Int) - 2 := by omega
          have j16 : 0 ≤ (k : Int) - 16 := by omega
          have j7 : 0 ≤ (k : Int) - 7 := by omega
          have l15 : (k : Int) - 15 < 64 := by omega
          have l2 : (k : Int) - 2 < 64 := by omega
          have l16 : (k : Int) - 16 < 64 := by omega
          have l7 : (k : Int) - 7 < 64 := by omega
          go_wp2
          go_quiet (fail)
          go_wp2
          obtain ⟨a7, Ha7⟩ := hid_of (rot y15 7)
          obtain ⟨a18, Ha18⟩ := hid_of (rot y15 18)
          obtain ⟨a17, Ha17⟩ := hid_of (rot y2 17)
          obtain ⟨a19, Ha19⟩ := hid_of (rot y2 19)
          have T7 : Hid (∀ wx, Calls Try.prog 66 #[.int .u32 (y15.toNat : Int), .int .i64 7] wx fun e w' => e = .returned (.int .u32 (a7.toNat : Int)) ∧ ∃ m, w' = wx.drewN m) := by rw [← Ha7.out]; exact turn_any y15 7 (by omega) (by omega)
          have T18 : Hid (∀ wx, Calls Try.prog 66 #[.int .u32 (y15.toNat : Int), .int .i64 18] wx fun e w' => e = .returned (.int .u32 (a18.toNat : Int)) ∧ ∃ m, w' = wx.drewN m) := by rw [← Ha18.out]; exact turn_any y15 18 (by omega) (by omega)
          have T17 : Hid (∀ wx, Calls Try.prog 66 #[.int .u32 (y2.toNat : Int), .int .i64 17] wx fun e w' => e = .returned (.int .u32 (a17.toNat : Int)) ∧ ∃ m, w' = wx.drewN m) := by rw [← Ha17.out]; exact turn_any y2 17 (by omega) (by omega)
          have T19 : Hid (∀ wx, Calls Try.prog 66 #[.int .u32 (y2.toNat : Int), .int .i64 19] wx fun e w' => e = .returned (.int .u32 (a19.toNat : Int)) ∧ ∃ m, w' = wx.drewN m) := by rw [← Ha19.out]; exact turn_any y2 19 (by omega) (by omega)
          obtain ⟨wq, Hwq⟩ := hid_of (wr.drewN nq)
          have HWq : Hid (WB wq w.heap.size (fill64 L) 103) := by rw [← Hwq.out]; exact HW.out
          have HBq : Hid (Below w.heap.size w wq) := by rw [← Hwq.out]; exact Below.drewN' HBr.out nq
          have hq16 : wq.cell? ⟨w.heap.size, ((k : Int) - 16).toNat, none⟩ = some (.int .u32 (y16.toNat : Int)) := by rw [← Hwq.out]; exact hd16
          have hq7 : wq.cell? ⟨w.heap.size, ((k : Int) - 7).toNat, none⟩ = some (.int .u32 (y7.toNat : Int)) := by rw [← Hwq.out]; exact hd7
          have hqst : wq.cell? ⟨w.heap.size, k, none⟩ = some y := by rw [← Hwq.out]; exact hst
          have hqfr : wq.frozen? ⟨w.heap.size, k, none⟩ = false := by rw [← Hwq.out]; exact hfr
          rw [Hwq.out]
          have k64 : (k : Int) < 64 := by omega
          have m16 : (16 : Int) ≤ k := by omega
          have m7 : (7 : Int) ≤ k := by omega
          have n16 : ((k : Int) - 16).toNat ≠ k := by omega
          have n7 : ((k : Int) - 7).toNat ≠ k := by omega
          have N16 := Lib.hid n16
          have N7 := Lib.hid n7
          clear hc15 hc2 hc16 hc7 hd15 hd2 hd16 hd7 hst hfr HW HBr i15 i2 j15 j2 l15 l2 n16 n7
          go_region_held (fun wx => wx.cell? ⟨w.heap.size, ((k : Int) - 16).toNat, none⟩ = some (.int .u32 (y16.toNat : Int)) ∧ wx.cell? ⟨w.heap.size, ((k : Int) - 7).toNat, none⟩ = some (.int .u32 (y7.toNat : Int))) (first | exact ⟨hq16, hq7⟩ | exact ⟨cell_off N16.out hq16, cell_off N7.out hq7⟩) (first
              | (go_at_call 66; with_reducible refine (T7.out _).mono ?_; rintro e w' ⟨rfl, d7, rfl⟩)
              | (go_at_call 66; with_reducible refine (T18.out _).mono ?_; rintro e w' ⟨rfl, d18, rfl⟩)
              | (go_at_call 66; with_reducible refine (T17.out _).mono ?_; rintro e w' ⟨rfl, d17, rfl⟩)
              | (go_at_call 66; with_reducible refine (T19.out _).mono ?_; rintro e w' ⟨rfl, d19, rfl⟩))
          rw [next_walk]
          have hx : nextW L = y16 + y7 + (a7 ^^^ a18 ^^^ (y15 >>> 3)) + (a17 ^^^ a19 ^^^ (y2 >>> 10)) := by
            rw [← Ha7.out, ← Ha18.out, ← Ha17.out, ← Ha19.out, ← H15.out, ← H2.out, ← H16.out, ← H7.out]
            unfold nextW sig0 sig1
            rw [hLl]
          rw [← hx]
          obtain ⟨D, HD⟩ := hid_of (1 + d7 + d18 + d17 + d19)
          rw [HD.out]
          have hw1 : WB ((wq.drewN D).setCell ⟨w.heap.size, k, none⟩ (W (nextW L))) w.heap.size (fill64 (ext (k + 1 - 16) (firstW b 16))) 103 := by
            rw [show k + 1 - 16 = (k - 16) + 1 by omega, ext, HL.out, ← fill64_set _ (by omega), hLl]
            exact WB.set (HWq.out.drewN D) k _
          have HW1 := Lib.hid hw1
          have HB1 : Hid (Below w.heap.size w ((wq.drewN D).setCell ⟨w.heap.size, k, none⟩ (W (nextW L)))) := (Below.drewN' HBq.out D).setCell (Nat.le_refl _) _
          obtain ⟨wn, Hwn⟩ := hid_of ((wq.drewN D).setCell ⟨w.heap.size, k, none⟩ (W (nextW L)))
          rw [Hwn.out] at HW1 HB1 ⊢
          clear hw1 hx hq16 hq7 hqst hqfr i16 i7 j16 j7 l16 l7 k64 m16 m7 hLl
          go_wp2
          go_roundw
          case rel => exact ⟨k + 1, by omega, by omega, by go_num, HW1.out, HB1.out⟩
          case measure => simp [intOf]; omega
        · obtain rfl : k = 64 := by omega
          have HF := Lib.hid (HR.out wr w.heap.size HW.out)
          clear HW
          go_wp2_with (first | (refine wpList_load_row rfl 103 _ rfl w.heap.size rfl 103 _ (0, 0) _ HF.out.row Try.underlying103 rfl (by rw [HSz.out]; kernel_rfl) ?_) | (refine wpList_store_row rfl 103 _ _ rfl w.heap.size _ rfl rfl 103 _ HF.out.row (by rw [HSz.out]; kernel_rfl) rfl (Ws_oneCell R) ?_))
          refine bodyPost_ret (results_cell_row rfl _ _ w.heap.size 103 _ (0, 0) _ rfl HF.out.setRow.row Try.underlying103 rfl (by rw [HSz.out]; kernel_rfl)) rfl ?_
          exact ⟨rfl, Below.setRow' HBr.out (Nat.le_refl _) _⟩
theorem schedule_any (v : Value) (b : List UInt8) (w : World) (h : RB w v b) (hb : b.length = 64) :
    Calls Try.prog 64 #[v] w fun e w' => e = .returned (Ws (sched b)) ∧ Below w.heap.size w w' :=
  schedule_walk v b w h hb (sched b) (fun _ _ h => sched_end h) (sched_size b)
end Go.Proofs.Ytepedabpnchajaa

/-
  kist/dig.mix.
-/
namespace Go.Proofs.Ytepedabpnchajaa
open Go.RowKit
set_option linter.unusedVariables false

/-- eight words -/
structure H8 where
  a : UInt32
  b : UInt32
  c : UInt32
  d : UInt32
  e : UInt32
  f : UInt32
  g : UInt32
  h : UInt32
def H8.list (s : H8) : List UInt32 := [s.a, s.b, s.c, s.d, s.e, s.f, s.g, s.h]
def bigOne (s : H8) (k w : UInt32) : UInt32 := s.h + (rot s.e 6 ^^^ rot s.e 11 ^^^ rot s.e 25) + ((s.e &&& s.f) ^^^ (~~~ s.e &&& s.g)) + k + w
def bigTwo (s : H8) : UInt32 := (rot s.a 2 ^^^ rot s.a 13 ^^^ rot s.a 22) + ((s.a &&& s.b) ^^^ (s.a &&& s.c) ^^^ (s.b &&& s.c))
def H8.turn (s : H8) (one two : UInt32) : H8 := ⟨one + two, s.a, s.b, s.c, s.d + one, s.e, s.f, s.g⟩
def H8.step (s : H8) (k w : UInt32) : H8 := s.turn (bigOne s k w) (bigTwo s)
def rounds (ks ws : List UInt32) (s : H8) : Nat → H8
  | 0 => s
  | n + 1 => (rounds ks ws s n).step (ks.getD n 0) (ws.getD n 0)
def H8.add (s t : H8) : H8 := ⟨s.a + t.a, s.b + t.b, s.c + t.c, s.d + t.d, s.e + t.e, s.f + t.f, s.g + t.g, s.h + t.h⟩
def mixH (s : H8) (b : List UInt8) : H8 := s.add (rounds stones (sched b) s 64)

theorem stop_load {P : Program} {ops : Array Oper} {rest : List Oper} {o : Oper} {a : Act} {w : World} {Q : Exit → Act → World → Prop} (ty : TypeId) (x : Operand) (ho : o.op = .load ty x) (h : Stop (wpList P ops Q (o :: rest) a w)) : wpList P ops Q (o :: rest) a w := h
theorem wpList_store_ws {P : Program} {ops : Array Oper} {rest : List Oper} {o : Oper} {a : Act} {w : World} {Q : Exit → Act → World → Prop} (hgd : o.guard = none) (ty : TypeId) (x y : Operand) (ho : o.op = .store ty x y)
    (g : Nat) (l : List UInt32) (hx : a.eval x = .pointer (some ⟨g, 0, none⟩)) (hy : a.eval y = Ws l)
    (t : TypeId) (old : Array Value) (hg : w.heap[g]? = some (.cells old t (0, 0))) (hi : (P.info? ty).map (·.size) = some ((l.map W).toArray.size)) (hold : old.size = (l.map W).toArray.size)
    (h : ∀ w', Hid (WB w' g l t) → Hid (Fr (fun k => k = g) w w') → wpList P ops Q rest (a.put o.dst undef) w') : wpList P ops Q (o :: rest) a w :=
  wpList_store_row hgd ty x y ho g _ hx hy t old hg hi hold (Ws_oneCell l) (h _ (setRow_heap _ _ _ _ _ _ hg) ⟨rfl, rfl, rfl, by simp [World.setRow], fun k hk hn => setRow_other w g k _ hn⟩)
theorem stop_store {P : Program} {ops : Array Oper} {rest : List Oper} {o : Oper} {a : Act} {w : World} {Q : Exit → Act → World → Prop} (ty : TypeId) (x y : Operand) (ho : o.op = .store ty x y) (h : Stop (wpList P ops Q (o :: rest) a w)) : wpList P ops Q (o :: rest) a w := h
theorem quiet_of2 {P : Program} {f : FuncId} {args : Array Value} {w : World} {k n : Nat} {v : Value}
    (h : Calls P f args (w.drewN (k + n)) fun e w' => e = .returned v ∧ ∃ m, w' = (w.drewN (k + n)).drewN m) : Calls P f args (w.drewN (k + n)) fun e w'' => e = .returned v ∧ ∃ m, w'' = w.drewN (k + m) :=
  h.mono fun _ _ ⟨he, m, hm⟩ => ⟨he, n + m, by rw [hm, World.drewN_drewN, Nat.add_assoc]⟩
theorem not_u32 (x : UInt32) : bits .xor .u32 IntKind.u32.max (x.toNat : Int) = ((~~~ x).toNat : Int) := by
  rw [show IntKind.u32.max = (((-1 : UInt32).toNat : Nat) : Int) from rfl, xor_u32]
  refine congrArg (fun z : UInt32 => (z.toNat : Int)) ?_
  apply UInt32.toBitVec_inj.1
  rw [UInt32.toBitVec_xor, UInt32.toBitVec_not, show ((-1 : UInt32).toBitVec) = BitVec.allOnes 32 from rfl, BitVec.allOnes_xor]
theorem add_mod_u32 (x y : UInt32) : ((x.toNat : Int) + (y.toNat : Int)) % 4294967296 = ((x + y).toNat : Int) := by
  rw [UInt32.toNat_add]
  omega
theorem one_walk (h a6 a11 a25 e f g kk wk : UInt32) : ((h.toNat : Int) + bits .xor .u32 (bits .xor .u32 (a6.toNat : Int) (a11.toNat : Int)) (a25.toNat : Int) + bits .xor .u32 (bits .and .u32 (e.toNat : Int) (f.toNat : Int)) (bits .and .u32 (bits .xor .u32 IntKind.u32.max (e.toNat : Int)) (g.toNat : Int)) + (kk.toNat : Int) + (wk.toNat : Int)) % 4294967296 = ((h + (a6 ^^^ a11 ^^^ a25) + ((e &&& f) ^^^ (~~~ e &&& g)) + kk + wk).toNat : Int) := by
  rw [not_u32, and_u32, and_u32, xor_u32, xor_u32, xor_u32, ← add_mod_u32, ← add_mod_u32, ← add_mod_u32, ← add_mod_u32]
  omega
theorem two_walk (a2 a13 a22 a b c : UInt32) : (bits .xor .u32 (bits .xor .u32 (a2.toNat : Int) (a13.toNat : Int)) (a22.toNat : Int) + bits .xor .u32 (bits .xor .u32 (bits .and .u32 (a.toNat : Int) (b.toNat : Int)) (bits .and .u32 (a.toNat : Int) (c.toNat : Int))) (bits .and .u32 (b.toNat : Int) (c.toNat : Int))) % 4294967296 = (((a2 ^^^ a13 ^^^ a22) + ((a &&& b) ^^^ (a &&& c) ^^^ (b &&& c))).toNat : Int) := by
  rw [and_u32, and_u32, and_u32, xor_u32, xor_u32, xor_u32, xor_u32, ← add_mod_u32]
/-- the first k words are added up -/
def partAdd (l r : List UInt32) (k : Nat) : List UInt32 := (List.zipWith (· + ·) l r).take k ++ l.drop k
theorem partAdd_length (l r : List UInt32) (h : l.length = r.length) (k : Nat) : (partAdd l r k).length = l.length := by
  simp [partAdd]; omega
theorem partAdd_get (l r : List UInt32) (h : l.length = r.length) (k : Nat) (hk : k < l.length) : (partAdd l r k).getD k 0 = l.getD k 0 := by
  have h1 : (List.take k (List.zipWith (· + ·) l r)).length = k := by simp; omega
  rw [List.getD_eq_getElem?_getD, List.getD_eq_getElem?_getD, partAdd, List.getElem?_append_right (by omega), h1, Nat.sub_self, List.getElem?_drop, Nat.add_zero]
theorem partAdd_set (l r : List UInt32) (h : l.length = r.length) (k : Nat) (hk : k < l.length) : (partAdd l r k).set k (l.getD k 0 + r.getD k 0) = partAdd l r (k + 1) := by
  have h1 : (List.take k (List.zipWith (· + ·) l r)).length = k := by simp; omega
  have h2 : k < r.length := by omega
  unfold partAdd
  rw [List.set_append_right _ _ (by omega), h1, Nat.sub_self, List.drop_eq_getElem_cons hk, List.set_cons_zero, List.take_add_one]
  simp [List.getD_eq_getElem?_getD, List.getElem?_zipWith, hk, h2]
theorem partAdd_end (l r : List UInt32) (h : l.length = r.length) : partAdd l r l.length = List.zipWith (· + ·) l r := by
  unfold partAdd
  rw [List.drop_length, List.append_nil, List.take_of_length_le (by simp; omega)]
theorem row_first (w : World) (c : Array Value) (t : TypeId) {o : Obj} : ((w.alloc (.cells c t)).alloc o).heap[w.heap.size]? = some (.cells c t (0, 0)) := by
  rw [heap_alloc_old _ _ (by simp)]
  exact heap_alloc_new w _
theorem row_second (w : World) (c : Array Value) (t : TypeId) {o : Obj} : ((w.alloc o).alloc (.cells c t)).heap[w.heap.size + 1]? = some (.cells c t (0, 0)) := by
  have := heap_alloc_new (w.alloc o) (.cells c t)
  simpa using this
set_option maxRecDepth 20000 in
set_option maxHeartbeats 6000000 in
theorem mix_walk (s : H8) (v : Value) (b : List UInt8) (w : World) (h : RB w v b) (hb : b.length = 64) (ws : List UInt32) (hws : ∀ v w, RB w v b → Calls Try.prog 64 #[v] w fun e w' => e = .returned (Ws ws) ∧ Below w.heap.size w w') (hwl : ws.length = 64)
    (ks : List UInt32) (hks : ∀ w, Calls Try.prog 65 #[] w fun e w' => e = .returned (Ws ks) ∧ Below w.heap.size w w') (hkl : ks.length = 64) :
    Calls Try.prog 41 #[.agg #[W s.a, W s.b, W s.c, W s.d, W s.e, W s.f, W s.g, W s.h], v] w fun e w' => e = .returned (Ws (s.add (rounds ks ws s 64)).list) ∧ Below w.heap.size w w' := by
  have H := Lib.hid h
  have HWs := Lib.hid hws
  have HKs := Lib.hid hks
  obtain ⟨va, vc, rfl, hv1, hv2⟩ := h.shape
  rw [hb] at hv1 H ⊢
  clear h hws hks
  have hwsz : Hid ((ws.map W).toArray.size = 64) := by simp [Lib.hid, hwl]
  have hksz : Hid ((ks.map W).toArray.size = 64) := by simp [Lib.hid, hkl]
  obtain ⟨OUT, HOut⟩ := hid_of (s.add (rounds ks ws s 64)).list
  rw [HOut.out]
  go_enter Try.func41, Try.ntmps41
  have h2 : WB ((w.alloc (.cells #[W s.a, W s.b, W s.c, W s.d, W s.e, W s.f, W s.g, W s.h] 78)).alloc (.cells #[.int .u32 0, .int .u32 0, .int .u32 0, .int .u32 0, .int .u32 0, .int .u32 0, .int .u32 0, .int .u32 0] 78)) w.heap.size s.list 78 := by
    have h := Blk.alloc (Blk.new w #[W s.a, W s.b, W s.c, W s.d, W s.e, W s.f, W s.g, W s.h] 78 rfl) (.cells #[.int .u32 0, .int .u32 0, .int .u32 0, .int .u32 0, .int .u32 0, .int .u32 0, .int .u32 0, .int .u32 0] 78)
    exact h
  have h4 : WB ((w.alloc (.cells #[W s.a, W s.b, W s.c, W s.d, W s.e, W s.f, W s.g, W s.h] 78)).alloc (.cells #[.int .u32 0, .int .u32 0, .int .u32 0, .int .u32 0, .int .u32 0, .int .u32 0, .int .u32 0, .int .u32 0] 78)) (w.heap.size + 1) [0, 0, 0, 0, 0, 0, 0, 0] 78 := Blk.new _ _ _ (by simp)
  have hb0 : Below w.heap.size w ((w.alloc (.cells #[W s.a, W s.b, W s.c, W s.d, W s.e, W s.f, W s.g, W s.h] 78)).alloc (.cells #[.int .u32 0, .int .u32 0, .int .u32 0, .int .u32 0, .int .u32 0, .int .u32 0, .int .u32 0, .int .u32 0] 78)) := ((Below.refl _ _).alloc (Nat.le_refl _) _).alloc (by simp) _
  have HRB : Hid (RB ((w.alloc (.cells #[W s.a, W s.b, W s.c, W s.d, W s.e, W s.f, W s.g, W s.h] 78)).alloc (.cells #[.int .u32 0, .int .u32 0, .int .u32 0, .int .u32 0, .int .u32 0, .int .u32 0, .int .u32 0, .int .u32 0] 78)) (.slice va 64 vc) b) := H.out.below hb0 rfl
  obtain ⟨w0, Hw0⟩ := hid_of ((w.alloc (.cells #[W s.a, W s.b, W s.c, W s.d, W s.e, W s.f, W s.g, W s.h] 78)).alloc (.cells #[.int .u32 0, .int .u32 0, .int .u32 0, .int .u32 0, .int .u32 0, .int .u32 0, .int .u32 0, .int .u32 0] 78))
  rw [Hw0.out] at h2 h4 hb0 HRB
  have H2 := Lib.hid h2
  have H4 := Lib.hid h4
  have HB0 := Lib.hid hb0
  clear h2 h4 hb0
  go_wp2_with fail
  rw [Hw0.out]
  clear Hw0
  refine (HWs.out _ _ HRB.out).mono ?_
  rintro e w1 ⟨rfl, hb1⟩
  have H2' := Lib.hid (H2.out.below hb1 H2.out.lt)
  have H4' := Lib.hid (H4.out.below hb1 H4.out.lt)
  have HB1 := Lib.hid (HB0.out.trans (hb1.mono HB0.out.size))
  clear H2 H4 HB0 hb1 HRB HWs
  go_wp2_with fail
  refine (HKs.out _).mono ?_
  rintro e w2 ⟨rfl, hb2⟩
  have H2 := Lib.hid (H2'.out.below hb2 H2'.out.lt)
  have H4 := Lib.hid (H4'.out.below hb2 H4'.out.lt)
  have HB2 := Lib.hid (HB1.out.trans (hb2.mono HB1.out.size))
  clear H2' H4' HB1 hb2 HKs
  go_wp2_with (with_reducible refine stop_store _ _ _ rfl ?_)
  refine going (wpList_store_ws rfl 103 _ _ rfl w2.heap.size ws rfl rfl 103 _ (row_first w2 _ _) (by rw [hwsz.out]; kernel_rfl) (by rw [hwsz.out]; kernel_rfl) ?_)
  intro w5 H5 F5
  go_wp2_with (with_reducible refine stop_store _ _ _ rfl ?_)
  refine going (wpList_store_ws rfl 103 _ _ rfl (w2.heap.size + 1) ks rfl rfl 103 _ ((F5.out.block _ (by simp) (by simp)).trans (row_second w2 _ _)) (by rw [hksz.out]; kernel_rfl) (by rw [hksz.out]; kernel_rfl) ?_)
  intro w6 H6 F6
  go_wp2_with (with_reducible refine stop_load _ _ rfl ?_)
  have hs56 : w2.heap.size + 2 ≤ w6.heap.size := by
    have h5 := F5.out.size
    have h6 := F6.out.size
    simp at h5
    omega
  have hsz0 := H4.out.lt
  have hb26 : Below w2.heap.size w2 w6 := (((Below.refl _ _).alloc (Nat.le_refl _) _).alloc (by simp) _).trans ((F5.out.below (by simp; omega) (fun k hk => by omega)).trans (F6.out.below (by have := F5.out.size; simp at this; omega) (fun k hk => by omega)))
  have hb6 : Below w.heap.size w w6 := HB2.out.trans (hb26.mono HB2.out.size)
  have H26 := Lib.hid (H2.out.below hb26 H2.out.lt)
  have H46 := Lib.hid (H4.out.below hb26 H4.out.lt)
  have H56 : Hid (WB w6 w2.heap.size ws 103) := Blk.fr H5.out F6.out (by omega)
  have HB6 := Lib.hid hb6
  clear hb26 hb6 H2 H4 F5 F6 H5 HB2
  obtain ⟨g6, Hg6⟩ := hid_of (w2.heap.size + 1)
  have e6 := Hg6.out
  rw [Hg6.out] at H6 ⊢
  obtain ⟨g5, Hg5⟩ := hid_of w2.heap.size
  rw [Hg5.out] at H56 hs56 hsz0 e6 ⊢
  clear Hg6 Hg5
  refine going (wpList_load_row rfl 78 _ rfl w.heap.size rfl 78 _ (0, 0) _ H26.out.row Try.underlying78 rfl (by kernel_rfl) ?_)
  go_wp2_with (with_reducible refine stop_store _ _ _ rfl ?_)
  refine going (wpList_store_ws rfl 78 _ _ rfl w6.heap.size s.list rfl rfl 78 _ (heap_alloc_new w6 _) (by kernel_rfl) (by kernel_rfl) ?_)
  intro w7 H7 F7
  have hs7 := F7.out.size
  simp only [World.size_alloc] at hs7
  have hf67 : Fr (fun k => k = w6.heap.size) w6 w7 := ((Fr.refl (fun k => k = w6.heap.size) w6).alloc _).trans F7.out (fun k hk h => h)
  have H2 := Lib.hid (Blk.fr H26.out hf67 (by have := H26.out.lt; omega))
  have H4 := Lib.hid (Blk.fr H46.out hf67 (by have := H46.out.lt; omega))
  have H5 := Lib.hid (Blk.fr H56.out hf67 (by have := H56.out.lt; omega))
  have H66 := Lib.hid (Blk.fr H6.out hf67 (by have := H6.out.lt; omega))
  have HB7 : Hid (Below w.heap.size w w7) := HB6.out.trans (hf67.below HB6.out.size (fun k hk => by have := HB6.out.size; omega))
  have hg7 : g6 < w6.heap.size ∧ w.heap.size + 1 < g5 ∧ w6.heap.size < w7.heap.size := ⟨by omega, by omega, by omega⟩
  have HG7 := Lib.hid hg7
  obtain ⟨g7, Hg7⟩ := hid_of w6.heap.size
  rw [Hg7.out] at H7 HG7 ⊢
  have HE6 := Lib.hid e6
  clear hf67 H26 H46 H56 H6 HB6 hg7 hs7 hs56 hsz0 F7 Hg7 e6
  go_wp2
  go_loopw [18] (fun x wr => ∃ k : Nat, k ≤ 64 ∧ x = .int .i64 k ∧ WB wr g7 (rounds ks ws s k).list 78 ∧ Fr (fun j => j = g7) w7 wr) (fun x _ => 64 - (intOf x).toNat)
  case atStart => exact ⟨0, by omega, rfl, H7.out, Fr.refl _ _⟩
  case round =>
    clear H7
    obtain ⟨k, hk, rfl, hwb, hfr⟩ := hrel
    have HW := Lib.hid hwb
    have HF := Lib.hid hfr
    clear hwb hfr
    by_cases hlt : k < 64
    · obtain ⟨t, HT⟩ := hid_of (rounds ks ws s k)
      rw [HT.out] at HW
      have c0 : wr.cell? ⟨g7, 0, none⟩ = some (.int .u32 (t.a.toNat : Int)) := HW.out.cell 0 (show (0 : Nat) < 8 by decide)
      have c1 : wr.cell? ⟨g7, 1, none⟩ = some (.int .u32 (t.b.toNat : Int)) := HW.out.cell 1 (show (1 : Nat) < 8 by decide)
      have c2 : wr.cell? ⟨g7, 2, none⟩ = some (.int .u32 (t.c.toNat : Int)) := HW.out.cell 2 (show (2 : Nat) < 8 by decide)
      have c3 : wr.cell? ⟨g7, 3, none⟩ = some (.int .u32 (t.d.toNat : Int)) := HW.out.cell 3 (show (3 : Nat) < 8 by decide)
      have c4 : wr.cell? ⟨g7, 4, none⟩ = some (.int .u32 (t.e.toNat : Int)) := HW.out.cell 4 (show (4 : Nat) < 8 by decide)
      have c5 : wr.cell? ⟨g7, 5, none⟩ = some (.int .u32 (t.f.toNat : Int)) := HW.out.cell 5 (show (5 : Nat) < 8 by decide)
      have c6 : wr.cell? ⟨g7, 6, none⟩ = some (.int .u32 (t.g.toNat : Int)) := HW.out.cell 6 (show (6 : Nat) < 8 by decide)
      have c7 : wr.cell? ⟨g7, 7, none⟩ = some (.int .u32 (t.h.toNat : Int)) := HW.out.cell 7 (show (7 : Nat) < 8 by decide)
      have hck : wr.cell? ⟨g6, k, none⟩ = some (W (ks.getD k 0)) := by
        have h1 : k < ks.length := by omega
        rw [HF.out.cell (WB.cell H66.out k h1) (by have := HG7.out; simp only; omega)]
        simp [List.getD_eq_getElem?_getD, h1]
      have hcw : wr.cell? ⟨g5, k, none⟩ = some (W (ws.getD k 0)) := by
        have h1 : k < ws.length := by omega
        rw [HF.out.cell (WB.cell H5.out k h1) (by have := HG7.out; have := HE6.out; simp only; omega)]
        simp [List.getD_eq_getElem?_getD, h1]
      obtain ⟨kk, Hkk⟩ := hid_of (ks.getD k 0)
      obtain ⟨wk, Hwk⟩ := hid_of (ws.getD k 0)
      rw [Hkk.out] at hck
      rw [Hwk.out] at hcw
      unfold W at hck hcw
      have k64 : (k : Int) < 64 := by omega
      obtain ⟨a6, Ha6⟩ := hid_of (rot t.e 6)
      obtain ⟨a11, Ha11⟩ := hid_of (rot t.e 11)
      obtain ⟨a25, Ha25⟩ := hid_of (rot t.e 25)
      obtain ⟨a2, Ha2⟩ := hid_of (rot t.a 2)
      obtain ⟨a13, Ha13⟩ := hid_of (rot t.a 13)
      obtain ⟨a22, Ha22⟩ := hid_of (rot t.a 22)
      have T6 : Hid (∀ wx, Calls Try.prog 66 #[.int .u32 (t.e.toNat : Int), .int .i64 6] wx fun e w' => e = .returned (.int .u32 (a6.toNat : Int)) ∧ ∃ m, w' = wx.drewN m) := by rw [← Ha6.out]; exact turn_any t.e 6 (by omega) (by omega)
      have T11 : Hid (∀ wx, Calls Try.prog 66 #[.int .u32 (t.e.toNat : Int), .int .i64 11] wx fun e w' => e = .returned (.int .u32 (a11.toNat : Int)) ∧ ∃ m, w' = wx.drewN m) := by rw [← Ha11.out]; exact turn_any t.e 11 (by omega) (by omega)
      have T25 : Hid (∀ wx, Calls Try.prog 66 #[.int .u32 (t.e.toNat : Int), .int .i64 25] wx fun e w' => e = .returned (.int .u32 (a25.toNat : Int)) ∧ ∃ m, w' = wx.drewN m) := by rw [← Ha25.out]; exact turn_any t.e 25 (by omega) (by omega)
      have T2 : Hid (∀ wx, Calls Try.prog 66 #[.int .u32 (t.a.toNat : Int), .int .i64 2] wx fun e w' => e = .returned (.int .u32 (a2.toNat : Int)) ∧ ∃ m, w' = wx.drewN m) := by rw [← Ha2.out]; exact turn_any t.a 2 (by omega) (by omega)
      have T13 : Hid (∀ wx, Calls Try.prog 66 #[.int .u32 (t.a.toNat : Int), .int .i64 13] wx fun e w' => e = .returned (.int .u32 (a13.toNat : Int)) ∧ ∃ m, w' = wx.drewN m) := by rw [← Ha13.out]; exact turn_any t.a 13 (by omega) (by omega)
      have T22 : Hid (∀ wx, Calls Try.prog 66 #[.int .u32 (t.a.toNat : Int), .int .i64 22] wx fun e w' => e = .returned (.int .u32 (a22.toNat : Int)) ∧ ∃ m, w' = wx.drewN m) := by rw [← Ha22.out]; exact turn_any t.a 22 (by omega) (by omega)
      go_wp2
      go_quiet (fail)
      go_wp2
      go_quiet (first
        | (with_reducible refine quiet_of2 (T6.out _))
        | (with_reducible refine quiet_of2 (T11.out _))
        | (with_reducible refine quiet_of2 (T25.out _)))
      go_wp2
      go_quiet (first
        | (with_reducible refine quiet_of2 (T2.out _))
        | (with_reducible refine quiet_of2 (T13.out _))
        | (with_reducible refine quiet_of2 (T22.out _)))
      rw [one_walk, two_walk]
      have ho : t.h + (a6 ^^^ a11 ^^^ a25) + ((t.e &&& t.f) ^^^ (~~~ t.e &&& t.g)) + kk + wk = bigOne t kk wk := by
        rw [← Ha6.out, ← Ha11.out, ← Ha25.out]; rfl
      have ht : (a2 ^^^ a13 ^^^ a22) + ((t.a &&& t.b) ^^^ (t.a &&& t.c) ^^^ (t.b &&& t.c)) = bigTwo t := by
        rw [← Ha2.out, ← Ha13.out, ← Ha22.out]; rfl
      rw [ho, ht]
      have hnext : (rounds ks ws s (k + 1)).list = (t.turn (bigOne t kk wk) (bigTwo t)).list := by
        rw [rounds, HT.out, Hkk.out, Hwk.out]; rfl
      have HN := Lib.hid hnext
      obtain ⟨one, Hone⟩ := hid_of (bigOne t kk wk)
      obtain ⟨two, Htwo⟩ := hid_of (bigTwo t)
      rw [Hone.out, Htwo.out] at HN ⊢
      have hx0 := add_mod_u32 one two
      have hx4 := add_mod_u32 t.d one
      obtain ⟨x0, Hx0⟩ := hid_of (one + two)
      obtain ⟨x4, Hx4⟩ := hid_of (t.d + one)
      rw [Hx0.out] at hx0
      rw [Hx4.out] at hx4
      have HN2 : Hid ((rounds ks ws s (k + 1)).list = [x0, t.a, t.b, t.c, x4, t.e, t.f, t.g]) := by rw [HN.out, ← Hx0.out, ← Hx4.out]; rfl
      clear ho ht hnext HN T6 T11 T25 T2 T13 T22 Hone Htwo hck hcw
      go_wp2_with (with_reducible refine stop_store _ _ _ rfl ?_)
      refine going (wpList_store_ws rfl 78 _ _ rfl g7 [x0, t.a, t.b, t.c, x4, t.e, t.f, t.g] rfl rfl 78 _ (WB.row (HW.out.drewN _)) (by kernel_rfl) (by simp [H8.list]) ?_)
      intro wn HN3 FN
      have HFn : Hid (Fr (fun j => j = g7) w7 wn) := (HF.out.drewN _).trans FN.out (fun k hk h => h)
      rw [← HN2.out] at HN3
      clear HW HF HN2 FN hx0 hx4 c0 c1 c2 c3 c4 c5 c6 c7
      go_wp2
      go_roundw
      case rel => exact ⟨k + 1, by omega, by go_num, HN3.out, HFn.out⟩
      case measure => simp [intOf]; omega
    · obtain rfl : k = 64 := by omega
      rw [show ((64 : Nat) : Int) = 64 from rfl]
      obtain ⟨w8, hw8⟩ : ∃ w8, w8 = wr := ⟨_, rfl⟩
      subst hw8
      obtain ⟨t, HT⟩ := hid_of (rounds ks ws s 64)
      have hO : OUT = List.zipWith (· + ·) s.list t.list := by rw [← HOut.out, HT.out]; rfl
      have HO := Lib.hid hO
      have H2r := Lib.hid (Blk.fr H2.out HF.out (by have := HG7.out; have := HE6.out; omega))
      have H4r := Lib.hid (Blk.fr H4.out HF.out (by have := HG7.out; have := HE6.out; omega))
      have HBr : Hid (Below w.heap.size w w8) := HB7.out.trans (HF.out.below (HB7.out.size) (fun k hk => by have := HG7.out; have := HE6.out; omega))
      have HWt : Hid (WB w8 g7 t.list 78) := by rw [← HT.out]; exact HW.out
      have HGr : Hid (w.heap.size + 1 < g7 ∧ g7 < w8.heap.size) := ⟨by have := HG7.out; have := HE6.out; omega, HWt.out.lt⟩
      clear HT HOut H2 H4 H5 H66 HB7 HG7 HE6 HW HF hO
      go_wp2
      go_loopw [100] (fun x w2 => ∃ k : Nat, k ≤ 8 ∧ x = .int .i64 k ∧ WB w2 w.heap.size (partAdd s.list t.list k) 78 ∧ Fr (fun j => j = w.heap.size) w8 w2) (fun x _ => 8 - (intOf x).toNat)
      case atStart => exact ⟨0, by omega, rfl, H2r.out, Fr.refl _ _⟩
      case round =>
        clear H2r
        obtain ⟨k, hk, rfl, hwb, hfr⟩ := hrel
        have HW := Lib.hid hwb
        have HF := Lib.hid hfr
        clear hwb hfr
        by_cases hlt : k < 8
        · have hl8 : s.list.length = t.list.length := rfl
          have hc2 : wr.cell? ⟨w.heap.size, k, none⟩ = some (W (s.list.getD k 0)) := by
            have h1 : k < (partAdd s.list t.list k).length := by rw [partAdd_length _ _ hl8]; exact hlt
            rw [HW.out.cell k h1, ← partAdd_get s.list t.list hl8 k hlt]
            simp [List.getD_eq_getElem?_getD, h1]
          have hc7 : wr.cell? ⟨g7, k, none⟩ = some (W (t.list.getD k 0)) := by
            have h1 : k < t.list.length := hlt
            rw [HF.out.cell (HWt.out.cell k h1) (by have := HGr.out; simp only; omega)]
            simp [List.getD_eq_getElem?_getD, h1]
          have hfr := HW.out.frozen k
          have hset : Hid ((partAdd s.list t.list k).set k (s.list.getD k 0 + t.list.getD k 0) = partAdd s.list t.list (k + 1)) := partAdd_set _ _ hl8 k hlt
          obtain ⟨x, Hx⟩ := hid_of (s.list.getD k 0)
          obtain ⟨y, Hy⟩ := hid_of (t.list.getD k 0)
          rw [Hx.out] at hc2 hset
          rw [Hy.out] at hc7 hset
          have hxy := add_mod_u32 x y
          obtain ⟨z, Hz⟩ := hid_of (x + y)
          rw [Hz.out] at hxy hset
          unfold W at hc2 hc7
          have k64 : (k : Int) < 8 := by omega
          clear hl8
          go_wp2
          go_still_tail 8, (by kernel_rfl)
          rw [show ({ heap := wr.heap, tape := wr.tape, drawn := wr.drawn + 1, os := wr.os, output := wr.output } : World) = wr.drew from rfl]
          have hw1 : WB (wr.setCell ⟨w.heap.size, k, none⟩ (.int .u32 (z.toNat : Int))).drew w.heap.size (partAdd s.list t.list (k + 1)) 78 := by
            rw [← hset.out]
            exact (WB.set HW.out k z).drew
          have HW1 := Lib.hid hw1
          have HF1 : Hid (Fr (fun j => j = w.heap.size) w8 (wr.setCell ⟨w.heap.size, k, none⟩ (.int .u32 (z.toNat : Int))).drew) := (HF.out.setCell (fun _ => rfl) _).drew
          clear hw1 hset HW HF
          go_wp2
          go_roundw
          case rel => exact ⟨k + 1, by omega, by go_num, HW1.out, HF1.out⟩
          case measure => simp [intOf]; omega
        · obtain rfl : k = 8 := by omega
          rw [show ((8 : Nat) : Int) = 8 from rfl]
          have hfin : WB wr w.heap.size OUT 78 := by
            have := HW.out
            rw [show 8 = s.list.length from rfl, partAdd_end s.list t.list rfl, ← HO.out] at this
            exact this
          have hol : (OUT.map W).toArray.size = 8 := by rw [HO.out]; rfl
          have HFin := Lib.hid hfin
          have HOl := Lib.hid hol
          have H4w := Lib.hid (Blk.fr H4r.out HF.out (by omega))
          have HBw : Hid (Below w.heap.size w wr) := HBr.out.trans (HF.out.below HBr.out.size (fun k hk => by omega))
          clear hfin hol HW HF H4r HBr
          go_wp2_with (with_reducible refine stop_load _ _ rfl ?_)
          refine going (wpList_load_row rfl 78 _ rfl w.heap.size rfl 78 _ (0, 0) _ HFin.out.row Try.underlying78 rfl (by rw [HOl.out]; kernel_rfl) ?_)
          go_wp2_with (with_reducible refine stop_store _ _ _ rfl ?_)
          refine going (wpList_store_ws rfl 78 _ _ rfl (w.heap.size + 1) OUT rfl rfl 78 _ (WB.row H4w.out) (by rw [HOl.out]; kernel_rfl) (by rw [HOl.out]; rfl) ?_)
          intro wn HN FN
          go_wp2
          refine bodyPost_ret (results_cell_row rfl _ _ (w.heap.size + 1) 78 _ (0, 0) _ rfl HN.out.row Try.underlying78 rfl (by rw [HOl.out]; kernel_rfl)) rfl ?_
          exact ⟨rfl, HBw.out.trans (FN.out.below HBw.out.size (fun k hk => by omega))⟩
theorem mix_any (s : H8) (v : Value) (b : List UInt8) (w : World) (h : RB w v b) (hb : b.length = 64) :
    Calls Try.prog 41 #[.agg #[W s.a, W s.b, W s.c, W s.d, W s.e, W s.f, W s.g, W s.h], v] w fun e w' => e = .returned (Ws (mixH s b).list) ∧ Below w.heap.size w w' :=
  mix_walk s v b w h hb (sched b) (fun v w h => schedule_any v b w h hb) (sched_length b) stones rest_any rfl
end Go.Proofs.Ytepedabpnchajaa
