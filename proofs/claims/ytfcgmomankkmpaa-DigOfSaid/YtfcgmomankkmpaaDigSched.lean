/-
  kist/dig.schedule.
-/
import Derived.Test.YtfcgmomankkmpaaDigPad
import Derived.Deep.MidRow
namespace Go.Proofs.Ytfcgmomankkmpaa
open Go.RowKit
set_option linter.unusedVariables false

/-- a word of four bytes -/
def word4 (a b c d : UInt8) : UInt32 := (a.toUInt32 <<< 24) ||| (b.toUInt32 <<< 16) ||| (c.toUInt32 <<< 8) ||| d.toUInt32
def wordAt (b : List UInt8) (n : Nat) : UInt32 := word4 (b.getD (4 * n) 0) (b.getD (4 * n + 1) 0) (b.getD (4 * n + 2) 0) (b.getD (4 * n + 3) 0)
def sig0 (x : UInt32) : UInt32 := rot x 7 ^^^ rot x 18 ^^^ (x >>> 3)
def sig1 (y : UInt32) : UInt32 := rot y 17 ^^^ rot y 19 ^^^ (y >>> 10)
/-- the word that comes next -/
def nextW (l : List UInt32) : UInt32 := l.getD (l.length - 16) 0 + l.getD (l.length - 7) 0 + sig0 (l.getD (l.length - 15) 0) + sig1 (l.getD (l.length - 2) 0)
def ext : Nat → List UInt32 → List UInt32
  | 0, l => l
  | k + 1, l => ext k l ++ [nextW (ext k l)]
def firstW (b : List UInt8) (k : Nat) : List UInt32 := (List.range k).map (wordAt b)
def sched (b : List UInt8) : List UInt32 := ext 48 (firstW b 16)
theorem ext_length (k : Nat) (l : List UInt32) : (ext k l).length = l.length + k := by
  induction k with
  | zero => rfl
  | succ k ih => rw [ext, List.length_append, ih]; simp; omega
theorem firstW_length (b : List UInt8) (k : Nat) : (firstW b k).length = k := by simp [firstW]
theorem sched_length (b : List UInt8) : (sched b).length = 64 := by rw [sched, ext_length, firstW_length]

/-- so many words at first, noughts behind them -/
def fill64 (l : List UInt32) : List UInt32 := l ++ List.replicate (64 - l.length) 0
theorem fill64_length (l : List UInt32) (h : l.length ≤ 64) : (fill64 l).length = 64 := by simp [fill64]; omega
theorem fill64_set (l : List UInt32) (h : l.length < 64) (x : UInt32) : (fill64 l).set l.length x = fill64 (l ++ [x]) := by
  unfold fill64
  rw [show 64 - l.length = (64 - (l ++ [x]).length) + 1 by simp; omega, List.replicate_succ]
  simp

theorem or_u32 (x y : UInt32) : bits .or .u32 (x.toNat : Int) (y.toNat : Int) = ((x ||| y).toNat : Int) := by
  rw [u32_bits_or _ _ x.toNat_lt y.toNat_lt, UInt32.toNat_or]
theorem u8_word (z : UInt8) (n : Nat) (hn : n ≤ 24) : IntKind.u32.wrap (IntKind.u32.wrap (z.toNat : Int) * 2 ^ n) = ((z.toUInt32 <<< UInt32.ofNat n).toNat : Int) := by
  have hz := z.toNat_lt
  have h1 : IntKind.u32.wrap (z.toNat : Int) = (z.toNat : Int) := IntWalk.u32_in _ (by omega)
  have hm : n % 4294967296 % 32 = n := by omega
  rw [h1, UInt32.toNat_shiftLeft, UInt32.toNat_ofNat', UInt8.toNat_toUInt32, Nat.shiftLeft_eq, hm]
  simp [IntKind.wrap, IntKind.bits, IntKind.signed]
theorem word4_walk (z0 z1 z2 z3 : UInt8) : Value.int IntKind.u32 (bits BinOp.or IntKind.u32 (bits BinOp.or IntKind.u32 (bits BinOp.or IntKind.u32 (IntKind.u32.wrap (IntKind.u32.wrap (z0.toNat : Int) * 16777216)) (IntKind.u32.wrap (IntKind.u32.wrap (z1.toNat : Int) * 65536))) (IntKind.u32.wrap (IntKind.u32.wrap (z2.toNat : Int) * 256))) (IntKind.u32.wrap (z3.toNat : Int))) = W (word4 z0 z1 z2 z3) := by
  have h0 := u8_word z0 24 (by omega)
  have h1 := u8_word z1 16 (by omega)
  have h2 := u8_word z2 8 (by omega)
  have h3 := u8_word z3 0 (by omega)
  rw [show (2 : Int) ^ 24 = 16777216 by rfl] at h0
  rw [show (2 : Int) ^ 16 = 65536 by rfl] at h1
  rw [show (2 : Int) ^ 8 = 256 by rfl] at h2
  have h3' : IntKind.u32.wrap (z3.toNat : Int) = (z3.toUInt32.toNat : Int) := by
    rw [UInt8.toNat_toUInt32]
    exact IntWalk.u32_in _ (by have := z3.toNat_lt; omega)
  rw [h0, h1, h2, h3', or_u32, or_u32, or_u32]
  rfl
theorem firstW_succ (b : List UInt8) (k : Nat) : firstW b (k + 1) = firstW b k ++ [wordAt b k] := by simp [firstW, List.range_succ]
theorem cell_far {w : World} {p q o k : Nat} {x v : Value} (hne : p ≠ q) (h : w.cell? ⟨p, o, none⟩ = some x) : (w.setCell ⟨q, k, none⟩ v).drew.cell? ⟨p, o, none⟩ = some x := by
  rw [World.cell?_drew, World.cell?_setCell_far _ _ _ _ (by simpa using (Ne.symm hne))]
  exact h
theorem xor_u32 (x y : UInt32) : bits .xor .u32 (x.toNat : Int) (y.toNat : Int) = ((x ^^^ y).toNat : Int) := by
  rw [u32_xor_nat _ _ x.toNat_lt y.toNat_lt, UInt32.toNat_xor]
theorem and_u32 (x y : UInt32) : bits .and .u32 (x.toNat : Int) (y.toNat : Int) = ((x &&& y).toNat : Int) := by
  rw [u32_and_nat _ _ x.toNat_lt y.toNat_lt, UInt32.toNat_and]
theorem add_u32 (x y : UInt32) : IntKind.u32.wrap ((x.toNat : Int) + (y.toNat : Int)) = ((x + y).toNat : Int) := by
  rw [UInt32.toNat_add]
  simp [IntKind.wrap, IntKind.bits, IntKind.signed]
theorem shr_u32 (x : UInt32) (n : Nat) (hn : n < 32) : (x.toNat : Int) / 2 ^ n = ((x >>> UInt32.ofNat n).toNat : Int) := by
  have hm : n % 4294967296 % 32 = n := by omega
  rw [UInt32.toNat_shiftRight, UInt32.toNat_ofNat', Nat.shiftRight_eq_div_pow, hm]
  push_cast
  rfl
theorem next_walk (y16 y7 a7 a18 y15 a17 a19 y2 : UInt32) : Value.int IntKind.u32 (IntKind.u32.wrap (IntKind.u32.wrap (IntKind.u32.wrap ((y16.toNat : Int) + (y7.toNat : Int)) + bits BinOp.xor IntKind.u32 (bits BinOp.xor IntKind.u32 (a7.toNat : Int) (a18.toNat : Int)) ((y15.toNat : Int) / 8)) + bits BinOp.xor IntKind.u32 (bits BinOp.xor IntKind.u32 (a17.toNat : Int) (a19.toNat : Int)) ((y2.toNat : Int) / 1024))) = W (y16 + y7 + (a7 ^^^ a18 ^^^ (y15 >>> 3)) + (a17 ^^^ a19 ^^^ (y2 >>> 10))) := by
  have h3 := shr_u32 y15 3 (by omega)
  have h10 := shr_u32 y2 10 (by omega)
  rw [show (2 : Int) ^ 3 = 8 by rfl] at h3
  rw [show (2 : Int) ^ 10 = 1024 by rfl] at h10
  rw [h3, h10, xor_u32, xor_u32, xor_u32, xor_u32, add_u32, add_u32, add_u32]
  rfl
theorem sched_end {b : List UInt8} {w : World} {g : Nat} {t : TypeId} (h : WB w g (fill64 (ext (64 - 16) (firstW b 16))) t) : WB w g (sched b) t := by
  have e : ∀ l : List UInt32, l.length = 64 → fill64 l = l := fun l hl => by
    unfold fill64
    rw [hl]
    exact List.append_nil _
  rw [e _ (by rw [ext_length, firstW_length])] at h
  exact h
theorem sched_size (b : List UInt8) : ((sched b).map W).toArray.size = 64 := by
  rw [List.size_toArray, List.length_map, sched_length]
theorem Below.setRow' {B g : Nat} {w0 w : World} (hb : Below B w0 w) (hBg : B ≤ g) (cs : Array Value) : Below B w0 (w.setRow g cs) :=
  hb.trans ⟨rfl, rfl, rfl, by simp [World.setRow], fun k hk => setRow_other w g k cs (by omega)⟩
theorem Below.drewN' {B : Nat} {w w' : World} (h : Below B w w') (n : Nat) : Below B w (w'.drewN n) := ⟨h.os, h.tape, h.output, h.size, h.block⟩
theorem cell_off {w : World} {p o k : Nat} {x v : Value} (hne : o ≠ k) (h : w.cell? ⟨p, o, none⟩ = some x) : (w.setCell ⟨p, k, none⟩ v).cell? ⟨p, o, none⟩ = some x := by
  rw [World.cell?_setCell_other _ _ _ _ (by intro e; cases e; exact hne rfl)]
  exact h
set_option maxRecDepth 20000 in
set_option maxHeartbeats 6000000 in
theorem schedule_walk (v : Value) (b : List UInt8) (w : World) (h : RB w v b) (hb : b.length = 64) (R : List UInt32) (hR : ∀ wx g, WB wx g (fill64 (ext (64 - 16) (firstW b 16))) 40 → WB wx g R 40) (hsz : (R.map W).toArray.size = 64) :
    Calls Try.prog 16 #[v] w fun e w' => e = .returned (Ws R) ∧ Below w.heap.size w w' := by
  obtain ⟨va, vc, rfl, hv1, hv2, _, hcell⟩ := h
  rcases hcell with rfl | ⟨bp, off, rfl, hcell⟩
  · simp at hb
  have HC := Lib.hid hcell
  rw [hb] at hv1 ⊢
  have HR := Lib.hid hR
  have HSz := Lib.hid hsz
  clear hR hsz
  clear hcell
  simp only [maxLen] at hv2
  go_enter Try.func16, Try.ntmps16
  have hw0 : WB (w.alloc (.cells (Array.replicate 64 (.int .u32 0)) 40)) w.heap.size (fill64 (firstW b 0)) 40 := Blk.new w _ _ rfl
  have HW0 := Lib.hid hw0
  clear hw0
  go_wp2
  go_loopw [7] (fun x wr => ∃ k : Nat, k ≤ 16 ∧ x = .int .i64 k ∧ WB wr w.heap.size (fill64 (firstW b k)) 40 ∧ Below w.heap.size w wr) (fun x _ => 16 - (intOf x).toNat)
  case atStart => exact ⟨0, by omega, rfl, HW0.out, (Below.refl _ _).alloc (Nat.le_refl _) _⟩
  case round =>
    clear HW0
    obtain ⟨k, hk, rfl, hwb, hbr⟩ := hrel
    have HW := Lib.hid hwb
    have HBr := Lib.hid hbr
    clear hwb hbr
    by_cases hlt : k < 16
    · skip
      have hbk : ∀ j, j < 4 → ∃ z : UInt8, Hid (b.getD (4 * k + j) 0 = z) ∧ wr.cell? ⟨bp, off + (4 * k + j), none⟩ = some (.int .u8 (z.toNat : Int)) := fun j hj => ⟨_, rfl, by
        have h1 : 4 * k + j < b.length := by omega
        rw [HBr.out.cell (World.block_lt_of_cell? w _ (HC.out _ h1)), HC.out _ h1]
        simp [List.getD_eq_getElem?_getD, h1]⟩
      obtain ⟨z0, Hz0, hz0⟩ := hbk 0 (by omega)
      obtain ⟨z1, Hz1, hz1⟩ := hbk 1 (by omega)
      obtain ⟨z2, Hz2, hz2⟩ := hbk 2 (by omega)
      obtain ⟨z3, Hz3, hz3⟩ := hbk 3 (by omega)
      have hst : ∃ y, wr.cell? ⟨w.heap.size, k, none⟩ = some y := ⟨_, HW.out.cell k (by rw [fill64_length _ (by rw [firstW_length]; omega)]; omega)⟩
      obtain ⟨y, hst⟩ := hst
      have hfr := HW.out.frozen k
      clear hbk
      have k0 : (4 * (k : Int)) < 64 := by omega
      have k1 : (4 * (k : Int)) + 1 < 64 := by omega
      have k2 : (4 * (k : Int)) + 2 < 64 := by omega
      have k3 : (4 * (k : Int)) + 3 < 64 := by omega
      go_wp2
      have i0 : IntKind.i64.wrap (4 * (k : Int)) = 4 * (k : Int) := IntWalk.i64_in _ (by omega)
      have i1 : IntKind.i64.wrap (4 * (k : Int) + 1) = 4 * (k : Int) + 1 := IntWalk.i64_in _ (by omega)
      have i2 : IntKind.i64.wrap (4 * (k : Int) + 2) = 4 * (k : Int) + 2 := IntWalk.i64_in _ (by omega)
      have i3 : IntKind.i64.wrap (4 * (k : Int) + 3) = 4 * (k : Int) + 3 := IntWalk.i64_in _ (by omega)
      have k64 : (k : Int) < 64 := by omega
      have j0 : 0 ≤ (4 * (k : Int)) := by omega
      have j1 : 0 ≤ (4 * (k : Int)) + 1 := by omega
      have j2 : 0 ≤ (4 * (k : Int)) + 2 := by omega
      have j3 : 0 ≤ (4 * (k : Int)) + 3 := by omega
      have hne : bp ≠ w.heap.size := by
        have := World.block_lt_of_cell? w _ (HC.out 0 (by omega))
        simp only at this; omega
      have t0 : (4 * (k : Int)).toNat = 4 * k + 0 := by omega
      have t1 : (4 * (k : Int) + 1).toNat = 4 * k + 1 := by omega
      have t2 : (4 * (k : Int) + 2).toNat = 4 * k + 2 := by omega
      have t3 : (4 * (k : Int) + 3).toNat = 4 * k + 3 := by omega
      rw [← t0] at hz0
      rw [← t1] at hz1
      rw [← t2] at hz2
      rw [← t3] at hz3
      clear t0 t1 t2 t3
      go_region_held (fun wx => wx.cell? ⟨bp, off + (4 * (k : Int)).toNat, none⟩ = some (.int .u8 (z0.toNat : Int)) ∧ wx.cell? ⟨bp, off + (4 * (k : Int) + 1).toNat, none⟩ = some (.int .u8 (z1.toNat : Int)) ∧ wx.cell? ⟨bp, off + (4 * (k : Int) + 2).toNat, none⟩ = some (.int .u8 (z2.toNat : Int)) ∧ wx.cell? ⟨bp, off + (4 * (k : Int) + 3).toNat, none⟩ = some (.int .u8 (z3.toNat : Int))) (first | exact ⟨hz0, hz1, hz2, hz3⟩ | exact ⟨cell_far hne hz0, cell_far hne hz1, cell_far hne hz2, cell_far hne hz3⟩) (fail)
      rw [word4_walk]
      have hx : wordAt b k = word4 z0 z1 z2 z3 := by
        rw [← Hz0.out, ← Hz1.out, ← Hz2.out, ← Hz3.out]
        rfl
      rw [← hx]
      have hw1 : WB (wr.setCell ⟨w.heap.size, k, none⟩ (W (wordAt b k))).drew w.heap.size (fill64 (firstW b (k + 1))) 40 := by
        rw [firstW_succ, ← fill64_set _ (by rw [firstW_length]; omega), firstW_length]
        exact HW.out.set k _
      have HW1 := Lib.hid hw1
      have HB1 : Hid (Below w.heap.size w (wr.setCell ⟨w.heap.size, k, none⟩ (W (wordAt b k))).drew) := (HBr.out.setCell (Nat.le_refl _) _).drew
      obtain ⟨wn, Hwn⟩ := hid_of (wr.setCell ⟨w.heap.size, k, none⟩ (W (wordAt b k))).drew
      rw [Hwn.out] at HW1 HB1 ⊢
      clear hw1 hx hz0 hz1 hz2 hz3 k0 k1 k2 k3 k64 j0 j1 j2 j3 i0 i1 i2 i3 hst hfr
      go_wp2
      go_roundw
      case rel => exact ⟨k + 1, by omega, by go_num, HW1.out, HB1.out⟩
      case measure => simp [intOf]; omega
    · obtain rfl : k = 16 := by omega
      rw [show ((16 : Nat) : Int) = 16 from rfl]
      have HW2 : Hid (WB wr w.heap.size (fill64 (ext 0 (firstW b 16))) 40) := HW.out
      clear HW
      go_wp2
      go_loopw [4] (fun x w2 => ∃ k : Nat, 16 ≤ k ∧ k ≤ 64 ∧ x = .int .i64 k ∧ WB w2 w.heap.size (fill64 (ext (k - 16) (firstW b 16))) 40 ∧ Below w.heap.size w w2) (fun x _ => 64 - (intOf x).toNat)
      case atStart => exact ⟨16, by omega, by omega, rfl, HW2.out, HBr.out⟩
      case round =>
        clear HW2 HBr
        obtain ⟨k, hk16, hk, rfl, hwb, hbr⟩ := hrel
        have HW := Lib.hid hwb
        have HBr := Lib.hid hbr
        clear hwb hbr
        by_cases hlt : k < 64
        · obtain ⟨L, HL⟩ := hid_of (ext (k - 16) (firstW b 16))
          rw [HL.out] at HW
          have hLl : L.length = k := by rw [← HL.out, ext_length, firstW_length]; omega
          have hcell : ∀ i, i < k → wr.cell? ⟨w.heap.size, i, none⟩ = some (W (L.getD i 0)) := fun i hi => by
            rw [HW.out.cell i (by rw [fill64_length _ (by omega)]; omega)]
            have hL : i < L.length := by omega
            simp [fill64, hL, List.getD_eq_getElem?_getD]
          have hc15 := hcell (k - 15) (by omega)
          have hc2 := hcell (k - 2) (by omega)
          have hc16 := hcell (k - 16) (by omega)
          have hc7 := hcell (k - 7) (by omega)
          obtain ⟨y15, H15⟩ := hid_of (L.getD (k - 15) 0)
          obtain ⟨y2, H2⟩ := hid_of (L.getD (k - 2) 0)
          obtain ⟨y16, H16⟩ := hid_of (L.getD (k - 16) 0)
          obtain ⟨y7, H7⟩ := hid_of (L.getD (k - 7) 0)
          rw [H15.out] at hc15
          have hd15 := hc15
          rw [show k - 15 = ((k : Int) - 15).toNat by omega] at hd15
          rw [H2.out] at hc2
          have hd2 := hc2
          rw [show k - 2 = ((k : Int) - 2).toNat by omega] at hd2
          rw [H16.out] at hc16
          have hd16 := hc16
          rw [show k - 16 = ((k : Int) - 16).toNat by omega] at hd16
          rw [H7.out] at hc7
          have hd7 := hc7
          rw [show k - 7 = ((k : Int) - 7).toNat by omega] at hd7
          have hst : ∃ y, wr.cell? ⟨w.heap.size, k, none⟩ = some y := ⟨_, HW.out.cell k (by rw [fill64_length _ (by omega)]; omega)⟩
          obtain ⟨y, hst⟩ := hst
          have hfr := HW.out.frozen k
          unfold W at hc15 hc2 hc16 hc7 hd15 hd2 hd16 hd7
          clear hcell
          have i15 : IntKind.i64.wrap ((k : Int) - 15) = (k : Int) - 15 := IntWalk.i64_in _ (by omega)
          have i2 : IntKind.i64.wrap ((k : Int) - 2) = (k : Int) - 2 := IntWalk.i64_in _ (by omega)
          have i16 : IntKind.i64.wrap ((k : Int) - 16) = (k : Int) - 16 := IntWalk.i64_in _ (by omega)
          have i7 : IntKind.i64.wrap ((k : Int) - 7) = (k : Int) - 7 := IntWalk.i64_in _ (by omega)
          have j15 : 0 ≤ (k : Int) - 15 := by omega
          have j2 : 0 ≤ (k : Int) - 2 := by omega
          have j16 : 0 ≤ (k : Int) - 16 := by omega
          have j7 : 0 ≤ (k : Int) - 7 := by omega
          have l15 : (k : Int) - 15 < 64 := by omega
          have l2 : (k : Int) - 2 < 64 := by omega
          have l16 : (k : Int) - 16 < 64 := by omega
          have l7 : (k : Int) - 7 < 64 := by omega
          go_wp2
          go_quiet (fail)
          go_wp2
          obtain ⟨a7, Ha7⟩ := hid_of (rot y15 7)
          obtain ⟨a18, Ha18⟩ := hid_of (rot y15 18)
          obtain ⟨a17, Ha17⟩ := hid_of (rot y2 17)
          obtain ⟨a19, Ha19⟩ := hid_of (rot y2 19)
          have T7 : Hid (∀ wx, Calls Try.prog 18 #[.int .u32 (y15.toNat : Int), .int .i64 7] wx fun e w' => e = .returned (.int .u32 (a7.toNat : Int)) ∧ ∃ m, w' = wx.drewN m) := by rw [← Ha7.out]; exact turn_any y15 7 (by omega) (by omega)
          have T18 : Hid (∀ wx, Calls Try.prog 18 #[.int .u32 (y15.toNat : Int), .int .i64 18] wx fun e w' => e = .returned (.int .u32 (a18.toNat : Int)) ∧ ∃ m, w' = wx.drewN m) := by rw [← Ha18.out]; exact turn_any y15 18 (by omega) (by omega)
          have T17 : Hid (∀ wx, Calls Try.prog 18 #[.int .u32 (y2.toNat : Int), .int .i64 17] wx fun e w' => e = .returned (.int .u32 (a17.toNat : Int)) ∧ ∃ m, w' = wx.drewN m) := by rw [← Ha17.out]; exact turn_any y2 17 (by omega) (by omega)
          have T19 : Hid (∀ wx, Calls Try.prog 18 #[.int .u32 (y2.toNat : Int), .int .i64 19] wx fun e w' => e = .returned (.int .u32 (a19.toNat : Int)) ∧ ∃ m, w' = wx.drewN m) := by rw [← Ha19.out]; exact turn_any y2 19 (by omega) (by omega)
          obtain ⟨wq, Hwq⟩ := hid_of (wr.drewN nq)
          have HWq : Hid (WB wq w.heap.size (fill64 L) 40) := by rw [← Hwq.out]; exact HW.out
          have HBq : Hid (Below w.heap.size w wq) := by rw [← Hwq.out]; exact Below.drewN' HBr.out nq
          have hq16 : wq.cell? ⟨w.heap.size, ((k : Int) - 16).toNat, none⟩ = some (.int .u32 (y16.toNat : Int)) := by rw [← Hwq.out]; exact hd16
          have hq7 : wq.cell? ⟨w.heap.size, ((k : Int) - 7).toNat, none⟩ = some (.int .u32 (y7.toNat : Int)) := by rw [← Hwq.out]; exact hd7
          have hqst : wq.cell? ⟨w.heap.size, k, none⟩ = some y := by rw [← Hwq.out]; exact hst
          have hqfr : wq.frozen? ⟨w.heap.size, k, none⟩ = false := by rw [← Hwq.out]; exact hfr
          rw [Hwq.out]
          have k64 : (k : Int) < 64 := by omega
          have m16 : (16 : Int) ≤ k := by omega
          have m7 : (7 : Int) ≤ k := by omega
          have n16 : ((k : Int) - 16).toNat ≠ k := by omega
          have n7 : ((k : Int) - 7).toNat ≠ k := by omega
          have N16 := Lib.hid n16
          have N7 := Lib.hid n7
          clear hc15 hc2 hc16 hc7 hd15 hd2 hd16 hd7 hst hfr HW HBr i15 i2 j15 j2 l15 l2 n16 n7
          go_region_held (fun wx => wx.cell? ⟨w.heap.size, ((k : Int) - 16).toNat, none⟩ = some (.int .u32 (y16.toNat : Int)) ∧ wx.cell? ⟨w.heap.size, ((k : Int) - 7).toNat, none⟩ = some (.int .u32 (y7.toNat : Int))) (first | exact ⟨hq16, hq7⟩ | exact ⟨cell_off N16.out hq16, cell_off N7.out hq7⟩) (first
              | (go_at_call 18; with_reducible refine (T7.out _).mono ?_; rintro e w' ⟨rfl, d7, rfl⟩)
              | (go_at_call 18; with_reducible refine (T18.out _).mono ?_; rintro e w' ⟨rfl, d18, rfl⟩)
              | (go_at_call 18; with_reducible refine (T17.out _).mono ?_; rintro e w' ⟨rfl, d17, rfl⟩)
              | (go_at_call 18; with_reducible refine (T19.out _).mono ?_; rintro e w' ⟨rfl, d19, rfl⟩))
          rw [next_walk]
          have hx : nextW L = y16 + y7 + (a7 ^^^ a18 ^^^ (y15 >>> 3)) + (a17 ^^^ a19 ^^^ (y2 >>> 10)) := by
            rw [← Ha7.out, ← Ha18.out, ← Ha17.out, ← Ha19.out, ← H15.out, ← H2.out, ← H16.out, ← H7.out]
            unfold nextW sig0 sig1
            rw [hLl]
          rw [← hx]
          obtain ⟨D, HD⟩ := hid_of (1 + d7 + d18 + d17 + d19)
          rw [HD.out]
          have hw1 : WB ((wq.drewN D).setCell ⟨w.heap.size, k, none⟩ (W (nextW L))) w.heap.size (fill64 (ext (k + 1 - 16) (firstW b 16))) 40 := by
            rw [show k + 1 - 16 = (k - 16) + 1 by omega, ext, HL.out, ← fill64_set _ (by omega), hLl]
            exact WB.set (HWq.out.drewN D) k _
          have HW1 := Lib.hid hw1
          have HB1 : Hid (Below w.heap.size w ((wq.drewN D).setCell ⟨w.heap.size, k, none⟩ (W (nextW L)))) := (Below.drewN' HBq.out D).setCell (Nat.le_refl _) _
          obtain ⟨wn, Hwn⟩ := hid_of ((wq.drewN D).setCell ⟨w.heap.size, k, none⟩ (W (nextW L)))
          rw [Hwn.out] at HW1 HB1 ⊢
          clear hw1 hx hq16 hq7 hqst hqfr i16 i7 j16 j7 l16 l7 k64 m16 m7 hLl
          go_wp2
          go_roundw
          case rel => exact ⟨k + 1, by omega, by omega, by go_num, HW1.out, HB1.out⟩
          case measure => simp [intOf]; omega
        · obtain rfl : k = 64 := by omega
          have HF := Lib.hid (HR.out wr w.heap.size HW.out)
          clear HW
          go_wp2_with (first | (refine wpList_load_row rfl 40 _ rfl w.heap.size rfl 40 _ (0, 0) _ HF.out.row Try.underlying40 rfl (by rw [HSz.out]; kernel_rfl) ?_) | (refine wpList_store_row rfl 40 _ _ rfl w.heap.size _ rfl rfl 40 _ HF.out.row (by rw [HSz.out]; kernel_rfl) rfl (Ws_oneCell R) ?_))
          refine bodyPost_ret (results_cell_row rfl _ _ w.heap.size 40 _ (0, 0) _ rfl HF.out.setRow.row Try.underlying40 rfl (by rw [HSz.out]; kernel_rfl)) rfl ?_
          exact ⟨rfl, Below.setRow' HBr.out (Nat.le_refl _) _⟩
theorem schedule_any (v : Value) (b : List UInt8) (w : World) (h : RB w v b) (hb : b.length = 64) :
    Calls Try.prog 16 #[v] w fun e w' => e = .returned (Ws (sched b)) ∧ Below w.heap.size w w' :=
  schedule_walk v b w h hb (sched b) (fun _ _ h => sched_end h) (sched_size b)
end Go.Proofs.Ytfcgmomankkmpaa
