/-
  kistref05.at, back, stone: one byte of the padded text, a turn, the number of a round.
-/
import Derived.Test.YtmjhfgnonafknaaDigOf

namespace Go.Proofs.Ytmjhfgnonafknaa
open Go.RowKit
set_option linter.unusedVariables false

theorem padded_low (b : List UInt8) (n : Nat) (h : n < b.length) : (padded b).getD n 0 = b.getD n 0 := by
  unfold padded
  rw [List.append_assoc, List.append_assoc, List.getD_eq_getElem?_getD, List.getD_eq_getElem?_getD, List.getElem?_append_left h]
theorem padded_one (b : List UInt8) : (padded b).getD b.length 0 = 128 := by
  unfold padded
  rw [List.append_assoc, List.append_assoc, List.getD_eq_getElem?_getD, List.getElem?_append_right (Nat.le_refl _), Nat.sub_self]
  rfl
theorem padded_nought (b : List UInt8) (n : Nat) (h : b.length < n) (h2 : n + 8 < 64 * blocks b) : (padded b).getD n 0 = 0 := by
  have hb := padded_length b
  have hn : (b ++ [0x80]).length = b.length + 1 := by simp
  unfold padded at hb ⊢
  rw [List.getD_eq_getElem?_getD, List.append_assoc (b ++ [128]), List.getElem?_append_right (by omega), hn]
  rw [List.length_append, List.length_append, List.length_replicate, hn, show (lenBytes b.length).length = 8 from rfl] at hb
  rw [List.getElem?_append_left (by rw [List.length_replicate]; omega), List.getElem?_replicate]
  split <;> rfl
theorem padded_bits (b : List UInt8) (i : Nat) (h : i < 8) : (padded b).getD (64 * blocks b - 1 - i) 0 = UInt8.ofNat (8 * b.length / 2 ^ (8 * i)) := by
  have hb := padded_length b
  have hn : (b ++ [0x80] ++ List.replicate (noughts b.length) 0).length = 64 * blocks b - 8 := by
    unfold padded at hb
    rw [List.length_append, show (lenBytes b.length).length = 8 from rfl] at hb
    omega
  have hbl : 8 ≤ 64 * blocks b := by unfold blocks; omega
  unfold padded
  rw [List.getD_eq_getElem?_getD, List.getElem?_append_right (by rw [hn]; omega), hn, show 64 * blocks b - 1 - i - (64 * blocks b - 8) = 7 - i by omega]
  have : i = 0 ∨ i = 1 ∨ i = 2 ∨ i = 3 ∨ i = 4 ∨ i = 5 ∨ i = 6 ∨ i = 7 := by omega
  rcases this with rfl | rfl | rfl | rfl | rfl | rfl | rfl | rfl <;> rfl

theorem byte_of (m i : Nat) : 8 * (m : Int) / 2 ^ i % 256 = ((UInt8.ofNat (8 * m / 2 ^ i)).toNat : Int) := by
  rw [UInt8.toNat_ofNat']
  have h2 : ((2 : Int) ^ i) = ((2 ^ i : Nat) : Int) := (Int.natCast_pow 2 i).symm
  rw [h2]
  generalize 2 ^ i = p
  have h1 : 8 * (m : Int) / (p : Int) = ((8 * m / p : Nat) : Int) := by rw [Int.natCast_ediv, Int.natCast_mul]; rfl
  rw [h1]
  omega
set_option maxHeartbeats 1000000 in
theorem at_any (v : Value) (b : List UInt8) (n : Nat) (w : World) (h : RB w v b) (hb : b.length + 200 ≤ 140737488355328) (hn : n < 64 * blocks b) :
    Calls Try.prog 50 #[v, .int .i64 (n : Int), .int .i64 ((64 * blocks b : Nat) : Int)] w fun e w' => e = .returned (.int .u8 (((padded b).getD n 0).toNat : Int)) ∧ w' = w := by
  have hall : b.length + 9 ≤ 64 * blocks b ∧ 64 * blocks b ≤ b.length + 72 := by unfold blocks; omega
  obtain ⟨z, Hz⟩ := hid_of ((padded b).getD n 0)
  rw [Hz.out]
  have hz : Hid ((n < b.length → b.getD n 0 = z) ∧ (n = b.length → z = 128) ∧ (b.length < n → n + 8 < 64 * blocks b → z = 0) ∧ (∀ i, i < 8 → n = 64 * blocks b - 1 - i → z = UInt8.ofNat (8 * b.length / 2 ^ (8 * i)))) := by
    refine ⟨fun h => ?_, fun h => ?_, fun h1 h2 => ?_, fun i hi h => ?_⟩
    · rw [← Hz.out, padded_low b n h]
    · rw [← Hz.out, h, padded_one]
    · rw [← Hz.out, padded_nought b n h1 h2]
    · rw [← Hz.out, h, padded_bits b i hi]
  obtain ⟨A, HA⟩ := hid_of (64 * blocks b)
  rw [HA.out] at hz hall hn ⊢
  obtain ⟨va, vc, rfl, hv1, hv2⟩ := h.shape
  obtain ⟨m, Hm⟩ := hid_of b.length
  have HR : Hid (RB w (.slice va m vc) b) := by rw [← Hm.out]; exact h
  rw [Hm.out] at hz hall hb hv1 ⊢
  simp only [maxLen] at hv2
  clear h HA Hz
  go_enter Try.func50, Try.ntmps50
  by_cases h1 : n < m
  · have h0 := HR.out
    rcases h0.parts with ⟨rfl, _⟩ | ⟨_, g, o, c, he, hc1, hc2, hcell⟩
    · have := Hm.out; simp at this; omega
    · cases he
      have hc := hcell n (by rw [Hm.out]; exact h1)
      have e : b[n]'(by rw [Hm.out]; exact h1) = z := by
        have := hz.out.1 h1
        rw [← this]
        simp [List.getD_eq_getElem?_getD, show n < b.length by rw [Hm.out]; exact h1]
      rw [e] at hc
      clear hcell e h0 hz hc1 hc2
      go_wp2
      go_ret
      exact ⟨rfl, rfl⟩
  · by_cases h2 : n = m
    · have hz2 := hz.out.2.1 h2
      subst hz2
      subst h2
      clear hz HR
      go_wp2
      go_ret
      exact ⟨rfl, rfl⟩
    · by_cases h3 : n + 8 < A
      · have hz3 := hz.out.2.2.1 (by omega) h3
        subst hz3
        clear hz HR
        go_wp2
        go_ret
        exact ⟨rfl, rfl⟩
      · obtain ⟨i, hi⟩ : ∃ i, i = A - 1 - n := ⟨A - 1 - n, rfl⟩
        have hi8 : i < 8 := by clear hz HR; omega
        have hz4 := hz.out.2.2.2 i hi8 (by omega)
        have hz5 : (8 * (m : Int) / 2 ^ (8 * i) % 256) = (z.toNat : Int) := by
          rw [hz4]; exact byte_of m (8 * i)
        have hAi : (A : Int) - 1 - (n : Int) = (i : Int) := by omega
        rw [hi] at hz5
        clear hz HR hz4 hAi hi hi8
        go_wp2
        go_ret
        exact ⟨by rw [← hz5]; rfl, rfl⟩
theorem back_same (x : UInt32) (n : Nat) (h0 : 0 < n) (h : n < 32) (w : World) :
    Calls Try.prog 51 #[W x, .int .i64 (n : Int)] w fun e w' => e = .returned (W (rot x n)) ∧ w' = w := by
  have hr : bits .or .u32 ((x.toNat : Int) * 2 ^ (32 - n) % 4294967296) ((x.toNat : Int) / 2 ^ n) = ((rot x n).toNat : Int) := by
    rw [← rot_walk x n h0 h]
    have hx : x.toNat < 4294967296 := x.toNat_lt
    have e1 : (x.toNat : Int) / 2 ^ n = ((x.toNat / 2 ^ n : Nat) : Int) := by push_cast; rfl
    have e2 : IntKind.u32.wrap ((x.toNat : Int) * 2 ^ (32 - n)) = ((x.toNat * 2 ^ (32 - n) % 4294967296 : Nat) : Int) := by
      simp [IntKind.wrap, IntKind.bits, IntKind.signed]
    have e3 : (x.toNat : Int) * 2 ^ (32 - n) % 4294967296 = ((x.toNat * 2 ^ (32 - n) % 4294967296 : Nat) : Int) := by rw [← e2]; simp [IntKind.wrap, IntKind.bits, IntKind.signed]
    rw [e1, e2, e3, u32_bits_or _ _ (Nat.lt_of_le_of_lt (Nat.div_le_self _ _) hx) (Nat.mod_lt _ (by decide)), u32_bits_or _ _ (Nat.mod_lt _ (by decide)) (Nat.lt_of_le_of_lt (Nat.div_le_self _ _) hx), Nat.or_comm]
  have hx : x.toNat < 4294967296 := x.toNat_lt
  unfold W
  obtain ⟨X, HX⟩ := hid_of x.toNat
  rw [HX.out] at hr hx ⊢
  obtain ⟨R, HR⟩ := hid_of (rot x n).toNat
  rw [HR.out] at hr ⊢
  obtain ⟨m, hm⟩ : ∃ m : Nat, (32 : Int) - (n : Int) = (m : Int) := ⟨32 - n, by omega⟩
  have hm2 : 32 - n = m := by omega
  rw [hm2] at hr
  have hm3 : ¬ (32 : Int) ≤ (m : Int) := by omega
  go_enter Try.func51, Try.ntmps51
  go_wp2
  go_ret
  exact ⟨rfl, rfl⟩
theorem stones_cells : #[.int .u32 1116352408, .int .u32 1899447441, .int .u32 3049323471, .int .u32 3921009573, .int .u32 961987163, .int .u32 1508970993, .int .u32 2453635748, .int .u32 2870763221, .int .u32 3624381080, .int .u32 310598401, .int .u32 607225278, .int .u32 1426881987, .int .u32 1925078388, .int .u32 2162078206, .int .u32 2614888103, .int .u32 3248222580, .int .u32 3835390401, .int .u32 4022224774, .int .u32 264347078, .int .u32 604807628, .int .u32 770255983, .int .u32 1249150122, .int .u32 1555081692, .int .u32 1996064986, .int .u32 2554220882, .int .u32 2821834349, .int .u32 2952996808, .int .u32 3210313671, .int .u32 3336571891, .int .u32 3584528711, .int .u32 113926993, .int .u32 338241895, .int .u32 666307205, .int .u32 773529912, .int .u32 1294757372, .int .u32 1396182291, .int .u32 1695183700, .int .u32 1986661051, .int .u32 2177026350, .int .u32 2456956037, .int .u32 2730485921, .int .u32 2820302411, .int .u32 3259730800, .int .u32 3345764771, .int .u32 3516065817, .int .u32 3600352804, .int .u32 4094571909, .int .u32 275423344, .int .u32 430227734, .int .u32 506948616, .int .u32 659060556, .int .u32 883997877, .int .u32 958139571, .int .u32 1322822218, .int .u32 1537002063, .int .u32 1747873779, .int .u32 1955562222, .int .u32 2024104815, .int .u32 2227730452, .int .u32 2361852424, .int .u32 2428436474, .int .u32 2756734187, .int .u32 3204031479, .int .u32 3329325298] = (stones.map W).toArray := rfl
set_option maxRecDepth 20000 in
set_option maxHeartbeats 1000000 in
theorem stone_any (n : Nat) (hn : n < 64) (w : World) :
    Calls Try.prog 52 #[.int .i64 (n : Int)] w fun e w' => e = .returned (W (stones.getD n 0)) ∧ Below w.heap.size w w' := by
  obtain ⟨x, Hx⟩ := hid_of (stones.getD n 0)
  rw [Hx.out]
  have hcell : (w.alloc (.cells (stones.map W).toArray 74)).cell? ⟨w.heap.size, n, none⟩ = some (.int .u32 (x.toNat : Int)) := by
    have h1 : n < stones.length := hn
    have hw : WB (w.alloc (.cells (stones.map W).toArray 74)) w.heap.size stones 74 := Blk.new w (stones.map W).toArray 74 rfl
    have h2 := hw.cell n h1
    rw [h2, ← Hx.out]
    simp [List.getD_eq_getElem?_getD, h1, W]
  have HB : Hid (Below w.heap.size w (w.alloc (.cells (stones.map W).toArray 74))) := (Below.refl _ _).alloc (Nat.le_refl _) _
  obtain ⟨C, HC⟩ := hid_of (stones.map W).toArray
  rw [HC.out] at hcell HB
  have hn64 : (n : Int) < 64 := by omega
  go_enter Try.func52, Try.ntmps52
  go_wp2_with (with_reducible refine stop_load _ _ rfl ?_)
  rw [stones_cells, HC.out]
  refine going ?_
  go_wp2
  go_ret
  exact ⟨rfl, HB.out⟩
end Go.Proofs.Ytmjhfgnonafknaa
