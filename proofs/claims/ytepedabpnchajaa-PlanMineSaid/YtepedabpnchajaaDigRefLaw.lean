/-
  kistref05.at, back, stone: one byte of the padded text, a turn, the number of a round.
-/
import Derived.Test.YtepedabpnchajaaDigOf

namespace Go.Proofs.Ytepedabpnchajaa
open Go.RowKit
set_option linter.unusedVariables false

theorem padded_low (b : List UInt8) (n : Nat) (h : n < b.length) : (padded b).getD n 0 = b.getD n 0 := by
  unfold padded
  rw [List.append_assoc, List.append_assoc, List.getD_eq_getElem?_getD, List.getD_eq_getElem?_getD, List.getElem?_append_left h]
theorem padded_one (b : List UInt8) : (padded b).getD b.length 0 = 128 := by
  unfold padded
  rw [List.append_assoc, List.append_assoc, List.getD_eq_getElem?_getD, List.getElem?_append_right (Nat.le_refl _), Nat.sub_self]
  rfl
theorem padded_nought (b : List UInt8) (n : Nat) (h : b.length < n) (h2 : n + 8 < 64 * blocks b) : (padded b).getD n 0 = 0 := by
  have hb := padded_length b
  have hn : (b ++ [0x80]).length = b.length + 1 := by simp
  unfold padded at hb ⊢
  rw [List.getD_eq_getElem?_getD, List.append_assoc (b ++ [128]), List.getElem?_append_right (by omega), hn]
  rw [List.length_append, List.length_append, List.length_replicate, hn, show (lenBytes b.length).length = 8 from rfl] at hb
  rw [List.getElem?_append_left (by rw [List.length_replicate]; omega), List.getElem?_replicate]
  split <;> rfl
theorem padded_bits (b : List UInt8) (i : Nat) (h : i < 8) : (padded b).getD (64 * blocks b - 1 - i) 0 = UInt8.ofNat (8 * b.length / 2 ^ (8 * i)) := by
  have hb := padded_length b
  have hn : (b ++ [0x80] ++ List.replicate (noughts b.length) 0).length = 64 * blocks b - 8 := by
    unfold padded at hb
    rw [List.length_append, show (lenBytes b.length).length = 8 from rfl] at hb
    omega
  have hbl : 8 ≤ 64 * blocks b := by unfold blocks; omega
  unfold padded
  rw [List.getD_eq_getElem?_getD, List.getElem?_append_right (by rw [hn]; omega), hn, show 64 * blocks b - 1 - i - (64 * blocks b - 8) = 7 - i by omega]
  have : i = 0 ∨ i = 1 ∨ i = 2 ∨ i = 3 ∨ i = 4 ∨ i = 5 ∨ i = 6 ∨ i = 7 := by omega
  rcases this with rfl | rfl | rfl | rfl | rfl | rfl | rfl | rfl <;> rfl

theorem byte_of (m i : Nat) : 8 * (m : Int) / 2 ^ i % 256 = ((UInt8.ofNat (8 * m / 2 ^ i)).toNat : Int) := by
  rw [UInt8.toNat_ofNat']
  have h2 : ((2 : Int) ^ i) = ((2 ^ i : Nat) : Int) := (Int.natCast_pow 2 i).symm
  rw [h2]
  generalize 2 ^ i = p
  have h1 : 8 * (m : Int) / (p : Int) = ((8 * m / p : Nat) : Int) := by rw [Int.natCast_ediv, Int.natCast_mul]; rfl
  rw [h1]
  omega
set_option maxHeartbeats 1000000 in
theorem at_any (v : Value) (b : List UInt8) (n : Nat) (w : World) (h : RB w v b) (hb : b.length + 200 ≤ 140737488355328) (hn : n < 64 * blocks b) :
    Calls Try.prog 47 #[v, .int .i64 (n : Int), .int .i64 ((64 * blocks b : Nat) : Int)] w fun e w' => e = .returned (.int .u8 (((padded b).getD n 0).toNat : Int)) ∧ w' = w := by
  have hall : b.length + 9 ≤ 64 * blocks b ∧ 64 * blocks b ≤ b.length + 72 := by unfold blocks; omega
  obtain ⟨z, Hz⟩ := hid_of ((padded b).getD n 0)
  rw [Hz.out]
  have hz : Hid ((n < b.length → b.getD n 0 = z) ∧ (n = b.length → z = 128) ∧ (b.length < n → n + 8 < 64 * blocks b → z = 0) ∧ (∀ i, i < 8 → n = 64 * blocks b - 1 - i → z = UInt8.ofNat (8 * b.length / 2 ^ (8 * i)))) := by
    refine ⟨fun h => ?_, fun h => ?_, fun h1 h2 => ?_, fun i hi h => ?_⟩
    · rw [← Hz.out, padded_low b n h]
    · rw [← Hz.out, h, padded_one]
    · rw [← Hz.out, padded_nought b n h1 h2]
    · rw [← Hz.out, h, padded_bits b i hi]
  obtain ⟨A, HA⟩ := hid_of (64 * blocks b)
  rw [HA.out] at hz hall hn ⊢
  obtain ⟨va, vc, rfl, hv1, hv2⟩ := h.shape
  obtain ⟨m, Hm⟩ := hid_of b.length
  have HR : Hid (RB w (.slice va m vc) b) := by rw [← Hm.out]; exact h
  rw [Hm.out] at hz hall hb hv1 ⊢
  simp only [maxLen] at hv2
  clear h HA Hz
  go_enter Try.func47, Try.ntmps47
  by_cases h1 : n < m
  · have h0 := HR.out
    rcases h0.parts with ⟨rfl, _⟩ | ⟨_, g, o, c, he, hc1, hc2, hcell⟩
    · have := Hm.out; simp at this; omega
    · cases he
      have hc := hcell n (by rw [Hm.out]; exact h1)
      have e : b[n]'(by rw [Hm.out]; exact h1) = z := by
        have := hz.out.1 h1
        rw [← this]
        simp [List.getD_eq_getElem?_getD, show n < b.length by rw [Hm.out]; exact h1]
      rw [e] at hc
      clear hcell e h0 hz hc1 hc2
      go_wp2
      go_ret
      exact ⟨rfl, rfl⟩
  · by_cases h2 : n = m
    · have hz2 := hz.out.2.1 h2
      subst hz2
      subst h2
      clear hz HR
      go_wp2
      go_ret
      exact ⟨rfl, rfl⟩
    · by_cases h3 : n + 8 < A
      · have hz3 := hz.out.2.2.1 (by omega) h3
        subst hz3
        clear hz HR
        go_wp2
        go_ret
        exact ⟨rfl, rfl⟩
      · obtain ⟨i, hi⟩ : ∃ i, i = A - 1 - n := ⟨A - 1 - n, rfl⟩
        have hi8 : i < 8 := by clear hz HR; omega
        have hz4 := hz.out.2.2.2 i hi8 (by omega)
        have hz5 : (8 * (m : Int) / 2 ^ (8 * i) % 256) = (z.toNat : Int) := by
          rw [hz4]; exact byte_of m (8 * i)
        have hAi : (A : Int) - 1 - (n : Int) = (i : Int) := by omega
        rw [hi] at hz5
        clear hz HR hz4 hAi hi hi8
        go_wp2
        go_ret
        exact ⟨by rw [← hz5]; rfl, rfl⟩
theorem back_same (x : UInt32) (n : Nat) (h0 : 0 < n) (h : n < 32) (w : World) :
    Calls Try.prog 48 #[W x, .int .i64 (n : Int)] w fun e w' => e = .returned (W (rot x n)) ∧ w' = w := by
  have hr : bits .or .u32 ((x.toNat : Int) * 2 ^ (32 - n) % 4294967296) ((x.toNat : Int) / 2 ^ n) = ((rot x n).toNat : Int) := by
    rw [← rot_walk x n h0 h]
    have hx : x.toNat < 4294967296 := x.toNat_lt
    have e1 : (x.toNat : Int) / 2 ^ n = ((x.toNat / 2 ^ n : Nat) : Int) := by push_cast; rfl
    have e2 : IntKind.u32.wrap ((x.toNat : Int) * 2 ^ (32 - n)) = ((x.toNat * 2 ^ (32 - n) % 4294967296 : Nat) : Int) := by
      simp [IntKind.wrap, IntKind.bits, IntKind.signed]
    have e3 : (x.toNat : Int) * 2 ^ (32 - n) % 4294967296 = ((x.toNat * 2 ^ (32 - n) % 4294967296 : Nat) : Int) := by rw [← e2]; simp [IntKind.wrap, IntKind.bits, IntKind.signed]
    rw [e1, e2, e3, u32_bits_or _ _ (Nat.lt_of_le_of_lt (Nat.div_le_self _ _) hx) (Nat.mod_lt _ (by decide)), u32_bits_or _ _ (Nat.mod_lt _ (by decide)) (Nat.lt_of_le_of_lt (Nat.div_le_self _ _) hx), Nat.or_comm]
  have hx : x.toNat < 4294967296 := x.toNat_lt
  unfold W
  obtain ⟨X, HX⟩ := hid_of x.toNat
  rw [HX.out] at hr hx ⊢
  obtain ⟨R, HR⟩ := hid_of (rot x n).toNat
  rw [HR.out] at hr ⊢
  obtain ⟨m, hm⟩ : ∃ m : Nat, (32 : Int) - (n : Int) = (m : Int) := ⟨32 - n, by omega⟩
  have hm2 : 32 - n = m := by omega
  rw [hm2] at hr
  have hm3 : ¬ (32 : Int) ≤ (m : Int) := by omega
  go_enter Try.func48, Try.ntmps48
  go_wp2
  go_ret
  exact ⟨rfl, rfl⟩
theorem stones_cells : #[.int .u32 1116352408, .int .u32 1899447441, .int .u32 3049323471, .int .u32 3921009573, .int .u32 961987163, .int .u32 1508970993, .int .u32 2453635748, .int .u32 2870763221, .int .u32 3624381080, .int .u32 310598401, .int .u32 607225278, .int .u32 1426881987, .int .u32 1925078388, .int .u32 2162078206, .int .u32 2614888103, .int .u32 3248222580, .int .u32 3835390401, .int .u32 4022224774, .int .u32 264347078, .int .u32 604807628, .int .u32 770255983, .int .u32 1249150122, .int .u32 1555081692, .int .u32 1996064986, .int .u32 2554220882, .int .u32 2821834349, .int .u32 2952996808, .int .u32 3210313671, .int .u32 3336571891, .int .u32 3584528711, .int .u32 113926993, .int .u32 338241895, .int .u32 666307205, .int .u32 773529912, .int .u32 1294757372, .int .u32 1396182291, .int .u32 1695183700, .int .u32 1986661051, .int .u32 2177026350, .int .u32 2456956037, .int .u32 2730485921, .int .u32 2820302411, .int .u32 3259730800, .int .u32 3345764771, .int .u32 3516065817, .int .u32 3600352804, .int .u32 4094571909, .int .u32 275423344, .int .u32 430227734, .int .u32 506948616, .int .u32 659060556, .int .u32 883997877, .int .u32 958139571, .int .u32 1322822218, .int .u32 1537002063, .int .u32 1747873779, .int .u32 1955562222, .int .u32 2024104815, .int .u32 2227730452, .int .u32 2361852424, .int .u32 2428436474, .int .u32 2756734187, .int .u32 3204031479, .int .u32 3329325298] = (stones.map W).toArray := rfl
set_option maxRecDepth 20000 in
set_option maxHeartbeats 1000000 in
theorem stone_any (n : Nat) (hn : n < 64) (w : World) :
    Calls Try.prog 49 #[.int .i64 (n : Int)] w fun e w' => e = .returned (W (stones.getD n 0)) ∧ Below w.heap.size w w' := by
  obtain ⟨x, Hx⟩ := hid_of (stones.getD n 0)
  rw [Hx.out]
  have hcell : (w.alloc (.cells (stones.map W).toArray 77)).cell? ⟨w.heap.size, n, none⟩ = some (.int .u32 (x.toNat : Int)) := by
    have h1 : n < stones.length := hn
    have hw : WB (w.alloc (.cells (stones.map W).toArray 77)) w.heap.size stones 77 := Blk.new w (stones.map W).toArray 77 rfl
    have h2 := hw.cell n h1
    rw [h2, ← Hx.out]
    simp [List.getD_eq_getElem?_getD, h1, W]
  have HB : Hid (Below w.heap.size w (w.alloc (.cells (stones.map W).toArray 77))) := (Below.refl _ _).alloc (Nat.le_refl _) _
  obtain ⟨C, HC⟩ := hid_of (stones.map W).toArray
  rw [HC.out] at hcell HB
  have hn64 : (n : Int) < 64 := by omega
  go_enter Try.func49, Try.ntmps49
  go_wp2_with (with_reducible refine stop_load _ _ rfl ?_)
  rw [stones_cells, HC.out]
  refine going ?_
  go_wp2
  go_ret
  exact ⟨rfl, HB.out⟩
end Go.Proofs.Ytepedabpnchajaa

/-
  The plain law behind kistref05.Of: the ring of sixteen words, the other spellings of 'choose' and 'most'.
-/
namespace Go.Proofs.Ytepedabpnchajaa
open Go.RowKit
set_option linter.unusedVariables false
set_option linter.unusedSimpArgs false

theorem choose_eq (e f g : UInt32) : g ^^^ (e &&& (f ^^^ g)) = (e &&& f) ^^^ (~~~ e &&& g) := by
  apply UInt32.toBitVec_inj.1
  simp only [UInt32.toBitVec_xor, UInt32.toBitVec_and, UInt32.toBitVec_not]
  apply BitVec.eq_of_getLsbD_eq
  intro i hi
  simp only [BitVec.getLsbD_xor, BitVec.getLsbD_and, BitVec.getLsbD_not, hi, decide_true, Bool.true_and]
  cases e.toBitVec.getLsbD i <;> cases f.toBitVec.getLsbD i <;> cases g.toBitVec.getLsbD i <;> rfl
theorem most_eq (a b c : UInt32) : (a &&& (b ||| c)) ||| (b &&& c) = (a &&& b) ^^^ (a &&& c) ^^^ (b &&& c) := by
  apply UInt32.toBitVec_inj.1
  simp only [UInt32.toBitVec_xor, UInt32.toBitVec_and, UInt32.toBitVec_or]
  apply BitVec.eq_of_getLsbD_eq
  intro i hi
  simp only [BitVec.getLsbD_xor, BitVec.getLsbD_and, BitVec.getLsbD_or]
  cases a.toBitVec.getLsbD i <;> cases b.toBitVec.getLsbD i <;> cases c.toBitVec.getLsbD i <;> rfl
theorem next_byte (x : UInt32) (z : UInt8) : x * (256 : UInt32) + z.toUInt32 = (x <<< 8) ||| z.toUInt32 := by
  have hz := z.toNat_lt
  have hx := x.toNat_lt
  apply UInt32.toNat_inj.1
  rw [UInt32.toNat_add, UInt32.toNat_mul, UInt32.toNat_or, UInt32.toNat_shiftLeft, UInt8.toNat_toUInt32]
  have h8 : (8 : UInt32).toNat % 32 = 8 := rfl
  have h256 : (256 : UInt32).toNat = 256 := rfl
  rw [h8, h256, Nat.shiftLeft_eq]
  have h1 : x.toNat * 2 ^ 8 % 2 ^ 32 = (x.toNat % 2 ^ 24) <<< 8 := by rw [Nat.shiftLeft_eq]; omega
  have h2 := Nat.shiftLeft_add_eq_or_of_lt (a := x.toNat % 2 ^ 24) (b := z.toNat) (i := 8) (by omega)
  rw [h1, ← h2, Nat.shiftLeft_eq]
  show (x.toNat % 16777216 * 256 + z.toNat) % 4294967296 = x.toNat % 16777216 * 256 + z.toNat
  have hz' : z.toNat < 256 := hz
  clear h1 h2 h8 h256 hz hx
  generalize x.toNat = X at *
  generalize z.toNat = Z at *
  omega
/-- so many of four bytes, as one number -/
def partWord (f : Nat → UInt8) : Nat → UInt32
  | 0 => 0
  | i + 1 => partWord f i * (256 : UInt32) + (f i).toUInt32
theorem partWord_four (f : Nat → UInt8) : partWord f 4 = word4 (f 0) (f 1) (f 2) (f 3) := by
  simp only [partWord, next_byte]
  unfold word4
  apply UInt32.toBitVec_inj.1
  simp only [UInt32.toBitVec_or, UInt32.toBitVec_shiftLeft]
  apply BitVec.eq_of_getLsbD_eq
  intro i hi
  have e8 : ((8 : UInt32).toBitVec % 32#32).toNat = 8 := rfl
  have e16 : ((16 : UInt32).toBitVec % 32#32).toNat = 16 := rfl
  have e24 : ((24 : UInt32).toBitVec % 32#32).toNat = 24 := rfl
  simp only [BitVec.shiftLeft_eq', BitVec.getLsbD_or, BitVec.getLsbD_shiftLeft, e8, e16, e24, hi]
  by_cases h8 : i < 8
  · simp [h8, show i < 16 by omega, show i < 24 by omega]
  · by_cases h16 : i < 16
    · simp [h8, h16, show i < 24 by omega, show i - 8 < 8 by omega, show i - 8 < 16 by omega, show i - 8 < 32 by omega]
    · by_cases h24 : i < 24
      · simp [h8, h16, h24, show ¬ i - 8 < 8 by omega, show i - 16 < 8 by omega, show i - 8 < 32 by omega, show i - 8 - 8 = i - 16 by omega]
      · simp [h8, h16, h24, show ¬ i - 8 < 8 by omega, show ¬ i - 16 < 8 by omega, show i - 8 < 32 by omega, show i - 16 < 32 by omega, show i - 24 < 32 by omega, show i - 8 - 8 = i - 16 by omega, show i - 16 - 8 = i - 24 by omega]
/-- the ring of sixteen words before round n -/
def Ring (sch R : List UInt32) (n : Nat) : Prop := R.length = 16 ∧ (∀ m, m < n → n ≤ m + 16 → R.getD (m % 16) 0 = sch.getD m 0) ∧ (∀ j, n ≤ j → j < 16 → R.getD j 0 = 0)
theorem getD_set_same (R : List UInt32) (i : Nat) (x : UInt32) (h : i < R.length) : (R.set i x).getD i 0 = x := by
  simp [List.getD_eq_getElem?_getD, h]
theorem getD_set_other (R : List UInt32) (i j : Nat) (x : UInt32) (h : i ≠ j) : (R.set i x).getD j 0 = R.getD j 0 := by
  simp [List.getD_eq_getElem?_getD, h]
theorem Ring.start (sch : List UInt32) : Ring sch (List.replicate 16 0) 0 :=
  ⟨by simp, fun m h => by omega, fun j _ hj => by rw [List.getD_eq_getElem?_getD, List.getElem?_replicate, if_pos hj]; rfl⟩
theorem Ring.step {sch R : List UInt32} {n : Nat} (h : Ring sch R n) (x : UInt32) (hx : x = sch.getD n 0) : Ring sch (R.set (n % 16) x) (n + 1) := by
  obtain ⟨h1, h2, h3⟩ := h
  refine ⟨by simpa using h1, fun m hm hn => ?_, fun j hn hj => ?_⟩
  · by_cases e : m = n
    · subst e
      rw [getD_set_same _ _ _ (by omega), hx]
    · rw [getD_set_other _ _ _ _ (by omega)]
      exact h2 m (by omega) (by omega)
  · rw [getD_set_other _ _ _ _ (by omega)]
    exact h3 j (by omega) hj
theorem ext_getD (k : Nat) (l : List UInt32) (i : Nat) (h : i < l.length) : (ext k l).getD i 0 = l.getD i 0 := by
  induction k with
  | zero => rfl
  | succ k ih =>
    rw [ext, List.getD_eq_getElem?_getD, List.getElem?_append_left (by rw [ext_length]; omega), ← List.getD_eq_getElem?_getD, ih]
theorem ext_next (l : List UInt32) (k j : Nat) (h : j < k) : (ext k l).getD (l.length + j) 0 = nextW (ext j l) := by
  induction k with
  | zero => omega
  | succ k ih =>
    by_cases e : j = k
    · subst e
      rw [ext, List.getD_eq_getElem?_getD, List.getElem?_append_right (by rw [ext_length]; exact Nat.le_refl _), ext_length, Nat.sub_self]
      rfl
    · rw [ext, List.getD_eq_getElem?_getD, List.getElem?_append_left (by rw [ext_length]; omega), ← List.getD_eq_getElem?_getD]
      exact ih (by omega)
theorem ext_part (l : List UInt32) (k j i : Nat) (h : j ≤ k) (hi : i < l.length + j) : (ext k l).getD i 0 = (ext j l).getD i 0 := by
  induction k with
  | zero => rw [show j = 0 by omega]
  | succ k ih =>
    by_cases e : j = k + 1
    · rw [e]
    · rw [ext, List.getD_eq_getElem?_getD, List.getElem?_append_left (by rw [ext_length]; omega), ← List.getD_eq_getElem?_getD]
      exact ih (by omega)
theorem sched_low (b : List UInt8) (n : Nat) (h : n < 16) : (sched b).getD n 0 = wordAt b n := by
  unfold sched
  rw [ext_getD _ _ _ (by rw [firstW_length]; exact h)]
  unfold firstW
  simp [List.getD_eq_getElem?_getD, h]
theorem ext_high (l : List UInt32) (hl : l.length = 16) (K n : Nat) (h : 16 ≤ n) (h2 : n < 16 + K) : (ext K l).getD n 0 = (ext K l).getD (n - 16) 0 + ((ext K l).getD (n - 7) 0 + sig0 ((ext K l).getD (n - 15) 0) + sig1 ((ext K l).getD (n - 2) 0)) := by
  have hp : ∀ i, i < n → (ext K l).getD i 0 = (ext (n - 16) l).getD i 0 := fun i hi => ext_part _ _ _ _ (by omega) (by rw [hl]; omega)
  have hn : (ext K l).getD n 0 = nextW (ext (n - 16) l) := by
    have := ext_next l K (n - 16) (by omega)
    rw [hl, show 16 + (n - 16) = n by omega] at this
    exact this
  rw [hn, hp _ (by omega), hp _ (by omega), hp _ (by omega), hp _ (by omega)]
  unfold nextW
  rw [ext_length, hl, show 16 + (n - 16) = n by omega, UInt32.add_assoc, UInt32.add_assoc]
  congr 1
  rw [UInt32.add_assoc]
theorem sched_high (b : List UInt8) (n : Nat) (h : 16 ≤ n) (h2 : n < 64) : (sched b).getD n 0 = (sched b).getD (n - 16) 0 + ((sched b).getD (n - 7) 0 + sig0 ((sched b).getD (n - 15) 0) + sig1 ((sched b).getD (n - 2) 0)) :=
  ext_high _ (firstW_length b 16) 48 n h h2
end Go.Proofs.Ytepedabpnchajaa
