/-
  kist/dig.turn.
-/
import Derived.Test.YtepedabpnchajaaChecked
import Derived.Test.YtepedabpnchajaaObj
import Derived.Deep.RegionHeld
import Derived.Laws.Rows
import Derived.Deep.WholeRow

namespace Go.Proofs.Ytepedabpnchajaa
open Go.RowKit
set_option linter.unusedVariables false

/-- a word of 32 bits -/
def W (x : UInt32) : Value := .int .u32 (x.toNat : Int)
/-- turned to the right -/
def rot (x : UInt32) (n : Nat) : UInt32 := (x >>> UInt32.ofNat n) ||| (x <<< UInt32.ofNat (32 - n))
theorem u32_bits_or (a b : Nat) (ha : a < 4294967296) (hb : b < 4294967296) : bits .or .u32 (a : Int) (b : Int) = ((a ||| b : Nat) : Int) := by
  have h : bits .or .u32 (a : Int) (b : Int) = IntKind.u32.wrap ((BitVec.ofInt 32 (a : Int) ||| BitVec.ofInt 32 (b : Int)).toNat : Nat) := rfl
  have e : ∀ n : Nat, n < 4294967296 → (BitVec.ofInt 32 (n : Int)).toNat = n := fun n hn => by
    rw [BitVec.ofInt_natCast, BitVec.toNat_ofNat]
    exact Nat.mod_eq_of_lt (by omega)
  rw [h, BitVec.toNat_or, e a ha, e b hb]
  have hlt : a ||| b < 4294967296 := Nat.or_lt_two_pow (n := 32) ha hb
  simp [IntKind.wrap, IntKind.bits, IntKind.signed]
  omega
theorem rot_walk (x : UInt32) (n : Nat) (h0 : 0 < n) (h : n < 32) : bits .or .u32 ((x.toNat : Int) / 2 ^ n) (IntKind.u32.wrap ((x.toNat : Int) * 2 ^ (32 - n))) = ((rot x n).toNat : Int) := by
  have hx : x.toNat < 4294967296 := x.toNat_lt
  have e1 : (x.toNat : Int) / 2 ^ n = ((x.toNat / 2 ^ n : Nat) : Int) := by push_cast; rfl
  have e2 : IntKind.u32.wrap ((x.toNat : Int) * 2 ^ (32 - n)) = ((x.toNat * 2 ^ (32 - n) % 4294967296 : Nat) : Int) := by
    simp [IntKind.wrap, IntKind.bits, IntKind.signed]
  rw [e1, e2, u32_bits_or _ _ (Nat.lt_of_le_of_lt (Nat.div_le_self _ _) hx) (Nat.mod_lt _ (by decide))]
  have m1 : n % 4294967296 % 32 = n := by omega
  have m2 : (32 - n) % 4294967296 % 32 = 32 - n := by omega
  unfold rot
  rw [UInt32.toNat_or, UInt32.toNat_shiftRight, UInt32.toNat_shiftLeft, UInt32.toNat_ofNat', UInt32.toNat_ofNat', Nat.shiftRight_eq_div_pow, Nat.shiftLeft_eq]
  rw [m1, m2]

set_option maxHeartbeats 400000 in
theorem turn_any (x : UInt32) (n : Nat) (h0 : 0 < n) (h : n < 32) (w : World) :
    Calls Try.prog 66 #[W x, .int .i64 (n : Int)] w fun e w' => e = .returned (W (rot x n)) ∧ ∃ m, w' = w.drewN m := by
  have hr : bits .or .u32 ((x.toNat : Int) / 2 ^ n) ((x.toNat : Int) * 2 ^ (32 - n) % 4294967296) = ((rot x n).toNat : Int) := by
    rw [← rot_walk x n h0 h]
    congr 1
  have hx : x.toNat < 4294967296 := x.toNat_lt
  unfold W
  obtain ⟨X, HX⟩ := hid_of x.toNat
  rw [HX.out] at hr hx ⊢
  obtain ⟨R, HR⟩ := hid_of (rot x n).toNat
  rw [HR.out] at hr ⊢
  obtain ⟨m, hm⟩ : ∃ m : Nat, (32 : Int) - (n : Int) = (m : Int) := ⟨32 - n, by omega⟩
  have hm2 : 32 - n = m := by omega
  rw [hm2] at hr
  have hm3 : ¬ (32 : Int) ≤ (m : Int) := by omega
  go_enter Try.func66, Try.ntmps66
  go_wp2
  go_quiet (fail)
  go_wp2
  go_ret
  exact ⟨rfl, ⟨_, rfl⟩⟩
set_option maxHeartbeats 400000 in
theorem back_any (x : UInt32) (n : Nat) (h0 : 0 < n) (h : n < 32) (w : World) :
    Calls Try.prog 48 #[W x, .int .i64 (n : Int)] w fun e w' => e = .returned (W (rot x n)) ∧ ∃ m, w' = w.drewN m := by
  have hr : bits .or .u32 ((x.toNat : Int) * 2 ^ (32 - n) % 4294967296) ((x.toNat : Int) / 2 ^ n) = ((rot x n).toNat : Int) := by
    rw [← rot_walk x n h0 h]
    have hx : x.toNat < 4294967296 := x.toNat_lt
    have e1 : (x.toNat : Int) / 2 ^ n = ((x.toNat / 2 ^ n : Nat) : Int) := by push_cast; rfl
    have e2 : IntKind.u32.wrap ((x.toNat : Int) * 2 ^ (32 - n)) = ((x.toNat * 2 ^ (32 - n) % 4294967296 : Nat) : Int) := by
      simp [IntKind.wrap, IntKind.bits, IntKind.signed]
    have e3 : (x.toNat : Int) * 2 ^ (32 - n) % 4294967296 = ((x.toNat * 2 ^ (32 - n) % 4294967296 : Nat) : Int) := by rw [← e2]; simp [IntKind.wrap, IntKind.bits, IntKind.signed]
    rw [e1, e2, e3, u32_bits_or _ _ (Nat.lt_of_le_of_lt (Nat.div_le_self _ _) hx) (Nat.mod_lt _ (by decide)), u32_bits_or _ _ (Nat.mod_lt _ (by decide)) (Nat.lt_of_le_of_lt (Nat.div_le_self _ _) hx), Nat.or_comm]
  have hx : x.toNat < 4294967296 := x.toNat_lt
  unfold W
  obtain ⟨X, HX⟩ := hid_of x.toNat
  rw [HX.out] at hr hx ⊢
  obtain ⟨R, HR⟩ := hid_of (rot x n).toNat
  rw [HR.out] at hr ⊢
  obtain ⟨m, hm⟩ : ∃ m : Nat, (32 : Int) - (n : Int) = (m : Int) := ⟨32 - n, by omega⟩
  have hm2 : 32 - n = m := by omega
  rw [hm2] at hr
  have hm3 : ¬ (32 : Int) ≤ (m : Int) := by omega
  go_enter Try.func48, Try.ntmps48
  go_wp2
  go_ret
  exact ⟨rfl, ⟨0, rfl⟩⟩
end Go.Proofs.Ytepedabpnchajaa

/-
  kist/dig.begin, rest: the fixed numbers.
-/
namespace Go.Proofs.Ytepedabpnchajaa
open Go.RowKit
set_option linter.unusedVariables false

def iv : List UInt32 := [0x6a09e667, 0xbb67ae85, 0x3c6ef372, 0xa54ff53a, 0x510e527f, 0x9b05688c, 0x1f83d9ab, 0x5be0cd19]
/-- so many words as one value -/
def Ws (l : List UInt32) : Value := .agg (l.map W).toArray
theorem begin_any (w : World) : Calls Try.prog 39 #[] w fun e w' => e = .returned (Ws iv) ∧ Below w.heap.size w w' := by
  go_enter Try.func39, Try.ntmps39
  go_wp2
  refine bodyPost_ret (results_cell_row rfl _ _ w.heap.size 78 _ (0, 0) _ rfl (heap_alloc_new w _) Try.underlying78 rfl (by kernel_rfl)) rfl ?_
  exact ⟨rfl, (Below.refl _ _).alloc (Nat.le_refl _) _⟩
end Go.Proofs.Ytepedabpnchajaa

/-
  kist/dig.rest: the numbers of the rounds.
-/
namespace Go.Proofs.Ytepedabpnchajaa
open Go.RowKit
set_option linter.unusedVariables false

/-- the numbers of the rounds -/
def stones : List UInt32 := [0x428a2f98, 0x71374491, 0xb5c0fbcf, 0xe9b5dba5, 0x3956c25b, 0x59f111f1, 0x923f82a4, 0xab1c5ed5,
    0xd807aa98, 0x12835b01, 0x243185be, 0x550c7dc3, 0x72be5d74, 0x80deb1fe, 0x9bdc06a7, 0xc19bf174,
    0xe49b69c1, 0xefbe4786, 0x0fc19dc6, 0x240ca1cc, 0x2de92c6f, 0x4a7484aa, 0x5cb0a9dc, 0x76f988da,
    0x983e5152, 0xa831c66d, 0xb00327c8, 0xbf597fc7, 0xc6e00bf3, 0xd5a79147, 0x06ca6351, 0x14292967,
    0x27b70a85, 0x2e1b2138, 0x4d2c6dfc, 0x53380d13, 0x650a7354, 0x766a0abb, 0x81c2c92e, 0x92722c85,
    0xa2bfe8a1, 0xa81a664b, 0xc24b8b70, 0xc76c51a3, 0xd192e819, 0xd6990624, 0xf40e3585, 0x106aa070,
    0x19a4c116, 0x1e376c08, 0x2748774c, 0x34b0bcb5, 0x391c0cb3, 0x4ed8aa4a, 0x5b9cca4f, 0x682e6ff3,
    0x748f82ee, 0x78a5636f, 0x84c87814, 0x8cc70208, 0x90befffa, 0xa4506ceb, 0xbef9a3f7, 0xc67178f2]
theorem wpList_build_is {P : Program} {ops : Array Oper} {rest : List Oper} {o : Oper} {a : Act} {w : World} {Q : Exit → Act → World → Prop} (hg : o.guard = none) (t : TypeId) (parts : Array (Nat × Operand)) (ho : o.op = .build t parts)
    (cells : Array Value) (hf : P.built t (parts.map fun (i, x) => (i, a.eval x)).toList = some cells)
    (h : wpList P ops Q rest (a.put o.dst (.agg cells)) w) : wpList P ops Q (o :: rest) a w := by
  refine wpList_build hg t parts ho (by rw [hf]; rfl) ?_
  rw [hf]
  exact h

/-! ### A block of words -/
/-- the words l lie in block p, whole -/
def WB (w : World) (p : Nat) (l : List UInt32) (t : TypeId) : Prop := Blk w p (l.map W) t
section
variable {w w' : World} {p : Nat} {l : List UInt32} {t : TypeId}
theorem WB.lt (h : WB w p l t) : p < w.heap.size := Blk.lt h
theorem WB.row (h : WB w p l t) : w.heap[p]? = some (.cells (l.map W).toArray t (0, 0)) := h
theorem WB.cell (h : WB w p l t) (i : Nat) (hi : i < l.length) : w.cell? ⟨p, i, none⟩ = some (W l[i]) := by
  have := Blk.cell h i (by simpa using hi)
  simpa using this
theorem WB.frozen (h : WB w p l t) (i : Nat) : w.frozen? ⟨p, i, none⟩ = false := Blk.frozen h i
theorem WB.set (h : WB w p l t) (i : Nat) (x : UInt32) : WB (w.setCell ⟨p, i, none⟩ (W x)) p (l.set i x) t := by
  have := Blk.set h i (W x)
  unfold WB
  rw [List.map_set]
  exact this
theorem WB.set_far {q : Nat} (h : WB w p l t) (hq : q ≠ p) (i : Nat) (v : Value) : WB (w.setCell ⟨q, i, none⟩ v) p l t := Blk.set_far h hq i v
theorem WB.alloc (h : WB w p l t) (o : Obj) : WB (w.alloc o) p l t := Blk.alloc h o
theorem WB.drew (h : WB w p l t) : WB w.drew p l t := h
theorem WB.drewN (h : WB w p l t) (n : Nat) : WB (w.drewN n) p l t := h
theorem WB.below {B : Nat} (h : WB w p l t) (hb : Below B w w') (hp : p < B) : WB w' p l t := Blk.below h hb hp
theorem WB.setRow {l' : List UInt32} (h : WB w p l t) : WB (w.setRow p (l'.map W).toArray) p l' t := setRow_heap w p _ _ t _ h
theorem WB.setRow_far {q : Nat} (h : WB w p l t) (hq : q ≠ p) (cs : Array Value) : WB (w.setRow q cs) p l t := (setRow_other w q p cs (Ne.symm hq)).trans h
theorem W_oneCell (x : UInt32) : (W x).oneCell' = true := rfl
theorem Ws_oneCell (l : List UInt32) : (l.map W).toArray.all (·.oneCell') = true := by
  rw [Array.all_eq_true_iff_forall_mem]
  intro v hv
  simp only [List.mem_toArray, List.mem_map] at hv
  obtain ⟨x, _, rfl⟩ := hv
  rfl
end

set_option maxRecDepth 20000 in
theorem rest_any (w : World) : Calls Try.prog 65 #[] w fun e w' => e = .returned (Ws stones) ∧ Below w.heap.size w w' := by
  go_enter Try.func65, Try.ntmps65
  go_wp2_with (first | (refine wpList_build_is rfl 103 _ rfl (stones.map W).toArray (by kernel_rfl) ?_) | (refine wpList_store_row rfl 103 _ _ rfl w.heap.size _ rfl rfl 103 _ (heap_alloc_new w _) (by kernel_rfl) (by kernel_rfl) (by kernel_rfl) ?_))
  refine bodyPost_ret (results_cell_row rfl _ _ w.heap.size 103 _ (0, 0) _ rfl (setRow_heap _ _ _ _ _ _ (heap_alloc_new w _)) Try.underlying103 rfl (by kernel_rfl)) rfl ?_
  refine ⟨rfl, ?_⟩
  rw [World.setRow_alloc_new]
  exact (Below.refl _ _).alloc (Nat.le_refl _) _
end Go.Proofs.Ytepedabpnchajaa
