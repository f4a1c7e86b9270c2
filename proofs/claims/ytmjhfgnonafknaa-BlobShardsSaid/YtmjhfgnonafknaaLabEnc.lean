/-
  kist/label.body, Encode.
-/
import Derived.Test.YtmjhfgnonafknaaLabBody

namespace Go.Proofs.Ytmjhfgnonafknaa
open Go.RowKit
set_option linter.unusedVariables false
set_option linter.unusedSimpArgs false

/-- a record's cells -/
def recC (r : Rc) (d : Value) : Array Value := #[.int .i64 r.kind, .int .i64 r.cart, .string (S r.key), .int .i64 r.gen, .int .i64 r.group, .int .i64 r.groups, .int .i64 r.index, .int .i64 r.size, .string (S r.sum), d]
/-- numbers one behind the other -/
def encsI (l : List Int) : List UInt8 := (l.map fun n => Word.enc n.toNat).flatten
theorem encsI_snoc (l : List Int) (n : Int) : encsI (l ++ [n]) = encsI l ++ Word.enc n.toNat := by simp [encsI]
def ints4 (r : Rc) : List Int := [r.group, r.groups, r.index, r.size]
theorem enc_le9 {n : Nat} (h : n < 9223372036854775808) : (Word.enc n).length ≤ 9 := Word.enc_le 8 _ (by omega)
theorem encsI_le (l : List Int) (h : ∀ n ∈ l, n.toNat < 9223372036854775808) : (encsI l).length ≤ 9 * l.length := by
  induction l with
  | nil => simp [encsI]
  | cons a l ih =>
    have h1 := ih (fun n hn => h n (by simp [hn]))
    have h2 := enc_le9 (h a (by simp))
    have e : encsI (a :: l) = Word.enc a.toNat ++ encsI l := by simp [encsI]
    rw [e, List.length_append, List.length_cons]
    omega
theorem body_1 {r : Rc} (h : r.kind = 1) : [107, 1] ++ Word.enc r.cart.toNat = Lab.body r := by
  unfold Lab.body Lab.rest
  rw [if_pos h, h]
  rfl
theorem body_3 {r : Rc} (h : r.kind = 3) : [107, 3] ++ Word.enc r.key.length ++ r.key ++ Word.enc r.gen.toNat = Lab.body r := by
  unfold Lab.body Lab.rest
  rw [if_neg (by omega), if_pos h, h]
  simp
theorem body_2 {r : Rc} (h : r.kind = 2) : [107, 2] ++ Word.enc r.key.length ++ r.key ++ Word.enc r.gen.toNat ++ encsI (ints4 r) ++ r.sum ++ r.data = Lab.body r := by
  unfold Lab.body Lab.rest
  rw [if_neg (by omega), if_neg (by omega), h]
  simp [encsI, ints4]
set_option maxRecDepth 100000 in
set_option maxHeartbeats 2000000 in
theorem body_any (r : Rc) (d : Value) (w : World) (hg : Lab.Good r) (hd : RB w d r.data) :
    Calls Try.prog 35 #[recV r d] w fun e w' => ∃ v, e = .returned v ∧ w'.ownsRow w.heap.size 5 1 v (Lab.body r).length (Bs (Lab.body r)) ∧ Below w.heap.size w w' := by
  have HD := Lib.hid hd
  clear hd
  have HP0 : Hid (Blk (w.alloc (.cells (recC r d) 41)) w.heap.size (recC r d).toList 41) := Blk.new w _ _ rfl
  rcases hg with ⟨hk, hc, -⟩ | ⟨hk, -, hky, hgn, -⟩ | ⟨hk, -, hky, hgn, hsh⟩
  · have HB1 := Lib.hid (body_1 hk)
    have HCw : Hid ((Lit.int .i64 r.cart).wf = true) := wf64 (by omega) (by omega)
    unfold recV
    rw [hk]
    clear hk hc
    go_enter Try.func35, Try.ntmps35
    go_wp2_with fail
    refine (Put_any _ [107, 1] r.cart _ (RB.lit _ _ [107, 1] (by simp [Bs, B]) (by simp [maxLen]) rfl (by simp)) HCw.out (by simp)).mono ?_
    rintro e w1 ⟨v1, rfl, ho1, hb1⟩
    rw [HB1.out] at ho1
    go_wp2
    go_ret
    refine ⟨v1, rfl, own_base ho1 (fun k hk => by have := (ho1.lt k hk).1; simp at this; omega), (((Below.refl _ _).alloc (Nat.le_refl _) _).alloc (by simp) _).trans (hb1.mono (by simp; omega))⟩
  · have HK := Lib.hid (body_3 hk)
    simp only [Lab.KeyOk, Lab.GenOk] at hky hgn
    have HGw : Hid ((Lit.int .i64 r.gen).wf = true) := wf64 (by omega) (by omega)
    have hek := enc_le9 (n := r.key.length) (by omega)
    have HT2 : Hid (([107, 3] : List UInt8).length + 20 + r.key.length ≤ 140737488355328) := Lib.hid (by simp only [List.length_cons, List.length_nil]; omega)
    have HT3 : Hid (([107, 3] ++ Word.enc r.key.length ++ r.key : List UInt8).length + 20 ≤ 140737488355328) := Lib.hid (by simp only [List.length_append, List.length_cons, List.length_nil]; omega)
    unfold recV
    rw [hk]
    unfold recC at HP0
    rw [hk] at HP0
    clear hk hky hgn hek
    go_enter Try.func35, Try.ntmps35
    have hS0 : ((w.alloc (.cells #[.int .i64 3, .int .i64 r.cart, .string (S r.key), .int .i64 r.gen, .int .i64 r.group, .int .i64 r.groups, .int .i64 r.index, .int .i64 r.size, .string (S r.sum), d] 41)).alloc (.cells #[.int .u8 107, .int .u8 3] 5)).drew.cell? ⟨w.heap.size, 2, none⟩ = some (.string (S r.key)) ∧ ((w.alloc (.cells #[.int .i64 3, .int .i64 r.cart, .string (S r.key), .int .i64 r.gen, .int .i64 r.group, .int .i64 r.groups, .int .i64 r.index, .int .i64 r.size, .string (S r.sum), d] 41)).alloc (.cells #[.int .u8 107, .int .u8 3] 5)).drew.cell? ⟨w.heap.size, 3, none⟩ = some (.int .i64 r.gen) := ⟨(HP0.out.alloc _).drew.cell 2 (by simp), (HP0.out.alloc _).drew.cell 3 (by simp)⟩
    have HL0 : Hid (RB ((w.alloc (.cells #[.int .i64 3, .int .i64 r.cart, .string (S r.key), .int .i64 r.gen, .int .i64 r.group, .int .i64 r.groups, .int .i64 r.index, .int .i64 r.size, .string (S r.sum), d] 41)).alloc (.cells #[.int .u8 107, .int .u8 3] 5)).drew (.slice (some ⟨w.heap.size + 1, 0, none⟩) 2 2) [107, 3]) := RB.drew (RB.lit (w.alloc (.cells #[.int .i64 3, .int .i64 r.cart, .string (S r.key), .int .i64 r.gen, .int .i64 r.group, .int .i64 r.groups, .int .i64 r.index, .int .i64 r.size, .string (S r.sum), d] 41)) _ [107, 3] (by simp [Bs, B]) (by simp [maxLen]) rfl (by simp))
    have HP1 : Hid (Blk ((w.alloc (.cells #[.int .i64 3, .int .i64 r.cart, .string (S r.key), .int .i64 r.gen, .int .i64 r.group, .int .i64 r.groups, .int .i64 r.index, .int .i64 r.size, .string (S r.sum), d] 41)).alloc (.cells #[.int .u8 107, .int .u8 3] 5)).drew w.heap.size [.int .i64 3, .int .i64 r.cart, .string (S r.key), .int .i64 r.gen, .int .i64 r.group, .int .i64 r.groups, .int .i64 r.index, .int .i64 r.size, .string (S r.sum), d] 41) := (HP0.out.alloc _).drew
    have HB1 : Hid (Below w.heap.size w ((w.alloc (.cells #[.int .i64 3, .int .i64 r.cart, .string (S r.key), .int .i64 r.gen, .int .i64 r.group, .int .i64 r.groups, .int .i64 r.index, .int .i64 r.size, .string (S r.sum), d] 41)).alloc (.cells #[.int .u8 107, .int .u8 3] 5)).drew) := (((Below.refl _ _).alloc (Nat.le_refl _) _).alloc (by simp) _).drew
    clear HP0
    go_wp2_with fail
    go_region_held (fun wx => wx.cell? ⟨w.heap.size, 2, none⟩ = some (.string (S r.key)) ∧ wx.cell? ⟨w.heap.size, 3, none⟩ = some (.int .i64 r.gen))
      (first | exact hS0 | exact hS1 | exact hS2)
      (first
      | (go_at_call 57
         refine (WText_any _ _ r.key _ HL0.out HT2.out).mono ?_
         rintro e w1 ⟨v1, rfl, ho1, hb1⟩
         have HO1 := Lib.hid (RB.own ho1)
         have hz1 := HB1.out.size
         have hp1 := HP1.out.below hb1 (by simp; omega)
         have HP2 := Lib.hid hp1
         have hS1 : w1.cell? ⟨w.heap.size, 2, none⟩ = some (.string (S r.key)) ∧ w1.cell? ⟨w.heap.size, 3, none⟩ = some (.int .i64 r.gen) := ⟨hp1.cell 2 (by simp), hp1.cell 3 (by simp)⟩
         have HB2 := Lib.hid (HB1.out.trans (hb1.mono HB1.out.size))
         clear ho1 hb1 hp1 hz1)
      | (go_at_call 56
         refine (Put_any _ _ r.gen _ HO1.out HGw.out HT3.out).mono ?_
         rintro e w2 ⟨v2, rfl, ho2, hb2⟩
         have hz2 := HB2.out.size
         have HO2 := Lib.hid (own_base (base' := w.heap.size) ho2 (fun k hk => by have := (ho2.lt k hk).1; omega))
         have hp2 := HP2.out.below hb2 (by have := HP2.out.lt; omega)
         have HP3 := Lib.hid hp2
         have hS2 : w2.cell? ⟨w.heap.size, 2, none⟩ = some (.string (S r.key)) ∧ w2.cell? ⟨w.heap.size, 3, none⟩ = some (.int .i64 r.gen) := ⟨hp2.cell 2 (by simp), hp2.cell 3 (by simp)⟩
         have HB3 := Lib.hid (HB2.out.trans (hb2.mono HB2.out.size))
         clear ho2 hb2 hp2 hz2))
    clear hS0 hS1 hS2
    have hc0 := HP3.out.cell 0 (by simp)
    go_wp2
    go_ret
    refine ⟨v2, rfl, ?_, HB3.out⟩
    rw [← HK.out]
    exact HO2.out
  · have HK := Lib.hid (body_2 hk)
    simp only [Lab.KeyOk, Lab.GenOk, Lab.ShardOk] at hky hgn hsh
    have hg4 := Lab.groupsI_le hsh.1.1 hsh.1.2
    have HWf : Hid (∀ n ∈ ints4 r, (Lit.int .i64 n).wf = true ∧ n.toNat < 9223372036854775808) := fun n hn => by
      simp only [ints4, List.mem_cons, List.not_mem_nil, or_false] at hn
      rcases hn with rfl | rfl | rfl | rfl <;> exact ⟨wf64 (by omega) (by omega), by omega⟩
    have HSum : Hid (r.sum.length = 32) := hsh.2.2.2.2.1
    have HDat : Hid (r.data.length = 16) := hsh.2.2.2.2.2
    have hen := enc_le9 (n := r.gen.toNat) (by omega)
    have HDl : Hid (([107, 2] ++ Word.enc r.key.length ++ r.key ++ Word.enc r.gen.toNat : List UInt8).length ≤ 60) := Lib.hid (by have := enc_le9 (n := r.key.length) (by omega); simp only [List.length_append, List.length_cons, List.length_nil]; omega)
    have HGw : Hid ((Lit.int .i64 r.gen).wf = true) := wf64 (by omega) (by omega)
    have hek := enc_le9 (n := r.key.length) (by omega)
    have HT2 : Hid (([107, 2] : List UInt8).length + 20 + r.key.length ≤ 140737488355328) := Lib.hid (by simp only [List.length_cons, List.length_nil]; omega)
    have HT3 : Hid (([107, 2] ++ Word.enc r.key.length ++ r.key : List UInt8).length + 20 ≤ 140737488355328) := Lib.hid (by simp only [List.length_append, List.length_cons, List.length_nil]; omega)
    unfold recV
    rw [hk]
    unfold recC at HP0
    rw [hk] at HP0
    clear hk hky hgn hek hsh hg4 hen
    go_enter Try.func35, Try.ntmps35
    have hS0 : ((w.alloc (.cells #[.int .i64 2, .int .i64 r.cart, .string (S r.key), .int .i64 r.gen, .int .i64 r.group, .int .i64 r.groups, .int .i64 r.index, .int .i64 r.size, .string (S r.sum), d] 41)).alloc (.cells #[.int .u8 107, .int .u8 2] 5)).drew.cell? ⟨w.heap.size, 2, none⟩ = some (.string (S r.key)) ∧ ((w.alloc (.cells #[.int .i64 2, .int .i64 r.cart, .string (S r.key), .int .i64 r.gen, .int .i64 r.group, .int .i64 r.groups, .int .i64 r.index, .int .i64 r.size, .string (S r.sum), d] 41)).alloc (.cells #[.int .u8 107, .int .u8 2] 5)).drew.cell? ⟨w.heap.size, 3, none⟩ = some (.int .i64 r.gen) := ⟨(HP0.out.alloc _).drew.cell 2 (by simp), (HP0.out.alloc _).drew.cell 3 (by simp)⟩
    have HL0 : Hid (RB ((w.alloc (.cells #[.int .i64 2, .int .i64 r.cart, .string (S r.key), .int .i64 r.gen, .int .i64 r.group, .int .i64 r.groups, .int .i64 r.index, .int .i64 r.size, .string (S r.sum), d] 41)).alloc (.cells #[.int .u8 107, .int .u8 2] 5)).drew (.slice (some ⟨w.heap.size + 1, 0, none⟩) 2 2) [107, 2]) := RB.drew (RB.lit (w.alloc (.cells #[.int .i64 2, .int .i64 r.cart, .string (S r.key), .int .i64 r.gen, .int .i64 r.group, .int .i64 r.groups, .int .i64 r.index, .int .i64 r.size, .string (S r.sum), d] 41)) _ [107, 2] (by simp [Bs, B]) (by simp [maxLen]) rfl (by simp))
    have HP1 : Hid (Blk ((w.alloc (.cells #[.int .i64 2, .int .i64 r.cart, .string (S r.key), .int .i64 r.gen, .int .i64 r.group, .int .i64 r.groups, .int .i64 r.index, .int .i64 r.size, .string (S r.sum), d] 41)).alloc (.cells #[.int .u8 107, .int .u8 2] 5)).drew w.heap.size [.int .i64 2, .int .i64 r.cart, .string (S r.key), .int .i64 r.gen, .int .i64 r.group, .int .i64 r.groups, .int .i64 r.index, .int .i64 r.size, .string (S r.sum), d] 41) := (HP0.out.alloc _).drew
    have HB1 : Hid (Below w.heap.size w ((w.alloc (.cells #[.int .i64 2, .int .i64 r.cart, .string (S r.key), .int .i64 r.gen, .int .i64 r.group, .int .i64 r.groups, .int .i64 r.index, .int .i64 r.size, .string (S r.sum), d] 41)).alloc (.cells #[.int .u8 107, .int .u8 2] 5)).drew) := (((Below.refl _ _).alloc (Nat.le_refl _) _).alloc (by simp) _).drew
    clear HP0
    go_wp2_with fail
    go_region_held (fun wx => wx.cell? ⟨w.heap.size, 2, none⟩ = some (.string (S r.key)) ∧ wx.cell? ⟨w.heap.size, 3, none⟩ = some (.int .i64 r.gen))
      (first | exact hS0 | exact hS1 | exact hS2)
      (first
      | (go_at_call 57
         refine (WText_any _ _ r.key _ HL0.out HT2.out).mono ?_
         rintro e w1 ⟨v1, rfl, ho1, hb1⟩
         have HO1 := Lib.hid (RB.own ho1)
         have hz1 := HB1.out.size
         have hp1 := HP1.out.below hb1 (by simp; omega)
         have HP2 := Lib.hid hp1
         have hS1 : w1.cell? ⟨w.heap.size, 2, none⟩ = some (.string (S r.key)) ∧ w1.cell? ⟨w.heap.size, 3, none⟩ = some (.int .i64 r.gen) := ⟨hp1.cell 2 (by simp), hp1.cell 3 (by simp)⟩
         have HB2 := Lib.hid (HB1.out.trans (hb1.mono HB1.out.size))
         clear ho1 hb1 hp1 hz1)
      | (go_at_call 56
         refine (Put_any _ _ r.gen _ HO1.out HGw.out HT3.out).mono ?_
         rintro e w2 ⟨v2, rfl, ho2, hb2⟩
         have hz2 := HB2.out.size
         have HO2 := Lib.hid (own_base (base' := w.heap.size + 1) ho2 (fun k hk => by have := (ho2.lt k hk).1; have := HP2.out.lt; omega))
         have hp2 := HP2.out.below hb2 (by have := HP2.out.lt; omega)
         have HP3 := Lib.hid hp2
         have hS2 : w2.cell? ⟨w.heap.size, 2, none⟩ = some (.string (S r.key)) ∧ w2.cell? ⟨w.heap.size, 3, none⟩ = some (.int .i64 r.gen) := ⟨hp2.cell 2 (by simp), hp2.cell 3 (by simp)⟩
         have HB3 := Lib.hid (HB2.out.trans (hb2.mono HB2.out.size))
         clear ho2 hb2 hp2 hz2))
    clear hS0 hS1 hS2
    have hc0 := HP3.out.cell 0 (by simp)
    obtain ⟨D, HD0⟩ := hid_of ([107, 2] ++ Word.enc r.key.length ++ r.key ++ Word.enc r.gen.toNat)
    rw [HD0.out] at HK HO2 HDl
    have hc4 := HP3.out.cell 4 (by simp)
    have hc5 := HP3.out.cell 5 (by simp)
    have hc6 := HP3.out.cell 6 (by simp)
    have hc7 := HP3.out.cell 7 (by simp)
    have hz3 := HB3.out.size
    have HP4 : Hid (Blk (w2.alloc (.cells #[.int .i64 r.group, .int .i64 r.groups, .int .i64 r.index, .int .i64 r.size] 3)) w.heap.size [.int .i64 2, .int .i64 r.cart, .string (S r.key), .int .i64 r.gen, .int .i64 r.group, .int .i64 r.groups, .int .i64 r.index, .int .i64 r.size, .string (S r.sum), d] 41) := HP3.out.alloc _
    have HI4 : Hid (Blk (w2.alloc (.cells #[.int .i64 r.group, .int .i64 r.groups, .int .i64 r.index, .int .i64 r.size] 3)) w2.heap.size ((ints4 r).map fun n => Value.int .i64 n) 3) := Blk.new w2 _ _ rfl
    have HO4 : Hid ((w2.alloc (.cells #[.int .i64 r.group, .int .i64 r.groups, .int .i64 r.index, .int .i64 r.size] 3)).ownsRow (w.heap.size + 1) 5 1 v2 (D ++ encsI ((ints4 r).take 0)).length (Bs (D ++ encsI ((ints4 r).take 0)))) := by
      have h := own_fr HO2.out ((Fr.refl (fun _ => False) w2).alloc (.cells #[.int .i64 r.group, .int .i64 r.groups, .int .i64 r.index, .int .i64 r.size] 3)) (fun _ _ h => h)
      exact Lib.hid (by simpa [encsI] using h)
    have HB4 : Hid (Below w.heap.size w (w2.alloc (.cells #[.int .i64 r.group, .int .i64 r.groups, .int .i64 r.index, .int .i64 r.size] 3))) := HB3.out.alloc HB3.out.size _
    clear hz3
    go_wp2
    clear hc0 hc4 hc5 hc6 hc7
    go_loopw [3, 38] (fun v x wr => ∃ i : Nat, i ≤ 4 ∧ x = .int .i64 (i : Int) ∧ wr.ownsRow (w.heap.size + 1) 5 1 v (D ++ encsI ((ints4 r).take i)).length (Bs (D ++ encsI ((ints4 r).take i))) ∧ Blk wr w.heap.size [.int .i64 2, .int .i64 r.cart, .string (S r.key), .int .i64 r.gen, .int .i64 r.group, .int .i64 r.groups, .int .i64 r.index, .int .i64 r.size, .string (S r.sum), d] 41 ∧ Blk wr w2.heap.size ((ints4 r).map fun n => Value.int .i64 n) 3 ∧ Below w.heap.size w wr) (fun _ x _ => 4 - (intOf x).toNat)
    case atStart => exact ⟨0, by omega, rfl, HO4.out, HP4.out, HI4.out, HB4.out⟩
    case round =>
      clear HO4 HP4 HI4 HB4 HO2 HP3 HP2 HO1 HL0 HP1
      obtain ⟨i, hi, rfl, hown, hp, hI, hbe⟩ := hrel
      have hel : (encsI ((ints4 r).take i)).length ≤ 36 := by
        have := encsI_le ((ints4 r).take i) (fun n hn => (HWf.out n (List.mem_of_mem_take hn)).2)
        rw [List.length_take] at this
        omega
      have hDl := HDl.out
      by_cases hlt : i < 4
      · have hi4 : (i : Int) < 4 := by omega
        have hil : i < (ints4 r).length := hlt
        have hci := hI.cell i (by rw [List.length_map]; exact hil)
        rw [List.getElem_map] at hci
        have hsn : encsI ((ints4 r).take (i + 1)) = encsI ((ints4 r).take i) ++ Word.enc ((ints4 r)[i]).toNat := by rw [List.take_succ_eq_append_getElem hil, encsI_snoc]
        have HWi := Lib.hid (HWf.out _ (List.getElem_mem hil)).1
        obtain ⟨z, Hz⟩ := hid_of ((ints4 r)[i])
        rw [Hz.out] at hci hsn HWi
        have HE : Hid (D ++ encsI ((ints4 r).take i) ++ Word.enc z.toNat = D ++ encsI ((ints4 r).take (i + 1))) := by unfold Hid; rw [hsn, List.append_assoc]
        obtain ⟨L, HLs⟩ := hid_of (D ++ encsI ((ints4 r).take i))
        have HLl : Hid (L.length + 20 ≤ 140737488355328) := by unfold Hid; rw [← HLs.out, List.length_append]; omega
        rw [HLs.out] at hown HE
        have HO := Lib.hid hown
        have HP := Lib.hid hp
        have HI := Lib.hid hI
        have HBe := Lib.hid hbe
        clear hown hp hI hbe hsn hel hDl
        go_wp2_with fail
        refine (Put_any _ L z _ (RB.own HO.out) HWi.out HLl.out).mono ?_
        rintro e w5 ⟨v5, rfl, ho5, hb5⟩
        rw [HE.out] at ho5
        have HO5 := Lib.hid (own_base (base' := w.heap.size + 1) ho5 (fun k hk => by have := (ho5.lt k hk).1; have := HP.out.lt; omega))
        have HP5 := Lib.hid (HP.out.below hb5 HP.out.lt)
        have HI5 := Lib.hid (HI.out.below hb5 HI.out.lt)
        have HB5 := Lib.hid (HBe.out.trans (hb5.mono HBe.out.size))
        clear ho5 hb5
        go_wp2
        go_roundw
        case rel => exact ⟨i + 1, by omega, by go_num, HO5.out, HP5.out, HI5.out, HB5.out⟩
        case measure => simp [intOf]; omega
      · obtain rfl : i = 4 := by omega
        rw [show ((ints4 r).take 4) = ints4 r from rfl] at hown hel
        have HL : Hid (D ++ encsI (ints4 r) ++ r.sum ++ r.data = Lab.body r) := HK.out
        have HL1 : Hid ((D ++ encsI (ints4 r)).length + r.sum.length ≤ 140737488355328) := by unfold Hid; rw [List.length_append, HSum.out]; omega
        have HL2 : Hid ((D ++ encsI (ints4 r) ++ r.sum).length + r.data.length ≤ 140737488355328) := by unfold Hid; rw [List.length_append, List.length_append, HSum.out, HDat.out]; omega
        have hS0 : wr.drew.cell? ⟨w.heap.size, 8, none⟩ = some (.string (S r.sum)) ∧ wr.drew.cell? ⟨w.heap.size, 9, none⟩ = some d := ⟨hp.drew.cell 8 (by simp), hp.drew.cell 9 (by simp)⟩
        have HO := Lib.hid hown
        have HP := Lib.hid hp.drew
        have HBe := Lib.hid hbe.drew
        have HDd := Lib.hid (HD.out.below hbe.drew rfl)
        rw [show ((4 : Nat) : Int) = 4 from rfl]
        clear hown hp hI hbe hel hDl
        go_wp2_with fail
        go_region_held3 (fun wx => wx.cell? ⟨w.heap.size, 8, none⟩ = some (.string (S r.sum)) ∧ wx.cell? ⟨w.heap.size, 9, none⟩ = some d)
          (first | exact hS0 | exact hS1 | exact hS2)
          (first
          | (refine step_append_string _ (by rfl) _ _ 22 9 (by rfl) (w.heap.size + 1) 5 Try.underlying22 Try.underlying9 infoU8 _ _ _ (by rfl) (own_fr HO.out (Fr.refl (fun _ => False) wr).drew (fun _ _ h => h)) r.sum (by rfl) HL1.out HP.out.lt ?_
             intro v6 w6 ho6 hb6
             have HO6 := Lib.hid ho6
             have hp6 := HP.out.below hb6 (Nat.lt_succ_self _)
             have HP6 := Lib.hid hp6
             have hS1 : w6.cell? ⟨w.heap.size, 8, none⟩ = some (.string (S r.sum)) ∧ w6.cell? ⟨w.heap.size, 9, none⟩ = some d := ⟨hp6.cell 8 (by simp), hp6.cell 9 (by simp)⟩
             have HB6 := Lib.hid (HBe.out.trans (hb6.mono (Nat.le_succ _)))
             have HD6 := Lib.hid (HD.out.below HB6.out rfl)
             clear ho6 hb6 hp6)
          | (refine step_append_bytes _ (by rfl) _ _ 22 22 (by rfl) (w.heap.size + 1) 5 5 Try.underlying22 Try.underlying22 infoU8 _ _ _ (by rfl) HO6.out _ r.data (by rfl) HD6.out HL2.out HP6.out.lt ?_
             intro v7 w7 ho7 hb7 hg7
             have HO7 := Lib.hid ho7
             have hp7 := HP6.out.below hb7 (Nat.lt_succ_self _)
             have hS2 : w7.cell? ⟨w.heap.size, 8, none⟩ = some (.string (S r.sum)) ∧ w7.cell? ⟨w.heap.size, 9, none⟩ = some d := ⟨hp7.cell 8 (by simp), hp7.cell 9 (by simp)⟩
             have HB7 := Lib.hid (HB6.out.trans (hb7.mono (Nat.le_succ _)))
             clear ho7 hb7 hg7 hp7))
        go_wp2
        go_ret
        refine ⟨v7, rfl, ?_, HB7.out⟩
        rw [← HL.out]
        exact own_base HO7.out (fun k hk => by have := (HO7.out.lt k hk).1; omega)
/-- its cells one by one -/
theorem rec_cells {w : World} {p : Nat} {r : Rc} {d : Value} {t : TypeId} (h : Blk w p (recC r d).toList t) :
    w.cell? ⟨p, 0, none⟩ = some (.int .i64 r.kind) ∧ w.cell? ⟨p, 1, none⟩ = some (.int .i64 r.cart) ∧ w.cell? ⟨p, 2, none⟩ = some (.string (S r.key)) ∧ w.cell? ⟨p, 3, none⟩ = some (.int .i64 r.gen) ∧ w.cell? ⟨p, 4, none⟩ = some (.int .i64 r.group) ∧
    w.cell? ⟨p, 5, none⟩ = some (.int .i64 r.groups) ∧ w.cell? ⟨p, 6, none⟩ = some (.int .i64 r.index) ∧ w.cell? ⟨p, 7, none⟩ = some (.int .i64 r.size) ∧ w.cell? ⟨p, 8, none⟩ = some (.string (S r.sum)) ∧ w.cell? ⟨p, 9, none⟩ = some d :=
  ⟨h.cell 0 (by simp [recC]), h.cell 1 (by simp [recC]), h.cell 2 (by simp [recC]), h.cell 3 (by simp [recC]), h.cell 4 (by simp [recC]), h.cell 5 (by simp [recC]), h.cell 6 (by simp [recC]), h.cell 7 (by simp [recC]), h.cell 8 (by simp [recC]), h.cell 9 (by simp [recC])⟩
/-- a record in memory: its texts are no longer than a text can be -/
def Rec (w : World) (d : Value) (r : Rc) : Prop := RB w d r.data ∧ r.key.length ≤ maxLen ∧ r.sum.length ≤ maxLen
theorem Rec.below {w w' : World} {d : Value} {r : Rc} {B : Nat} (h : Rec w d r) (hb : Below B w w') (hB : B = w.heap.size) : Rec w' d r := ⟨h.1.below hb hB, h.2⟩
theorem Good_rec (r : Rc) (d : Value) (b : Bool) (w : World) (h : Rec w d r) (hb : Lab.goodB r = b) :
    Calls Try.prog 22 #[recV r d] w fun e w' => e = .returned (.bool b) ∧ Below w.heap.size w w' := by
  obtain ⟨a, c, rfl, _, _⟩ := h.1.shape
  exact Good_any r a _ c b w rfl hb h.2.1 h.2.2
theorem lencode_no (r : Rc) (d : Value) (w : World) (h : Rec w d r) (hg : ¬ Lab.Good r) :
    Calls Try.prog 20 #[recV r d] w fun e w' => e = .returned (.tuple #[.slice none 0 0, .int .i64 12]) ∧ Below w.heap.size w w' := by
  have HG : Hid (∀ wx, Rec wx d r → Calls Try.prog 22 #[recV r d] wx fun e w' => e = .returned (.bool false) ∧ Below wx.heap.size wx w') := fun wx hx => Good_rec r d false wx hx (Lab.goodB_no hg)
  have H := Lib.hid h
  clear h hg
  unfold recV at HG ⊢
  go_enter Try.func20, Try.ntmps20
  go_wp2_with fail
  refine (HG.out _ (H.out.below ((Below.refl _ _).alloc (Nat.le_refl _) _) rfl)).mono ?_
  rintro e w1 ⟨rfl, hb1⟩
  have HB1 := Lib.hid (((Below.refl _ _).alloc (Nat.le_refl _) _).trans (hb1.mono (by simp)))
  clear hb1
  go_wp2
  go_ret2
  exact ⟨rfl, HB1.out⟩
theorem lencode_yes (r : Rc) (d : Value) (w : World) (h : Rec w d r) (hg : Lab.Good r) :
    Calls Try.prog 20 #[recV r d] w fun e w' => ∃ v, e = .returned (.tuple #[v, .int .i64 0]) ∧ w'.ownsRow w.heap.size 5 1 v (Lab.code r).length (Bs (Lab.code r)) ∧ Below w.heap.size w w' := by
  have HG : Hid (∀ wx, Rec wx d r → Calls Try.prog 22 #[recV r d] wx fun e w' => e = .returned (.bool true) ∧ Below wx.heap.size wx w') := fun wx hx => Good_rec r d true wx hx (Lab.goodB_yes hg)
  have HBd : Hid (∀ wx, Rec wx d r → Calls Try.prog 35 #[recV r d] wx fun e w' => ∃ v, e = .returned v ∧ w'.ownsRow wx.heap.size 5 1 v (Lab.body r).length (Bs (Lab.body r)) ∧ Below wx.heap.size wx w') := fun wx hx => body_any r d wx hg hx.1
  have HLn := Lib.hid (Lab.code_len hg)
  have HLb : Hid ((Lab.body r).length + 4 = (Lab.code r).length) := by unfold Hid Lab.code; rw [List.length_append, Lab.ends_length]
  have H := Lib.hid h
  have HW : Hid (Blk (w.alloc (.cells (recC r d) 41)) w.heap.size (recC r d).toList 41) := Blk.new w _ _ rfl
  clear h hg
  unfold recV at HG HBd ⊢
  go_enter Try.func20, Try.ntmps20
  go_wp2_with fail
  refine (HG.out _ (H.out.below ((Below.refl _ _).alloc (Nat.le_refl _) _) rfl)).mono ?_
  rintro e w1 ⟨rfl, hb1⟩
  have hw1 := HW.out.below hb1 HW.out.lt
  obtain ⟨c0, c1, c2, c3, c4, c5, c6, c7, c8, c9⟩ := rec_cells hw1
  have HB1 := Lib.hid (((Below.refl _ _).alloc (Nat.le_refl _) _).trans (hb1.mono (by simp)))
  have HR1 := Lib.hid (H.out.below HB1.out rfl)
  clear hb1 hw1
  go_wp2_with fail
  refine (HBd.out _ HR1.out).mono ?_
  rintro e w2 ⟨v2, rfl, ho2, hb2⟩
  have HO2 := Lib.hid (own_base (base' := w.heap.size) ho2 (fun k hk => by have := (ho2.lt k hk).1; have := HB1.out.size; omega))
  have HB2 := Lib.hid (HB1.out.trans (hb2.mono HB1.out.size))
  clear ho2 hb2 c0 c1 c2 c3 c4 c5 c6 c7 c8 c9
  go_wp2_with fail
  refine (sealed_any v2 (Lab.body r) w2 w.heap.size HB2.out.size HO2.out (by have := HLn.out; have := HLb.out; omega)).mono ?_
  rintro e w3 ⟨v3, rfl, ho3, hb3⟩
  rw [show Lab.body r ++ Sum.ends (Sum.crc (Lab.body r)) = Lab.code r from rfl] at ho3
  have HO3 := Lib.hid ho3
  have HB3 := Lib.hid (HB2.out.trans hb3)
  clear ho3 hb3
  go_wp2_with fail
  refine (bclone_any v3 (Lab.code r) w3 (RB.own HO3.out) (by have := HLn.out; omega)).mono ?_
  rintro e w4 ⟨v4, rfl, ho4, hb4⟩
  have HO4 := Lib.hid (own_base (base' := w.heap.size) ho4 (fun k hk => by have := (ho4.lt k hk).1; have := HB3.out.size; omega))
  have HB4 := Lib.hid (HB3.out.trans (hb4.mono HB3.out.size))
  clear ho4 hb4
  go_wp2
  go_ret2
  exact ⟨v4, rfl, HO4.out, HB4.out⟩
end Go.Proofs.Ytmjhfgnonafknaa
