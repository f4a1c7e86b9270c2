/-
  kist/mat.one: a table that changes nothing.
-/
import Derived.Test.YtmjhfgnonafknaaMatTimes

namespace Go.Proofs.Ytmjhfgnonafknaa
open Go.RowKit
set_option linter.unusedVariables false

set_option maxRecDepth 100000 in
set_option maxHeartbeats 4000000 in
theorem one_any (n : Nat) (hn : n ≤ 32) (w : World) :
    Calls Try.prog 62 #[.int .i64 (n : Int)] w fun e w' => ∃ g q, e = .returned (.slice (some ⟨g, 0, none⟩) n n) ∧ w.heap.size ≤ g ∧ (∀ i, i < n → w.heap.size ≤ (q i).1) ∧ MT 22 5 w' g n n n q idm ∧ Below w.heap.size w w' := by
  have hmk := make_rows n (by omega) w
  go_enter Try.func62, Try.ntmps62
  go_wp2
  have HM0 : Hid (MT 22 5 (w.alloc (.cells (madeCells #[.slice none 0 0] n) 22)) w.heap.size n n 0 (fun _ => (0, 0)) (fun _ _ => 0)) := made_table w _ _ n n _ _ rfl
  have HBe0 : Hid (Below w.heap.size w (w.alloc (.cells (madeCells #[.slice none 0 0] n) 22))) := (Below.refl _ _).alloc (Nat.le_refl _) _
  clear hmk
  go_loopw [9] (fun x wr => ∃ (i : Nat) (q : Nat → Nat × Nat) (f : Fm), i ≤ n ∧ x = .int .i64 (i : Int) ∧ MT 22 5 wr w.heap.size n n i q f ∧ (∀ r, r < i → w.heap.size ≤ (q r).1) ∧ (∀ r j, r < i → j < n → f r j = idm r j) ∧ Below w.heap.size w wr) (fun x _ => n - (intOf x).toNat)
  case atStart => exact ⟨0, fun _ => (0, 0), fun _ _ => 0, by omega, rfl, HM0.out, fun r hr => by omega, fun r j hr => by omega, HBe0.out⟩
  case round =>
    clear HM0 HBe0
    obtain ⟨i, q, f, hi, rfl, hmt, hq, hf, hbe⟩ := hrel
    have HMt := Lib.hid hmt
    have HQ := Lib.hid hq
    have HFf := Lib.hid hf
    have HBe := Lib.hid hbe
    clear hmt hq hf hbe
    by_cases hlt : i < n
    · have hmk := make_bytes n (by omega) wr
      have hma : MT 22 5 (wr.alloc (.cells (madeCells #[.int .u8 0] n) 5)) w.heap.size n n i q f := HMt.out.below ((Below.refl wr.heap.size wr).alloc (Nat.le_refl _) _) rfl
      obtain ⟨old, hold⟩ := hma.has i hlt
      have hfz := hma.frozen i
      have hin : (i : Int) < (n : Int) := by omega
      have hlt0 := HMt.out.lt
      have hmp := hma.push hlt (Nat.le_refl n) (by simp only [maxLen]; omega) (made_row wr 5 n rfl) (by omega) (fun r hr => by have := (HMt.out.row r hr).2.2.lt; omega)
      rw [World.setCell_alloc_past _ _ _ _ hlt0] at hmp
      have HBp : Hid (Below w.heap.size w ((wr.setCell ⟨w.heap.size, i, none⟩ (.slice (some ⟨wr.heap.size, 0, none⟩) n n)).alloc (.cells (madeCells #[.int .u8 0] n) 5))) := (HBe.out.setCell (Nat.le_refl _) _).alloc (by have := HBe.out.size; simpa using this) _
      have hhd := hmp.hd i (by omega)
      have hb1 := hmp.byte i i (by omega) hlt
      have hfz1 := ((hmp.row i (by omega)).2.2).frozen i
      simp only [if_true] at hhd hb1 hfz1
      have hs := hmp.setByte i i (by omega) 1
      simp only [if_true] at hs
      rw [World.setCell_alloc_at _ _ _ _ _ (by simp), show ((1 : UInt8).toNat : Int) = 1 from rfl] at hs
      have HMp := Lib.hid hs
      have HBq : Hid (Below w.heap.size w ((wr.setCell ⟨w.heap.size, i, none⟩ (.slice (some ⟨wr.heap.size, 0, none⟩) n n)).alloc (.cells ((madeCells #[.int .u8 0] n).setIfInBounds i (.int .u8 1)) 5))) := (HBe.out.setCell (Nat.le_refl _) _).alloc (by have := HBe.out.size; simpa using this) _
      have HQ2 : Hid (∀ r, r < i + 1 → w.heap.size ≤ (if r = i then (wr.heap.size, n) else q r).1) := fun r hr => by
        by_cases e : r = i
        · simp [e]; omega
        · simpa [e] using HQ.out r (by omega)
      clear hma hmp hs
      go_wp2
      refine ⟨⟨i + 1, _, _, by omega, by go_num, HMp.out, HQ2.out, fun r j hr hj => ?_, HBq.out⟩, by simp [intOf]; omega⟩
      by_cases e : r = i
      · subst e
        by_cases e2 : j = r
        · subst e2; simp [idm]
        · simp [idm, e2, Ne.symm e2]
      · simpa [e] using HFf.out r j (by omega) hj
    · obtain rfl : i = n := by omega
      have HRes : Hid (MT 22 5 wr w.heap.size i i i q idm) := HMt.out.congr HFf.out
      go_wp2
      go_ret
      exact ⟨_, q, rfl, Nat.le_refl _, HQ.out, HRes.out, HBe.out⟩
end Go.Proofs.Ytmjhfgnonafknaa
