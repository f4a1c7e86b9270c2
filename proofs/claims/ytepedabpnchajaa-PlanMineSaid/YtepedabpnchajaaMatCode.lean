/-
  kist/mat.Code, kistref02.Code, One, Copy.
-/
import Derived.Test.YtepedabpnchajaaMatTimes
import Derived.Deep.DeepCutAuto

namespace Go.Proofs.Ytepedabpnchajaa
open Go.RowKit
set_option linter.unusedVariables false

/-- a row of the code -/
def codeF (k : Nat) : Fm := fun i j => if i < k then idm i j else inv (UInt8.ofNat i ^^^ UInt8.ofNat j)
def codeT (k n : Nat) : List (List UInt8) := tab n k (codeF k)
theorem byte_ne (i j : Nat) (hi : i < 256) (hj : j < 256) (h : i ≠ j) : UInt8.ofNat i ^^^ UInt8.ofNat j ≠ 0 := fun e => by
  have := congrArg UInt8.toNat (xcancel e)
  rw [UInt8.toNat_ofNat', UInt8.toNat_ofNat'] at this
  omega
theorem byte_nat (i : Nat) (h : i < 256) : (i : Int) = ((UInt8.ofNat i).toNat : Int) := by rw [UInt8.toNat_ofNat']; omega

set_option maxRecDepth 100000 in
set_option maxHeartbeats 4000000 in
theorem code_no (k n : Int) (w : World) (h : k < 1 ∨ n < k ∨ 32 < n) :
    Calls Try.prog 35 #[.int .i64 k, .int .i64 n] w fun e w' => e = .returned (.slice none 0 0) ∧ w = w' := by
  by_cases h1 : k < 1
  · go_enter Try.func35, Try.ntmps35
    go_wp2
    go_ret
    exact ⟨rfl, rfl⟩
  · by_cases h2 : n < k
    · go_enter Try.func35, Try.ntmps35
      go_wp2
      go_ret
      exact ⟨rfl, rfl⟩
    · have h3 : 32 < n := by omega
      clear h
      go_enter Try.func35, Try.ntmps35
      go_wp2
      go_ret
      exact ⟨rfl, rfl⟩
set_option maxRecDepth 100000 in
set_option maxHeartbeats 4000000 in
theorem code_yes (k n : Nat) (w : World) (h1 : 1 ≤ k) (h2 : k ≤ n) (h3 : n ≤ 32) :
    Calls Try.prog 35 #[.int .i64 (k : Int), .int .i64 (n : Int)] w fun e w' => ∃ v, e = .returned v ∧ RT w' v (codeT k n) ∧ Below w.heap.size w w' := by
  have i1 : ¬ (k : Int) < 1 := by omega
  have i2 : ¬ (n : Int) < (k : Int) := by omega
  have i3 : ¬ (32 : Int) < (n : Int) := by omega
  go_enter Try.func35, Try.ntmps35
  go_wp2_with fail
  refine (one_any k (by omega) _).mono ?_
  rintro e w1 ⟨g, q, rfl, hg, hq, hmt, hbe⟩
  have hct : CTb w.heap.size 35 w1 (.slice (some ⟨g, 0, none⟩) k k) (tab k k (codeF k)) := by
    have := hmt.ct hg (by simp only [maxLen]; omega)
    rw [tab_congr (f' := codeF k) (fun i j hi hj => by simp [codeF, hi])] at this
    exact this
  have HC0 := Lib.hid hct
  have HB0 := Lib.hid hbe
  clear hq hmt hg hct hbe
  go_wp2
  go_loopw [5, 6] (fun v x wr => ∃ i : Nat, k ≤ i ∧ i ≤ n ∧ x = .int .i64 (i : Int) ∧ CTb w.heap.size 35 wr v (tab i k (codeF k)) ∧ Below w.heap.size w wr) (fun _ x _ => n - (intOf x).toNat)
  case atStart => exact ⟨k, by omega, by omega, rfl, HC0.out, HB0.out⟩
  case round =>
    clear HC0 HB0
    obtain ⟨i, hik, hi, rfl, hct, hbe⟩ := hrel
    obtain ⟨oa, oc, rfl, ho1, ho2⟩ := hct.shape
    rw [tab_length] at ho1 hct ⊢
    simp only [maxLen] at ho2
    have HCt := Lib.hid hct
    have HBe := Lib.hid hbe
    clear hct hbe
    by_cases hlt : i < n
    · have hin : (i : Int) < (n : Int) := by omega
      have hmk := make_bytes k (by omega) wr
      have hr0 : RowF 5 (wr.alloc (.cells (madeCells #[.int .u8 0] k) 5)) wr.heap.size k (fun j => if j < 0 then codeF k i j else 0) := (made_row wr 5 k rfl).congr (fun j hj => by simp)
      have HR0 := Lib.hid hr0
      have HB0 : Hid (Below wr.heap.size wr (wr.alloc (.cells (madeCells #[.int .u8 0] k) 5))) := (Below.refl _ _).alloc (Nat.le_refl _) _
      obtain ⟨w1, hw1⟩ : ∃ w1, w1 = wr := ⟨_, rfl⟩
      subst hw1
      clear hr0
      go_wp2
      go_loopw [32] (fun x wx => ∃ j : Nat, j ≤ k ∧ x = .int .i64 (j : Int) ∧ RowF 5 wx w1.heap.size k (fun r => if r < j then codeF k i r else 0) ∧ Below w1.heap.size w1 wx) (fun x _ => k - (intOf x).toNat)
      case atStart => exact ⟨0, by omega, rfl, HR0.out, HB0.out⟩
      case round =>
        clear HR0 HB0 hmk
        obtain ⟨j, hj, rfl, hrf, hbe⟩ := hrel
        have HRf := Lib.hid hrf
        have HBk := Lib.hid hbe
        clear hrf hbe
        by_cases hlj : j < k
        · have hjk : (j : Int) < (k : Int) := by omega
          have hji : (j : Int) < 32 := by omega
          have hii : (i : Int) < 32 := by omega
          have hold := HRf.out.cell j hlj
          have hfz := HRf.out.frozen j
          have hx : bits .xor .u8 (i : Int) (j : Int) = ((UInt8.ofNat i ^^^ UInt8.ofNat j).toNat : Int) := by
            rw [byte_nat i (by omega), byte_nat j (by omega), u8_xor_u8]
          have hne : UInt8.ofNat i ^^^ UInt8.ofNat j ≠ 0 := byte_ne i j (by omega) (by omega) (by omega)
          have hcf : codeF k i j = quo 1 (UInt8.ofNat i ^^^ UInt8.ofNat j) := by
            unfold codeF quo
            rw [if_neg (by omega), one_mul]
          obtain ⟨d, Hd⟩ := hid_of (UInt8.ofNat i ^^^ UInt8.ofNat j)
          rw [Hd.out] at hx hne hcf
          have HDiv : Hid (∀ wx, Calls Try.prog 60 #[.int .u8 1, .int .u8 (d.toNat : Int)] wx fun e w' => e = .returned (.tuple #[.int .u8 ((quo 1 d).toNat : Int), .bool true]) ∧ wx = w') := fun wx => div_yes 1 d wx hne
          obtain ⟨z, Hz⟩ := hid_of (quo 1 d)
          rw [Hz.out] at HDiv hcf
          have hset := (HRf.out.set j z).congr (f' := fun r => if r < j + 1 then codeF k i r else 0) (fun r hr => by
            by_cases e : r = j
            · subst e; simp [hcf]
            · by_cases e2 : r < j
              · simp [e, e2, show r < j + 1 by omega]
              · simp [e, e2, show ¬ r < j + 1 by omega])
          have HSet := Lib.hid hset
          have HB2 : Hid (Below w1.heap.size w1 (wr.setCell ⟨w1.heap.size, j, none⟩ (.int .u8 (z.toNat : Int)))) := HBk.out.setCell (Nat.le_refl _) _
          clear hset hne hcf HRf
          go_wp2_with fail
          refine (HDiv.out _).mono ?_
          rintro e w' ⟨rfl, rfl⟩
          go_wp2
          go_roundw
          case rel => exact ⟨j + 1, by omega, by go_num, HSet.out, HB2.out⟩
          case measure => simp [intOf]; omega
        · obtain rfl : k = j := by omega
          have hrow : RowF 5 wr w1.heap.size k (codeF k i) := HRf.out.congr (fun r hr => by simp [hr])
          have hrb := hrow.read (Nat.le_refl k) (by simp only [maxLen]; omega)
          obtain ⟨L, HL⟩ := hid_of (line k (codeF k i))
          obtain ⟨Ts, HTs⟩ := hid_of (tab i k (codeF k))
          have HTl : Hid (Ts.length = i) := by rw [← HTs.out]; exact tab_length _ _ _
          have HTn : Hid (Ts ++ [L] = tab (i + 1) k (codeF k)) := by rw [← HTs.out, ← HL.out]; exact (tab_succ _ _ _).symm
          rw [HTs.out] at HCt
          rw [HL.out] at hrb
          have HRv := Lib.hid hrb
          clear hrb hrow HRf
          go_wp2_with (at_builtin; refine stopped ?_)
          have hba : Below w1.heap.size w1 (wr.alloc (.cells #[.slice (some ⟨w1.heap.size, 0, none⟩) k k] 35)) := HBk.out.alloc HBk.out.size _
          refine going (wpList_push_row _ rfl _ _ 34 rfl w.heap.size 35 Try.underlying34 infoRow _ Ts rfl (HCt.out.below hba rfl) wr.heap.size (.slice (some ⟨w1.heap.size, 0, none⟩) k k) L rfl (by rw [cell_of_row _ _ 0 _ _ _ (heap_alloc_new wr _)]; rfl) (HRv.out.below ((Below.refl wr.heap.size wr).alloc (Nat.le_refl _) _) rfl) (fun _ x hx hx2 => by have h1 : w1.heap.size = x := (by simpa [Value.ownBlock] using hx); have h2 := (HCt.out.lt x hx2).2; omega) (by rw [HTl.out]; omega) (by have := HBe.out.size; have := hba.size; omega) ?_)
          intro v3 w3 ho3 hb3 hg3
          rw [HTn.out] at ho3
          have HO3 := Lib.hid ho3
          have HB3 : Hid (Below w.heap.size w w3) := HBe.out.trans ((hba.mono HBe.out.size).trans hb3)
          clear ho3 hb3 hg3 hba
          go_wp2
          refine ⟨⟨i + 1, by omega, by omega, by go_num, HO3.out, HB3.out⟩, by simp [intOf]; omega⟩
    · obtain rfl : n = i := by omega
      have HRead := Lib.hid HCt.out.read
      go_wp2
      go_ret
      exact ⟨_, rfl, HRead.out, HBe.out⟩
end Go.Proofs.Ytepedabpnchajaa
