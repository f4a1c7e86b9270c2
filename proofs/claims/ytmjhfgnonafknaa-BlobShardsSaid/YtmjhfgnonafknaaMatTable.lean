/-
  kist/mat.table, kistref02.Table, Same: is it a table; are two one.
-/
import Derived.Test.YtmjhfgnonafknaaGfWalk
import Derived.Test.YtmjhfgnonafknaaTab
import Derived.StillTailTactics
import Derived.Deep.RegionHeld

namespace Go.Proofs.Ytmjhfgnonafknaa
open Go.RowKit
set_option linter.unusedVariables false

def cols (A : List (List UInt8)) : Nat := (A.getD 0 []).length
def Table (A : List (List UInt8)) : Prop := 1 ≤ A.length ∧ A.length ≤ 32 ∧ 1 ≤ cols A ∧ cols A ≤ 32 ∧ ∀ i, i < A.length → (A.getD i []).length = cols A
instance (A : List (List UInt8)) : Decidable (Table A) := by unfold Table; infer_instance
def tableB (A : List (List UInt8)) : Bool := decide (Table A)
theorem table_no {A : List (List UInt8)} (h : ¬ Table A) : tableB A = false := by simpa [tableB] using h
theorem table_yes {A : List (List UInt8)} (h : Table A) : tableB A = true := by simpa [tableB] using h

set_option maxRecDepth 100000 in
set_option maxHeartbeats 2000000 in
theorem table_any (v : Value) (A : List (List UInt8)) (w : World) (h : RT w v A) :
    Calls Try.prog 64 #[v] w fun e w' => e = .returned (.bool (tableB A)) ∧ w = w' := by
  obtain ⟨a, cap, rfl, h1, h2⟩ := h.shape
  simp only [maxLen] at h2
  obtain ⟨n, Hn⟩ := hid_of A.length
  have H : Hid (RT w (.slice a n cap) A) := by rw [← Hn.out]; exact h
  rw [Hn.out] at h1 ⊢
  clear h
  by_cases hn0 : n = 0
  · have hT : ¬ Table A := fun hT => by have := hT.1; have := Hn.out; omega
    rw [table_no hT]
    subst hn0
    clear hT
    go_enter Try.func64, Try.ntmps64
    go_wp2
    go_ret
    exact ⟨rfl, rfl⟩
  · by_cases hn32 : 32 < n
    · have hT : ¬ Table A := fun hT => by have := hT.2.1; have := Hn.out; omega
      rw [table_no hT]
      have hz : ((n : Int) == 0) = false := by simp; omega
      have hz32 : (32 : Int) < (n : Int) := by omega
      clear hT
      go_enter Try.func64, Try.ntmps64
      go_wp2
      go_ret
      exact ⟨rfl, rfl⟩
    · obtain ⟨b, off, rfl, hb, hrow⟩ := H.out.row (by have := Hn.out; omega)
      have HRow := Lib.hid hrow
      obtain ⟨u0, hc0, hr0⟩ := hrow 0 (by have := Hn.out; omega)
      obtain ⟨a0, c0, rfl, hl0, hm0⟩ := hr0.shape
      simp only [maxLen] at hm0
      obtain ⟨m, Hm⟩ := hid_of (A.getD 0 []).length
      rw [Hm.out] at hl0 hc0
      rw [Nat.add_zero] at hc0
      have hz : ((n : Int) == 0) = false := by simp; omega
      have hz2 : ¬ (32 : Int) < (n : Int) := by omega
      have hz3 : (0 : Int) < (n : Int) := by omega
      clear hrow hr0
      by_cases hm1 : m = 0
      · have hT : ¬ Table A := fun hT => by have h5 := hT.2.2.1; unfold cols at h5; have := Hm.out; omega
        rw [table_no hT]
        subst hm1
        clear hT
        go_enter Try.func64, Try.ntmps64
        go_wp2
        go_ret
        exact ⟨rfl, rfl⟩
      · by_cases hm32 : 32 < m
        · have hT : ¬ Table A := fun hT => by have h5 := hT.2.2.2.1; unfold cols at h5; have := Hm.out; omega
          rw [table_no hT]
          have hy : ((m : Int) == 0) = false := by simp; omega
          have hy32 : (32 : Int) < (m : Int) := by omega
          clear hT
          go_enter Try.func64, Try.ntmps64
          go_wp2
          go_ret
          exact ⟨rfl, rfl⟩
        · have hy : ((m : Int) == 0) = false := by simp; omega
          have hy32 : ¬ (32 : Int) < (m : Int) := by omega
          obtain ⟨T, HT⟩ := hid_of (tableB A)
          rw [HT.out]
          have HG : Hid (∀ i, i < n → (A.getD i []).length ≠ m → T = false) := by
            intro i hi hne
            rw [← HT.out]
            refine table_no fun hT => hne ?_
            rw [hT.2.2.2.2 i (by have := Hn.out; omega)]
            exact Hm.out
          have HG2 : Hid ((∀ i, i < n → (A.getD i []).length = m) → T = true) := by
            intro hall
            rw [← HT.out]
            refine table_yes ⟨by have := Hn.out; omega, by have := Hn.out; omega, ?_, ?_, fun i hi => ?_⟩
            · unfold cols; have := Hm.out; omega
            · unfold cols; have := Hm.out; omega
            · rw [hall i (by have := Hn.out; omega)]; exact Hm.out.symm
          go_enter Try.func64, Try.ntmps64
          go_wp2
          go_loop [29] (fun x => ∃ k : Nat, k ≤ n ∧ x = .int .i64 (k : Int) ∧ ∀ i, i < k → (A.getD i []).length = m) (fun x => n - (intOf x).toNat)
          case atStart => exact ⟨0, by omega, rfl, fun i hi => by omega⟩
          case round =>
            obtain ⟨k, hk, rfl, hal⟩ := hrel
            have HAl := Lib.hid hal
            clear hal
            by_cases hlt : k < n
            · obtain ⟨u, hc, hr⟩ := HRow.out k (by have := Hn.out; omega)
              obtain ⟨ak, ck, rfl, hlk, hmk⟩ := hr.shape
              simp only [maxLen] at hmk
              obtain ⟨l, Hl⟩ := hid_of (A.getD k []).length
              rw [Hl.out] at hlk hc
              clear hr
              have hkn : (k : Int) < (n : Int) := by omega
              by_cases hlm : l = m
              · have HAl2 : Hid (∀ i, i < k + 1 → (A.getD i []).length = m) := fun i hi => by
                  by_cases e : i = k
                  · rw [e, Hl.out, hlm]
                  · exact HAl.out i (by omega)
                subst hlm
                go_wp2
                go_round
                case rel => exact ⟨k + 1, by omega, by go_num, HAl2.out⟩
                case measure => simp [intOf]; omega
              · have hT := HG.out k hlt (by rw [Hl.out]; exact hlm)
                subst hT
                have hne : ((l : Int) == (m : Int)) = false := by simp; omega
                have hne2 : ((l : Int) != (m : Int)) = true := by simp; omega
                go_wp2
                go_ret
                exact ⟨rfl, rfl⟩
            · obtain rfl : k = n := by omega
              have hT := HG2.out HAl.out
              subst hT
              go_wp2
              go_ret
              exact ⟨rfl, rfl⟩
end Go.Proofs.Ytmjhfgnonafknaa
