/-
  kistref02.Same: are two one?
-/
import Derived.Test.YtmjhfgnonafknaaMatTable

namespace Go.Proofs.Ytmjhfgnonafknaa
open Go.RowKit
set_option linter.unusedVariables false

set_option maxRecDepth 100000 in
set_option maxHeartbeats 2000000 in
theorem same_any (v : Value) (A : List (List UInt8)) (v2 : Value) (A2 : List (List UInt8)) (w : World) (h : RT w v A) (h' : RT w v2 A2) :
    Calls Try.prog 12 #[v, v2] w fun e w' => e = .returned (.bool (decide (A = A2))) ∧ ∃ d, w' = w.drewN d := by
  obtain ⟨a, cap, rfl, h1, h2⟩ := h.shape
  obtain ⟨a2, cap2, rfl, h3, h4⟩ := h'.shape
  simp only [maxLen] at h2 h4
  obtain ⟨n, Hn⟩ := hid_of A.length
  obtain ⟨n2, Hn2⟩ := hid_of A2.length
  have H : Hid (RT w (.slice a n cap) A) := by rw [← Hn.out]; exact h
  have H2 : Hid (RT w (.slice a2 n2 cap2) A2) := by rw [← Hn2.out]; exact h'
  rw [Hn.out] at h1 ⊢
  rw [Hn2.out] at h3 ⊢
  clear h h'
  obtain ⟨T, HT⟩ := hid_of (decide (A = A2))
  rw [HT.out]
  by_cases hne : n = n2
  · subst hne
    by_cases hn0 : n = 0
    · have hT : T = true := by
        rw [← HT.out]
        have e1 := List.eq_nil_of_length_eq_zero (Hn.out.trans hn0)
        have e2 := List.eq_nil_of_length_eq_zero (Hn2.out.trans hn0)
        simp [e1, e2]
      subst hT
      subst hn0
      go_enter Try.func12, Try.ntmps12
      go_wp2
      go_loop [5] (fun x => x = .int .i64 0) (fun x => 0)
      case atStart => rfl
      case round =>
        subst hrel
        go_wp2
        go_ret
        exact ⟨rfl, 0, rfl⟩
    · obtain ⟨b, off, rfl, hb, hrow⟩ := H.out.row (by have := Hn.out; omega)
      obtain ⟨b2, off2, rfl, hb2, hrow2⟩ := H2.out.row (by have := Hn2.out; omega)
      have HRow := Lib.hid hrow
      have HRow2 := Lib.hid hrow2
      clear hrow hrow2
      have HG : Hid (∀ i, i < n → A.getD i [] ≠ A2.getD i [] → T = false) := by
        intro i hi hne
        rw [← HT.out]
        refine decide_eq_false fun e => hne ?_
        rw [e]
      have HG2 : Hid ((∀ i, i < n → A.getD i [] = A2.getD i []) → T = true) := by
        intro hall
        rw [← HT.out]
        refine decide_eq_true (List.ext_getElem (Hn.out.trans Hn2.out.symm) fun i hi hi2 => ?_)
        have := hall i (by have := Hn.out; omega)
        simpa [List.getD_eq_getElem?_getD, hi, hi2] using this
      go_enter Try.func12, Try.ntmps12
      go_wp2
      go_loopw [5] (fun x wr => ∃ k : Nat, k ≤ n ∧ x = .int .i64 (k : Int) ∧ (∀ i, i < k → A.getD i [] = A2.getD i []) ∧ ∃ d, wr = w.drewN d) (fun x _ => n - (intOf x).toNat)
      case atStart => exact ⟨0, by omega, rfl, fun i hi => by omega, 0, rfl⟩
      case round =>
        obtain ⟨k, hk, rfl, hal, d, rfl⟩ := hrel
        have HAl := Lib.hid hal
        clear hal
        by_cases hlt : k < n
        · obtain ⟨u, hc, hr⟩ := HRow.out k (by have := Hn.out; omega)
          obtain ⟨u2, hc2, hr2⟩ := HRow2.out k (by have := Hn2.out; omega)
          have HS : Hid (((convert 22 9 u).run Try.prog (w.drewN d).drew = .ok (.string (S (A.getD k []))) (w.drewN d).drew ∧ (convert 22 9 u2).run Try.prog (w.drewN d).drew = .ok (.string (S (A2.getD k []))) (w.drewN d).drew) ∧ (w.drewN d).drew.cell? ⟨b, off + k, none⟩ = some u ∧ (w.drewN d).drew.cell? ⟨b2, off2 + k, none⟩ = some u2) :=
            ⟨⟨run_convert_S (hr.drewN d).drew _ _ _ Try.underlying22 Try.underlying5 Try.underlying9, run_convert_S (hr2.drewN d).drew _ _ _ Try.underlying22 Try.underlying5 Try.underlying9⟩, hc, hc2⟩
          clear hr hr2 hc hc2
          obtain ⟨wd, Hwd⟩ := hid_of (w.drewN d)
          rw [Hwd.out] at HS ⊢
          have HD : Hid (∀ j, wd.drewN j = w.drewN (d + j)) := fun j => by rw [← Hwd.out, World.drewN_drewN]
          have hkn : (k : Int) < (n : Int) := by omega
          by_cases he : A.getD k [] = A2.getD k []
          · have HAl2 : Hid (∀ i, i < k + 1 → A.getD i [] = A2.getD i []) := fun i hi => by
              by_cases e : i = k
              · rw [e, he]
              · exact HAl.out i (by omega)
            rw [he] at HS
            obtain ⟨E, HE⟩ := hid_of (S (A2.getD k []))
            rw [HE.out] at HS
            clear he
            go_wp2
            go_region_held (fun wx => ((convert 22 9 u).run Try.prog wx = .ok (.string E) wx ∧ (convert 22 9 u2).run Try.prog wx = .ok (.string E) wx) ∧ wx.cell? ⟨b, off + k, none⟩ = some u ∧ wx.cell? ⟨b2, off2 + k, none⟩ = some u2) (exact HS.out) (fail)
            go_wp2
            go_roundw
            case rel => exact ⟨k + 1, by omega, by go_num, HAl2.out, _, HD.out 1⟩
            case measure => simp [intOf]; omega
          · have hT := HG.out k hlt he
            subst hT
            have he2 : ((S (A.getD k [])).toList == (S (A2.getD k [])).toList) = false := by rw [S_list, S_list]; exact beq_eq_false_iff_ne.2 he
            obtain ⟨E1, HE1⟩ := hid_of (S (A.getD k []))
            obtain ⟨E2, HE2⟩ := hid_of (S (A2.getD k []))
            rw [HE1.out, HE2.out] at HS he2
            clear he
            go_wp2
            go_region_held (fun wx => ((convert 22 9 u).run Try.prog wx = .ok (.string E1) wx ∧ (convert 22 9 u2).run Try.prog wx = .ok (.string E2) wx) ∧ wx.cell? ⟨b, off + k, none⟩ = some u ∧ wx.cell? ⟨b2, off2 + k, none⟩ = some u2) (exact HS.out) (fail)
            go_wp2
            go_ret
            exact ⟨rfl, _, HD.out 1⟩
        · obtain rfl : k = n := by omega
          have hT := HG2.out HAl.out
          subst hT
          go_wp2
          go_ret
          exact ⟨rfl, d, rfl⟩
  · have hT : T = false := by
      rw [← HT.out]
      exact decide_eq_false fun e => hne (by have := Hn.out; have := Hn2.out; rw [e] at *; omega)
    subst hT
    have hz : ((n : Int) == (n2 : Int)) = false := by simp; omega
    have hz2 : ((n : Int) != (n2 : Int)) = true := by simp; omega
    go_enter Try.func12, Try.ntmps12
    go_wp2
    go_ret
    exact ⟨rfl, 0, rfl⟩
end Go.Proofs.Ytmjhfgnonafknaa
