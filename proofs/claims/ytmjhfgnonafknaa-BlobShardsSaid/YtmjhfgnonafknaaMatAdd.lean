/-
  kist/mat.add: a row, so many times, comes to another one.
-/
import Derived.Test.YtmjhfgnonafknaaMatTable

namespace Go.Proofs.Ytmjhfgnonafknaa
open Go.RowKit
set_option linter.unusedVariables false

set_option maxRecDepth 100000 in
set_option maxHeartbeats 2000000 in
theorem add_any (p m c : Nat) (f : Nat → UInt8) (rv : Value) (l : List UInt8) (t : UInt8) (w : World) (hto : RowF 5 w p m f) (hm : l.length = m) (hrow : RB w rv l) (hsep : 0 < m → rv.ownBlock ≠ some p) (hc : m ≤ c) (hc2 : c ≤ maxLen) :
    Calls Try.prog 66 #[.slice (some ⟨p, 0, none⟩) m c, rv, .int .u8 (t.toNat : Int)] w fun e w' => e = .returned (.tuple #[]) ∧ RowF 5 w' p m (fun j => f j ^^^ mul (l.getD j 0) t) ∧ Fr (fun k => k = p) w w' := by
  obtain ⟨a, rc, rfl, h1, h2⟩ := hrow.shape
  have HR : Hid (RB w (.slice a m rc) l) := by rw [← hm]; exact hrow
  rw [hm] at h1 ⊢
  have HM := Lib.hid hm
  have HT := Lib.hid hto
  simp only [maxLen] at h2 hc2
  have HS : Hid (0 < m → a.map (·.block) ≠ some p) := fun hm => by
    have := hsep hm
    cases a with
    | none => simp
    | some a => simpa [Value.ownBlock] using this
  have HF0 : Hid (RowF 5 w p m (fun j => if j < 0 then f j ^^^ mul (l.getD j 0) t else f j)) := hto.congr (fun j hj => by simp)
  clear hrow hsep hm hto
  go_enter Try.func66, Try.ntmps66
  go_wp2
  go_loopw [10] (fun x wr => ∃ k : Nat, k ≤ m ∧ x = .int .i64 (k : Int) ∧ RowF 5 wr p m (fun j => if j < k then f j ^^^ mul (l.getD j 0) t else f j) ∧ Fr (fun k => k = p) w wr) (fun x _ => m - (intOf x).toNat)
  case atStart => exact ⟨0, by omega, rfl, HF0.out, Fr.refl _ _⟩
  case round =>
    clear HF0
    obtain ⟨k, hk, rfl, hf, hfr⟩ := hrel
    have HF := Lib.hid hf
    have HFr := Lib.hid hfr
    clear hf hfr
    by_cases hlt : k < m
    · have hct := HF.out.cell k hlt
      simp only [Nat.lt_irrefl, if_false] at hct
      have hfz := HF.out.frozen k
      obtain ⟨rb, ro, rfl, hrc⟩ : ∃ rb ro, a = some ⟨rb, ro, none⟩ ∧ w.cell? ⟨rb, ro + k, none⟩ = some (.int .u8 ((l.getD k 0).toNat : Int)) := by
        obtain ⟨a', cap', he, g1, g2, g3, g4⟩ := HR.out
        simp only [Value.slice.injEq] at he
        obtain ⟨rfl, hl, rfl⟩ := he
        rcases g4 with rfl | ⟨b, off, rfl, hc⟩
        · have := HM.out; simp at this; omega
        · have hk' : k < l.length := by have := HM.out; omega
          exact ⟨b, off, rfl, by rw [hc k hk']; simp [List.getD_eq_getElem?_getD, hk']⟩
      have hne : rb ≠ p := by have := HS.out (by omega); simpa using this
      have hrk : wr.cell? ⟨rb, ro + k, none⟩ = some (.int .u8 ((l.getD k 0).toNat : Int)) := HFr.out.cell hrc hne
      obtain ⟨z, Hz⟩ := hid_of (l.getD k 0)
      obtain ⟨y, Hy⟩ := hid_of (f k)
      rw [Hz.out] at hrk
      rw [Hy.out] at hct
      have hkm : (k : Int) < (m : Int) := by omega
      have hkc : (k : Int) < (c : Int) := by omega
      have HMul : Hid (∀ wx, Calls Try.prog 65 #[.int .u8 (z.toNat : Int), .int .u8 (t.toNat : Int)] wx fun e w' => e = .returned (.int .u8 ((mul z t).toNat : Int)) ∧ w' = wx) := fun wx => (mul_any z t wx).mono fun e w' ⟨h1, h2⟩ => ⟨h1, h2.symm⟩
      have hxx := u8_xor_u8 y (mul z t)
      obtain ⟨q, Hq⟩ := hid_of (mul z t)
      rw [Hq.out] at HMul hxx
      obtain ⟨x, Hx⟩ := hid_of (y ^^^ q)
      rw [Hx.out] at hxx
      have hset : RowF 5 (wr.setCell ⟨p, k, none⟩ (.int .u8 (x.toNat : Int))).drew p m (fun j => if j < k + 1 then f j ^^^ mul (l.getD j 0) t else f j) := by
        refine ((HF.out.set k x).drew).congr fun j hj => ?_
        by_cases e : j = k
        · subst e
          simp [← Hx.out, ← Hq.out, ← Hz.out, ← Hy.out]
        · by_cases e2 : j < k
          · simp [e, e2, show j < k + 1 by omega]
          · simp [e, e2, show ¬ j < k + 1 by omega]
      have HSet := Lib.hid hset
      have HFr2 : Hid (Fr (fun k => k = p) w (wr.setCell ⟨p, k, none⟩ (.int .u8 (x.toNat : Int))).drew) := (HFr.out.setCell (p := ⟨p, k, none⟩) (fun _ => rfl) _).drew
      clear hset hrc hne HF
      go_wp2
      go_still_tail 9, (by kernel_rfl)
      still_call (HMul.out _)
      repeat still_step
      refine wpStill_nil ?_
      rw [show ({ heap := wr.heap, tape := wr.tape, drawn := wr.drawn + 1, os := wr.os, output := wr.output } : World) = wr.drew from rfl]
      go_wp2
      go_roundw
      case rel => exact ⟨k + 1, by omega, by go_num, HSet.out, HFr2.out⟩
      case measure => simp [intOf]; omega
    · obtain rfl : k = m := by omega
      have HFin : Hid (RowF 5 wr p k (fun j => f j ^^^ mul (l.getD j 0) t)) := HF.out.congr fun j hj => by simp [hj]
      clear HF
      go_wp2
      go_end0
      exact ⟨rfl, HFin.out, HFr.out⟩
end Go.Proofs.Ytmjhfgnonafknaa
