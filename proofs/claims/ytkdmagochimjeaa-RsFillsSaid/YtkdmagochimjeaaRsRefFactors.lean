/-
  kistref03.factors.
-/
import Derived.Test.YtkdmagochimjeaaRsRefLeft
namespace Go.Proofs.Ytkdmagochimjeaa
open Go.RowKit
set_option linter.unusedVariables false

/-- the factors of further shard s -/
def facL (s n : Nat) : List UInt8 := line n (fun i => facF s i)
theorem facL_succ (s n : Nat) : facL s (n + 1) = facL s n ++ [facF s n] := line_succ _ _
set_option maxRecDepth 100000 in
set_option maxHeartbeats 4000000 in
theorem factors_any (s : Nat) (w : World) (h8 : 8 ≤ s) (h10 : s < 10) :
    Calls Try.prog 24 #[.int .i64 (s : Int)] w fun e w' => ∃ v, e = .returned v ∧ RB w' v (facL s 8) ∧ Below w.heap.size w w' ∧ ∀ k, v.ownBlock = some k → w.heap.size ≤ k := by
  have HO0 : Hid ((w.alloc (.cells #[] 5)).ownsRow w.heap.size 5 1 (.slice (some ⟨w.heap.size, 0, none⟩) 0 0) (facL s 0).length (Bs (facL s 0))) := own_empty (w := w) (Nat.le_refl _) rfl
  have HB0 : Hid (Below w.heap.size w (w.alloc (.cells #[] 5))) := (Below.refl _ _).alloc (Nat.le_refl _) _
  go_enter Try.func24, Try.ntmps24
  go_wp2
  go_loopw [3, 4] (fun v x wr => ∃ i : Nat, i ≤ 8 ∧ x = .int .i64 (i : Int) ∧ wr.ownsRow w.heap.size 5 1 v (facL s i).length (Bs (facL s i)) ∧ Below w.heap.size w wr) (fun _ x _ => 8 - (intOf x).toNat)
  case atStart => exact ⟨0, by omega, rfl, HO0.out, HB0.out⟩
  case round =>
    clear HO0 HB0
    obtain ⟨i, hi, rfl, hown, hbe⟩ := hrel
    obtain ⟨va, vc, rfl, hv1, hv2⟩ := own_shape hown
    have hln : (facL s i).length = i := line_length _ _
    have hsc := facL_succ s i
    have HO := Lib.hid hown
    have HBe := Lib.hid hbe
    simp only [maxLen] at hv2
    obtain ⟨D, HD⟩ := hid_of (facL s i)
    rw [HD.out] at HO hv1 hln hsc ⊢
    rw [hln] at HO hv1 ⊢
    have HLn := Lib.hid hln
    clear hown hbe hln
    by_cases hlt : i < 8
    · have hi8 : (i : Int) < 8 := by omega
      have HFa : Hid (∀ wx, Calls Try.prog 21 #[.int .i64 (s : Int), .int .i64 (i : Int)] wx fun e w' => e = .returned (.int .u8 ((facF s i).toNat : Int)) ∧ w' = wx) := fun wx => factor_any s i wx (by omega) (by omega) (by omega)
      obtain ⟨f, Hf⟩ := hid_of (facF s i)
      rw [Hf.out] at HFa hsc
      have HSc := Lib.hid hsc
      clear hsc
      go_wp2_with fail
      refine (HFa.out _).mono ?_
      rintro e wr ⟨rfl, rfl⟩
      go_wp2_with (at_builtin; refine stopped ?_)
      have hba : Below wr.heap.size wr (wr.alloc (.cells #[.int .u8 (f.toNat : Int)] 5)) := (Below.refl _ _).alloc (Nat.le_refl _) _
      refine going (wpList_append_bytes _ rfl _ _ 22 22 rfl w.heap.size 5 5 Try.underlying22 Try.underlying22 infoByte _ D _ rfl (own_fr HO.out (Fr.of_below (S := fun k => wr.heap.size ≤ k) hba (fun k _ h => h)) (fun k hk => by have := (HO.out.lt k hk).2; omega)) _ [f] rfl (RB.lit wr (e := 5) (n := 1) (g := wr.heap.size) #[.int .u8 (f.toNat : Int)] [f] (by simp [Bs, B]) (by simp [maxLen]) rfl rfl) (by simp; rw [HLn.out]; omega) (by have := HBe.out.size; simp; omega) ?_)
      intro v5 w5 ho5 hb5 hg5
      rw [← HSc.out] at ho5
      have HO5 := Lib.hid ho5
      have HB5 : Hid (Below w.heap.size w w5) := HBe.out.trans ((hba.mono HBe.out.size).trans hb5)
      clear ho5 hb5 hg5 hba
      go_wp2
      go_roundw
      case rel => exact ⟨i + 1, by omega, by go_num, HO5.out, HB5.out⟩
      case measure => simp [intOf]; omega
    · obtain rfl : i = 8 := by omega
      have hrb := RB.own HO.out
      have HRb := Lib.hid hrb
      have HFr : Hid (∀ k, (Value.slice va 8 vc).ownBlock = some k → w.heap.size ≤ k) := fun k hk => (HO.out.lt k hk).1
      rw [show ((8 : Nat) : Int) = 8 from rfl]
      clear hrb
      go_wp2
      go_ret
      rw [HD.out]
      exact ⟨_, rfl, HRb.out, HBe.out, HFr.out⟩
end Go.Proofs.Ytkdmagochimjeaa
