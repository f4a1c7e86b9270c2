/-
  kistref02.Copy: another table like it.
-/
import Derived.Test.YtdcjcbfnniimpaaRefCode
namespace Go.Proofs.Ytdcjcbfnniimpaa
open Go.RowKit
set_option linter.unusedVariables false

theorem take_snoc_getD {α : Type} (l : List α) (d : α) (i : Nat) (h : i < l.length) : l.take i ++ [l.getD i d] = l.take (i + 1) := by
  rw [List.take_succ_eq_append_getElem h]
  simp [List.getD_eq_getElem?_getD, h]
set_option maxRecDepth 100000 in
set_option maxHeartbeats 4000000 in
theorem refCopy_any (v : Value) (A : List (List UInt8)) (w : World) (h : RT w v A) (hn : A.length ≤ 1000) (hl : ∀ i, i < A.length → (A.getD i []).length ≤ 1000000) :
    Calls Try.prog 26 #[v] w fun e w' => ∃ v, e = .returned v ∧ CTb w.heap.size 29 w' v A ∧ Below w.heap.size w w' := by
  obtain ⟨a, cap, rfl, h1, h2⟩ := h.shape
  simp only [maxLen] at h2
  obtain ⟨n, Hn⟩ := hid_of A.length
  have H : Hid (RT w (.slice a n cap) A) := by rw [← Hn.out]; exact h
  rw [Hn.out] at h1 hn ⊢
  have HL := Lib.hid hl
  clear h hl
  have HC0 : Hid (CTb w.heap.size 29 (w.alloc (.cells #[] 29)) (.slice (some ⟨w.heap.size, 0, none⟩) 0 0) (A.take 0)) := CTb.start (w := w) (Nat.le_refl _) rfl
  have HB0 : Hid (Below w.heap.size w (w.alloc (.cells #[] 29))) := (Below.refl _ _).alloc (Nat.le_refl _) _
  go_enter Try.func26, Try.ntmps26
  go_wp2
  go_loopw [3, 4] (fun v x wr => ∃ i : Nat, i ≤ n ∧ x = .int .i64 (i : Int) ∧ CTb w.heap.size 29 wr v (A.take i) ∧ Below w.heap.size w wr) (fun _ x _ => n - (intOf x).toNat)
  case atStart => exact ⟨0, by omega, rfl, HC0.out, HB0.out⟩
  case round =>
    clear HC0 HB0
    obtain ⟨i, hi, rfl, hct, hbe⟩ := hrel
    obtain ⟨oa, oc, rfl, ho1, ho2⟩ := hct.shape
    have hti : (A.take i).length = i := by have := Hn.out; simp; omega
    rw [hti] at ho1 hct ⊢
    have HTi := Lib.hid hti
    simp only [maxLen] at ho2
    have HCt := Lib.hid hct
    have HBe := Lib.hid hbe
    clear hct hbe hti
    by_cases hlt : i < n
    · have hin : (i : Int) < (n : Int) := by omega
      have hiA : i < A.length := by have := Hn.out; omega
      obtain ⟨b, off, rfl, hb, hrow⟩ := H.out.row (by omega)
      obtain ⟨u, hc, hr⟩ := hrow i hiA
      obtain ⟨ua, uc, rfl, hu1, hu2⟩ := hr.shape
      have hc' : wr.cell? ⟨b, off + i, none⟩ = some (.slice ua (A.getD i []).length uc) := by rw [HBe.out.cell (p := ⟨b, off + i, none⟩) hb]; exact hc
      have HR := Lib.hid (hr.below HBe.out rfl)
      have HTn : Hid (A.take i ++ [A.getD i []] = A.take (i + 1)) := take_snoc_getD A [] i hiA
      have hRl := HL.out i hiA
      obtain ⟨R, HRR⟩ := hid_of (A.getD i [])
      obtain ⟨Ts, HTs⟩ := hid_of (A.take i)
      rw [HTs.out] at HCt HTn HTi
      rw [HRR.out] at HTn HR hc' hRl
      have HRl := Lib.hid hRl
      obtain ⟨rl, Hrl⟩ := hid_of R.length
      rw [Hrl.out] at hc' HR
      have hc2 : (wr.alloc (.cells #[] 5)).cell? ⟨b, off + i, none⟩ = some (.slice ua rl uc) := by rw [((Below.refl wr.heap.size wr).alloc (Nat.le_refl _) _).cell (p := ⟨b, off + i, none⟩) (World.block_lt_of_cell? wr _ hc')]; exact hc'
      clear hrow hc hr hu1 hRl hiA hc'
      go_wp2_with (at_builtin; refine stopped ?_)
      refine going (wpList_append_bytes _ rfl _ _ 29 29 rfl wr.heap.size 5 5 Try.underlying29 Try.underlying29 infoByte _ [] 0 rfl (own_empty (w := wr) (Nat.le_refl _) rfl) _ R rfl (HR.out.below ((Below.refl wr.heap.size wr).alloc (Nat.le_refl _) _) rfl) (by have := HRl.out; simp; omega) (by simp) ?_)
      intro v3 w3 ho3 hb3 hg3
      rw [List.nil_append] at ho3
      have hb3' : Below wr.heap.size wr w3 := ((Below.refl wr.heap.size wr).alloc (Nat.le_refl _) _).trans hb3
      have HO3 := Lib.hid ho3
      have HB3 := Lib.hid hb3'
      have HRb3 := Lib.hid (RB.own ho3)
      obtain ⟨va, vc, rfl, _, _⟩ := own_shape ho3
      clear ho3 hb3 hg3 hb3' hc2 HR
      go_wp2_with (at_builtin; refine stopped ?_)
      have hba : Below wr.heap.size wr (w3.alloc (.cells #[.slice va R.length vc] 29)) := HB3.out.alloc HB3.out.size _
      refine going (wpList_push_row _ rfl _ _ 22 rfl w.heap.size 29 Try.underlying22 infoRow _ Ts rfl (HCt.out.below hba rfl) w3.heap.size (.slice va R.length vc) R rfl (by rw [cell_of_row _ _ 0 _ _ _ (heap_alloc_new w3 _)]; rfl) (HRb3.out.below ((Below.refl w3.heap.size w3).alloc (Nat.le_refl _) _) rfl) (fun _ x hx hx2 => by have h1 := (HO3.out.lt x hx).1; have h2 := (HCt.out.lt x hx2).2; omega) (by rw [HTi.out]; omega) (by have := HBe.out.size; have := hba.size; omega) ?_)
      intro v4 w4 ho4 hb4 hg4
      rw [HTn.out] at ho4
      have HO4 := Lib.hid ho4
      have HB4 : Hid (Below w.heap.size w w4) := HBe.out.trans ((hba.mono HBe.out.size).trans hb4)
      clear ho4 hb4 hg4 hba
      go_wp2
      go_roundw
      case rel => exact ⟨i + 1, by omega, by go_num, HO4.out, HB4.out⟩
      case measure => simp [intOf]; omega
    · obtain rfl : n = i := by omega
      have he : A.take n = A := List.take_of_length_le (by rw [Hn.out]; omega)
      rw [he] at HCt
      clear he
      go_wp2
      go_ret
      exact ⟨_, rfl, HCt.out, HBe.out⟩
end Go.Proofs.Ytdcjcbfnniimpaa
