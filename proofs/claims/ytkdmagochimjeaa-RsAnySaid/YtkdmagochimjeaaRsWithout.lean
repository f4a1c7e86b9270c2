/-
  kistlaw03.without.
-/
import Derived.Test.YtkdmagochimjeaaRsFill
namespace Go.Proofs.Ytkdmagochimjeaa
open Go.RowKit
set_option linter.unusedVariables false

/-- is shard i to lack? -/
def bitL (a : Int) (i : Nat) : Bool := bits .and .u16 (a / 2 ^ i) 1 == 1
/-- how many lack before i -/
def lackN (a : Int) (i : Nat) : Nat := ((List.range i).filter fun i => bitL a i).length
theorem lackN_succ (a : Int) (i : Nat) : lackN a (i + 1) = if bitL a i then lackN a i + 1 else lackN a i := by
  unfold lackN
  rw [List.range_succ, List.filter_append]
  by_cases h : bitL a i <;> simp [h]
theorem lackN_le (a : Int) (i : Nat) : lackN a i ≤ i := by
  unfold lackN
  exact Nat.le_trans (List.length_filter_le _ _) (by simp)
theorem lackN_not (a : Int) : ((List.range 10).filter fun i => !bitL a i).length + lackN a 10 = 10 := by
  have := two_parts (List.range 10) (fun i => bitL a i)
  simp only [List.length_range] at this
  unfold lackN
  omega
/-- the first i of lackT -/
def lackTo (d : List UInt8) (a : Int) (i : Nat) : List (List UInt8) := (List.range i).map fun i => if bitL a i then [] else line 16 (encF d i)
theorem lackTo_succ (d : List UInt8) (a : Int) (i : Nat) : lackTo d a (i + 1) = lackTo d a i ++ [if bitL a i then [] else line 16 (encF d i)] := by
  simp [lackTo, List.range_succ]
theorem lackTo_length (d : List UInt8) (a : Int) (i : Nat) : (lackTo d a i).length = i := by simp [lackTo]
theorem lackTo_ten (d : List UInt8) (a : Int) : lackTo d a 10 = lackT d (fun i => bitL a i) := rfl
set_option maxRecDepth 100000 in
set_option maxHeartbeats 4000000 in
theorem without_any (v : Value) (d : List UInt8) (a : Int) (w : World) (h : RT w v (encT d)) (ha : (Lit.int .u16 a).wf = true) :
    Calls Try.prog 17 #[v, .int .u16 a] w fun e w' => ∃ v, e = .returned (.tuple #[v, .int .i64 (lackN a 10 : Int)]) ∧ RT w' v (lackT d (fun i => bitL a i)) ∧ Below w.heap.size w w' := by
  obtain ⟨pa, pc, rfl, hp1, hp2⟩ := h.shape
  have ht : (encT d).length = 10 := tab_length _ _ _
  obtain ⟨pg, po, rfl, hpg, hprow⟩ := h.row (by rw [ht]; omega)
  rw [ht] at hp1 hprow ⊢
  simp only [maxLen] at hp2
  have HPr := Lib.hid hprow
  have HPg := Lib.hid hpg
  have HA := Lib.hid ha
  have HC0 : Hid (CTb w.heap.size 22 (w.alloc (.cells #[] 22)) (.slice (some ⟨w.heap.size, 0, none⟩) 0 0) (lackTo d a 0)) := CTb.start (w := w) (Nat.le_refl _) rfl
  have HB0 : Hid (Below w.heap.size w (w.alloc (.cells #[] 22))) := (Below.refl _ _).alloc (Nat.le_refl _) _
  clear h hprow hpg ht ha
  go_enter Try.func17, Try.ntmps17
  go_wp2
  go_loopw [6, 7, 8] (fun v y x wr => ∃ i : Nat, i ≤ 10 ∧ x = .int .i64 (i : Int) ∧ y = .int .i64 (lackN a i : Int) ∧ CTb w.heap.size 22 wr v (lackTo d a i) ∧ Below w.heap.size w wr) (fun _ _ x _ => 10 - (intOf x).toNat)
  case atStart => exact ⟨0, by omega, rfl, rfl, HC0.out, HB0.out⟩
  case round =>
    clear HC0 HB0
    obtain ⟨i, hi, rfl, rfl, hct, hbe⟩ := hrel
    have HU := lackN_le a i
    have HUs := lackN_succ a i
    have HTs := lackTo_succ d a i
    obtain ⟨oa, oc, rfl, ho1, ho2⟩ := hct.shape
    rw [lackTo_length] at ho1 hct ⊢
    simp only [maxLen] at ho2
    have HCt := Lib.hid hct
    have HBe := Lib.hid hbe
    clear hct hbe
    obtain ⟨U, Hu⟩ := hid_of (lackN a i)
    rw [Hu.out] at HU HUs ⊢
    obtain ⟨Ts, HTn⟩ := hid_of (lackTo d a i)
    have HTl : Hid (Ts.length = i) := by rw [← HTn.out]; exact lackTo_length _ _ _
    rw [HTn.out] at HTs HCt
    by_cases hlt : i < 10
    · have hi10 : (i : Int) < 10 := by omega
      have hu10 : (U : Int) ≤ 10 := by omega
      by_cases hL : bitL a i = true
      · rw [if_pos hL] at HUs HTs
        have hL' : (bits .and .u16 (a / 2 ^ i) 1 == 1) = true := hL
        have HU' := Lib.hid HUs
        have HTn2 := Lib.hid HTs
        have HE : Hid (RB (wr.alloc (.cells #[] 5)) (.slice (some ⟨wr.heap.size, 0, none⟩) 0 0) []) := RB.own (own_empty (w := wr) (Nat.le_refl _) rfl)
        clear HUs HTs hL
        go_wp2_with (at_builtin; refine stopped ?_)
        have hba : Below wr.heap.size wr ((wr.alloc (.cells #[] 5)).alloc (.cells #[.slice (some ⟨wr.heap.size, 0, none⟩) 0 0] 22)) := ((Below.refl wr.heap.size wr).alloc (Nat.le_refl _) _).alloc (by simp) _
        refine going (wpList_push_row _ rfl _ _ 23 rfl w.heap.size 22 Try.underlying23 infoRow _ Ts rfl (HCt.out.below hba rfl) (wr.heap.size + 1) (.slice (some ⟨wr.heap.size, 0, none⟩) 0 0) [] rfl (by have e := cell_of_row _ _ 0 _ _ _ (heap_alloc_new (wr.alloc (.cells #[] 5)) (.cells #[.slice (some ⟨wr.heap.size, 0, none⟩) 0 0] 22)); rw [World.size_alloc] at e; rw [e]; rfl) (HE.out.below ((Below.refl _ _).alloc (Nat.le_refl _) _) rfl) (fun h => by simp at h) (by rw [HTl.out]; omega) (by have := HBe.out.size; have := hba.size; omega) ?_)
        intro v3 w3 ho3 hb3 hg3
        rw [← HTn2.out] at ho3
        have HO3 := Lib.hid ho3
        have HB3 : Hid (Below w.heap.size w w3) := HBe.out.trans ((hba.mono HBe.out.size).trans hb3)
        clear ho3 hb3 hg3 hba
        go_wp2
        go_roundw
        case rel => exact ⟨i + 1, by omega, by go_num, by rw [HU'.out]; go_num, HO3.out, HB3.out⟩
        case measure => simp [intOf]; omega
      · rw [if_neg hL] at HUs HTs
        have hL' : (bits .and .u16 (a / 2 ^ i) 1 == 1) = false := Bool.eq_false_iff.2 hL
        have HU' := Lib.hid HUs
        have HTn2 := Lib.hid HTs
        obtain ⟨u, hc, hr⟩ := HPr.out i hlt
        rw [show (encT d).getD i [] = line 16 (encF d i) from tab_getD _ _ _ _ hlt] at hr
        obtain ⟨ua, uc, rfl, hu1, hu2⟩ := hr.shape
        rw [line_length] at hc hr hu1
        have hba0 : Below wr.heap.size wr (wr.alloc (.cells #[] 5)) := (Below.refl _ _).alloc (Nat.le_refl _) _
        have hc' : (wr.alloc (.cells #[] 5)).cell? ⟨pg, po + i, none⟩ = some (.slice ua 16 uc) := by
          rw [hba0.cell (p := ⟨pg, po + i, none⟩) (by have := HBe.out.size; have := HPg.out; simp only; omega), HBe.out.cell (p := ⟨pg, po + i, none⟩) HPg.out]
          exact hc
        have HSl := Lib.hid ((hr.below HBe.out rfl).below hba0 rfl)
        obtain ⟨L, HL⟩ := hid_of (line 16 (encF d i))
        have HLn : Hid (L.length = 16) := by rw [← HL.out]; exact line_length _ _
        rw [HL.out] at HSl HTn2
        clear HUs HTs hL hc hr hba0
        go_wp2_with (at_builtin; refine stopped ?_)
        refine going (wpList_append_bytes _ rfl _ _ 22 22 rfl wr.heap.size 5 5 Try.underlying22 Try.underlying22 infoByte _ [] 0 rfl (own_empty (w := wr) (Nat.le_refl _) rfl) _ L rfl HSl.out (by rw [HLn.out]; simp) (by simp) ?_)
        intro v3 w3 ho3 hb3 hg3
        rw [List.nil_append] at ho3
        have hb3' : Below wr.heap.size wr w3 := ((Below.refl wr.heap.size wr).alloc (Nat.le_refl _) _).trans hb3
        have HO3 := Lib.hid ho3
        have HB3 := Lib.hid hb3'
        have HRb3 := Lib.hid (RB.own ho3)
        obtain ⟨va, vc, rfl, _, _⟩ := own_shape ho3
        rw [HLn.out] at HO3 HRb3 ⊢
        clear ho3 hb3 hg3 hb3' hc'
        go_wp2_with (at_builtin; refine stopped ?_)
        have hba : Below wr.heap.size wr (w3.alloc (.cells #[.slice va 16 vc] 22)) := HB3.out.alloc HB3.out.size _
        refine going (wpList_push_row _ rfl _ _ 23 rfl w.heap.size 22 Try.underlying23 infoRow _ Ts rfl (HCt.out.below hba rfl) w3.heap.size (.slice va 16 vc) L rfl (by rw [cell_of_row _ _ 0 _ _ _ (heap_alloc_new w3 _)]; rfl) (HRb3.out.below ((Below.refl w3.heap.size w3).alloc (Nat.le_refl _) _) rfl) (fun _ x hx hx2 => by have h1 := (HO3.out.lt x hx).1; have h2 := (HCt.out.lt x hx2).2; omega) (by rw [HTl.out]; omega) (by have := HBe.out.size; have := hba.size; omega) ?_)
        intro v4 w4 ho4 hb4 hg4
        rw [← HTn2.out] at ho4
        have HO4 := Lib.hid ho4
        have HB4 : Hid (Below w.heap.size w w4) := HBe.out.trans ((hba.mono HBe.out.size).trans hb4)
        clear ho4 hb4 hg4 hba
        go_wp2
        go_roundw
        case rel => exact ⟨i + 1, by omega, by go_num, by rw [HU'.out], HO4.out, HB4.out⟩
        case measure => simp [intOf]; omega
    · obtain rfl : i = 10 := by omega
      have HR : Hid (RT wr (.slice oa 10 oc) (lackT d (fun i => bitL a i))) := by
        have := HCt.out.read
        rw [← HTn.out] at this
        exact this
      rw [show ((10 : Nat) : Int) = 10 from rfl]
      go_wp2
      go_ret2
      rw [Hu.out]
      exact ⟨_, rfl, HR.out, HBe.out⟩
end Go.Proofs.Ytkdmagochimjeaa
