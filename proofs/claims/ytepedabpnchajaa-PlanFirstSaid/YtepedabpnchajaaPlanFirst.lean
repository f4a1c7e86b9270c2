/-
  kist/plan.First.
-/
import Derived.Test.YtepedabpnchajaaPlanFlag
import Derived.Test.YtepedabpnchajaaRsLack
namespace Go.Proofs.Ytepedabpnchajaa
open Go.RowKit
set_option linter.unusedVariables false
set_option linter.unusedSimpArgs false

theorem OI.start_nil {base : Nat} {e : TypeId} {w : World} : OI base e w (.slice none 0 0) [] := World.ownsRow_nil w base e 1
/-- what First answers -/
def FirstOk (B : Nat) (w' : World) (bad : List Bool) (G : Nat) (e : Ending) : Prop :=
  (Plan.Few bad G ∧ e = .returned (.tuple #[.slice none 0 0, .bool false])) ∨
    (¬ Plan.Few bad G ∧ ∃ v, e = .returned (.tuple #[v, .bool (decide (0 < G))]) ∧ OI B 3 w' v (Plan.firsts bad G))
set_option maxRecDepth 100000 in
set_option maxHeartbeats 4000000 in
theorem first_any (key sum : ByteArray) (gen size : Int) (pa : Option Addr) (n pc : Nat) (bv : Value) (bad : List Bool) (w : World) (h : RF w bv bad) (hn : n ≤ 1000) :
    Calls Try.prog 10 #[.agg #[.string key, .int .i64 gen, .int .i64 size, .string sum, .slice pa n pc], bv] w fun e w' => FirstOk w.heap.size w' bad (n / 10) e ∧ Below w.heap.size w w' := by
  obtain ⟨G, HG⟩ := hid_of (n / 10)
  have hG : G ≤ 100 := by rw [← HG.out]; omega
  have hgi : (n : Int) / 10 = (G : Int) := by rw [← HG.out]; omega
  rw [HG.out]
  have HF : Hid (∀ (wx : World) (s : Nat), Below w.heap.size w wx → s ≤ 1000000 → Calls Try.prog 22 #[bv, .int .i64 (s : Int)] wx fun e w' => e = .returned (.bool (Plan.said bad s)) ∧ ∃ d, w' = wx.drewN d) := fun wx s hb hs => flag_any bv bad s wx (h.below hb rfl) hs
  have hnd : (n : Int) ≤ 1000 := by omega
  clear h
  have HB0 : Hid (Below w.heap.size w (w.alloc (.cells #[.string key, .int .i64 gen, .int .i64 size, .string sum, .slice pa n pc] 24))) := (Below.refl _ _).alloc (Nat.le_refl _) _
  go_enter Try.func10, Try.ntmps10
  go_wp2
  go_loopw [6, 15] (fun u x wr => ∃ g : Nat, g ≤ G ∧ x = .int .i64 (g : Int) ∧ (∀ g', g' < g → ¬ (Plan.pickN bad g' 10).length < 8) ∧ OI w.heap.size 3 wr u (Plan.firsts bad g) ∧ Below w.heap.size w wr) (fun _ x _ => G - (intOf x).toNat)
  case atStart => exact ⟨0, by omega, rfl, fun g' h => by omega, OI.start_nil, HB0.out⟩
  case round =>
    clear HB0
    obtain ⟨g, hg, rfl, hall, hct, hbe⟩ := hrel
    have HAll := Lib.hid hall
    have HCt := Lib.hid hct
    have HBe := Lib.hid hbe
    have HFl := Lib.hid (Plan.firsts_len bad g)
    have HFs := Lib.hid (Plan.firsts_succ bad g)
    clear hall hct hbe
    obtain ⟨Fs, HFn⟩ := hid_of (Plan.firsts bad g)
    rw [HFn.out] at HCt HFl HFs
    by_cases hlt : g < G
    · have hgi' : (g : Int) < (G : Int) := by omega
      have HC0 : Hid (OI w.heap.size 3 wr u6 (Fs ++ Plan.pickN bad g 0)) := by rw [Plan.pickN_zero, List.append_nil]; exact HCt.out
      go_wp2
      go_loopw [6, 8, 9] (fun u y x wr => ∃ i : Nat, i ≤ 10 ∧ x = .int .i64 (i : Int) ∧ y = .int .i64 ((Plan.pickN bad g i).length : Int) ∧ OI w.heap.size 3 wr u (Fs ++ Plan.pickN bad g i) ∧ Below w.heap.size w wr) (fun _ _ x _ => 10 - (intOf x).toNat)
      case atStart => exact ⟨0, by omega, rfl, rfl, HC0.out, HBe.out⟩
      case round =>
        clear HC0
        obtain ⟨i, hi, rfl, rfl, hci, hbi⟩ := hrel
        have HCi := Lib.hid hci
        have HBi := Lib.hid hbi
        clear hci hbi
        have HLe := Plan.pickN_len bad g i
        by_cases hgo : i < 10 ∧ (Plan.pickN bad g i).length < 8
        · obtain ⟨hi10, hl8⟩ := hgo
          have hii : (i : Int) < 10 := by omega
          have HFi : Hid (Calls Try.prog 22 #[bv, .int .i64 ((g : Int) * 10 + (i : Int))] wr fun e w' => e = .returned (.bool (Plan.said bad (10 * g + i))) ∧ ∃ d, w' = wr.drewN d) := by
            have := HF.out wr (10 * g + i) HBi.out (by omega)
            rw [show (((10 * g + i : Nat) : Nat) : Int) = (g : Int) * 10 + (i : Int) by omega] at this
            exact this
          cases hsd : Plan.said bad (10 * g + i)
          · have HPm := Lib.hid (Plan.pickN_more hsd hl8)
            obtain ⟨Ps, HPs⟩ := hid_of (Plan.pickN bad g i)
            rw [HPs.out] at HCi HPm HLe hl8 ⊢
            have hl8' : ((Ps.length : Nat) : Int) < 8 := by omega
            rw [hsd] at HFi
            clear hsd hl8
            go_wp2_with fail
            refine HFi.out.mono ?_
            rintro e w1 ⟨rfl, d, rfl⟩
            have HC1 : Hid (OI w.heap.size 3 (wr.drewN d) u6 (Fs ++ Ps)) := HCi.out
            have HB1 : Hid (Below w.heap.size w (wr.drewN d)) := Below.drewN2 HBi.out d
            go_wp2_with (at_builtin; refine stopped ?_)
            have hba : Below (wr.drewN d).heap.size (wr.drewN d) ((wr.drewN d).alloc (.cells #[.int .i64 ((g : Int) * 10 + (i : Int))] 3)) := (Below.refl _ _).alloc (Nat.le_refl _) _
            refine going (wpList_push_int _ rfl _ _ 27 rfl w.heap.size 3 Try.underlying27 infoInt _ (Fs ++ Ps) rfl (HC1.out.below hba rfl) wr.heap.size (10 * g + i) rfl (by rw [show (wr.heap.size : Nat) = (wr.drewN d).heap.size from rfl, cell_of_row _ _ 0 _ _ _ (heap_alloc_new (wr.drewN d) _), show (((10 * g + i : Nat) : Nat) : Int) = (g : Int) * 10 + (i : Int) by omega]; rfl) (by have := HFl.out; rw [List.length_append]; omega) (Nat.le_trans HB1.out.size hba.size) ?_)
            intro v3 w3 ho3 hb3 hg3
            rw [List.append_assoc, ← HPm.out] at ho3
            have HPl : Hid ((Plan.pickN bad g (i + 1)).length = Ps.length + 1) := by rw [HPm.out, List.length_append]; exact Lib.hid rfl
            have HO3 := Lib.hid ho3
            have HB3 : Hid (Below w.heap.size w w3) := HB1.out.trans ((hba.mono HB1.out.size).trans hb3)
            clear ho3 hb3 hg3 hba
            go_wp2
            go_roundw
            case rel => exact ⟨i + 1, by omega, by go_num, by rw [HPl.out]; go_num, HO3.out, HB3.out⟩
            case measure => simp [intOf]; omega
          · have HPb := Lib.hid (Plan.pickN_bad hsd)
            rw [hsd] at HFi
            obtain ⟨Ps, HPs⟩ := hid_of (Plan.pickN bad g i)
            rw [HPs.out] at HCi HPb HLe hl8 ⊢
            have hl8' : ((Ps.length : Nat) : Int) < 8 := by omega
            clear hsd hl8
            go_wp2_with fail
            refine HFi.out.mono ?_
            rintro e w1 ⟨rfl, d, rfl⟩
            have HC1 : Hid (OI w.heap.size 3 (wr.drewN d) u6 (Fs ++ Ps)) := HCi.out
            have HB1 : Hid (Below w.heap.size w (wr.drewN d)) := Below.drewN2 HBi.out d
            go_wp2
            go_roundw
            case rel => exact ⟨i + 1, by omega, by go_num, by rw [HPb.out], by rw [HPb.out]; exact HC1.out, HB1.out⟩
            case measure => simp [intOf]; omega
        · have HPt : Hid (Plan.pickN bad g 10 = Plan.pickN bad g i) := by
            by_cases e : i = 10
            · rw [e]; exact Lib.hid rfl
            · exact Plan.pickN_on (fun h => hgo ⟨by omega, h⟩) 10 hi
          rw [HPt.out] at HFs
          have HLe2 := HLe
          by_cases hl8 : (Plan.pickN bad g i).length < 8
          · have HFew : Hid (Plan.Few bad G) := ⟨g, hlt, by rw [HPt.out]; exact hl8⟩
            obtain ⟨Ps, HPs⟩ := hid_of (Plan.pickN bad g i)
            rw [HPs.out] at HCi HFs HLe hl8 hgo ⊢
            have hii : ¬ (i : Int) < 10 := by omega
            have hl8' : ((Ps.length : Nat) : Int) < 8 := by omega
            clear hl8 hgo
            go_wp2
            go_ret2
            exact ⟨.inl ⟨HFew.out, rfl⟩, HBi.out⟩
          · have HAl2 : Hid (∀ g', g' < g + 1 → ¬ (Plan.pickN bad g' 10).length < 8) := fun g' hg' => by
              by_cases e : g' = g
              · rw [e, HPt.out]; exact hl8
              · exact HAll.out g' (by omega)
            obtain ⟨Ps, HPs⟩ := hid_of (Plan.pickN bad g i)
            rw [HPs.out] at HCi HFs HLe hl8 hgo ⊢
            have hl8' : ¬ ((Ps.length : Nat) : Int) < 8 := by omega
            clear hl8 hgo
            go_wp2
            all_goals exact ⟨⟨g + 1, by omega, by go_num, HAl2.out, by rw [HFs.out]; exact HCi.out, HBi.out⟩, by simp [intOf]; omega⟩
    · obtain rfl : g = G := by omega
      have HNf : Hid (¬ Plan.Few bad g) := Plan.few_no HAll.out
      have HPo := Lib.hid (Plan.firsts_pos bad g HAll.out)
      rw [HFn.out] at HPo
      obtain ⟨va, vc, rfl, -, -⟩ := HCt.out.shape
      have hgi' : ¬ (g : Int) < (g : Int) := by omega
      have HPo2 : Hid (decide (0 < Fs.length) = decide (0 < g)) := by
        show decide _ = decide _
        rw [decide_eq_decide, HPo.out]
      go_wp2
      go_ret2
      exact ⟨.inr ⟨HNf.out, .slice va Fs.length vc, by rw [← HPo2.out]; rfl, by rw [HFn.out]; exact HCt.out⟩, HBe.out⟩
end Go.Proofs.Ytepedabpnchajaa
