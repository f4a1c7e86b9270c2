/-
  kistref19.First.
-/
import Derived.Test.YtepedabpnchajaaPlanFirst
namespace Go.Proofs.Ytepedabpnchajaa
open Go.RowKit
set_option linter.unusedVariables false
set_option linter.unusedSimpArgs false

set_option maxRecDepth 100000 in
set_option maxHeartbeats 4000000 in
theorem refFirst_any (key sum : ByteArray) (gen size : Int) (pa : Option Addr) (n pc : Nat) (bv : Value) (bad : List Bool) (w : World) (h : RF w bv bad) (hn : n ≤ 1000) :
    Calls Try.prog 11 #[.agg #[.string key, .int .i64 gen, .int .i64 size, .string sum, .slice pa n pc], bv] w fun e w' => FirstOk w.heap.size w' bad (n / 10) e ∧ Below w.heap.size w w' := by
  obtain ⟨G, HG⟩ := hid_of (n / 10)
  have hG : G ≤ 100 := by rw [← HG.out]; omega
  rw [HG.out]
  have HF : Hid (∀ (wx : World) (s : Nat), Below w.heap.size w wx → s ≤ 1000000 → Calls Try.prog 23 #[bv, .int .i64 (s : Int)] wx fun e w' => e = .returned (.bool (Plan.said bad s)) ∧ ∃ d, w' = wx.drewN d) := fun wx s hb hs => said_any bv bad s wx (h.below hb rfl) hs
  have hnd : (n : Int) ≤ 1000 := by omega
  clear h
  have HNG : Hid (n / 10 = G) := HG.out
  have HB0 : Hid (Below w.heap.size w ((w.alloc (.cells #[.string key, .int .i64 gen, .int .i64 size, .string sum, .slice pa n pc] 24)).alloc (.cells #[] 3))) := ((Below.refl _ _).alloc (Nat.le_refl _) _).alloc (by simp) _
  have HI0 : Hid (OI w.heap.size 3 ((w.alloc (.cells #[.string key, .int .i64 gen, .int .i64 size, .string sum, .slice pa n pc] 24)).alloc (.cells #[] 3)) (.slice (some ⟨w.heap.size + 1, 0, none⟩) 0 0) (Plan.firsts bad 0)) := OI.start (w := w.alloc (.cells #[.string key, .int .i64 gen, .int .i64 size, .string sum, .slice pa n pc] 24)) (by simp) (by simp)
  have hent : (w.alloc (.cells #[.string key, .int .i64 gen, .int .i64 size, .string sum, .slice pa n pc] 24)).cell? ⟨w.heap.size, 4, none⟩ = some (.slice pa n pc) := by rw [cell_of_row _ _ 4 _ _ _ (heap_alloc_new w _)]; rfl
  have hent2 : ((w.alloc (.cells #[.string key, .int .i64 gen, .int .i64 size, .string sum, .slice pa n pc] 24)).alloc (.cells #[] 3)).cell? ⟨w.heap.size, 4, none⟩ = some (.slice pa n pc) := by rw [((Below.refl (w.alloc (.cells #[.string key, .int .i64 gen, .int .i64 size, .string sum, .slice pa n pc] 24)).heap.size _).alloc (Nat.le_refl _) _).cell (p := ⟨w.heap.size, 4, none⟩) (by simp)]; exact hent
  have HEn := Lib.hid hent2
  clear hent hent2
  go_enter Try.func11, Try.ntmps11
  go_wp2
  go_loopw [6, 7] (fun u x wr => ∃ g : Nat, g ≤ G ∧ x = .int .i64 (10 * (g : Int)) ∧ (∀ g', g' < g → ¬ (Plan.pickN bad g' 10).length < 8) ∧ OI w.heap.size 3 wr u (Plan.firsts bad g) ∧ wr.cell? ⟨w.heap.size, 4, none⟩ = some (.slice pa n pc) ∧ (∀ k, u.ownBlock = some k → w.heap.size < k) ∧ Below w.heap.size w wr) (fun _ x _ => G - (intOf x).toNat / 10)
  case atStart => exact ⟨0, by omega, rfl, fun g' h => by omega, HI0.out, HEn.out, fun k hk => by simp [Value.ownBlock] at hk; omega, HB0.out⟩
  case round =>
    clear HB0 HI0 HEn
    obtain ⟨g, hg, rfl, hall, hct, hcell, hown, hbe⟩ := hrel
    have HAll := Lib.hid hall
    have HCt := Lib.hid hct
    have HCe := Lib.hid hcell
    have HOw := Lib.hid hown
    have HBe := Lib.hid hbe
    have HFl := Lib.hid (Plan.firsts_len bad g)
    have HFs := Lib.hid (Plan.firsts_succ bad g)
    clear hall hct hbe hown
    obtain ⟨Fs, HFn⟩ := hid_of (Plan.firsts bad g)
    rw [HFn.out] at HCt HFl HFs
    by_cases hlt : g < G
    · have hgi' : 10 * (g : Int) + 10 ≤ (n : Int) := by have := HNG.out; omega
      have HC0 : Hid (OI w.heap.size 3 wr u6 (Fs ++ Plan.pickN bad g 0)) := by rw [Plan.pickN_zero, List.append_nil]; exact HCt.out
      go_wp2
      clear hcell
      go_loopw [6, 8, 9] (fun u y x wr => ∃ i : Nat, i ≤ 10 ∧ x = .int .i64 (i : Int) ∧ y = .int .i64 ((Plan.pickN bad g i).length : Int) ∧ OI w.heap.size 3 wr u (Fs ++ Plan.pickN bad g i) ∧ wr.cell? ⟨w.heap.size, 4, none⟩ = some (.slice pa n pc) ∧ (∀ k, u.ownBlock = some k → w.heap.size < k) ∧ Below w.heap.size w wr) (fun _ _ x _ => 10 - (intOf x).toNat)
      case atStart => exact ⟨0, by omega, rfl, rfl, HC0.out, HCe.out, HOw.out, HBe.out⟩
      case round =>
        clear HC0
        obtain ⟨i, hi, rfl, rfl, hci, hce, hoi, hbi⟩ := hrel
        have HCi := Lib.hid hci
        have HCei := Lib.hid hce
        have HOi := Lib.hid hoi
        have HBi := Lib.hid hbi
        clear hci hbi hce hoi
        have HLe := Plan.pickN_len bad g i
        by_cases hi10 : i < 10
        · have hii : (i : Int) < 10 := by omega
          have HFi : Hid (Calls Try.prog 23 #[bv, .int .i64 (10 * (g : Int) + (i : Int))] wr fun e w' => e = .returned (.bool (Plan.said bad (10 * g + i))) ∧ ∃ d, w' = wr.drewN d) := by
            have := HF.out wr (10 * g + i) HBi.out (by omega)
            rw [show (((10 * g + i : Nat) : Nat) : Int) = 10 * (g : Int) + (i : Int) by omega] at this
            exact this
          by_cases hl8 : (Plan.pickN bad g i).length < 8
          · cases hsd : Plan.said bad (10 * g + i)
            · have HPm := Lib.hid (Plan.pickN_more hsd hl8)
              obtain ⟨Ps, HPs⟩ := hid_of (Plan.pickN bad g i)
              rw [HPs.out] at HCi HPm HLe hl8 ⊢
              have hl8' : ((Ps.length : Nat) : Int) < 8 := by omega
              rw [hsd] at HFi
              clear hsd hl8
              go_wp2_with fail
              refine HFi.out.mono ?_
              rintro e w1 ⟨rfl, d, rfl⟩
              have HC1 : Hid (OI w.heap.size 3 (wr.drewN d) u6 (Fs ++ Ps)) := HCi.out
              have HB1 : Hid (Below w.heap.size w (wr.drewN d)) := Below.drewN2 HBi.out d
              go_wp2_with (at_builtin; refine stopped ?_)
              have hba : Below (wr.drewN d).heap.size (wr.drewN d) ((wr.drewN d).alloc (.cells #[.int .i64 (10 * (g : Int) + (i : Int))] 3)) := (Below.refl _ _).alloc (Nat.le_refl _) _
              refine going (wpList_push_int _ rfl _ _ 27 rfl w.heap.size 3 Try.underlying27 infoInt _ (Fs ++ Ps) rfl (HC1.out.below hba rfl) wr.heap.size (10 * g + i) rfl (by rw [show (wr.heap.size : Nat) = (wr.drewN d).heap.size from rfl, cell_of_row _ _ 0 _ _ _ (heap_alloc_new (wr.drewN d) _), show (((10 * g + i : Nat) : Nat) : Int) = 10 * (g : Int) + (i : Int) by omega]; rfl) (by have := HFl.out; rw [List.length_append]; omega) (Nat.le_trans HB1.out.size hba.size) ?_)
              intro v3 w3 ho3 hb3 hg3
              rw [List.append_assoc, ← HPm.out] at ho3
              have HPl : Hid ((Plan.pickN bad g (i + 1)).length = Ps.length + 1) := by rw [HPm.out, List.length_append]; exact Lib.hid rfl
              have HO3 := Lib.hid ho3
              have HB3 : Hid (Below w.heap.size w w3) := HB1.out.trans ((hba.mono HB1.out.size).trans hb3)
              have hlw : w.heap.size < wr.heap.size := World.block_lt_of_cell? wr _ HCei.out
              have HCe3 : Hid (w3.cell? ⟨w.heap.size, 4, none⟩ = some (.slice pa n pc)) := by
                have h1 : ((wr.drewN d).alloc (.cells #[.int .i64 (10 * (g : Int) + (i : Int))] 3)).cell? ⟨w.heap.size, 4, none⟩ = some (.slice pa n pc) := by rw [hba.cell (p := ⟨w.heap.size, 4, none⟩) hlw]; exact HCei.out
                exact ((Fr.refl (fun k => w.heap.size < k) _).grown hg3.1 (fun k hk _ => HOi.out k hk)).cell h1 (by simp)
              have HO4 : Hid (∀ k, v3.ownBlock = some k → w.heap.size < k) := fun k hk => by
                rcases hg3.2 k hk with h | h
                · exact HOi.out k h
                · have h2 := hba.size
                  have h3 : (wr.drewN d).heap.size = wr.heap.size := rfl
                  omega
              clear ho3 hb3 hg3 hba
              go_wp2
              go_roundw
              case rel => exact ⟨i + 1, by omega, by go_num, by rw [HPl.out]; go_num, HO3.out, HCe3.out, HO4.out, HB3.out⟩
              case measure => simp [intOf]; omega
            · have HPb := Lib.hid (Plan.pickN_bad hsd)
              rw [hsd] at HFi
              obtain ⟨Ps, HPs⟩ := hid_of (Plan.pickN bad g i)
              rw [HPs.out] at HCi HPb HLe hl8 ⊢
              have hl8' : ((Ps.length : Nat) : Int) < 8 := by omega
              clear hsd hl8
              go_wp2_with fail
              refine HFi.out.mono ?_
              rintro e w1 ⟨rfl, d, rfl⟩
              have HC1 : Hid (OI w.heap.size 3 (wr.drewN d) u6 (Fs ++ Ps)) := HCi.out
              have HB1 : Hid (Below w.heap.size w (wr.drewN d)) := Below.drewN2 HBi.out d
              go_wp2
              go_roundw
              case rel => exact ⟨i + 1, by omega, by go_num, by rw [HPb.out], by rw [HPb.out]; exact HC1.out, HCei.out, HOi.out, HB1.out⟩
              case measure => simp [intOf]; omega
          · have HPb := Lib.hid (Plan.pickN_full hl8)
            obtain ⟨Ps, HPs⟩ := hid_of (Plan.pickN bad g i)
            rw [HPs.out] at HCi HPb HLe hl8 ⊢
            have hl8' : ¬ ((Ps.length : Nat) : Int) < 8 := by omega
            clear hl8
            go_wp2
            go_roundw
            case rel => exact ⟨i + 1, by omega, by go_num, by rw [HPb.out], by rw [HPb.out]; exact HCi.out, HCei.out, HOi.out, HBi.out⟩
            case measure => simp [intOf]; omega
        · obtain rfl : i = 10 := by omega
          rw [show ((10 : Nat) : Int) = 10 from rfl]
          by_cases hl8 : (Plan.pickN bad g 10).length < 8
          · have HFew : Hid (Plan.Few bad G) := ⟨g, hlt, hl8⟩
            obtain ⟨Ps, HPs⟩ := hid_of (Plan.pickN bad g 10)
            rw [HPs.out] at HCi HFs HLe hl8 ⊢
            have hl8' : ((Ps.length : Nat) : Int) < 8 := by omega
            clear hl8
            go_wp2
            go_ret2
            exact ⟨.inl ⟨HFew.out, rfl⟩, HBi.out⟩
          · have HAl2 : Hid (∀ g', g' < g + 1 → ¬ (Plan.pickN bad g' 10).length < 8) := fun g' hg' => by
              by_cases e : g' = g
              · rw [e]; exact hl8
              · exact HAll.out g' (by omega)
            obtain ⟨Ps, HPs⟩ := hid_of (Plan.pickN bad g 10)
            rw [HPs.out] at HCi HFs HLe hl8 ⊢
            have hl8' : ¬ ((Ps.length : Nat) : Int) < 8 := by omega
            clear hl8
            go_wp2
            all_goals exact ⟨⟨g + 1, by omega, by go_num, HAl2.out, by rw [HFs.out]; exact HCi.out, HCei.out, HOi.out, HBi.out⟩, by simp [intOf]; omega⟩
    · obtain rfl : g = G := by omega
      have HNf : Hid (¬ Plan.Few bad g) := Plan.few_no HAll.out
      have HPo := Lib.hid (Plan.firsts_pos bad g HAll.out)
      rw [HFn.out] at HPo
      obtain ⟨va, vc, rfl, -, -⟩ := HCt.out.shape
      have hgi' : ¬ 10 * (g : Int) + 10 ≤ (n : Int) := by have := HNG.out; omega
      have HPo2 : Hid (decide (0 < Fs.length) = decide (0 < g)) := by
        show decide _ = decide _
        rw [decide_eq_decide, HPo.out]
      go_wp2
      go_ret2
      exact ⟨.inr ⟨HNf.out, .slice va Fs.length vc, by rw [← HPo2.out]; rfl, by rw [HFn.out]; exact HCt.out⟩, HBe.out⟩
end Go.Proofs.Ytepedabpnchajaa
