/-
  kist/plan.flag, kistref19.said.
-/
import Derived.Test.YtepedabpnchajaaPlanLaw
import Derived.Test.YtepedabpnchajaaChecked
import Derived.Test.YtepedabpnchajaaRsLack

namespace Go.Proofs.Ytepedabpnchajaa
open Go.RowKit
set_option linter.unusedVariables false
set_option linter.unusedSimpArgs false

/-- a truth -/
def CF (w : World) (cs : List Value) (x : Bool) : Prop := cs = [.bool x]
theorem CF.stable : Stable CF := fun _ _ _ _ _ h => h
theorem CF.of_trod {H : Type} {enc : TypeId × Value → H} {P : Program} {w : World} {t : TypeId} {fuel : Nat} {cs : List Value} {y : DataW H × List MemPlace} (ht : P.underlying t = some .bool) (h : DataW.trod enc P w 0 (fun _ => true) true fuel t cs = some y) : ∃ x, CF w cs x := by
  obtain ⟨b, hb, _⟩ := DataW.trod_bool ht h
  exact ⟨b, hb⟩
/-- truths in memory -/
def RF (w : World) (v : Value) (l : List Bool) : Prop := RSl CF 1 w v l
theorem RF.below {w w' : World} {v : Value} {l : List Bool} (h : RF w v l) {B : Nat} (hb : Below B w w') (hB : B = w.heap.size) : RF w' v l := RSl.below CF.stable h hb hB
theorem RF.shape {w : World} {v : Value} {l : List Bool} (h : RF w v l) : ∃ a c, v = .slice a l.length c ∧ l.length ≤ c ∧ c ≤ maxLen := RSl.shape h
theorem RF.at {w : World} {a : Option Addr} {n c : Nat} {l : List Bool} (h : RF w (.slice a n c) l) {i : Nat} (hi : i < l.length) : ∃ b off, a = some ⟨b, off, none⟩ ∧ w.cell? ⟨b, off + i, none⟩ = some (.bool (l.getD i false)) := by
  obtain ⟨b, off, c', he, cs, hl, hc, hr⟩ := RSl.at h i hi
  simp only [Value.slice.injEq] at he
  obtain ⟨rfl, -, -⟩ := he
  have h0 := hc 0 (by omega)
  have hr' : cs = [.bool l[i]] := hr
  subst hr'
  refine ⟨b, off, rfl, ?_⟩
  simpa [List.getD_eq_getElem?_getD, hi] using h0
theorem RF.nil (w : World) : RF w (.slice none 0 0) [] := ⟨none, 0, rfl, Nat.le_refl _, Nat.zero_le _, fun _ => rfl, .inl rfl⟩
theorem said_out {l : List Bool} {s : Nat} (h : ¬ s < l.length) : Plan.said l s = false := by
  simp [Plan.said, List.getD_eq_getElem?_getD, List.getElem?_eq_none (show l.length ≤ s by omega)]
set_option maxHeartbeats 1000000 in
theorem flag_any (v : Value) (l : List Bool) (s : Nat) (w : World) (h : RF w v l) (hs : s ≤ 1000000) :
    Calls Try.prog 22 #[v, .int .i64 (s : Int)] w fun e w' => e = .returned (.bool (Plan.said l s)) ∧ ∃ d, w' = w.drewN d := by
  obtain ⟨a, c, rfl, h1, h2⟩ := h.shape
  have H := Lib.hid h
  simp only [maxLen] at h2
  obtain ⟨n, Hn⟩ := hid_of l.length
  rw [Hn.out] at h1 H ⊢
  clear h
  by_cases hlt : s < n
  · have hin : (s : Int) < (n : Int) := by omega
    obtain ⟨b, off, rfl, hc⟩ := H.out.at (i := s) (by rw [Hn.out]; exact hlt)
    have hs' : l.getD s false = Plan.said l s := rfl
    rw [hs'] at hc
    obtain ⟨x, HX⟩ := hid_of (Plan.said l s)
    rw [HX.out] at hc ⊢
    clear hs'
    go_enter Try.func22, Try.ntmps22
    go_wp2
    go_ret
    exact ⟨rfl, 0, rfl⟩
  · have hin : ¬ (s : Int) < (n : Int) := by omega
    rw [said_out (by rw [Hn.out]; exact hlt)]
    go_enter Try.func22, Try.ntmps22
    go_wp2
    go_ret
    exact ⟨rfl, 0, rfl⟩
set_option maxHeartbeats 1000000 in
theorem said_any (v : Value) (l : List Bool) (s : Nat) (w : World) (h : RF w v l) (hs : s ≤ 1000000) :
    Calls Try.prog 23 #[v, .int .i64 (s : Int)] w fun e w' => e = .returned (.bool (Plan.said l s)) ∧ ∃ d, w' = w.drewN d := by
  obtain ⟨a, c, rfl, h1, h2⟩ := h.shape
  have H := Lib.hid h
  simp only [maxLen] at h2
  obtain ⟨n, Hn⟩ := hid_of l.length
  rw [Hn.out] at h1 H ⊢
  clear h
  by_cases hlt : s < n
  · have hin : (s : Int) < (n : Int) := by omega
    obtain ⟨b, off, rfl, hc⟩ := H.out.at (i := s) (by rw [Hn.out]; exact hlt)
    have hs' : l.getD s false = Plan.said l s := rfl
    rw [hs'] at hc
    obtain ⟨x, HX⟩ := hid_of (Plan.said l s)
    rw [HX.out] at hc ⊢
    clear hs'
    go_enter Try.func23, Try.ntmps23
    go_wp2
    go_ret
    exact ⟨rfl, 0, rfl⟩
  · have hin : ¬ (s : Int) < (n : Int) := by omega
    rw [said_out (by rw [Hn.out]; exact hlt)]
    go_enter Try.func23, Try.ntmps23
    go_wp2
    go_ret
    exact ⟨rfl, 0, rfl⟩
end Go.Proofs.Ytepedabpnchajaa

/-
  kist/plan.First.
-/
namespace Go.Proofs.Ytepedabpnchajaa
open Go.RowKit
set_option linter.unusedVariables false
set_option linter.unusedSimpArgs false

theorem OI.start_nil {base : Nat} {e : TypeId} {w : World} : OI base e w (.slice none 0 0) [] := World.ownsRow_nil w base e 1
/-- what First answers -/
def FirstOk (B : Nat) (w' : World) (bad : List Bool) (G : Nat) (e : Ending) : Prop :=
  (Plan.Few bad G ∧ e = .returned (.tuple #[.slice none 0 0, .bool false])) ∨
    (¬ Plan.Few bad G ∧ ∃ v, e = .returned (.tuple #[v, .bool (decide (0 < G))]) ∧ OI B 3 w' v (Plan.firsts bad G))
set_option maxRecDepth 100000 in
set_option maxHeartbeats 4000000 in
theorem first_any (key sum : ByteArray) (gen size : Int) (pa : Option Addr) (n pc : Nat) (bv : Value) (bad : List Bool) (w : World) (h : RF w bv bad) (hn : n ≤ 1000) :
    Calls Try.prog 10 #[.agg #[.string key, .int .i64 gen, .int .i64 size, .string sum, .slice pa n pc], bv] w fun e w' => FirstOk w.heap.size w' bad (n / 10) e ∧ Below w.heap.size w w' := by
  obtain ⟨G, HG⟩ := hid_of (n / 10)
  have hG : G ≤ 100 := by rw [← HG.out]; omega
  have hgi : (n : Int) / 10 = (G : Int) := by rw [← HG.out]; omega
  rw [HG.out]
  have HF : Hid (∀ (wx : World) (s : Nat), Below w.heap.size w wx → s ≤ 1000000 → Calls Try.prog 22 #[bv, .int .i64 (s : Int)] wx fun e w' => e = .returned (.bool (Plan.said bad s)) ∧ ∃ d, w' = wx.drewN d) := fun wx s hb hs => flag_any bv bad s wx (h.below hb rfl) hs
  have hnd : (n : Int) ≤ 1000 := by omega
  clear h
  have HB0 : Hid (Below w.heap.size w (w.alloc (.cells #[.string key, .int .i64 gen, .int .i64 size, .string sum, .slice pa n pc] 24))) := (Below.refl _ _).alloc (Nat.le_refl _) _
  go_enter Try.func10, Try.ntmps10
  go_wp2
  go_loopw [6, 15] (fun u x wr => ∃ g : Nat, g ≤ G ∧ x = .int .i64 (g : Int) ∧ (∀ g', g' < g → ¬ (Plan.pickN bad g' 10).length < 8) ∧ OI w.heap.size 3 wr u (Plan.firsts bad g) ∧ Below w.heap.size w wr) (fun _ x _ => G - (intOf x).toNat)
  case atStart => exact ⟨0, by omega, rfl, fun g' h => by omega, OI.start_nil, HB0.out⟩
  case round =>
    clear HB0
    obtain ⟨g, hg, rfl, hall, hct, hbe⟩ := hrel
    have HAll := Lib.hid hall
    have HCt := Lib.hid hct
    have HBe := Lib.hid hbe
    have HFl := Lib.hid (Plan.firsts_len bad g)
    have HFs := Lib.hid (Plan.firsts_succ bad g)
    clear hall hct hbe
    obtain ⟨Fs, HFn⟩ := hid_of (Plan.firsts bad g)
    rw [HFn.out] at HCt HFl HFs
    by_cases hlt : g < G
    · have hgi' : (g : Int) < (G : Int) := by omega
      have HC0 : Hid (OI w.heap.size 3 wr u6 (Fs ++ Plan.pickN bad g 0)) := by rw [Plan.pickN_zero, List.append_nil]; exact HCt.out
      go_wp2
      go_loopw [6, 8, 9] (fun u y x wr => ∃ i : Nat, i ≤ 10 ∧ x = .int .i64 (i : Int) ∧ y = .int .i64 ((Plan.pickN bad g i).length : Int) ∧ OI w.heap.size 3 wr u (Fs ++ Plan.pickN bad g i) ∧ Below w.heap.size w wr) (fun _ _ x _ => 10 - (intOf x).toNat)
      case atStart => exact ⟨0, by omega, rfl, rfl, HC0.out, HBe.out⟩
      case round =>
        clear HC0
        obtain ⟨i, hi, rfl, rfl, hci, hbi⟩ := hrel
        have HCi := Lib.hid hci
        have HBi := Lib.hid hbi
        clear hci hbi
        have HLe := Plan.pickN_len bad g i
        by_cases hgo : i < 10 ∧ (Plan.pickN bad g i).length < 8
        · obtain ⟨hi10, hl8⟩ := hgo
          have hii : (i : Int) < 10 := by omega
          have HFi : Hid (Calls Try.prog 22 #[bv, .int .i64 ((g : Int) * 10 + (i : Int))] wr fun e w' => e = .returned (.bool (Plan.said bad (10 * g + i))) ∧ ∃ d, w' = wr.drewN d) := by
            have := HF.out wr (10 * g + i) HBi.out (by omega)
            rw [show (((10 * g + i : Nat) : Nat) : Int) = (g : Int) * 10 + (i : Int) by omega] at this
            exact this
          cases hsd : Plan.said bad (10 * g + i)
          · have HPm := Lib.hid (Plan.pickN_more hsd hl8)
            obtain ⟨Ps, HPs⟩ := hid_of (Plan.pickN bad g i)
            rw [HPs.out] at HCi HPm HLe hl8 ⊢
            have hl8' : ((Ps.length : Nat) : Int) < 8 := by omega
            rw [hsd] at HFi
            clear hsd hl8
            go_wp2_with fail
            refine HFi.out.mono ?_
            rintro e w1 ⟨rfl, d, rfl⟩
            have HC1 : Hid (OI w.heap.size 3 (wr.drewN d) u6 (Fs ++ Ps)) := HCi.out
            have HB1 : Hid (Below w.heap.size w (wr.drewN d)) := Below.drewN2 HBi.out d
            go_wp2_with (at_builtin; refine stopped ?_)
            have hba : Below (wr.drewN d).heap.size (wr.drewN d) ((wr.drewN d).alloc (.cells #[.int .i64 ((g : Int) * 10 + (i : Int))] 3)) := (Below.refl _ _).alloc (Nat.le_refl _) _
            refine going (wpList_push_int _ rfl _ _ 27 rfl w.heap.size 3 Try.underlying27 infoInt _ (Fs ++ Ps) rfl (HC1.out.below hba rfl) wr.heap.size (10 * g + i) rfl (by rw [show (wr.heap.size : Nat) = (wr.drewN d).heap.size from rfl, cell_of_row _ _ 0 _ _ _ (heap_alloc_new (wr.drewN d) _), show (((10 * g + i : Nat) : Nat) : Int) = (g : Int) * 10 + (i : Int) by omega]; rfl) (by have := HFl.out; rw [List.length_append]; omega) (Nat.le_trans HB1.out.size hba.size) ?_)
            intro v3 w3 ho3 hb3 hg3
            rw [List.append_assoc, ← HPm.out] at ho3
            have HPl : Hid ((Plan.pickN bad g (i + 1)).length = Ps.length + 1) := by rw [HPm.out, List.length_append]; exact Lib.hid rfl
            have HO3 := Lib.hid ho3
            have HB3 : Hid (Below w.heap.size w w3) := HB1.out.trans ((hba.mono HB1.out.size).trans hb3)
            clear ho3 hb3 hg3 hba
            go_wp2
            go_roundw
            case rel => exact ⟨i + 1, by omega, by go_num, by rw [HPl.out]; go_num, HO3.out, HB3.out⟩
            case measure => simp [intOf]; omega
          · have HPb := Lib.hid (Plan.pickN_bad hsd)
            rw [hsd] at HFi
            obtain ⟨Ps, HPs⟩ := hid_of (Plan.pickN bad g i)
            rw [HPs.out] at HCi HPb HLe hl8 ⊢
            have hl8' : ((Ps.length : Nat) : Int) < 8 := by omega
            clear hsd hl8
            go_wp2_with fail
            refine HFi.out.mono ?_
            rintro e w1 ⟨rfl, d, rfl⟩
            have HC1 : Hid (OI w.heap.size 3 (wr.drewN d) u6 (Fs ++ Ps)) := HCi.out
            have HB1 : Hid (Below w.heap.size w (wr.drewN d)) := Below.drewN2 HBi.out d
            go_wp2
            go_roundw
            case rel => exact ⟨i + 1, by omega, by go_num, by rw [HPb.out], by rw [HPb.out]; exact HC1.out, HB1.out⟩
            case measure => simp [intOf]; omega
        · have HPt : Hid (Plan.pickN bad g 10 = Plan.pickN bad g i) := by
            by_cases e : i = 10
            · rw [e]; exact Lib.hid rfl
            · exact Plan.pickN_on (fun h => hgo ⟨by omega, h⟩) 10 hi
          rw [HPt.out] at HFs
          have HLe2 := HLe
          by_cases hl8 : (Plan.pickN bad g i).length < 8
          · have HFew : Hid (Plan.Few bad G) := ⟨g, hlt, by rw [HPt.out]; exact hl8⟩
            obtain ⟨Ps, HPs⟩ := hid_of (Plan.pickN bad g i)
            rw [HPs.out] at HCi HFs HLe hl8 hgo ⊢
            have hii : ¬ (i : Int) < 10 := by omega
            have hl8' : ((Ps.length : Nat) : Int) < 8 := by omega
            clear hl8 hgo
            go_wp2
            go_ret2
            exact ⟨.inl ⟨HFew.out, rfl⟩, HBi.out⟩
          · have HAl2 : Hid (∀ g', g' < g + 1 → ¬ (Plan.pickN bad g' 10).length < 8) := fun g' hg' => by
              by_cases e : g' = g
              · rw [e, HPt.out]; exact hl8
              · exact HAll.out g' (by omega)
            obtain ⟨Ps, HPs⟩ := hid_of (Plan.pickN bad g i)
            rw [HPs.out] at HCi HFs HLe hl8 hgo ⊢
            have hl8' : ¬ ((Ps.length : Nat) : Int) < 8 := by omega
            clear hl8 hgo
            go_wp2
            all_goals exact ⟨⟨g + 1, by omega, by go_num, HAl2.out, by rw [HFs.out]; exact HCi.out, HBi.out⟩, by simp [intOf]; omega⟩
    · obtain rfl : g = G := by omega
      have HNf : Hid (¬ Plan.Few bad g) := Plan.few_no HAll.out
      have HPo := Lib.hid (Plan.firsts_pos bad g HAll.out)
      rw [HFn.out] at HPo
      obtain ⟨va, vc, rfl, -, -⟩ := HCt.out.shape
      have hgi' : ¬ (g : Int) < (g : Int) := by omega
      have HPo2 : Hid (decide (0 < Fs.length) = decide (0 < g)) := by
        show decide _ = decide _
        rw [decide_eq_decide, HPo.out]
      go_wp2
      go_ret2
      exact ⟨.inr ⟨HNf.out, .slice va Fs.length vc, by rw [← HPo2.out]; rfl, by rw [HFn.out]; exact HCt.out⟩, HBe.out⟩
end Go.Proofs.Ytepedabpnchajaa

/-
  kistref19.First.
-/
namespace Go.Proofs.Ytepedabpnchajaa
open Go.RowKit
set_option linter.unusedVariables false
set_option linter.unusedSimpArgs false

set_option maxRecDepth 100000 in
set_option maxHeartbeats 4000000 in
theorem refFirst_any (key sum : ByteArray) (gen size : Int) (pa : Option Addr) (n pc : Nat) (bv : Value) (bad : List Bool) (w : World) (h : RF w bv bad) (hn : n ≤ 1000) :
    Calls Try.prog 11 #[.agg #[.string key, .int .i64 gen, .int .i64 size, .string sum, .slice pa n pc], bv] w fun e w' => FirstOk w.heap.size w' bad (n / 10) e ∧ Below w.heap.size w w' := by
  obtain ⟨G, HG⟩ := hid_of (n / 10)
  have hG : G ≤ 100 := by rw [← HG.out]; omega
  rw [HG.out]
  have HF : Hid (∀ (wx : World) (s : Nat), Below w.heap.size w wx → s ≤ 1000000 → Calls Try.prog 23 #[bv, .int .i64 (s : Int)] wx fun e w' => e = .returned (.bool (Plan.said bad s)) ∧ ∃ d, w' = wx.drewN d) := fun wx s hb hs => said_any bv bad s wx (h.below hb rfl) hs
  have hnd : (n : Int) ≤ 1000 := by omega
  clear h
  have HNG : Hid (n / 10 = G) := HG.out
  have HB0 : Hid (Below w.heap.size w ((w.alloc (.cells #[.string key, .int .i64 gen, .int .i64 size, .string sum, .slice pa n pc] 24)).alloc (.cells #[] 3))) := ((Below.refl _ _).alloc (Nat.le_refl _) _).alloc (by simp) _
  have HI0 : Hid (OI w.heap.size 3 ((w.alloc (.cells #[.string key, .int .i64 gen, .int .i64 size, .string sum, .slice pa n pc] 24)).alloc (.cells #[] 3)) (.slice (some ⟨w.heap.size + 1, 0, none⟩) 0 0) (Plan.firsts bad 0)) := OI.start (w := w.alloc (.cells #[.string key, .int .i64 gen, .int .i64 size, .string sum, .slice pa n pc] 24)) (by simp) (by simp)
  have hent : (w.alloc (.cells #[.string key, .int .i64 gen, .int .i64 size, .string sum, .slice pa n pc] 24)).cell? ⟨w.heap.size, 4, none⟩ = some (.slice pa n pc) := by rw [cell_of_row _ _ 4 _ _ _ (heap_alloc_new w _)]; rfl
  have hent2 : ((w.alloc (.cells #[.string key, .int .i64 gen, .int .i64 size, .string sum, .slice pa n pc] 24)).alloc (.cells #[] 3)).cell? ⟨w.heap.size, 4, none⟩ = some (.slice pa n pc) := by rw [((Below.refl (w.alloc (.cells #[.string key, .int .i64 gen, .int .i64 size, .string sum, .slice pa n pc] 24)).heap.size _).alloc (Nat.le_refl _) _).cell (p := ⟨w.heap.size, 4, none⟩) (by simp)]; exact hent
  have HEn := Lib.hid hent2
  clear hent hent2
  go_enter Try.func11, Try.ntmps11
  go_wp2
  go_loopw [6, 7] (fun u x wr => ∃ g : Nat, g ≤ G ∧ x = .int .i64 (10 * (g : Int)) ∧ (∀ g', g' < g → ¬ (Plan.pickN bad g' 10).length < 8) ∧ OI w.heap.size 3 wr u (Plan.firsts bad g) ∧ wr.cell? ⟨w.heap.size, 4, none⟩ = some (.slice pa n pc) ∧ (∀ k, u.ownBlock = some k → w.heap.size < k) ∧ Below w.heap.size w wr) (fun _ x _ => G - (intOf x).toNat / 10)
  case atStart => exact ⟨0, by omega, rfl, fun g' h => by omega, HI0.out, HEn.out, fun k hk => by simp [Value.ownBlock] at hk; omega, HB0.out⟩
  case round =>
    clear HB0 HI0 HEn
    obtain ⟨g, hg, rfl, hall, hct, hcell, hown, hbe⟩ := hrel
    have HAll := Lib.hid hall
    have HCt := Lib.hid hct
    have HCe := Lib.hid hcell
    have HOw := Lib.hid hown
    have HBe := Lib.hid hbe
    have HFl := Lib.hid (Plan.firsts_len bad g)
    have HFs := Lib.hid (Plan.firsts_succ bad g)
    clear hall hct hbe hown
    obtain ⟨Fs, HFn⟩ := hid_of (Plan.firsts bad g)
    rw [HFn.out] at HCt HFl HFs
    by_cases hlt : g < G
    · have hgi' : 10 * (g : Int) + 10 ≤ (n : Int) := by have := HNG.out; omega
      have HC0 : Hid (OI w.heap.size 3 wr u6 (Fs ++ Plan.pickN bad g 0)) := by rw [Plan.pickN_zero, List.append_nil]; exact HCt.out
      go_wp2
      clear hcell
      go_loopw [6, 8, 9] (fun u y x wr => ∃ i : Nat, i ≤ 10 ∧ x = .int .i64 (i : Int) ∧ y = .int .i64 ((Plan.pickN bad g i).length : Int) ∧ OI w.heap.size 3 wr u (Fs ++ Plan.pickN bad g i) ∧ wr.cell? ⟨w.heap.size, 4, none⟩ = some (.slice pa n pc) ∧ (∀ k, u.ownBlock = some k → w.heap.size < k) ∧ Below w.heap.size w wr) (fun _ _ x _ => 10 - (intOf x).toNat)
      case atStart => exact ⟨0, by omega, rfl, rfl, HC0.out, HCe.out, HOw.out, HBe.out⟩
      case round =>
        clear HC0
        obtain ⟨i, hi, rfl, rfl, hci, hce, hoi, hbi⟩ := hrel
        have HCi := Lib.hid hci
        have HCei := Lib.hid hce
        have HOi := Lib.hid hoi
        have HBi := Lib.hid hbi
        clear hci hbi hce hoi
        have HLe := Plan.pickN_len bad g i
        by_cases hi10 : i < 10
        · have hii : (i : Int) < 10 := by omega
          have HFi : Hid (Calls Try.prog 23 #[bv, .int .i64 (10 * (g : Int) + (i : Int))] wr fun e w' => e = .returned (.bool (Plan.said bad (10 * g + i))) ∧ ∃ d, w' = wr.drewN d) := by
            have := HF.out wr (10 * g + i) HBi.out (by omega)
            rw [show (((10 * g + i : Nat) : Nat) : Int) = 10 * (g : Int) + (i : Int) by omega] at this
            exact this
          by_cases hl8 : (Plan.pickN bad g i).length < 8
          · cases hsd : Plan.said bad (10 * g + i)
            · have HPm := Lib.hid (Plan.pickN_more hsd hl8)
              obtain ⟨Ps, HPs⟩ := hid_of (Plan.pickN bad g i)
              rw [HPs.out] at HCi HPm HLe hl8 ⊢
              have hl8' : ((Ps.length : Nat) : Int) < 8 := by omega
              rw [hsd] at HFi
              clear hsd hl8
              go_wp2_with fail
              refine HFi.out.mono ?_
              rintro e w1 ⟨rfl, d, rfl⟩
              have HC1 : Hid (OI w.heap.size 3 (wr.drewN d) u6 (Fs ++ Ps)) := HCi.out
              have HB1 : Hid (Below w.heap.size w (wr.drewN d)) := Below.drewN2 HBi.out d
              go_wp2_with (at_builtin; refine stopped ?_)
              have hba : Below (wr.drewN d).heap.size (wr.drewN d) ((wr.drewN d).alloc (.cells #[.int .i64 (10 * (g : Int) + (i : Int))] 3)) := (Below.refl _ _).alloc (Nat.le_refl _) _
              refine going (wpList_push_int _ rfl _ _ 27 rfl w.heap.size 3 Try.underlying27 infoInt _ (Fs ++ Ps) rfl (HC1.out.below hba rfl) wr.heap.size (10 * g + i) rfl (by rw [show (wr.heap.size : Nat) = (wr.drewN d).heap.size from rfl, cell_of_row _ _ 0 _ _ _ (heap_alloc_new (wr.drewN d) _), show (((10 * g + i : Nat) : Nat) : Int) = 10 * (g : Int) + (i : Int) by omega]; rfl) (by have := HFl.out; rw [List.length_append]; omega) (Nat.le_trans HB1.out.size hba.size) ?_)
              intro v3 w3 ho3 hb3 hg3
              rw [List.append_assoc, ← HPm.out] at ho3
              have HPl : Hid ((Plan.pickN bad g (i + 1)).length = Ps.length + 1) := by rw [HPm.out, List.length_append]; exact Lib.hid rfl
              have HO3 := Lib.hid ho3
              have HB3 : Hid (Below w.heap.size w w3) := HB1.out.trans ((hba.mono HB1.out.size).trans hb3)
              have hlw : w.heap.size < wr.heap.size := World.block_lt_of_cell? wr _ HCei.out
              have HCe3 : Hid (w3.cell? ⟨w.heap.size, 4, none⟩ = some (.slice pa n pc)) := by
                have h1 : ((wr.drewN d).alloc (.cells #[.int .i64 (10 * (g : Int) + (i : Int))] 3)).cell? ⟨w.heap.size, 4, none⟩ = some (.slice pa n pc) := by rw [hba.cell (p := ⟨w.heap.size, 4, none⟩) hlw]; exact HCei.out
                exact ((Fr.refl (fun k => w.heap.size < k) _).grown hg3.1 (fun k hk _ => HOi.out k hk)).cell h1 (by simp)
              have HO4 : Hid (∀ k, v3.ownBlock = some k → w.heap.size < k) := fun k hk => by
                rcases hg3.2 k hk with h | h
                · exact HOi.out k h
                · have h2 := hba.size
                  have h3 : (wr.drewN d).heap.size = wr.heap.size := rfl
                  omega
              clear ho3 hb3 hg3 hba
              go_wp2
              go_roundw
              case rel => exact ⟨i + 1, by omega, by go_num, by rw [HPl.out]; go_num, HO3.out, HCe3.out, HO4.out, HB3.out⟩
              case measure => simp [intOf]; omega
            · have HPb := Lib.hid (Plan.pickN_bad hsd)
              rw [hsd] at HFi
              obtain ⟨Ps, HPs⟩ := hid_of (Plan.pickN bad g i)
              rw [HPs.out] at HCi HPb HLe hl8 ⊢
              have hl8' : ((Ps.length : Nat) : Int) < 8 := by omega
              clear hsd hl8
              go_wp2_with fail
              refine HFi.out.mono ?_
              rintro e w1 ⟨rfl, d, rfl⟩
              have HC1 : Hid (OI w.heap.size 3 (wr.drewN d) u6 (Fs ++ Ps)) := HCi.out
              have HB1 : Hid (Below w.heap.size w (wr.drewN d)) := Below.drewN2 HBi.out d
              go_wp2
              go_roundw
              case rel => exact ⟨i + 1, by omega, by go_num, by rw [HPb.out], by rw [HPb.out]; exact HC1.out, HCei.out, HOi.out, HB1.out⟩
              case measure => simp [intOf]; omega
          · have HPb := Lib.hid (Plan.pickN_full hl8)
            obtain ⟨Ps, HPs⟩ := hid_of (Plan.pickN bad g i)
            rw [HPs.out] at HCi HPb HLe hl8 ⊢
            have hl8' : ¬ ((Ps.length : Nat) : Int) < 8 := by omega
            clear hl8
            go_wp2
            go_roundw
            case rel => exact ⟨i + 1, by omega, by go_num, by rw [HPb.out], by rw [HPb.out]; exact HCi.out, HCei.out, HOi.out, HBi.out⟩
            case measure => simp [intOf]; omega
        · obtain rfl : i = 10 := by omega
          rw [show ((10 : Nat) : Int) = 10 from rfl]
          by_cases hl8 : (Plan.pickN bad g 10).length < 8
          · have HFew : Hid (Plan.Few bad G) := ⟨g, hlt, hl8⟩
            obtain ⟨Ps, HPs⟩ := hid_of (Plan.pickN bad g 10)
            rw [HPs.out] at HCi HFs HLe hl8 ⊢
            have hl8' : ((Ps.length : Nat) : Int) < 8 := by omega
            clear hl8
            go_wp2
            go_ret2
            exact ⟨.inl ⟨HFew.out, rfl⟩, HBi.out⟩
          · have HAl2 : Hid (∀ g', g' < g + 1 → ¬ (Plan.pickN bad g' 10).length < 8) := fun g' hg' => by
              by_cases e : g' = g
              · rw [e]; exact hl8
              · exact HAll.out g' (by omega)
            obtain ⟨Ps, HPs⟩ := hid_of (Plan.pickN bad g 10)
            rw [HPs.out] at HCi HFs HLe hl8 ⊢
            have hl8' : ¬ ((Ps.length : Nat) : Int) < 8 := by omega
            clear hl8
            go_wp2
            all_goals exact ⟨⟨g + 1, by omega, by go_num, HAl2.out, by rw [HFs.out]; exact HCi.out, HCei.out, HOi.out, HBi.out⟩, by simp [intOf]; omega⟩
    · obtain rfl : g = G := by omega
      have HNf : Hid (¬ Plan.Few bad g) := Plan.few_no HAll.out
      have HPo := Lib.hid (Plan.firsts_pos bad g HAll.out)
      rw [HFn.out] at HPo
      obtain ⟨va, vc, rfl, -, -⟩ := HCt.out.shape
      have hgi' : ¬ 10 * (g : Int) + 10 ≤ (n : Int) := by have := HNG.out; omega
      have HPo2 : Hid (decide (0 < Fs.length) = decide (0 < g)) := by
        show decide _ = decide _
        rw [decide_eq_decide, HPo.out]
      go_wp2
      go_ret2
      exact ⟨.inr ⟨HNf.out, .slice va Fs.length vc, by rw [← HPo2.out]; rfl, by rw [HFn.out]; exact HCt.out⟩, HBe.out⟩
end Go.Proofs.Ytepedabpnchajaa

/-
  kist/plan.More, kistref19.More.
-/
namespace Go.Proofs.Ytepedabpnchajaa
open Go.RowKit
set_option linter.unusedVariables false
set_option linter.unusedSimpArgs false

set_option maxRecDepth 100000 in
set_option maxHeartbeats 4000000 in
theorem more_any (key sum : ByteArray) (gen size : Int) (pa : Option Addr) (n pc : Nat) (bv : Value) (asked : List Bool) (slot : Int) (w : World) (h : RF w bv asked) (hn : n ≤ 1000) :
    Calls Try.prog 12 #[.agg #[.string key, .int .i64 gen, .int .i64 size, .string sum, .slice pa n pc], bv, .int .i64 slot] w fun e w' => e = .returned (.tuple #[.int .i64 (Plan.moreR n asked slot).1, .bool (Plan.moreR n asked slot).2]) ∧ Below w.heap.size w w' := by
  have HF : Hid (∀ (wx : World) (s : Nat), Below w.heap.size w wx → s ≤ 1000000 → Calls Try.prog 22 #[bv, .int .i64 (s : Int)] wx fun e w' => e = .returned (.bool (Plan.said asked s)) ∧ ∃ d, w' = wx.drewN d) := fun wx s hb hs => flag_any bv asked s wx (h.below hb rfl) hs
  have hnd : (n : Int) ≤ 1000 := by omega
  clear h
  have HB0 : Hid (Below w.heap.size w (w.alloc (.cells #[.string key, .int .i64 gen, .int .i64 size, .string sum, .slice pa n pc] 24))) := (Below.refl _ _).alloc (Nat.le_refl _) _
  by_cases h0 : slot < 0
  · have HM := Lib.hid (Plan.more_out (n := n) (asked := asked) (slot := slot) (.inl h0))
    rw [HM.out]
    go_enter Try.func12, Try.ntmps12
    go_wp2
    go_ret2
    exact ⟨rfl, HB0.out⟩
  by_cases h1 : (n : Int) ≤ slot
  · have HM := Lib.hid (Plan.more_out (n := n) (asked := asked) (slot := slot) (.inr h1))
    rw [HM.out]
    go_enter Try.func12, Try.ntmps12
    go_wp2
    go_ret2
    exact ⟨rfl, HB0.out⟩
  obtain ⟨s, rfl⟩ : ∃ s : Nat, slot = (s : Int) := ⟨slot.toNat, by omega⟩
  have hlt : s < n := by omega
  have HNO : Hid (¬ ((s : Int) < 0 ∨ (n : Int) ≤ (s : Int))) := fun h => by omega
  obtain ⟨q, Hq⟩ := hid_of (s / 10)
  have hq : (s : Int) / 10 = (q : Int) := by rw [← Hq.out]; omega
  have hqn : 10 * q ≤ s ∧ s < 10 * q + 10 := by rw [← Hq.out]; omega
  have HMY : Hid (∀ k, k < n → k / 10 = q → Plan.said asked k = false → (∀ j, j < k → j / 10 = q → Plan.said asked j = true) → Plan.moreR n asked (s : Int) = ((k : Int), true)) := fun k h1 h2 h3 h4 => Plan.more_yes HNO.out h1 (by rw [h2, ← Hq.out]; rfl) h3 (fun j hj he => h4 j hj (by rw [he, ← Hq.out]; rfl))
  have HMN : Hid ((∀ j, j < n → j / 10 = q → Plan.said asked j = true) → Plan.moreR n asked (s : Int) = (0, false)) := fun h4 => Plan.more_no (fun j hj he => h4 j hj (by rw [he, ← Hq.out]; rfl))
  have hcell : (w.alloc (.cells #[.string key, .int .i64 gen, .int .i64 size, .string sum, .slice pa n pc] 24)).cell? ⟨w.heap.size, 4, none⟩ = some (.slice pa n pc) := by rw [cell_of_row _ _ 4 _ _ _ (heap_alloc_new w _)]; rfl
  have HCe := Lib.hid hcell
  have hs0 : ¬ ((s : Int) < 0) := h0
  clear hcell h0
  go_enter Try.func12, Try.ntmps12
  go_wp2
  go_loopw [9] (fun x wr => ∃ i : Nat, i ≤ 10 ∧ x = .int .i64 ((q : Int) * 10 + (i : Int)) ∧ (∀ j, j < 10 * q + i → j / 10 = q → Plan.said asked j = true) ∧ wr.cell? ⟨w.heap.size, 4, none⟩ = some (.slice pa n pc) ∧ Below w.heap.size w wr) (fun x _ => 10 * q + 10 - (intOf x).toNat)
  case atStart => exact ⟨0, by omega, by go_num, fun j hj he => by omega, HCe.out, HB0.out⟩
  case round =>
    clear HB0 HCe
    obtain ⟨i, hi, rfl, hall, hcell, hbe⟩ := hrel
    have HAll := Lib.hid hall
    have HCe := Lib.hid hcell
    have HBe := Lib.hid hbe
    clear hall hbe
    by_cases hgo : i < 10 ∧ 10 * q + i < n
    · obtain ⟨hi10, hin⟩ := hgo
      have hmin : (q : Int) * 10 + (i : Int) < (if (n : Int) < (q : Int) * 10 + 10 then (n : Int) else (q : Int) * 10 + 10) := by split <;> omega
      have HFi : Hid (Calls Try.prog 22 #[bv, .int .i64 ((q : Int) * 10 + (i : Int))] wr fun e w' => e = .returned (.bool (Plan.said asked (10 * q + i))) ∧ ∃ d, w' = wr.drewN d) := by
        have := HF.out wr (10 * q + i) HBe.out (by omega)
        rw [show (((10 * q + i : Nat) : Nat) : Int) = (q : Int) * 10 + (i : Int) by omega] at this
        exact this
      cases hsd : Plan.said asked (10 * q + i)
      · have HM := Lib.hid (HMY.out (10 * q + i) hin (by omega) hsd HAll.out)
        rw [hsd] at HFi
        have HPo : Hid (∀ (e : Ending) (w' : World), (e = .returned (.tuple #[.int .i64 ((q : Int) * 10 + (i : Int)), .bool true]) ∧ Below w.heap.size w w') → (e = .returned (.tuple #[.int .i64 (Plan.moreR n asked (s : Int)).1, .bool (Plan.moreR n asked (s : Int)).2]) ∧ Below w.heap.size w w')) := fun e w' h => by
          rw [HM.out, show (((10 * q + i : Nat) : Nat) : Int) = (q : Int) * 10 + (i : Int) by omega]
          exact h
        clear hsd
        go_wp2_with fail
        all_goals
          refine HFi.out.mono ?_
          rintro e w1 ⟨rfl, d, rfl⟩
          have HB1 : Hid (Below w.heap.size w (wr.drewN d)) := Below.drewN2 HBe.out d
          go_wp2
          go_ret2
          exact HPo.out _ _ ⟨rfl, HB1.out⟩
      · have HAl2 : Hid (∀ j, j < 10 * q + (i + 1) → j / 10 = q → Plan.said asked j = true) := fun j hj he => by
          by_cases e : j = 10 * q + i
          · rw [e]; exact hsd
          · exact HAll.out j (by omega) he
        rw [hsd] at HFi
        clear hsd
        go_wp2_with fail
        all_goals
          refine HFi.out.mono ?_
          rintro e w1 ⟨rfl, d, rfl⟩
          have HB1 : Hid (Below w.heap.size w (wr.drewN d)) := Below.drewN2 HBe.out d
          go_wp2
          go_roundw
          case rel => exact ⟨i + 1, by omega, by go_num, HAl2.out, HCe.out, HB1.out⟩
          case measure => simp [intOf]; omega
    · have hmin : ¬ (q : Int) * 10 + (i : Int) < (if (n : Int) < (q : Int) * 10 + 10 then (n : Int) else (q : Int) * 10 + 10) := by split <;> omega
      have HM := Lib.hid (HMN.out (fun j hj he => HAll.out j (by omega) he))
      have HPo : Hid (∀ (e : Ending) (w' : World), (e = .returned (.tuple #[.int .i64 0, .bool false]) ∧ Below w.heap.size w w') → (e = .returned (.tuple #[.int .i64 (Plan.moreR n asked (s : Int)).1, .bool (Plan.moreR n asked (s : Int)).2]) ∧ Below w.heap.size w w')) := fun e w' h => by
        rw [HM.out]
        exact h
      go_wp2
      all_goals
        go_ret2
        exact HPo.out _ _ ⟨rfl, HBe.out⟩
set_option maxRecDepth 100000 in
set_option maxHeartbeats 4000000 in
theorem refMore_any (key sum : ByteArray) (gen size : Int) (pa : Option Addr) (n pc : Nat) (bv : Value) (asked : List Bool) (slot : Int) (w : World) (h : RF w bv asked) (hn : n ≤ 1000) :
    Calls Try.prog 13 #[.agg #[.string key, .int .i64 gen, .int .i64 size, .string sum, .slice pa n pc], bv, .int .i64 slot] w fun e w' => e = .returned (.tuple #[.int .i64 (Plan.moreR n asked slot).1, .bool (Plan.moreR n asked slot).2]) ∧ Below w.heap.size w w' := by
  have HF : Hid (∀ (wx : World) (s : Nat), Below w.heap.size w wx → s ≤ 1000000 → Calls Try.prog 23 #[bv, .int .i64 (s : Int)] wx fun e w' => e = .returned (.bool (Plan.said asked s)) ∧ ∃ d, w' = wx.drewN d) := fun wx s hb hs => said_any bv asked s wx (h.below hb rfl) hs
  have hnd : (n : Int) ≤ 1000 := by omega
  clear h
  have HB0 : Hid (Below w.heap.size w (w.alloc (.cells #[.string key, .int .i64 gen, .int .i64 size, .string sum, .slice pa n pc] 24))) := (Below.refl _ _).alloc (Nat.le_refl _) _
  by_cases h0 : slot < 0
  · have HM := Lib.hid (Plan.more_out (n := n) (asked := asked) (slot := slot) (.inl h0))
    rw [HM.out]
    go_enter Try.func13, Try.ntmps13
    go_wp2
    go_ret2
    exact ⟨rfl, HB0.out⟩
  by_cases h1 : (n : Int) ≤ slot
  · have HM := Lib.hid (Plan.more_out (n := n) (asked := asked) (slot := slot) (.inr h1))
    rw [HM.out]
    go_enter Try.func13, Try.ntmps13
    go_wp2
    go_ret2
    exact ⟨rfl, HB0.out⟩
  obtain ⟨s, rfl⟩ : ∃ s : Nat, slot = (s : Int) := ⟨slot.toNat, by omega⟩
  have hlt : s < n := by omega
  have HNO : Hid (¬ ((s : Int) < 0 ∨ (n : Int) ≤ (s : Int))) := fun h => by omega
  obtain ⟨q, Hq⟩ := hid_of (s / 10)
  have hq : (s : Int) / 10 = (q : Int) := by rw [← Hq.out]; omega
  have hqn : 10 * q ≤ s ∧ s < 10 * q + 10 := by rw [← Hq.out]; omega
  have HMY : Hid (∀ k, k < n → k / 10 = q → Plan.said asked k = false → (∀ j, j < k → j / 10 = q → Plan.said asked j = true) → Plan.moreR n asked (s : Int) = ((k : Int), true)) := fun k h1 h2 h3 h4 => Plan.more_yes HNO.out h1 (by rw [h2, ← Hq.out]; rfl) h3 (fun j hj he => h4 j hj (by rw [he, ← Hq.out]; rfl))
  have HMN : Hid ((∀ j, j < n → j / 10 = q → Plan.said asked j = true) → Plan.moreR n asked (s : Int) = (0, false)) := fun h4 => Plan.more_no (fun j hj he => h4 j hj (by rw [he, ← Hq.out]; rfl))
  have hcell : (w.alloc (.cells #[.string key, .int .i64 gen, .int .i64 size, .string sum, .slice pa n pc] 24)).cell? ⟨w.heap.size, 4, none⟩ = some (.slice pa n pc) := by rw [cell_of_row _ _ 4 _ _ _ (heap_alloc_new w _)]; rfl
  have HCe := Lib.hid hcell
  have hs0 : ¬ ((s : Int) < 0) := h0
  clear hcell h0
  go_enter Try.func13, Try.ntmps13
  go_wp2
  go_loopw [8] (fun x wr => ∃ i : Nat, i ≤ n ∧ x = .int .i64 (i : Int) ∧ (∀ j, j < i → j / 10 = q → Plan.said asked j = true) ∧ wr.cell? ⟨w.heap.size, 4, none⟩ = some (.slice pa n pc) ∧ Below w.heap.size w wr) (fun x _ => n - (intOf x).toNat)
  case atStart => exact ⟨0, by omega, rfl, fun j hj he => by omega, HCe.out, HB0.out⟩
  case round =>
    clear HB0 HCe
    obtain ⟨i, hi, rfl, hall, hcell, hbe⟩ := hrel
    have HAll := Lib.hid hall
    have HCe := Lib.hid hcell
    have HBe := Lib.hid hbe
    clear hall hbe
    by_cases hin : i < n
    · have hin' : (i : Int) < (n : Int) := by omega
      have HFi : Hid (Calls Try.prog 23 #[bv, .int .i64 (i : Int)] wr fun e w' => e = .returned (.bool (Plan.said asked i)) ∧ ∃ d, w' = wr.drewN d) := HF.out wr i HBe.out (by omega)
      by_cases hgrp : i / 10 = q
      · have heq : (((i : Int) / 10) == (q : Int)) = true := by rw [beq_iff_eq]; omega
        have heq2 : (i : Int) / 10 = (q : Int) := by omega
        cases hsd : Plan.said asked i
        · have HM := Lib.hid (HMY.out i hin hgrp hsd HAll.out)
          rw [hsd] at HFi
          have HPo : Hid (∀ (e : Ending) (w' : World), (e = .returned (.tuple #[.int .i64 (i : Int), .bool true]) ∧ Below w.heap.size w w') → (e = .returned (.tuple #[.int .i64 (Plan.moreR n asked (s : Int)).1, .bool (Plan.moreR n asked (s : Int)).2]) ∧ Below w.heap.size w w')) := fun e w' h => by
            rw [HM.out]
            exact h
          clear hsd
          go_wp2_with fail
          refine HFi.out.mono ?_
          rintro e w1 ⟨rfl, d, rfl⟩
          have HB1 : Hid (Below w.heap.size w (wr.drewN d)) := Below.drewN2 HBe.out d
          go_wp2
          go_ret2
          exact HPo.out _ _ ⟨rfl, HB1.out⟩
        · have HAl2 : Hid (∀ j, j < i + 1 → j / 10 = q → Plan.said asked j = true) := fun j hj he => by
            by_cases e : j = i
            · rw [e]; exact hsd
            · exact HAll.out j (by omega) he
          rw [hsd] at HFi
          clear hsd
          go_wp2_with fail
          refine HFi.out.mono ?_
          rintro e w1 ⟨rfl, d, rfl⟩
          have HB1 : Hid (Below w.heap.size w (wr.drewN d)) := Below.drewN2 HBe.out d
          go_wp2
          go_roundw
          case rel => exact ⟨i + 1, by omega, by go_num, HAl2.out, HCe.out, HB1.out⟩
          case measure => simp [intOf]; omega
      · have heq : (((i : Int) / 10) == (q : Int)) = false := by rw [beq_eq_false_iff_ne]; omega
        have HAl2 : Hid (∀ j, j < i + 1 → j / 10 = q → Plan.said asked j = true) := fun j hj he => by
          by_cases e : j = i
          · rw [e] at he; exact absurd he hgrp
          · exact HAll.out j (by omega) he
        go_wp2
        go_roundw
        case rel => exact ⟨i + 1, by omega, by go_num, HAl2.out, HCe.out, HBe.out⟩
        case measure => simp [intOf]; omega
    · have HM := Lib.hid (HMN.out (fun j hj he => HAll.out j (by omega) he))
      have hin' : ¬ (i : Int) < (n : Int) := by omega
      have HPo : Hid (∀ (e : Ending) (w' : World), (e = .returned (.tuple #[.int .i64 0, .bool false]) ∧ Below w.heap.size w w') → (e = .returned (.tuple #[.int .i64 (Plan.moreR n asked (s : Int)).1, .bool (Plan.moreR n asked (s : Int)).2]) ∧ Below w.heap.size w w')) := fun e w' h => by
        rw [HM.out]
        exact h
      go_wp2
      go_ret2
      exact HPo.out _ _ ⟨rfl, HBe.out⟩
end Go.Proofs.Ytepedabpnchajaa
