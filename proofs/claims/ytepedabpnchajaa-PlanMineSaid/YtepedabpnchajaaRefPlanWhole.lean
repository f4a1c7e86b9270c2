/-
  kist/plan.Whole.
-/
import Derived.Test.YtepedabpnchajaaPlanLaw
import Derived.Test.YtepedabpnchajaaLabSame
import Derived.Deep.RegionHeld
import Derived.BigQuiet
import Derived.Test.YtepedabpnchajaaRsRefDec
import Derived.Test.YtepedabpnchajaaRefRecords

namespace Go.Proofs.Ytepedabpnchajaa
open Go.RowKit
set_option linter.unusedVariables false
set_option linter.unusedSimpArgs false

/-- some rows of a table -/
theorem RT.part {w : World} {b off n c : Nat} {rows : List (List UInt8)} (h : RT w (.slice (some ⟨b, off, none⟩) n c) rows) (lo k : Nat) (hk : lo + k ≤ n) (hp : 0 < k) :
    RT w (.slice (some ⟨b, off + lo, none⟩) k (c - lo)) ((rows.drop lo).take k) := by
  obtain ⟨a', c', he, h1, h2⟩ := h.shape
  simp only [Value.slice.injEq] at he
  obtain ⟨-, rfl, rfl⟩ := he
  obtain ⟨b', off', he, _, hr⟩ := h.row (by omega)
  simp only [Option.some.injEq, Addr.mk.injEq, and_true] at he
  obtain ⟨rfl, rfl⟩ := he
  refine RT.of (by rw [List.length_take, List.length_drop]; omega) (by omega) (by omega) fun i hi => ?_
  rw [List.length_take, List.length_drop] at hi
  obtain ⟨u, hu, hru⟩ := hr (lo + i) (by omega)
  refine ⟨u, by rw [Nat.add_assoc]; exact hu, ?_⟩
  have e : ((rows.drop lo).take k).getD i [] = rows.getD (lo + i) [] := by
    simp only [List.getD_eq_getElem?_getD, List.getElem?_take, List.getElem?_drop]
    rw [if_pos (by omega)]
  rw [e]
  exact hru
theorem join_len {rows : List (List UInt8)} {size : Int} (h : ∀ r ∈ rows, r.length = 128) : (Blob.join rows size).length ≤ 128 * rows.length := by
  classical
  have hf : rows.flatten.length = 128 * rows.length := by
    have := Blob.flat_len (rows := rows) rows.length (Nat.le_refl _) (fun j hj => by
      simp only [List.getD_eq_getElem?_getD, hj, List.getElem?_eq_getElem, Option.getD_some]
      exact h _ (List.getElem_mem _))
    rw [List.take_length] at this
    exact this
  by_cases hj : Blob.JoinOk rows size
  · rw [Blob.join_yes hj, List.length_take]
    omega
  · rw [Blob.join_no hj]
    simp
set_option maxRecDepth 100000 in
set_option maxHeartbeats 4000000 in
theorem pwhole_any (ek es : List UInt8) (eg ez : Int) (pa : Option Addr) (n pc : Nat) (v : Value) (sh : List (List UInt8)) (w : World) (h : RT w v sh) (hn : n ≤ 1000) :
    Calls Try.prog 15 #[.agg #[.string (S ek), .int .i64 eg, .int .i64 ez, .string (S es), .slice pa n pc], v] w fun e w' =>
      (∃ a k c, e = .returned (.tuple #[.slice a k c, .int .i64 (Plan.wholeE n sh ez es)]) ∧ RB w' (.slice a k c) (Plan.wholeB n sh ez es)) ∧ Below w.heap.size w w' := by
  obtain ⟨a, c, rfl, h1, h2⟩ := h.shape
  have H := Lib.hid h
  obtain ⟨m, Hm⟩ := hid_of sh.length
  simp only [maxLen] at h2
  rw [Hm.out] at h1 H ⊢
  clear h
  have HB0 : Hid (Below w.heap.size w (w.alloc (.cells #[.string (S ek), .int .i64 eg, .int .i64 ez, .string (S es), .slice pa n pc] 24))) := (Below.refl _ _).alloc (Nat.le_refl _) _
  have HArg : Hid ((m ≠ n ∨ m = 0 ∨ m % 10 ≠ 0) → Plan.wholeE n sh ez es = 1 ∧ Plan.wholeB n sh ez es = []) := fun h => by
    have h1 : Plan.wholeE n sh ez es = 1 := Plan.whole_arg (by rw [Hm.out]; exact h)
    exact ⟨h1, Plan.wholeB_no (by rw [h1]; decide)⟩
  by_cases hmn : m = n
  case neg =>
    obtain ⟨hE, hB⟩ := HArg.out (.inl hmn)
    have HE := Lib.hid hE
    have HBB := Lib.hid hB
    rw [HE.out, HBB.out]
    have hne : ((m : Int) != (n : Int)) = true := by rw [bne_iff_ne]; omega
    clear hE hB hmn
    go_enter Try.func15, Try.ntmps15
    go_wp2
    go_ret2
    exact ⟨⟨_, _, _, rfl, RB.nil _⟩, HB0.out⟩
  subst hmn
  by_cases hm0 : m = 0
  case pos =>
    obtain ⟨hE, hB⟩ := HArg.out (.inr (.inl hm0))
    have HE := Lib.hid hE
    have HBB := Lib.hid hB
    rw [HE.out, HBB.out]
    have hz : ((m : Int) == 0) = true := by rw [hm0]; rfl
    clear hE hB hm0
    go_enter Try.func15, Try.ntmps15
    go_wp2
    go_ret2
    exact ⟨⟨_, _, _, rfl, RB.nil _⟩, HB0.out⟩
  have hz : ((m : Int) == 0) = false := beq_eq_false_iff_ne.2 (by omega)
  by_cases hmt : m % 10 = 0
  case neg =>
    obtain ⟨hE, hB⟩ := HArg.out (.inr (.inr hmt))
    have HE := Lib.hid hE
    have HBB := Lib.hid hB
    rw [HE.out, HBB.out]
    have hr : (m : Int) % 10 > 0 := by omega
    clear hE hB hmt
    go_enter Try.func15, Try.ntmps15
    go_wp2
    go_ret2
    exact ⟨⟨_, _, _, rfl, RB.nil _⟩, HB0.out⟩
  obtain ⟨G, HG⟩ : ∃ G, Hid (m = 10 * G) := ⟨m / 10, by show m = _; omega⟩
  have hr : ¬ (m : Int) % 10 > 0 := by omega
  have HNo : Hid (¬ (sh.length ≠ m ∨ sh.length = 0 ∨ sh.length % 10 ≠ 0)) := by rw [Hm.out]; exact fun h => by omega
  have HGd : Hid (sh.length / 10 = G) := by rw [Hm.out, HG.out]; show _ = _; omega
  have hG : G ≤ 100 := by have := HG.out; omega
  obtain ⟨b, off, rfl, hb, -⟩ := H.out.row (by rw [Hm.out]; omega)
  have HBk := Lib.hid hb
  have hcell : (w.alloc (.cells #[.string (S ek), .int .i64 eg, .int .i64 ez, .string (S es), .slice pa m pc] 24)).cell? ⟨w.heap.size, 2, none⟩ = some (.int .i64 ez) := by rw [cell_of_row _ _ 2 _ _ _ (heap_alloc_new w _)]; rfl
  have hcell3 : (w.alloc (.cells #[.string (S ek), .int .i64 eg, .int .i64 ez, .string (S es), .slice pa m pc] 24)).cell? ⟨w.heap.size, 3, none⟩ = some (.string (S es)) := by rw [cell_of_row _ _ 3 _ _ _ (heap_alloc_new w _)]; rfl
  obtain ⟨W0, HW0⟩ := hid_of (w.alloc (.cells #[.string (S ek), .int .i64 eg, .int .i64 ez, .string (S es), .slice pa m pc] 24))
  have HC0 : Hid (∀ wx, Below W0.heap.size W0 wx → wx.cell? ⟨w.heap.size, 2, none⟩ = some (.int .i64 ez) ∧ wx.cell? ⟨w.heap.size, 3, none⟩ = some (.string (S es))) := by
    rw [← HW0.out]
    exact fun wx hx => ⟨(hx.cell (p := ⟨w.heap.size, 2, none⟩) (by simp)).trans hcell, (hx.cell (p := ⟨w.heap.size, 3, none⟩) (by simp)).trans hcell3⟩
  rw [HW0.out] at HB0
  have HRT := Lib.hid (H.out.below HB0.out rfl)
  clear hcell hcell3 hmt hm0 hb HArg
  go_enter Try.func15, Try.ntmps15
  go_wp2
  rw [HW0.out]
  go_loopw [6, 7] (fun u x wr => ∃ g : Nat, g ≤ G ∧ x = .int .i64 (10 * (g : Int)) ∧ Plan.err sh g = 0 ∧ (∀ r ∈ Plan.sols sh g, r.length = 128) ∧ CTb W0.heap.size 35 wr u (Plan.sols sh g) ∧ Below W0.heap.size W0 wr) (fun _ x _ => 10 * G - (intOf x).toNat)
  case atStart => exact ⟨0, by omega, rfl, rfl, fun r hr => by simp [Plan.sols] at hr, CTb.start_nil, Below.refl _ _⟩
  case round =>
    obtain ⟨g, hg, rfl, herr, hall, hct, hbe⟩ := hrel
    have HEr := Lib.hid herr
    have HAl := Lib.hid hall
    have HCt := Lib.hid hct
    have HBe := Lib.hid hbe
    clear herr hall hct hbe
    obtain ⟨wo, hwo⟩ : ∃ wo : World, wo = wr := ⟨_, rfl⟩
    subst hwo
    by_cases hlt : g < G
    · have hgm : 10 * (g : Int) < (m : Int) := by have := HG.out; omega
      have hgm2 : 10 * (g : Int) + 10 ≤ (m : Int) := by have := HG.out; omega
      have hcg : ¬ c = 10 * g := by have := HG.out; omega
      have HTen : Hid (RT wo (.slice (some ⟨b, off + 10 * g, none⟩) 10 (c - 10 * g)) (Plan.ten sh g)) := (HRT.out.below HBe.out rfl).part (10 * g) 10 (by have := HG.out; omega) (by omega)
      have HSs := Lib.hid (Plan.sols_succ sh g)
      have HSl := Lib.hid (Plan.sols_length sh g)
      have HLt : Hid (g < sh.length / 10) := by rw [HGd.out]; exact hlt
      go_wp2_with fail
      refine (decode_any _ _ _ HTen.out).mono ?_
      rintro e w1 ⟨hok, hb1⟩
      have HB1 := Lib.hid (HBe.out.trans (hb1.mono HBe.out.size))
      have HBw := Lib.hid (HB0.out.trans (HB1.out.mono HB0.out.size))
      have HSz1 : Hid (wo.heap.size ≤ w1.heap.size) := hb1.size
      have HC1 := Lib.hid (HCt.out.below hb1 rfl)
      have HO1 : Hid (∀ k, u6.ownBlock = some k → k < wo.heap.size) := fun k hk => (HCt.out.lt k hk).2
      clear hb1
      rcases Plan.dec_is hok with ⟨hc, rfl⟩ | ⟨hc, rfl⟩ | ⟨hc, v1, rfl, hr1, hl1, ho1⟩
      · have hE := Plan.whole_err (size := ez) (sum := es) HNo.out HLt.out HEr.out (by rw [hc]; decide)
        have hB := Plan.wholeB_no (n := m) (sh := sh) (size := ez) (sum := es) (by rw [hE, hc]; decide)
        rw [hc] at hE
        have HE := Lib.hid hE
        have HBB := Lib.hid hB
        have HPo : Hid (∀ (e : Ending) (w' : World), e = .returned (.tuple #[.slice none 0 0, .int .i64 1]) → Below w.heap.size w w' → (∃ a k c, e = .returned (.tuple #[.slice a k c, .int .i64 (Plan.wholeE m sh ez es)]) ∧ RB w' (.slice a k c) (Plan.wholeB m sh ez es)) ∧ Below w.heap.size w w') := fun e w' h1 h2 => by
          rw [HE.out, HBB.out]
          exact ⟨⟨_, _, _, h1, RB.nil _⟩, h2⟩
        clear hE hB hc hok
        go_wp2
        go_ret2
        exact HPo.out _ _ rfl HBw.out
      · have hE := Plan.whole_err (size := ez) (sum := es) HNo.out HLt.out HEr.out (by rw [hc]; decide)
        have hB := Plan.wholeB_no (n := m) (sh := sh) (size := ez) (sum := es) (by rw [hE, hc]; decide)
        rw [hc] at hE
        have HE := Lib.hid hE
        have HBB := Lib.hid hB
        have HPo : Hid (∀ (e : Ending) (w' : World), e = .returned (.tuple #[.slice none 0 0, .int .i64 9]) → Below w.heap.size w w' → (∃ a k c, e = .returned (.tuple #[.slice a k c, .int .i64 (Plan.wholeE m sh ez es)]) ∧ RB w' (.slice a k c) (Plan.wholeB m sh ez es)) ∧ Below w.heap.size w w') := fun e w' h1 h2 => by
          rw [HE.out, HBB.out]
          exact ⟨⟨_, _, _, h1, RB.nil _⟩, h2⟩
        clear hE hB hc hok
        go_wp2
        go_ret2
        exact HPo.out _ _ rfl HBw.out
      · have HEr2 : Hid (Plan.err sh (g + 1) = 0) := (Plan.err_step HEr.out).trans hc
        have HAl2 : Hid (∀ r ∈ Plan.sols sh (g + 1), r.length = 128) := fun r hr => by
          rw [HSs.out, List.mem_append] at hr
          rcases hr with h | h
          · exact HAl.out r h
          · simp only [List.mem_singleton] at h
            rw [h]
            exact hl1
        obtain ⟨va, vc, rfl, -, -⟩ := hr1.shape
        rw [hl1] at hr1 ho1 ⊢
        have HR1 := Lib.hid hr1
        have HO2 := Lib.hid ho1
        clear hok hc hr1 ho1 hl1
        go_wp2_with (at_builtin; refine stopped ?_)
        have hba : Below w1.heap.size w1 (w1.alloc (.cells #[.slice va 128 vc] 35)) := (Below.refl _ _).alloc (Nat.le_refl _) _
        refine going (wpList_push_row _ rfl _ _ 34 rfl W0.heap.size 35 Try.underlying34 info_row _ (Plan.sols sh g) rfl (HC1.out.below hba rfl) w1.heap.size (.slice va 128 vc) (Plan.solT (Plan.ten sh g)) rfl (by rw [cell_of_row _ _ 0 _ _ _ (heap_alloc_new w1 _)]; rfl) (HR1.out.below hba rfl) (fun _ x hx hx2 => by have h1 := HO2.out x hx; have h2 := HO1.out x hx2; omega) (by rw [HSl.out]; omega) (by have := HB1.out.size; have := hba.size; omega) ?_)
        intro v3 w3 ho3 hb3 hg3
        rw [← HSs.out] at ho3
        have HO3 := Lib.hid ho3
        have HB3 : Hid (Below W0.heap.size W0 w3) := HB1.out.trans ((hba.mono HB1.out.size).trans hb3)
        clear ho3 hb3 hg3 hba
        go_wp2
        go_roundw
        case rel => exact ⟨g + 1, by omega, by go_num, HEr2.out, HAl2.out, HO3.out, HB3.out⟩
        case measure => simp [intOf]; omega
    · obtain rfl : g = G := by omega
      have hgm : ¬ 10 * (g : Int) < (m : Int) := by have := HG.out; omega
      have HDl : Hid ((Blob.join (Plan.sols sh g) ez).length ≤ 100000) := by have := join_len (size := ez) HAl.out; rw [Plan.sols_length] at this; show _ ≤ _; omega
      have hE1 := fun (h : Blob.okB (Plan.sols sh g) ez = true ∧ dig (Blob.join (Plan.sols sh g) ez) = es) => Plan.whole_ok (n := m) (size := ez) (sum := es) HNo.out (by rw [HGd.out]; exact HEr.out) (by rw [HGd.out]; exact h.1) (by rw [HGd.out]; exact h.2)
      have hE2 := fun (h : ¬ (Blob.okB (Plan.sols sh g) ez = true ∧ dig (Blob.join (Plan.sols sh g) ez) = es)) => Plan.whole_lost (n := m) (size := ez) (sum := es) HNo.out (by rw [HGd.out]; exact HEr.out) (by rw [HGd.out]; exact h)
      have HE1 : Hid ((Blob.okB (Plan.sols sh g) ez = true ∧ dig (Blob.join (Plan.sols sh g) ez) = es) → Plan.wholeE m sh ez es = 0 ∧ Plan.wholeB m sh ez es = Blob.join (Plan.sols sh g) ez) := fun h => ⟨hE1 h, by rw [Plan.wholeB_yes (hE1 h), HGd.out]⟩
      have HE2 : Hid (¬ (Blob.okB (Plan.sols sh g) ez = true ∧ dig (Blob.join (Plan.sols sh g) ez) = es) → Plan.wholeE m sh ez es = 9 ∧ Plan.wholeB m sh ez es = []) := fun h => ⟨hE2 h, Plan.wholeB_no (by rw [hE2 h]; decide)⟩
      clear hE1 hE2
      have HTab := Lib.hid HCt.out.read
      obtain ⟨K, HK⟩ := hid_of (Blob.okB (Plan.sols sh g) ez)
      obtain ⟨J, HJ⟩ := hid_of (Blob.join (Plan.sols sh g) ez)
      have HJn : Hid (∀ wx v, RT wx v (Plan.sols sh g) → Calls Try.prog 25 #[v, .int .i64 ez] wx fun e w' => ∃ a n c, e = .returned (.tuple #[.slice a n c, .bool K]) ∧ RB w' (.slice a n c) J ∧ Below wx.heap.size wx w') := fun wx v hx => by
        rw [← HK.out, ← HJ.out]; exact join_any v _ ez wx hx
      rw [HK.out, HJ.out] at HE1 HE2
      rw [HJ.out] at HDl
      obtain ⟨q2, q3⟩ := HC0.out _ HBe.out
      go_wp2_with fail
      refine (HJn.out _ _ HTab.out).mono ?_
      rintro e w1 ⟨a1, n1, c1, rfl, hr1, hb1⟩
      have HR1 := Lib.hid hr1
      have HB1 := Lib.hid (HBe.out.trans (hb1.mono HBe.out.size))
      have HBw := Lib.hid (HB0.out.trans (HB1.out.mono HB0.out.size))
      clear hb1 hr1 q2 q3
      obtain ⟨q2, q3⟩ := HC0.out _ HB1.out
      have HCx : Hid (∀ wx, Below w1.heap.size w1 wx → wx.cell? ⟨w.heap.size, 3, none⟩ = some (.string (S es))) := fun wx hx => (HC0.out _ (HB1.out.trans (hx.mono HB1.out.size))).2
      cases K
      · obtain ⟨hE, hB⟩ := HE2.out (fun h => by cases h.1)
        have HPo : Hid (∀ (e : Ending) (w' : World), e = .returned (.tuple #[.slice none 0 0, .int .i64 9]) → Below w.heap.size w w' → (∃ a k c, e = .returned (.tuple #[.slice a k c, .int .i64 (Plan.wholeE m sh ez es)]) ∧ RB w' (.slice a k c) (Plan.wholeB m sh ez es)) ∧ Below w.heap.size w w') := fun e w' h1 h2 => by
          rw [hE, hB]
          exact ⟨⟨_, _, _, h1, RB.nil _⟩, h2⟩
        clear hE hB
        go_wp2_with fail
        go_quiet (fail)
        go_wp2
        go_ret2
        exact HPo.out _ _ rfl (Below.drewN2 HBw.out _)
      · obtain ⟨D, HD⟩ := hid_of (dig J)
        rw [HD.out] at HE1 HE2
        have HDg : Hid (∀ wx, Below w1.heap.size w1 wx → Calls Try.prog 26 #[.slice a1 n1 c1] wx fun e w' => e = .returned (.string (S D)) ∧ Below wx.heap.size wx w') := fun wx hx => by
          rw [← HD.out]
          exact Of_any _ J wx (HR1.out.below hx rfl) (by have := HDl.out; omega)
        have hs0 : w1.drew.cell? ⟨w.heap.size, 3, none⟩ = some (.string (S es)) := q3
        have HQ0 : Hid (Below w1.heap.size w1 w1.drew) := (Below.refl _ _).drew
        by_cases hde : D = es
        · obtain ⟨hE, hB⟩ := HE1.out ⟨rfl, hde⟩
          have HE := Lib.hid hE
          have HBB := Lib.hid hB
          have HPo : Hid (∀ (w' : World), RB w' (.slice a1 n1 c1) J → Below w.heap.size w w' → (∃ a k c, Ending.returned (.tuple #[.slice a1 n1 c1, .int .i64 0]) = .returned (.tuple #[.slice a k c, .int .i64 (Plan.wholeE m sh ez es)]) ∧ RB w' (.slice a k c) (Plan.wholeB m sh ez es)) ∧ Below w.heap.size w w') := fun w' h1 h2 => by
            rw [HE.out, HBB.out]
            exact ⟨⟨_, _, _, rfl, h1⟩, h2⟩
          clear hE hB
          subst hde
          go_wp2_with fail
          go_region_held (fun wx => wx.cell? ⟨w.heap.size, 3, none⟩ = some (.string (S D)))
            (first | exact hs0 | exact hs1)
            (first | (go_at_call 26
                      refine (HDg.out _ HQ0.out).mono ?_
                      rintro e w2 ⟨rfl, hb2⟩
                      have HQ1 := Lib.hid (HQ0.out.trans (hb2.mono HQ0.out.size))
                      have hs1 := HCx.out _ HQ1.out
                      clear hb2))
          all_goals
            clear hs0 hs1
            have HBf := Lib.hid (HBw.out.trans (HQ1.out.mono HBw.out.size))
            have HRf := Lib.hid (HR1.out.below HQ1.out rfl)
            go_wp2
            go_ret2
            exact HPo.out _ HRf.out HBf.out
        · obtain ⟨hE, hB⟩ := HE2.out (fun h => hde h.2)
          have HE := Lib.hid hE
          have HBB := Lib.hid hB
          have HPo : Hid (∀ (e : Ending) (w' : World), e = .returned (.tuple #[.slice none 0 0, .int .i64 9]) → Below w.heap.size w w' → (∃ a k c, e = .returned (.tuple #[.slice a k c, .int .i64 (Plan.wholeE m sh ez es)]) ∧ RB w' (.slice a k c) (Plan.wholeB m sh ez es)) ∧ Below w.heap.size w w') := fun e w' h1 h2 => by
            rw [HE.out, HBB.out]
            exact ⟨⟨_, _, _, h1, RB.nil _⟩, h2⟩
          have hne1 : ((S D).toList == (S es).toList) = false := by rw [S_beq]; exact decide_eq_false hde
          have hne2 : ¬ (S D).toList = (S es).toList := by rw [S_eqs]; exact hde
          clear hE hB hde
          go_wp2_with fail
          go_region_held (fun wx => wx.cell? ⟨w.heap.size, 3, none⟩ = some (.string (S es)))
            (first | exact hs0 | exact hs1)
            (first | (go_at_call 26
                      refine (HDg.out _ HQ0.out).mono ?_
                      rintro e w2 ⟨rfl, hb2⟩
                      have HQ1 := Lib.hid (HQ0.out.trans (hb2.mono HQ0.out.size))
                      have hs1 := HCx.out _ HQ1.out
                      clear hb2))
          all_goals
            clear hs0 hs1
            have HBf := Lib.hid (HBw.out.trans (HQ1.out.mono HBw.out.size))
            go_wp2
            go_ret2
            exact HPo.out _ _ rfl HBf.out
end Go.Proofs.Ytepedabpnchajaa

/-
  kistref19.Whole.
-/
namespace Go.Proofs.Ytepedabpnchajaa
open Go.RowKit
set_option linter.unusedVariables false
set_option linter.unusedSimpArgs false

set_option maxRecDepth 100000 in
set_option maxHeartbeats 4000000 in
theorem refWhole_any (ek es : List UInt8) (eg ez : Int) (pa : Option Addr) (n pc : Nat) (v : Value) (sh : List (List UInt8)) (w : World) (h : RT w v sh) (hn : n ≤ 1000) :
    Calls Try.prog 16 #[.agg #[.string (S ek), .int .i64 eg, .int .i64 ez, .string (S es), .slice pa n pc], v] w fun e w' =>
      (∃ a k c, e = .returned (.tuple #[.slice a k c, .int .i64 (Plan.wholeE n sh ez es)]) ∧ RB w' (.slice a k c) (Plan.wholeB n sh ez es)) ∧ Below w.heap.size w w' := by
  obtain ⟨a, c, rfl, h1, h2⟩ := h.shape
  have H := Lib.hid h
  obtain ⟨m, Hm⟩ := hid_of sh.length
  simp only [maxLen] at h2
  rw [Hm.out] at h1 H ⊢
  clear h
  have HB0 : Hid (Below w.heap.size w (w.alloc (.cells #[.string (S ek), .int .i64 eg, .int .i64 ez, .string (S es), .slice pa n pc] 24))) := (Below.refl _ _).alloc (Nat.le_refl _) _
  have HArg : Hid ((m ≠ n ∨ m = 0 ∨ m % 10 ≠ 0) → Plan.wholeE n sh ez es = 1 ∧ Plan.wholeB n sh ez es = []) := fun h => by
    have h1 : Plan.wholeE n sh ez es = 1 := Plan.whole_arg (by rw [Hm.out]; exact h)
    exact ⟨h1, Plan.wholeB_no (by rw [h1]; decide)⟩
  by_cases hmn : m = n
  case neg =>
    obtain ⟨hE, hB⟩ := HArg.out (.inl hmn)
    have HE := Lib.hid hE
    have HBB := Lib.hid hB
    rw [HE.out, HBB.out]
    have hne : ((m : Int) != (n : Int)) = true := by rw [bne_iff_ne]; omega
    clear hE hB hmn
    go_enter Try.func16, Try.ntmps16
    go_wp2
    go_ret2
    exact ⟨⟨_, _, _, rfl, RB.nil _⟩, HB0.out⟩
  subst hmn
  by_cases hm0 : m = 0
  case pos =>
    obtain ⟨hE, hB⟩ := HArg.out (.inr (.inl hm0))
    have HE := Lib.hid hE
    have HBB := Lib.hid hB
    rw [HE.out, HBB.out]
    have hz : (m : Int) < 10 := by omega
    clear hE hB hm0
    go_enter Try.func16, Try.ntmps16
    go_wp2
    go_ret2
    exact ⟨⟨_, _, _, rfl, RB.nil _⟩, HB0.out⟩
  by_cases hmt : m % 10 = 0
  case neg =>
    obtain ⟨hE, hB⟩ := HArg.out (.inr (.inr hmt))
    have HE := Lib.hid hE
    have HBB := Lib.hid hB
    rw [HE.out, HBB.out]
    have hr : ((m : Int) % 10 != 0) = true := by rw [bne_iff_ne]; omega
    clear hE hB hmt
    go_enter Try.func16, Try.ntmps16
    go_wp2
    all_goals
      go_ret2
      exact ⟨⟨_, _, _, rfl, RB.nil _⟩, HB0.out⟩
  have hz : ¬ (m : Int) < 10 := by omega
  obtain ⟨G, HG⟩ : ∃ G, Hid (m = 10 * G) := ⟨m / 10, by show m = _; omega⟩
  have hr : ((m : Int) % 10 != 0) = false := by rw [bne_eq_false_iff_eq]; omega
  have HNo : Hid (¬ (sh.length ≠ m ∨ sh.length = 0 ∨ sh.length % 10 ≠ 0)) := by rw [Hm.out]; exact fun h => by omega
  have HGd : Hid (sh.length / 10 = G) := by rw [Hm.out, HG.out]; show _ = _; omega
  have hG : G ≤ 100 := by have := HG.out; omega
  obtain ⟨b, off, rfl, hb, -⟩ := H.out.row (by rw [Hm.out]; omega)
  have HBk := Lib.hid hb
  have hcell : (w.alloc (.cells #[.string (S ek), .int .i64 eg, .int .i64 ez, .string (S es), .slice pa m pc] 24)).cell? ⟨w.heap.size, 2, none⟩ = some (.int .i64 ez) := by rw [cell_of_row _ _ 2 _ _ _ (heap_alloc_new w _)]; rfl
  have hcell3 : (w.alloc (.cells #[.string (S ek), .int .i64 eg, .int .i64 ez, .string (S es), .slice pa m pc] 24)).cell? ⟨w.heap.size, 3, none⟩ = some (.string (S es)) := by rw [cell_of_row _ _ 3 _ _ _ (heap_alloc_new w _)]; rfl
  obtain ⟨W0, HW0⟩ := hid_of (w.alloc (.cells #[.string (S ek), .int .i64 eg, .int .i64 ez, .string (S es), .slice pa m pc] 24))
  have HC0 : Hid (∀ wx, Below W0.heap.size W0 wx → wx.cell? ⟨w.heap.size, 2, none⟩ = some (.int .i64 ez) ∧ wx.cell? ⟨w.heap.size, 3, none⟩ = some (.string (S es))) := by
    rw [← HW0.out]
    exact fun wx hx => ⟨(hx.cell (p := ⟨w.heap.size, 2, none⟩) (by simp)).trans hcell, (hx.cell (p := ⟨w.heap.size, 3, none⟩) (by simp)).trans hcell3⟩
  rw [HW0.out] at HB0
  have HRT := Lib.hid (H.out.below HB0.out rfl)
  clear hcell hcell3 hmt hm0 hb HArg
  go_enter Try.func16, Try.ntmps16
  go_wp2
  have hsz : w.heap.size + 1 = W0.heap.size := by rw [← HW0.out]; simp
  rw [HW0.out]
  try rw [hsz]
  have HS0 : Hid (CTb W0.heap.size 35 (W0.alloc (.cells #[] 35)) (.slice (some ⟨W0.heap.size, 0, none⟩) 0 0) (Plan.sols sh 0)) := CTb.start (w := W0) (Nat.le_refl _) rfl
  have HBA : Hid (Below W0.heap.size W0 (W0.alloc (.cells #[] 35))) := (Below.refl _ _).alloc (Nat.le_refl _) _
  go_loopw [6, 7] (fun u x wr => ∃ g : Nat, g ≤ G ∧ x = .int .i64 (10 * (g : Int)) ∧ Plan.err sh g = 0 ∧ (∀ r ∈ Plan.sols sh g, r.length = 128) ∧ CTb W0.heap.size 35 wr u (Plan.sols sh g) ∧ Below W0.heap.size W0 wr) (fun _ x _ => 10 * G - (intOf x).toNat)
  case atStart => exact ⟨0, by omega, rfl, rfl, fun r hr => by simp [Plan.sols] at hr, HS0.out, HBA.out⟩
  case round =>
    obtain ⟨g, hg, rfl, herr, hall, hct, hbe⟩ := hrel
    have HEr := Lib.hid herr
    have HAl := Lib.hid hall
    have HCt := Lib.hid hct
    have HBe := Lib.hid hbe
    clear herr hall hct hbe
    obtain ⟨wo, hwo⟩ : ∃ wo : World, wo = wr := ⟨_, rfl⟩
    subst hwo
    by_cases hlt : g < G
    · have hgm : 10 * (g : Int) < (m : Int) := by have := HG.out; omega
      have hgm2 : 10 * (g : Int) + 10 ≤ (m : Int) := by have := HG.out; omega
      have hcg : ¬ c = 10 * g := by have := HG.out; omega
      have HTen : Hid (RT wo (.slice (some ⟨b, off + 10 * g, none⟩) 10 (c - 10 * g)) (Plan.ten sh g)) := (HRT.out.below HBe.out rfl).part (10 * g) 10 (by have := HG.out; omega) (by omega)
      have HSs := Lib.hid (Plan.sols_succ sh g)
      have HSl := Lib.hid (Plan.sols_length sh g)
      have HLt : Hid (g < sh.length / 10) := by rw [HGd.out]; exact hlt
      go_wp2_with fail
      refine (refDec_any _ _ _ HTen.out).mono ?_
      rintro e w1 ⟨hok, hb1⟩
      have HB1 := Lib.hid (HBe.out.trans (hb1.mono HBe.out.size))
      have HBw := Lib.hid (HB0.out.trans (HB1.out.mono HB0.out.size))
      have HSz1 : Hid (wo.heap.size ≤ w1.heap.size) := hb1.size
      have HC1 := Lib.hid (HCt.out.below hb1 rfl)
      have HO1 : Hid (∀ k, u6.ownBlock = some k → k < wo.heap.size) := fun k hk => (HCt.out.lt k hk).2
      clear hb1
      rcases Plan.dec_is hok with ⟨hc, rfl⟩ | ⟨hc, rfl⟩ | ⟨hc, v1, rfl, hr1, hl1, ho1⟩
      · have hE := Plan.whole_err (size := ez) (sum := es) HNo.out HLt.out HEr.out (by rw [hc]; decide)
        have hB := Plan.wholeB_no (n := m) (sh := sh) (size := ez) (sum := es) (by rw [hE, hc]; decide)
        rw [hc] at hE
        have HE := Lib.hid hE
        have HBB := Lib.hid hB
        have HPo : Hid (∀ (e : Ending) (w' : World), e = .returned (.tuple #[.slice none 0 0, .int .i64 1]) → Below w.heap.size w w' → (∃ a k c, e = .returned (.tuple #[.slice a k c, .int .i64 (Plan.wholeE m sh ez es)]) ∧ RB w' (.slice a k c) (Plan.wholeB m sh ez es)) ∧ Below w.heap.size w w') := fun e w' h1 h2 => by
          rw [HE.out, HBB.out]
          exact ⟨⟨_, _, _, h1, RB.nil _⟩, h2⟩
        clear hE hB hc hok
        go_wp2
        go_ret2
        exact HPo.out _ _ rfl HBw.out
      · have hE := Plan.whole_err (size := ez) (sum := es) HNo.out HLt.out HEr.out (by rw [hc]; decide)
        have hB := Plan.wholeB_no (n := m) (sh := sh) (size := ez) (sum := es) (by rw [hE, hc]; decide)
        rw [hc] at hE
        have HE := Lib.hid hE
        have HBB := Lib.hid hB
        have HPo : Hid (∀ (e : Ending) (w' : World), e = .returned (.tuple #[.slice none 0 0, .int .i64 9]) → Below w.heap.size w w' → (∃ a k c, e = .returned (.tuple #[.slice a k c, .int .i64 (Plan.wholeE m sh ez es)]) ∧ RB w' (.slice a k c) (Plan.wholeB m sh ez es)) ∧ Below w.heap.size w w') := fun e w' h1 h2 => by
          rw [HE.out, HBB.out]
          exact ⟨⟨_, _, _, h1, RB.nil _⟩, h2⟩
        clear hE hB hc hok
        go_wp2
        go_ret2
        exact HPo.out _ _ rfl HBw.out
      · have HEr2 : Hid (Plan.err sh (g + 1) = 0) := (Plan.err_step HEr.out).trans hc
        have HAl2 : Hid (∀ r ∈ Plan.sols sh (g + 1), r.length = 128) := fun r hr => by
          rw [HSs.out, List.mem_append] at hr
          rcases hr with h | h
          · exact HAl.out r h
          · simp only [List.mem_singleton] at h
            rw [h]
            exact hl1
        obtain ⟨va, vc, rfl, -, -⟩ := hr1.shape
        rw [hl1] at hr1 ho1 ⊢
        have HR1 := Lib.hid hr1
        have HO2 := Lib.hid ho1
        clear hok hc hr1 ho1 hl1
        go_wp2_with (at_builtin; refine stopped ?_)
        have hba : Below w1.heap.size w1 (w1.alloc (.cells #[.slice va 128 vc] 35)) := (Below.refl _ _).alloc (Nat.le_refl _) _
        refine going (wpList_push_row _ rfl _ _ 34 rfl W0.heap.size 35 Try.underlying34 info_row _ (Plan.sols sh g) rfl (HC1.out.below hba rfl) w1.heap.size (.slice va 128 vc) (Plan.solT (Plan.ten sh g)) rfl (by rw [cell_of_row _ _ 0 _ _ _ (heap_alloc_new w1 _)]; rfl) (HR1.out.below hba rfl) (fun _ x hx hx2 => by have h1 := HO2.out x hx; have h2 := HO1.out x hx2; omega) (by rw [HSl.out]; omega) (by have := HB1.out.size; have := hba.size; omega) ?_)
        intro v3 w3 ho3 hb3 hg3
        rw [← HSs.out] at ho3
        have HO3 := Lib.hid ho3
        have HB3 : Hid (Below W0.heap.size W0 w3) := HB1.out.trans ((hba.mono HB1.out.size).trans hb3)
        clear ho3 hb3 hg3 hba
        go_wp2
        go_roundw
        case rel => exact ⟨g + 1, by omega, by go_num, HEr2.out, HAl2.out, HO3.out, HB3.out⟩
        case measure => simp [intOf]; omega
    · obtain rfl : g = G := by omega
      have hgm : ¬ 10 * (g : Int) < (m : Int) := by have := HG.out; omega
      have HDl : Hid ((Blob.join (Plan.sols sh g) ez).length ≤ 100000) := by have := join_len (size := ez) HAl.out; rw [Plan.sols_length] at this; show _ ≤ _; omega
      have hE1 := fun (h : Blob.okB (Plan.sols sh g) ez = true ∧ dig (Blob.join (Plan.sols sh g) ez) = es) => Plan.whole_ok (n := m) (size := ez) (sum := es) HNo.out (by rw [HGd.out]; exact HEr.out) (by rw [HGd.out]; exact h.1) (by rw [HGd.out]; exact h.2)
      have hE2 := fun (h : ¬ (Blob.okB (Plan.sols sh g) ez = true ∧ dig (Blob.join (Plan.sols sh g) ez) = es)) => Plan.whole_lost (n := m) (size := ez) (sum := es) HNo.out (by rw [HGd.out]; exact HEr.out) (by rw [HGd.out]; exact h)
      have HE1 : Hid ((Blob.okB (Plan.sols sh g) ez = true ∧ dig (Blob.join (Plan.sols sh g) ez) = es) → Plan.wholeE m sh ez es = 0 ∧ Plan.wholeB m sh ez es = Blob.join (Plan.sols sh g) ez) := fun h => ⟨hE1 h, by rw [Plan.wholeB_yes (hE1 h), HGd.out]⟩
      have HE2 : Hid (¬ (Blob.okB (Plan.sols sh g) ez = true ∧ dig (Blob.join (Plan.sols sh g) ez) = es) → Plan.wholeE m sh ez es = 9 ∧ Plan.wholeB m sh ez es = []) := fun h => ⟨hE2 h, Plan.wholeB_no (by rw [hE2 h]; decide)⟩
      clear hE1 hE2
      have HTab := Lib.hid HCt.out.read
      obtain ⟨K, HK⟩ := hid_of (Blob.okB (Plan.sols sh g) ez)
      obtain ⟨J, HJ⟩ := hid_of (Blob.join (Plan.sols sh g) ez)
      have HJn : Hid (∀ wx v, RT wx v (Plan.sols sh g) → Calls Try.prog 28 #[v, .int .i64 ez] wx fun e w' => ∃ a n c, e = .returned (.tuple #[.slice a n c, .bool K]) ∧ RB w' (.slice a n c) J ∧ Below wx.heap.size wx w') := fun wx v hx => by
        rw [← HK.out, ← HJ.out]; exact refJoin_any v _ ez wx hx
      rw [HK.out, HJ.out] at HE1 HE2
      rw [HJ.out] at HDl
      obtain ⟨q2, q3⟩ := HC0.out _ HBe.out
      go_wp2_with fail
      refine (HJn.out _ _ HTab.out).mono ?_
      rintro e w1 ⟨a1, n1, c1, rfl, hr1, hb1⟩
      have HR1 := Lib.hid hr1
      have HB1 := Lib.hid (HBe.out.trans (hb1.mono HBe.out.size))
      have HBw := Lib.hid (HB0.out.trans (HB1.out.mono HB0.out.size))
      clear hb1 hr1 q2 q3
      obtain ⟨q2, q3⟩ := HC0.out _ HB1.out
      have HCx : Hid (∀ wx, Below w1.heap.size w1 wx → wx.cell? ⟨w.heap.size, 3, none⟩ = some (.string (S es))) := fun wx hx => (HC0.out _ (HB1.out.trans (hx.mono HB1.out.size))).2
      cases K
      · obtain ⟨hE, hB⟩ := HE2.out (fun h => by cases h.1)
        have HPo : Hid (∀ (e : Ending) (w' : World), e = .returned (.tuple #[.slice none 0 0, .int .i64 9]) → Below w.heap.size w w' → (∃ a k c, e = .returned (.tuple #[.slice a k c, .int .i64 (Plan.wholeE m sh ez es)]) ∧ RB w' (.slice a k c) (Plan.wholeB m sh ez es)) ∧ Below w.heap.size w w') := fun e w' h1 h2 => by
          rw [hE, hB]
          exact ⟨⟨_, _, _, h1, RB.nil _⟩, h2⟩
        clear hE hB
        go_wp2_with fail
        go_quiet (fail)
        go_wp2
        go_ret2
        exact HPo.out _ _ rfl (Below.drewN2 HBw.out _)
      · obtain ⟨D, HD⟩ := hid_of (dig J)
        rw [HD.out] at HE1 HE2
        have HDg : Hid (∀ wx, Below w1.heap.size w1 wx → Calls Try.prog 29 #[.slice a1 n1 c1] wx fun e w' => e = .returned (.string (S D)) ∧ Below wx.heap.size wx w') := fun wx hx => by
          rw [← HD.out]
          exact RefOf_any _ J wx (HR1.out.below hx rfl) (by have := HDl.out; omega)
        have hs0 : w1.drew.cell? ⟨w.heap.size, 3, none⟩ = some (.string (S es)) := q3
        have HQ0 : Hid (Below w1.heap.size w1 w1.drew) := (Below.refl _ _).drew
        by_cases hde : D = es
        · obtain ⟨hE, hB⟩ := HE1.out ⟨rfl, hde⟩
          have HE := Lib.hid hE
          have HBB := Lib.hid hB
          have HPo : Hid (∀ (w' : World), RB w' (.slice a1 n1 c1) J → Below w.heap.size w w' → (∃ a k c, Ending.returned (.tuple #[.slice a1 n1 c1, .int .i64 0]) = .returned (.tuple #[.slice a k c, .int .i64 (Plan.wholeE m sh ez es)]) ∧ RB w' (.slice a k c) (Plan.wholeB m sh ez es)) ∧ Below w.heap.size w w') := fun w' h1 h2 => by
            rw [HE.out, HBB.out]
            exact ⟨⟨_, _, _, rfl, h1⟩, h2⟩
          clear hE hB
          subst hde
          go_wp2_with fail
          go_region_held (fun wx => wx.cell? ⟨w.heap.size, 3, none⟩ = some (.string (S D)))
            (first | exact hs0 | exact hs1)
            (first | (go_at_call 29
                      refine (HDg.out _ HQ0.out).mono ?_
                      rintro e w2 ⟨rfl, hb2⟩
                      have HQ1 := Lib.hid (HQ0.out.trans (hb2.mono HQ0.out.size))
                      have hs1 := HCx.out _ HQ1.out
                      clear hb2))
          all_goals
            clear hs0 hs1
            have HBf := Lib.hid (HBw.out.trans (HQ1.out.mono HBw.out.size))
            have HRf := Lib.hid (HR1.out.below HQ1.out rfl)
            go_wp2
            go_ret2
            exact HPo.out _ HRf.out HBf.out
        · obtain ⟨hE, hB⟩ := HE2.out (fun h => hde h.2)
          have HE := Lib.hid hE
          have HBB := Lib.hid hB
          have HPo : Hid (∀ (e : Ending) (w' : World), e = .returned (.tuple #[.slice none 0 0, .int .i64 9]) → Below w.heap.size w w' → (∃ a k c, e = .returned (.tuple #[.slice a k c, .int .i64 (Plan.wholeE m sh ez es)]) ∧ RB w' (.slice a k c) (Plan.wholeB m sh ez es)) ∧ Below w.heap.size w w') := fun e w' h1 h2 => by
            rw [HE.out, HBB.out]
            exact ⟨⟨_, _, _, h1, RB.nil _⟩, h2⟩
          have hne1 : ((S D).toList == (S es).toList) = false := by rw [S_beq]; exact decide_eq_false hde
          have hne2 : ¬ (S D).toList = (S es).toList := by rw [S_eqs]; exact hde
          clear hE hB hde
          go_wp2_with fail
          go_region_held (fun wx => wx.cell? ⟨w.heap.size, 3, none⟩ = some (.string (S es)))
            (first | exact hs0 | exact hs1)
            (first | (go_at_call 29
                      refine (HDg.out _ HQ0.out).mono ?_
                      rintro e w2 ⟨rfl, hb2⟩
                      have HQ1 := Lib.hid (HQ0.out.trans (hb2.mono HQ0.out.size))
                      have hs1 := HCx.out _ HQ1.out
                      clear hb2))
          all_goals
            clear hs0 hs1
            have HBf := Lib.hid (HBw.out.trans (HQ1.out.mono HBw.out.size))
            go_wp2
            go_ret2
            exact HPo.out _ _ rfl HBf.out
end Go.Proofs.Ytepedabpnchajaa
