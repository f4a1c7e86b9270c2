/-
  kistref09: Good, Encode.
-/
import Derived.Test.YtlmfjohaejdmcaaLabRef
import Derived.Test.YtlmfjohaejdmcaaWordRefPut
import Derived.Test.YtlmfjohaejdmcaaSumRef
import Derived.Test.YtlmfjohaejdmcaaLabUse
namespace Go.Proofs.Ytlmfjohaejdmcaa
open Go.RowKit
set_option linter.unusedVariables false
set_option linter.unusedSimpArgs false

theorem in_b (n a b : Int) (c : Bool) (w : World) (h : decide (a ≤ n ∧ n ≤ b) = c) :
    Calls Try.prog 29 #[.int .i64 n, .int .i64 a, .int .i64 b] w fun e w' => e = .returned (.bool c) ∧ w = w' := by
  subst h
  exact in_any n a b w
set_option maxRecDepth 100000 in
set_option maxHeartbeats 4000000 in
theorem rgood_any (r : Rc) (a : Option Addr) (n c : Nat) (w : World) (h : Rec w (.slice a n c) r) (hn : n = r.data.length) :
    Calls Try.prog 14 #[recV r (.slice a n c)] w fun e w' => e = .returned (.bool (Lab.goodB r)) ∧ Below w.heap.size w w' := by
  have HGo : Hid (Lab.goodB r = decide ((1 ≤ r.kind ∧ r.kind ≤ 3) ∧ r = bareR r ∧ (if r.kind = 1 then 0 ≤ r.cart ∧ r.cart ≤ 31 else Lab.KeyOk r ∧ Lab.GenOk r ∧ (if r.kind = 3 then True else Lab.ShardOk r)))) := by
    unfold Hid Lab.goodB
    exact decide_eq_decide.2 (good_ref r)
  have H0 := Lib.hid (h.one (.cells #[.int .i64 r.kind, .int .i64 r.cart, .string (S r.key), .int .i64 r.gen, .int .i64 r.group, .int .i64 r.groups, .int .i64 r.index, .int .i64 r.size, .string (S r.sum), .slice a n c] 24))
  have HP0 : Hid (Blk (w.alloc (.cells #[.int .i64 r.kind, .int .i64 r.cart, .string (S r.key), .int .i64 r.gen, .int .i64 r.group, .int .i64 r.groups, .int .i64 r.index, .int .i64 r.size, .string (S r.sum), .slice a n c] 24)) w.heap.size (recC r (.slice a n c)).toList 24) := Blk.new w _ _ rfl
  have HB0 : Hid (Below w.heap.size w (w.alloc (.cells #[.int .i64 r.kind, .int .i64 r.cart, .string (S r.key), .int .i64 r.gen, .int .i64 r.group, .int .i64 r.groups, .int .i64 r.index, .int .i64 r.size, .string (S r.sum), .slice a n c] 24))) := (Below.refl _ _).alloc (Nat.le_refl _) _
  have HIn : Hid (∀ x p q b wx k, decide (p ≤ x ∧ x ≤ q) = b → Calls Try.prog 29 #[.int .i64 x, .int .i64 p, .int .i64 q] (World.drewN wx k) fun e w' => e = .returned (.bool b) ∧ ∃ m, w' = wx.drewN m) := fun x p q b wx k hb => quiet_form (fun w => by subst hb; exact in_any x p q w) k
  have hkl := h.2.1
  have hsl := h.2.2
  have HSk := Lib.hid (S_size r.key)
  have HSs := Lib.hid (S_size r.sum)
  have HN := Lib.hid hn
  simp only [maxLen] at hkl hsl
  clear hn
  by_cases hk : 1 ≤ r.kind ∧ r.kind ≤ 3
  · have HI1 : Hid (∀ wx, Calls Try.prog 29 #[.int .i64 r.kind, .int .i64 1, .int .i64 3] wx fun e w' => e = .returned (.bool true) ∧ wx = w') := fun wx => by
      have := in_any r.kind 1 3 wx
      rw [decide_eq_true hk] at this
      exact this
    have HBa : Hid (∀ wx, RB wx (.slice a n c) r.data → Calls Try.prog 30 #[recV r (.slice a n c)] wx fun e w' => ∃ d, e = .returned (recV (bareR r) d) ∧ RB w' d (bareR r).data ∧ Below wx.heap.size wx w') := fun wx hx => bare_any r a n c wx hx
    have HSm : Hid (∀ wx d, RB wx (.slice a n c) r.data → RB wx d (bareR r).data → Calls Try.prog 17 #[recV r (.slice a n c), recV (bareR r) d] wx fun e w' => e = .returned (.bool (decide (r = bareR r))) ∧ Below wx.heap.size wx w') := fun wx d h1 h2 => refSame_any r (bareR r) _ d wx h1 h2
    have hs0 : ((w.alloc (.cells #[.int .i64 r.kind, .int .i64 r.cart, .string (S r.key), .int .i64 r.gen, .int .i64 r.group, .int .i64 r.groups, .int .i64 r.index, .int .i64 r.size, .string (S r.sum), .slice a n c] 24)).drew.cell? ⟨w.heap.size, 0, none⟩ = some (.int .i64 r.kind) ∧ (w.alloc (.cells #[.int .i64 r.kind, .int .i64 r.cart, .string (S r.key), .int .i64 r.gen, .int .i64 r.group, .int .i64 r.groups, .int .i64 r.index, .int .i64 r.size, .string (S r.sum), .slice a n c] 24)).drew.cell? ⟨w.heap.size, 1, none⟩ = some (.int .i64 r.cart) ∧ (w.alloc (.cells #[.int .i64 r.kind, .int .i64 r.cart, .string (S r.key), .int .i64 r.gen, .int .i64 r.group, .int .i64 r.groups, .int .i64 r.index, .int .i64 r.size, .string (S r.sum), .slice a n c] 24)).drew.cell? ⟨w.heap.size, 2, none⟩ = some (.string (S r.key)) ∧ (w.alloc (.cells #[.int .i64 r.kind, .int .i64 r.cart, .string (S r.key), .int .i64 r.gen, .int .i64 r.group, .int .i64 r.groups, .int .i64 r.index, .int .i64 r.size, .string (S r.sum), .slice a n c] 24)).drew.cell? ⟨w.heap.size, 3, none⟩ = some (.int .i64 r.gen) ∧ (w.alloc (.cells #[.int .i64 r.kind, .int .i64 r.cart, .string (S r.key), .int .i64 r.gen, .int .i64 r.group, .int .i64 r.groups, .int .i64 r.index, .int .i64 r.size, .string (S r.sum), .slice a n c] 24)).drew.cell? ⟨w.heap.size, 4, none⟩ = some (.int .i64 r.group) ∧ (w.alloc (.cells #[.int .i64 r.kind, .int .i64 r.cart, .string (S r.key), .int .i64 r.gen, .int .i64 r.group, .int .i64 r.groups, .int .i64 r.index, .int .i64 r.size, .string (S r.sum), .slice a n c] 24)).drew.cell? ⟨w.heap.size, 5, none⟩ = some (.int .i64 r.groups) ∧ (w.alloc (.cells #[.int .i64 r.kind, .int .i64 r.cart, .string (S r.key), .int .i64 r.gen, .int .i64 r.group, .int .i64 r.groups, .int .i64 r.index, .int .i64 r.size, .string (S r.sum), .slice a n c] 24)).drew.cell? ⟨w.heap.size, 6, none⟩ = some (.int .i64 r.index) ∧ (w.alloc (.cells #[.int .i64 r.kind, .int .i64 r.cart, .string (S r.key), .int .i64 r.gen, .int .i64 r.group, .int .i64 r.groups, .int .i64 r.index, .int .i64 r.size, .string (S r.sum), .slice a n c] 24)).drew.cell? ⟨w.heap.size, 7, none⟩ = some (.int .i64 r.size) ∧ (w.alloc (.cells #[.int .i64 r.kind, .int .i64 r.cart, .string (S r.key), .int .i64 r.gen, .int .i64 r.group, .int .i64 r.groups, .int .i64 r.index, .int .i64 r.size, .string (S r.sum), .slice a n c] 24)).drew.cell? ⟨w.heap.size, 8, none⟩ = some (.string (S r.sum)) ∧ (w.alloc (.cells #[.int .i64 r.kind, .int .i64 r.cart, .string (S r.key), .int .i64 r.gen, .int .i64 r.group, .int .i64 r.groups, .int .i64 r.index, .int .i64 r.size, .string (S r.sum), .slice a n c] 24)).drew.cell? ⟨w.heap.size, 9, none⟩ = some (.slice a n c)) := rec_cells HP0.out.drew
    have hHd := Lib.hid H0.out.1.drew
    obtain ⟨b, Hb⟩ := hid_of (decide (r = bareR r))
    rw [Hb.out] at HSm
    clear h
    unfold recV at HBa HSm ⊢
    go_enter Try.func14, Try.ntmps14
    go_wp2_with fail
    go_region_held (fun wx => (wx.cell? ⟨w.heap.size, 0, none⟩ = some (.int .i64 r.kind) ∧ wx.cell? ⟨w.heap.size, 1, none⟩ = some (.int .i64 r.cart) ∧ wx.cell? ⟨w.heap.size, 2, none⟩ = some (.string (S r.key)) ∧ wx.cell? ⟨w.heap.size, 3, none⟩ = some (.int .i64 r.gen) ∧ wx.cell? ⟨w.heap.size, 4, none⟩ = some (.int .i64 r.group) ∧ wx.cell? ⟨w.heap.size, 5, none⟩ = some (.int .i64 r.groups) ∧ wx.cell? ⟨w.heap.size, 6, none⟩ = some (.int .i64 r.index) ∧ wx.cell? ⟨w.heap.size, 7, none⟩ = some (.int .i64 r.size) ∧ wx.cell? ⟨w.heap.size, 8, none⟩ = some (.string (S r.sum)) ∧ wx.cell? ⟨w.heap.size, 9, none⟩ = some (.slice a n c)))
      (first | exact hs0 | exact hs1 | exact hs2)
      (first
      | (go_at_call 29; (with_reducible refine (HI1.out _).mono ?_); rintro e w' ⟨rfl, rfl⟩)
      | (go_at_call 30
         (with_reducible refine (HBa.out _ hHd.out).mono ?_)
         rintro e w1 ⟨d1, rfl, hr1, hb1⟩
         have HP1 := Lib.hid (HP0.out.drew.below hb1 HP0.out.lt)
         have HD1 := Lib.hid (hHd.out.below hb1 rfl)
         have HE1 := Lib.hid hr1
         have HB1 := Lib.hid (HB0.out.drew.trans (hb1.mono HB0.out.size))
         have hs1 := rec_cells HP1.out
         clear hr1 hb1)
      | (go_at_call 17
         (with_reducible refine (HSm.out _ _ HD1.out HE1.out).mono ?_)
         rintro e w2 ⟨rfl, hb2⟩
         have HP2 := Lib.hid (HP1.out.below hb2 HP1.out.lt)
         have HB2 := Lib.hid (HB1.out.trans (hb2.mono HB1.out.size))
         have hs2 := rec_cells HP2.out
         clear hb2))
    obtain ⟨q0, q1, q2, q3, q4, q5, q6, q7, q8, q9⟩ := hs2
    clear hs0 hs1 HSm HBa HI1 H0 HP0 HB0 hHd HP1 HD1 HE1 HB1 HP2
    cases b with
    | false =>
      have HG0 : Hid (Lab.goodB r = false) := by rw [HGo.out]; exact decide_eq_false (fun h => of_decide_eq_false Hb.out h.2.1)
      go_wp2
      go_ret
      exact ⟨ret_bool HG0.out.symm, HB2.out⟩
    | true =>
      have HG1 : Hid (Lab.goodB r = decide (if r.kind = 1 then 0 ≤ r.cart ∧ r.cart ≤ 31 else Lab.KeyOk r ∧ Lab.GenOk r ∧ (if r.kind = 3 then True else Lab.ShardOk r))) := by
        rw [HGo.out]; exact decide_eq_decide.2 ⟨fun h => h.2.2, fun h => ⟨hk, of_decide_eq_true Hb.out, h⟩⟩
      clear hk Hb HGo
      by_cases k1 : r.kind = 1
      · have HG2 : Hid (Lab.goodB r = decide (0 ≤ r.cart ∧ r.cart ≤ 31)) := HG1.out.trans (decide_eq_decide.2 (by rw [if_pos k1]))
        obtain ⟨bc, Hbc⟩ := hid_of (decide (0 ≤ r.cart ∧ r.cart ≤ 31))
        rw [Hbc.out] at HG2
        go_wp2_with ((with_reducible refine (in_b _ _ _ _ _ Hbc.out).mono ?_); rintro e w' ⟨rfl, rfl⟩)
        go_ret
        exact ⟨ret_bool HG2.out.symm, HB2.out⟩
      · have HG1' : Hid (Lab.goodB r = decide (Lab.KeyOk r ∧ Lab.GenOk r ∧ (if r.kind = 3 then True else Lab.ShardOk r))) := HG1.out.trans (decide_eq_decide.2 (by rw [if_neg k1]))
        have e1 : (r.kind == 1) = false := beq_eq_false_iff_ne.2 k1
        have hsk := HSk.out
        clear k1 HG1
        by_cases hK : Lab.KeyOk r
        · have HK : Hid (decide (1 ≤ (r.key.length : Int) ∧ (r.key.length : Int) ≤ 16) = true) := by have := hK; unfold Lab.KeyOk at this; exact decide_eq_true (by omega)
          by_cases hG : Lab.GenOk r
          · have HGn : Hid (decide (0 ≤ r.gen ∧ r.gen ≤ 1099511627776) = true) := Lib.hid (decide_eq_true hG)
            by_cases k3 : r.kind = 3
            · have HG2 : Hid (Lab.goodB r = true) := by rw [HG1'.out]; exact decide_eq_true ⟨hK, hG, by rw [if_pos k3]; trivial⟩
              clear hK hG
              go_wp2_with (first | ((with_reducible refine (in_b _ _ _ _ _ HK.out).mono ?_); rintro e w' ⟨rfl, rfl⟩) | ((with_reducible refine (in_b _ _ _ _ _ HGn.out).mono ?_); rintro e w' ⟨rfl, rfl⟩))
              go_ret
              exact ⟨ret_bool HG2.out.symm, HB2.out⟩
            · have HG2 : Hid (Lab.goodB r = decide (Lab.ShardOk r)) := HG1'.out.trans (decide_eq_decide.2 (by rw [if_neg k3]; exact ⟨fun h => h.2.2, fun h => ⟨hK, hG, h⟩⟩))
              have e3 : (r.kind == 3) = false := beq_eq_false_iff_ne.2 k3
              clear hK hG k3
              go_wp2_with (first | ((with_reducible refine (in_b _ _ _ _ _ HK.out).mono ?_); rintro e w' ⟨rfl, rfl⟩) | ((with_reducible refine (in_b _ _ _ _ _ HGn.out).mono ?_); rintro e w' ⟨rfl, rfl⟩))
              clear HGn hsk
              by_cases c1 : 0 ≤ r.size ∧ r.size ≤ 512
              · have HI0 := Lib.hid (decide_eq_true c1)
                have c1r := c1.2
                have HGr : Hid (∀ wx k, Calls Try.prog 31 #[.int .i64 r.size] (World.drewN wx k) fun e w' => e = .returned (.int .i64 (Lab.groupsI r.size)) ∧ ∃ m, w' = wx.drewN m) := fun wx k => quiet_form (fun w => rgroups_any r.size w c1.1 c1.2) k
                obtain ⟨Gn, HGn⟩ := hid_of (Lab.groupsI r.size)
                rw [HGn.out] at HGr
                by_cases c2 : r.groups = Lab.groupsI r.size
                · have d1 : (r.groups == Lab.groupsI r.size) = true := by rw [c2]; simp
                  rw [HGn.out] at d1
                  by_cases c3 : 0 ≤ r.group
                  · have d2 : decide (0 ≤ r.group) = true := decide_eq_true c3
                    by_cases c4 : r.group < r.groups
                    · have d3 : decide (r.group < r.groups) = true := decide_eq_true c4
                      by_cases c5 : 0 ≤ r.index ∧ r.index ≤ 9
                      · have HI4 := Lib.hid (decide_eq_true c5)
                        by_cases c6 : r.sum.length = 32
                        · have d5 : (((S r.sum).size : Int) == 32) = true := by rw [S_size]; rw [c6]; rfl
                          by_cases c7 : r.data.length = 16
                          · have d6 : ((n : Int) == 16) = true := by rw [HN.out]; rw [c7]; rfl
                            have HF : Hid (Lab.goodB r = true) := by rw [HG2.out]; exact decide_eq_true ⟨c1, c2, ⟨c3, c4⟩, c5, c6, c7⟩
                            clear c1 c2 c3 c4 c5 c6 c7
                            clear c1r
                            go_quiet (first | exact HIn.out _ _ _ _ _ _ HI0.out | exact HGr.out _ _ | exact HIn.out _ _ _ _ _ _ HI4.out)
                            go_wp2
                            go_ret
                            exact ⟨ret_bool HF.out.symm, Below.drewN2 HB2.out _⟩
                          · have d6 : ((n : Int) == 16) = false := by rw [HN.out]; rw [beq_eq_false_iff_ne]; omega
                            have HF : Hid (Lab.goodB r = false) := by rw [HG2.out]; exact decide_eq_false (fun h => c7 h.2.2.2.2.2)
                            clear c1 c2 c3 c4 c5 c6 c7
                            clear c1r
                            go_quiet (first | exact HIn.out _ _ _ _ _ _ HI0.out | exact HGr.out _ _ | exact HIn.out _ _ _ _ _ _ HI4.out)
                            go_wp2
                            go_ret
                            exact ⟨ret_bool HF.out.symm, Below.drewN2 HB2.out _⟩
                        · have d5 : (((S r.sum).size : Int) == 32) = false := by rw [S_size]; rw [beq_eq_false_iff_ne]; omega
                          have HF : Hid (Lab.goodB r = false) := by rw [HG2.out]; exact decide_eq_false (fun h => c6 h.2.2.2.2.1)
                          clear c1 c2 c3 c4 c5 c6
                          clear c1r
                          go_quiet (first | exact HIn.out _ _ _ _ _ _ HI0.out | exact HGr.out _ _ | exact HIn.out _ _ _ _ _ _ HI4.out)
                          go_wp2
                          go_ret
                          exact ⟨ret_bool HF.out.symm, Below.drewN2 HB2.out _⟩
                      · have HI4 := Lib.hid (decide_eq_false c5)
                        have HF : Hid (Lab.goodB r = false) := by rw [HG2.out]; exact decide_eq_false (fun h => c5 h.2.2.2.1)
                        clear c1 c2 c3 c4 c5
                        clear c1r
                        go_quiet (first | exact HIn.out _ _ _ _ _ _ HI0.out | exact HGr.out _ _ | exact HIn.out _ _ _ _ _ _ HI4.out)
                        go_wp2
                        go_ret
                        exact ⟨ret_bool HF.out.symm, Below.drewN2 HB2.out _⟩
                    · have d3 : decide (r.group < r.groups) = false := decide_eq_false c4
                      have HF : Hid (Lab.goodB r = false) := by rw [HG2.out]; exact decide_eq_false (fun h => c4 h.2.2.1.2)
                      clear c1 c2 c3 c4
                      clear c1r
                      go_quiet (first | exact HIn.out _ _ _ _ _ _ HI0.out | exact HGr.out _ _)
                      go_wp2
                      go_ret
                      exact ⟨ret_bool HF.out.symm, Below.drewN2 HB2.out _⟩
                  · have d2 : decide (0 ≤ r.group) = false := decide_eq_false c3
                    have HF : Hid (Lab.goodB r = false) := by rw [HG2.out]; exact decide_eq_false (fun h => c3 h.2.2.1.1)
                    clear c1 c2 c3
                    clear c1r
                    go_quiet (first | exact HIn.out _ _ _ _ _ _ HI0.out | exact HGr.out _ _)
                    go_wp2
                    go_ret
                    exact ⟨ret_bool HF.out.symm, Below.drewN2 HB2.out _⟩
                · have d1 : (r.groups == Lab.groupsI r.size) = false := by rw [beq_eq_false_iff_ne]; exact c2
                  rw [HGn.out] at d1
                  have HF : Hid (Lab.goodB r = false) := by rw [HG2.out]; exact decide_eq_false (fun h => c2 h.2.1)
                  clear c1 c2
                  clear c1r
                  go_quiet (first | exact HIn.out _ _ _ _ _ _ HI0.out | exact HGr.out _ _)
                  go_wp2
                  go_ret
                  exact ⟨ret_bool HF.out.symm, Below.drewN2 HB2.out _⟩
              · have HI0 := Lib.hid (decide_eq_false c1)
                have HF : Hid (Lab.goodB r = false) := by rw [HG2.out]; exact decide_eq_false (fun h => c1 h.1)
                clear c1
                go_quiet (first | exact HIn.out _ _ _ _ _ _ HI0.out)
                go_wp2
                go_ret
                exact ⟨ret_bool HF.out.symm, Below.drewN2 HB2.out _⟩
          · have HGn : Hid (decide (0 ≤ r.gen ∧ r.gen ≤ 1099511627776) = false) := Lib.hid (decide_eq_false hG)
            have HG2 : Hid (Lab.goodB r = false) := by rw [HG1'.out]; exact decide_eq_false (fun h => hG h.2.1)
            clear hK hG
            go_wp2_with (first | ((with_reducible refine (in_b _ _ _ _ _ HK.out).mono ?_); rintro e w' ⟨rfl, rfl⟩) | ((with_reducible refine (in_b _ _ _ _ _ HGn.out).mono ?_); rintro e w' ⟨rfl, rfl⟩))
            go_ret
            exact ⟨ret_bool HG2.out.symm, HB2.out⟩
        · have HK : Hid (decide (1 ≤ (r.key.length : Int) ∧ (r.key.length : Int) ≤ 16) = false) := by have := hK; unfold Lab.KeyOk at this; exact decide_eq_false (by omega)
          have HG2 : Hid (Lab.goodB r = false) := by rw [HG1'.out]; exact decide_eq_false (fun h => hK h.1)
          clear hK
          go_wp2_with ((with_reducible refine (in_b _ _ _ _ _ HK.out).mono ?_); rintro e w' ⟨rfl, rfl⟩)
          go_ret
          exact ⟨ret_bool HG2.out.symm, HB2.out⟩
  · have HX := Lib.hid (decide_eq_false hk)
    have HG0 : Hid (Lab.goodB r = false) := by rw [HGo.out]; exact decide_eq_false (fun h => hk h.1)
    have hd : decide (1 ≤ r.kind ∧ r.kind ≤ 3) = false := decide_eq_false hk
    have hs0 := (rec_cells HP0.out).1
    clear hk hd h HSk HSs
    unfold recV
    go_enter Try.func14, Try.ntmps14
    go_wp2_with fail
    go_quiet ((go_at_call 29; exact HIn.out _ _ _ _ _ _ HX.out))
    go_wp2
    go_ret
    exact ⟨ret_bool HG0.out.symm, Below.drewN2 ((Below.refl _ _).alloc (Nat.le_refl _) _) _⟩
end Go.Proofs.Ytlmfjohaejdmcaa
