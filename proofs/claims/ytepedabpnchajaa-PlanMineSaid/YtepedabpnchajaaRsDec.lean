/-
  kist/rs.Decode.
-/
import Derived.Test.YtepedabpnchajaaRsEnc
import Derived.Test.YtepedabpnchajaaCl

namespace Go.Proofs.Ytepedabpnchajaa
open Go.RowKit
set_option linter.unusedVariables false

theorem tab_flat (n m : Nat) (f : Fm) : (tab n m f).flatten.length = n * m ∧ ∀ i j, i < n → j < m → (tab n m f).flatten.getD (m * i + j) 0 = f i j := by
  induction n with
  | zero => exact ⟨by simp [tab], fun i j hi => by omega⟩
  | succ n ih =>
    have e : (tab (n + 1) m f).flatten = (tab n m f).flatten ++ line m (f n) := by rw [tab_succ, List.flatten_append]; simp
    refine ⟨by rw [e, List.length_append, ih.1, line_length, Nat.add_mul, Nat.one_mul], fun i j hi hj => ?_⟩
    rw [e, List.getD_eq_getElem?_getD]
    by_cases h : i < n
    · have hlt : m * i + j < (tab n m f).flatten.length := by
        rw [ih.1, Nat.mul_comm n m]
        have : m * (i + 1) ≤ m * n := Nat.mul_le_mul_left m h
        rw [Nat.mul_add] at this
        omega
      rw [List.getElem?_append_left hlt, ← List.getD_eq_getElem?_getD]
      exact ih.2 i j h hj
    · have hin : i = n := by omega
      subst hin
      rw [List.getElem?_append_right (by rw [ih.1, Nat.mul_comm i m]; omega), ih.1, Nat.mul_comm i m, Nat.add_sub_cancel_left, ← List.getD_eq_getElem?_getD]
      exact line_get m _ j hj
def presN (sh : List (List UInt8)) (n : Nat) : List Nat := (List.range n).filter fun i => decide (0 < (sh.getD i []).length)
def idxN (sh : List (List UInt8)) (n : Nat) : List Nat := (presN sh n).take 8
theorem presN_succ (sh : List (List UInt8)) (n : Nat) : presN sh (n + 1) = if 0 < (sh.getD n []).length then presN sh n ++ [n] else presN sh n := by
  unfold presN
  rw [List.range_succ, List.filter_append]
  by_cases h : 0 < (sh.getD n []).length
  · rw [if_pos h]
    simp only [List.filter_cons, List.filter_nil, h, decide_true, if_true]
  · rw [if_neg h]
    simp only [List.filter_cons, List.filter_nil, h, decide_false, Bool.false_eq_true, if_false, List.append_nil]
theorem idxN_more (sh : List (List UInt8)) (n : Nat) (h : 0 < (sh.getD n []).length) (hl : (idxN sh n).length < 8) : idxN sh (n + 1) = idxN sh n ++ [n] := by
  unfold idxN at *
  rw [presN_succ, if_pos h]
  have : (presN sh n).length < 8 := by simp at hl; omega
  rw [List.take_of_length_le (by simp; omega), List.take_of_length_le (by omega)]
theorem idxN_full (sh : List (List UInt8)) (n : Nat) (hl : ¬ (idxN sh n).length < 8) : idxN sh (n + 1) = idxN sh n := by
  unfold idxN at *
  rw [presN_succ]
  split
  · have : 8 ≤ (presN sh n).length := by simp at hl; omega
    rw [List.take_append_of_le_length this]
  · rfl
theorem idxN_none (sh : List (List UInt8)) (n : Nat) (h : ¬ 0 < (sh.getD n []).length) : idxN sh (n + 1) = idxN sh n := by
  unfold idxN
  rw [presN_succ, if_neg h]
theorem idxN_len (sh : List (List UInt8)) (n : Nat) : (idxN sh n).length ≤ 8 := by unfold idxN; simp; omega
theorem idxN_mem {sh : List (List UInt8)} {n x : Nat} (h : x ∈ idxN sh n) : x < n ∧ 0 < (sh.getD x []).length := by
  have h1 := List.mem_filter.1 (List.mem_of_mem_take h)
  exact ⟨List.mem_range.1 h1.1, by simpa using h1.2⟩
theorem idxN_nodup (sh : List (List UInt8)) (n : Nat) : (idxN sh n).Nodup := take_nodup (nodup_filter _ List.nodup_range) 8
/-- the shards at these places, as a table -/
theorem picked_sh (sh : List (List UInt8)) (idx : List Nat) (hl : idx.length = 8) (h : ∀ x ∈ idx, (sh.getD x []).length = 16) : (idx.map fun x => sh.getD x []) = tab 8 16 (fun r j => At sh (idx.getD r 0) j) := by
  refine List.ext_getElem (by rw [List.length_map, tab_length, hl]) fun i h1 h2 => ?_
  rw [List.length_map] at h1
  have h3 := tab_row 8 16 (fun r j => At sh (idx.getD r 0) j) i (by omega)
  rw [List.getD_eq_getElem?_getD, List.getElem?_eq_getElem h2] at h3
  simp only [Option.getD_some] at h3
  rw [h3, List.getElem_map]
  have hm := h (idx[i]) (List.getElem_mem _)
  refine List.ext_getElem (by rw [hm, line_length]) fun j hj hj2 => ?_
  have e : idx.getD i 0 = idx[i] := by simp [List.getD_eq_getElem?_getD, h1]
  simp only [line, List.getElem_map, List.getElem_range, e]
  unfold At
  rw [List.getD_eq_getElem?_getD (l := sh.getD idx[i] []), List.getElem?_eq_getElem hj]
  rfl
/-- what comes of them is the group -/
theorem sol_by (sh : List (List UInt8)) (P : Fm) (hl : (idxN sh 10).length = 8) (h : ∀ r j, r < 8 → j < 16 → pr 8 (fun r j => codeF 8 ((idxN sh 10).getD r 0) j) P r j = At sh ((idxN sh 10).getD r 0) j) :
    Sol sh (tab 8 16 P).flatten := by
  obtain ⟨hf1, hf2⟩ := tab_flat 8 16 P
  refine ⟨hf1, fun x hx j hj => ?_⟩
  obtain ⟨r, hr, hrx⟩ := List.mem_iff_getElem.1 hx
  have hr8 : r < 8 := by have h1 : ((pres sh).take 8).length ≤ 8 := by simp; omega
                         omega
  have hx' : (idxN sh 10).getD r 0 = x := by
    rw [List.getD_eq_getElem?_getD, List.getElem?_eq_getElem (show r < (idxN sh 10).length by rw [hl]; exact hr8)]
    exact hrx
  have h1 := h r j hr8 hj
  rw [hx'] at h1
  rw [show (sh.getD x []).getD j 0 = At sh x j from rfl, ← h1]
  unfold encF
  refine sm_congr fun k hk => ?_
  have e : partsF (tab 8 16 P).flatten k j = P k j := hf2 k j hk hj
  show mul (codeF 8 x k) _ = mul (codeF 8 ((idxN sh 10).getD r 0) k) _
  rw [e, hx']
theorem sol_of (sh : List (List UInt8)) (X : Fm) (hl : (idxN sh 10).length = 8) (hb : Both 8 (fun r j => codeF 8 ((idxN sh 10).getD r 0) j) X) :
    Sol sh (tab 8 16 (pr 8 X (fun r j => At sh ((idxN sh 10).getD r 0) j))).flatten := by
  refine sol_by sh _ hl fun r j hr hj => ?_
  rw [← pr_assoc, pr_congr (fun k hk => hb.2 r k hr hk) (fun _ _ => rfl), id_pr _ _ hr]
def DecOk (B : Nat) (w' : World) (sh : List (List UInt8)) (e : Ending) : Prop :=
  (Bad sh ∧ e = .returned (.tuple #[.slice none 0 0, .int .i64 1])) ∨ (¬ Bad sh ∧ (pres sh).length < 8 ∧ e = .returned (.tuple #[.slice none 0 0, .int .i64 9])) ∨
    (¬ Bad sh ∧ 8 ≤ (pres sh).length ∧ ∃ v d, e = .returned (.tuple #[v, .int .i64 0]) ∧ RB w' v d ∧ Sol sh d ∧ ∀ k, v.ownBlock = some k → B ≤ k)
set_option maxRecDepth 100000 in
set_option maxHeartbeats 8000000 in
theorem decode_any (v : Value) (sh : List (List UInt8)) (w : World) (h : RT w v sh) :
    Calls Try.prog 24 #[v] w fun e w' => DecOk w.heap.size w' sh e ∧ Below w.heap.size w w' := by
  obtain ⟨a, c, rfl, h1, h2⟩ := h.shape
  simp only [maxLen] at h2
  obtain ⟨n, Hn⟩ := hid_of sh.length
  have H : Hid (RT w (.slice a n c) sh) := by rw [← Hn.out]; exact h
  rw [Hn.out] at h1 ⊢
  clear h
  by_cases h10 : n = 10
  · subst h10
    obtain ⟨g, o, rfl, hg, hrow⟩ := H.out.row (by rw [Hn.out]; omega)
    have HRow := Lib.hid hrow
    have HG := Lib.hid hg
    clear hrow hg
    go_enter Try.func24, Try.ntmps24
    go_wp2_with fail
    refine (code_yes 8 10 _ (by omega) (by omega) (by omega)).mono ?_
    rintro e w1 ⟨v1, rfl, hr1, hb1⟩
    have HR1 := Lib.hid hr1
    have HB1 := Lib.hid hb1
    obtain ⟨ka, kc, rfl, hk1, hk2⟩ := hr1.shape
    rw [show (codeT 8 10).length = 10 from tab_length _ _ _] at hk1 HR1 ⊢
    simp only [maxLen] at hk2
    obtain ⟨kg, ko, rfl, hkg, hkrow⟩ := HR1.out.row (by rw [show (codeT 8 10).length = 10 from tab_length _ _ _]; omega)
    have HKRow := Lib.hid hkrow
    clear hr1 hb1 hkrow
    have HL0 : Hid (Cl w1.heap.size w1.heap.size 35 w1 (.slice none 0 0) ((idxN sh 0).map fun x => (codeT 8 10).getD x [])) := ⟨[], World.ownsRow_nil w1 _ _ 1, fun i hi => by simp [idxN, presN] at hi⟩
    have HRr0 : Hid (Cl w1.heap.size w1.heap.size 35 w1 (.slice none 0 0) ((idxN sh 0).map fun x => sh.getD x [])) := ⟨[], World.ownsRow_nil w1 _ _ 1, fun i hi => by simp [idxN, presN] at hi⟩
    go_wp2
    go_loopw [5, 6, 22] (fun vl vr x wr => ∃ i : Nat, i ≤ 10 ∧ x = .int .i64 (i : Int) ∧ Cl w1.heap.size w1.heap.size 35 wr vl ((idxN sh i).map fun x => (codeT 8 10).getD x []) ∧ Cl w1.heap.size w1.heap.size 35 wr vr ((idxN sh i).map fun x => sh.getD x []) ∧ (∀ x, vl.ownBlock = some x → vr.ownBlock ≠ some x) ∧ (∀ j, j < i → (sh.getD j []).length = 0 ∨ (sh.getD j []).length = 16) ∧ Below w1.heap.size w1 wr) (fun _ _ x _ => 10 - (intOf x).toNat)
    case atStart => exact ⟨0, by omega, rfl, HL0.out, HRr0.out, fun x hx => by simp [Value.ownBlock] at hx, fun j hj => by omega, Below.refl _ _⟩
    case round =>
      clear HL0 HRr0
      obtain ⟨i, hi, rfl, hcl, hcr, hsep, hgood, hbe⟩ := hrel
      have HCl := Lib.hid hcl
      have HCr := Lib.hid hcr
      have HSep := Lib.hid hsep
      have HGood := Lib.hid hgood
      have HBe := Lib.hid hbe
      obtain ⟨la, lc, rfl, hl1, hl2⟩ := hcl.shape
      obtain ⟨ra, rc, rfl, hr1, hr2⟩ := hcr.shape
      simp only [maxLen] at hl2 hr2
      have hil := idxN_len sh i
      simp only [List.length_map] at hl1 hr1 HCl HCr HSep ⊢
      obtain ⟨nl, Hnl⟩ := hid_of (idxN sh i).length
      rw [Hnl.out] at hl1 hr1 HCl HCr HSep hil ⊢
      clear hcl hcr hsep hgood hbe
      by_cases hlt : i < 10
      · have hi10 : (i : Int) < 10 := by omega
        obtain ⟨u, hcu, hru⟩ := HRow.out i (by rw [Hn.out]; exact hlt)
        obtain ⟨ua, uc, rfl, hu1, hu2⟩ := hru.shape
        obtain ⟨l, Hl⟩ := hid_of (sh.getD i []).length
        rw [Hl.out] at hcu hru hu1
        have hcu' : wr.cell? ⟨g, o + i, none⟩ = some (.slice ua l uc) := by
          rw [HBe.out.cell (p := ⟨g, o + i, none⟩) (by have := HB1.out.size; have := HG.out; simp only; omega), HB1.out.cell (p := ⟨g, o + i, none⟩) HG.out]
          exact hcu
        have HRu := Lib.hid hru
        clear hcu hru
        by_cases hl0 : l = 0
        · have HN : Hid (idxN sh (i + 1) = idxN sh i) := idxN_none sh i (by rw [Hl.out]; omega)
          have HGood2 : Hid (∀ j, j < i + 1 → (sh.getD j []).length = 0 ∨ (sh.getD j []).length = 16) := fun j hj => by
            by_cases e : j = i
            · rw [e, Hl.out]; exact .inl hl0
            · exact HGood.out j (by omega)
          subst hl0
          go_wp2
          go_roundw
          case rel => exact ⟨i + 1, by omega, by go_num, by rw [HN.out]; exact HCl.out, by rw [HN.out]; exact HCr.out, HSep.out, HGood2.out, HBe.out⟩
          case measure => simp [intOf]; omega
        · by_cases hl16 : l = 16
          · have HGood2 : Hid (∀ j, j < i + 1 → (sh.getD j []).length = 0 ∨ (sh.getD j []).length = 16) := fun j hj => by
              by_cases e : j = i
              · rw [e, Hl.out]; exact .inr hl16
              · exact HGood.out j (by omega)
            subst hl16
            by_cases hnl : nl < 8
            · have hnlI : (nl : Int) < 8 := by omega
              have HN : Hid (idxN sh (i + 1) = idxN sh i ++ [i]) := idxN_more sh i (by rw [Hl.out]; omega) (by rw [Hnl.out]; exact hnl)
              obtain ⟨ku, hkc, hkr⟩ := HKRow.out i (by rw [show (codeT 8 10).length = 10 from tab_length _ _ _]; exact hlt)
              rw [code_row 8 10 i hlt] at hkr
              obtain ⟨xa, xc, rfl, hx1, hx2⟩ := hkr.shape
              rw [line_length] at hkc hkr hx1
              have hkc' : wr.cell? ⟨kg, ko + i, none⟩ = some (.slice xa 8 xc) := by
                rw [HBe.out.cell (p := ⟨kg, ko + i, none⟩) hkg]
                exact hkc
              have HB0 : Hid (w1.heap.size ≤ wr.heap.size) := HBe.out.size
              have HKx : Hid (∀ x, (Value.slice xa 8 xc).ownBlock = some x → x < w1.heap.size) := fun x hx => by
                obtain ⟨y, hy, hlt'⟩ := hkr.block (by rw [line_length]; omega)
                rw [hx] at hy
                cases hy
                exact hlt'
              have HUx : Hid (∀ x, (Value.slice ua 16 uc).ownBlock = some x → x < w1.heap.size) := fun x hx => by
                obtain ⟨y, hy, hlt'⟩ := HRu.out.block (by rw [Hl.out]; omega)
                rw [hx] at hy
                cases hy
                have := HB1.out.size
                omega
              obtain ⟨Lk, HLk⟩ := hid_of (line 8 (codeF 8 i))
              rw [HLk.out] at hkr
              have HKr := Lib.hid hkr
              obtain ⟨Lu, HLu⟩ := hid_of (sh.getD i [])
              rw [HLu.out] at HRu
              obtain ⟨Ls, HLs⟩ := hid_of ((idxN sh i).map fun x => (codeT 8 10).getD x [])
              obtain ⟨Rsr, HRsr⟩ := hid_of ((idxN sh i).map fun x => sh.getD x [])
              have HLsl : Hid (Ls.length = nl) := by rw [← HLs.out, List.length_map]; exact Hnl.out
              have HRsl : Hid (Rsr.length = nl) := by rw [← HRsr.out, List.length_map]; exact Hnl.out
              have HLn : Hid (Ls ++ [Lk] = (idxN sh (i + 1)).map fun x => (codeT 8 10).getD x []) := by
                rw [HN.out, List.map_append, HLs.out, List.map_singleton, code_row 8 10 i hlt, HLk.out]
                exact Lib.hid rfl
              have HRn : Hid (Rsr ++ [Lu] = (idxN sh (i + 1)).map fun x => sh.getD x []) := by
                rw [HN.out, List.map_append, HRsr.out, List.map_singleton, HLu.out]
                exact Lib.hid rfl
              rw [HLs.out] at HCl
              rw [HRsr.out] at HCr
              have hba : Below wr.heap.size wr (wr.alloc (.cells #[.slice xa 8 xc] 35)) := (Below.refl _ _).alloc (Nat.le_refl _) _
              have HCa := Lib.hid (HCl.out.below hba rfl HB0.out)
              have HCra := Lib.hid (HCr.out.below hba rfl HB0.out)
              have HKa := Lib.hid ((HKr.out.below HBe.out rfl).below hba rfl)
              have HBa : Hid (Below w1.heap.size w1 (wr.alloc (.cells #[.slice xa 8 xc] 35))) := HBe.out.alloc HB0.out _
              clear hkc hkr hba
              go_wp2_with (at_builtin; refine stopped ?_)
              refine going (wpList_push_cl _ rfl _ _ 34 rfl w1.heap.size w1.heap.size 35 Try.underlying34 infoRow _ Ls rfl HCa.out (Nat.le_refl _) wr.heap.size (.slice xa 8 xc) Lk rfl (by rw [cell_of_row _ _ 0 _ _ _ (heap_alloc_new wr _)]; rfl) HKa.out HKx.out (by rw [HLsl.out]; omega) (by have := HB0.out; simp; omega) ?_)
              intro vl3 w3 hc3 hb3 hg3
              rw [HLn.out] at hc3
              have hfr3 : Fr (fun k => (Value.slice la nl lc).ownBlock = some k) (wr.alloc (.cells #[.slice xa 8 xc] 35)) w3 := (Fr.refl _ _).grown hg3.1 (fun k hk _ => hk)
              have hcr3 : Cl w1.heap.size w1.heap.size 35 w3 (.slice ra nl rc) Rsr := HCra.out.fr hfr3 (fun k hk he => HSep.out k he hk) (fun k hk he => by have := (HCl.out.lt k he).1; omega)
              have hsep3 : ∀ x, vl3.ownBlock = some x → (Value.slice ra nl rc).ownBlock ≠ some x := fun x hx he => by
                have h2 := (HCr.out.lt x he).2
                rcases hg3.2 x hx with h | h
                · exact HSep.out x h he
                · simp at h; omega
              have hB3 : Below w1.heap.size w1 w3 := HBa.out.trans hb3
              have HB3 := Lib.hid hB3
              have HC3 := Lib.hid hc3
              have HB03 : Hid (w1.heap.size ≤ w3.heap.size) := hB3.size
              have hba3 : Below w3.heap.size w3 (w3.alloc (.cells #[.slice ua 16 uc] 35)) := (Below.refl _ _).alloc (Nat.le_refl _) _
              have HSep3 := Lib.hid hsep3
              have HCr3 := Lib.hid hcr3
              have HCrb := Lib.hid (hcr3.below hba3 rfl HB03.out)
              have HUa := Lib.hid (((HRu.out.below HB1.out rfl).below hB3 rfl).below hba3 rfl)
              have HBb : Hid (Below w1.heap.size w1 (w3.alloc (.cells #[.slice ua 16 uc] 35))) := hB3.alloc HB03.out _
              clear hc3 hb3 hg3 hfr3 hcr3 hsep3 hB3 hba3 hkc' hcu'
              go_wp2_with (at_builtin; refine stopped ?_)
              refine going (wpList_push_cl _ rfl _ _ 34 rfl w1.heap.size w1.heap.size 35 Try.underlying34 infoRow _ Rsr rfl HCrb.out (Nat.le_refl _) w3.heap.size (.slice ua 16 uc) Lu rfl (by rw [cell_of_row _ _ 0 _ _ _ (heap_alloc_new w3 _)]; rfl) HUa.out HUx.out (by rw [HRsl.out]; omega) (by have := HB03.out; simp; omega) ?_)
              intro vr5 w5 hc5 hb5 hg5
              rw [HRn.out] at hc5
              have hfr5 : Fr (fun k => (Value.slice ra nl rc).ownBlock = some k) (w3.alloc (.cells #[.slice ua 16 uc] 35)) w5 := (Fr.refl _ _).grown hg5.1 (fun k hk _ => hk)
              have hcl5 := (HC3.out.below ((Below.refl w3.heap.size w3).alloc (Nat.le_refl _) (.cells #[.slice ua 16 uc] 35)) rfl HB03.out).fr hfr5 (fun k hk he => HSep3.out k hk he) (fun k hk he => by have := (HCr3.out.lt k he).1; omega)
              have HCl5 := Lib.hid hcl5
              have HCr5 := Lib.hid hc5
              have HSep5 : Hid (∀ x, vl3.ownBlock = some x → vr5.ownBlock ≠ some x) := fun x hx he => by
                have h2 := (HC3.out.lt x hx).2
                rcases hg5.2 x he with h | h
                · exact HSep3.out x hx h
                · simp at h; omega
              have HBe5 : Hid (Below w1.heap.size w1 w5) := HBb.out.trans hb5
              clear hc5 hb5 hg5 hfr5 hcl5
              go_wp2
              go_roundw
              case rel => exact ⟨i + 1, by omega, by go_num, HCl5.out, HCr5.out, HSep5.out, HGood2.out, HBe5.out⟩
              case measure => simp [intOf]; omega
            · have hn8 : nl = 8 := by omega
              have HN : Hid (idxN sh (i + 1) = idxN sh i) := idxN_full sh i (by rw [Hnl.out]; exact hnl)
              subst hn8
              go_wp2
              go_roundw
              case rel => exact ⟨i + 1, by omega, by go_num, by rw [HN.out]; exact HCl.out, by rw [HN.out]; exact HCr.out, HSep.out, HGood2.out, HBe.out⟩
              case measure => simp [intOf]; omega
          · have HBad : Hid (Bad sh) := .inr ⟨i, hlt, by rw [Hl.out]; exact ⟨hl0, hl16⟩⟩
            have z1 : ((l : Int) == 0) = false := by simp; omega
            have z2 : ((l : Int) == 16) = false := by simp; omega
            have z3 : ((l : Int) != 0) = true := by simp; omega
            have z4 : ((l : Int) != 16) = true := by simp; omega
            have HBf := Lib.hid (HB1.out.trans (HBe.out.mono HB1.out.size))
            go_wp2
            go_ret2
            exact ⟨.inl ⟨HBad.out, rfl⟩, HBf.out⟩
      · obtain rfl : i = 10 := by omega
        have HNB : Hid (¬ Bad sh) := fun hb => by
          rcases hb with h | ⟨j, hj, h0, h16⟩
          · exact h Hn.out
          · rcases HGood.out j hj with h | h
            · exact h0 h
            · exact h16 h
        have HPr : Hid (presN sh 10 = pres sh) := rfl
        rw [show ((10 : Nat) : Int) = 10 from rfl]
        by_cases hn8 : nl < 8
        · have hnlI : (nl : Int) < 8 := by omega
          have HLt : Hid ((pres sh).length < 8) := by
            rw [← HPr.out]
            have h1 := Hnl.out
            unfold idxN at h1
            simp at h1
            exact (by omega : (presN sh 10).length < 8)
          have HBf := Lib.hid (HB1.out.trans (HBe.out.mono HB1.out.size))
          go_wp2
          go_ret2
          exact ⟨.inr (.inl ⟨HNB.out, HLt.out, rfl⟩), HBf.out⟩
        · have hnl8 : nl = 8 := by omega
          subst hnl8
          have HGe : Hid (8 ≤ (pres sh).length) := by
            rw [← HPr.out]
            have h1 := Hnl.out
            unfold idxN at h1
            simp at h1
            exact (by omega : 8 ≤ (presN sh 10).length)
          have HLt := HCl.out.ct (Nat.le_refl _)
          have hRt := HCr.out.ct (Nat.le_refl _)
          have hP := picked 8 10 (idxN sh 10) Hnl.out (fun x hx => (idxN_mem hx).1)
          have hQ := picked_sh sh (idxN sh 10) Hnl.out (fun x hx => by
            have h1 := idxN_mem hx
            rcases HGood.out x h1.1 with h | h
            · omega
            · exact h)
          have hInj := picked_inj 8 10 (by omega) (by omega) (idxN sh 10) Hnl.out (idxN_nodup sh 10) (fun x hx => (idxN_mem hx).1)
          have HSol := Lib.hid (fun X hb => sol_of sh X Hnl.out hb)
          rw [hP] at HLt
          rw [hQ] at hRt
          obtain ⟨Rf, HRf⟩ := hid_of (fun r j => codeF 8 ((idxN sh 10).getD r 0) j)
          obtain ⟨Sf, HSf⟩ := hid_of (fun r j => At sh ((idxN sh 10).getD r 0) j)
          rw [HRf.out] at HLt hInj
          rw [HSf.out] at hRt
          have HSol2 : Hid (∀ X, Both 8 Rf X → Sol sh (tab 8 16 (pr 8 X Sf)).flatten) := fun X hb => by
            rw [← HSf.out]
            exact HSol.out X (by rw [HRf.out]; exact hb)
          have HLr := Lib.hid HLt.read
          have HRr := Lib.hid hRt.read
          have HTL : Hid (Table (tab 8 8 Rf)) := tab_table _ _ _ (by omega) (by omega) (by omega) (by omega)
          have HTR : Hid (Table (tab 8 16 Sf)) := tab_table _ _ _ (by omega) (by omega) (by omega) (by omega)
          have HIn := Lib.hid hInj
          have HBf := Lib.hid (HB1.out.trans (HBe.out.mono HB1.out.size))
          clear hP hQ hInj HSol HLt hRt HCl HCr HSep HGood HBe HKRow HR1
          go_wp2_with fail
          refine (inv_sq _ (tab 8 8 Rf) _ HLr.out HTL.out (by rw [tab_length, tab_cols _ _ _ (by omega)])).mono ?_
          rintro e w3 ⟨hok, hb3⟩
          rw [tab_length] at hok
          have hinj' : Inj 8 (At (tab 8 8 Rf)) := fun v hv => HIn.out v (fun i hi => by rw [← hv i hi]; exact ap_congr (fun j hj => (at_tab Rf i j hi hj).symm) (fun _ _ => rfl))
          rcases hok with ⟨v3, X, rfl, hr3, hboth⟩ | ⟨rfl, hni⟩
          case inr => exact absurd hinj' hni
          have hbo : Both 8 Rf X := both_congr hboth (fun i j hi hj => at_tab Rf i j hi hj) (fun _ _ _ _ => rfl)
          have HSol3 := Lib.hid (HSol2.out X hbo)
          have HR3 := Lib.hid hr3
          have HRr3 := Lib.hid (HRr.out.below hb3 rfl)
          have HB3 := Lib.hid (HBf.out.trans (hb3.mono HBf.out.size))
          clear hr3 hboth hbo hinj' hb3 HLr HRr HBf HSol2
          go_wp2_with fail
          refine (times_yes _ _ (tab 8 8 X) (tab 8 16 Sf) _ HR3.out HRr3.out (tab_table _ _ _ (by omega) (by omega) (by omega) (by omega)) HTR.out (by rw [tab_cols _ _ _ (by omega), tab_length])).mono ?_
          rintro e w4 ⟨v4, rfl, hr4, hb4⟩
          have e4 : timesT (tab 8 8 X) (tab 8 16 Sf) = tab 8 16 (pr 8 X Sf) := by
            unfold timesT
            rw [tab_length, tab_length, tab_cols _ _ _ (by omega)]
            exact tab_congr fun i j hi hj => pr_congr (fun l hl => at_tab X i l hi hl) (fun l hl => at_tab Sf l j hl hj)
          rw [e4] at hr4
          obtain ⟨P, HP⟩ := hid_of (pr 8 X Sf)
          rw [HP.out] at hr4 HSol3
          have HR4 := Lib.hid hr4
          have HB4 := Lib.hid (HB3.out.trans (hb4.mono HB3.out.size))
          obtain ⟨ta, tc, rfl, ht1, ht2⟩ := hr4.shape
          rw [tab_length] at ht1 HR4 ⊢
          simp only [maxLen] at ht2
          obtain ⟨tg, tof, rfl, htg, htrow⟩ := HR4.out.row (by rw [tab_length]; omega)
          have HTrow := Lib.hid htrow
          have HTg := Lib.hid htg
          clear hr4 hb4 e4 HR3 HRr3 HB3 htrow htg
          have HO0 : Hid (w4.ownsRow w4.heap.size 5 1 (.slice none 0 0) (tab 0 16 P).flatten.length (Bs (tab 0 16 P).flatten)) := World.ownsRow_nil w4 _ _ 1
          go_wp2
          go_loopw [13, 73] (fun v x wx => ∃ j : Nat, j ≤ 8 ∧ x = .int .i64 (j : Int) ∧ wx.ownsRow w4.heap.size 5 1 v (tab j 16 P).flatten.length (Bs (tab j 16 P).flatten) ∧ Below w4.heap.size w4 wx) (fun _ x _ => 8 - (intOf x).toNat)
          case atStart => exact ⟨0, by omega, rfl, HO0.out, Below.refl _ _⟩
          case round =>
            clear HO0
            obtain ⟨j, hj, rfl, hown, hbk⟩ := hrel
            obtain ⟨va, vc, rfl, hv1, hv2⟩ := own_shape hown
            have hfl := (tab_flat j 16 P).1
            have HO := Lib.hid hown
            have HBk := Lib.hid hbk
            simp only [maxLen] at hv2
            obtain ⟨D, HD⟩ := hid_of (tab j 16 P).flatten
            rw [HD.out] at HO hv1 hfl ⊢
            obtain ⟨nd, Hnd⟩ := hid_of D.length
            rw [Hnd.out] at HO hv1 hfl ⊢
            have HFl := Lib.hid hfl
            clear hown hbk hfl
            by_cases hlj : j < 8
            · have hj8 : (j : Int) < 8 := by omega
              obtain ⟨u, hcu, hru⟩ := HTrow.out j (by rw [tab_length]; exact hlj)
              rw [tab_row _ _ _ _ hlj] at hru
              obtain ⟨ua, uc, rfl, hu1, hu2⟩ := hru.shape
              rw [line_length] at hcu hru hu1
              have hcu' : wr.cell? ⟨tg, tof + j, none⟩ = some (.slice ua 16 uc) := by rw [HBk.out.cell (p := ⟨tg, tof + j, none⟩) HTg.out]; exact hcu
              have HRu := Lib.hid (hru.below HBk.out rfl)
              have HDn : Hid (D ++ line 16 (P j) = (tab (j + 1) 16 P).flatten) := by rw [tab_succ, List.flatten_append, HD.out]; simp [Hid]
              obtain ⟨L, HL⟩ := hid_of (line 16 (P j))
              have HLl : Hid (L.length = 16) := by rw [← HL.out]; exact line_length _ _
              rw [HL.out] at HRu HDn
              clear hcu hru
              go_wp2_with (at_builtin; refine stopped ?_)
              refine going (wpList_append_bytes _ rfl _ _ 35 35 rfl w4.heap.size 5 5 Try.underlying35 Try.underlying35 infoByte _ D _ rfl HO.out _ L rfl HRu.out (by rw [HLl.out, Hnd.out, HFl.out]; omega) HBk.out.size ?_)
              intro v5 w5 ho5 hb5 hg5
              rw [HDn.out] at ho5
              have HO5 := Lib.hid ho5
              have HB5 : Hid (Below w4.heap.size w4 w5) := HBk.out.trans hb5
              clear ho5 hb5 hg5 hcu'
              go_wp2
              go_roundw
              case rel => exact ⟨j + 1, by omega, by go_num, HO5.out, HB5.out⟩
              case measure => simp [intOf]; omega
            · obtain rfl : j = 8 := by omega
              have hrb := RB.own HO.out
              have HRb := Lib.hid hrb
              have HFr : Hid (∀ k, (Value.slice va nd vc).ownBlock = some k → w.heap.size ≤ k) := fun k hk => by have h1 := (HO.out.lt k hk).1; have := HB4.out.size; omega
              have HSolD : Hid (Sol sh D) := by rw [← HD.out]; exact HSol3.out
              have HBf := Lib.hid (HB4.out.trans (HBk.out.mono HB4.out.size))
              rw [show ((8 : Nat) : Int) = 8 from rfl]
              clear hrb
              go_wp2
              go_ret2
              exact ⟨.inr (.inr ⟨HNB.out, HGe.out, _, D, rfl, HRb.out, HSolD.out, HFr.out⟩), HBf.out⟩
  · have HBad : Hid (Bad sh) := .inl (by rw [Hn.out]; exact h10)
    have hne : ((n : Int) == 10) = false := by simp; omega
    go_enter Try.func24, Try.ntmps24
    go_wp2
    go_ret2
    exact ⟨.inl ⟨HBad.out, rfl⟩, Below.refl _ _⟩
end Go.Proofs.Ytepedabpnchajaa
