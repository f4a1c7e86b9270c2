/-
  The walk of kistlaw06.WordBack, for arguments of some size.
-/
import Derived.Test.YtpihnlfnolgldaaWordNoneWalk
import Derived.Deep.RegionHeld
import Derived.Deep.DeepCutAuto
namespace Go.Proofs.Ytpihnlfnolgldaa
open Go.RowKit
set_option linter.unusedVariables false
namespace Word
/-- What a round puts. -/
def item (L : List Int) (T : List (List UInt8)) (i : Nat) : List UInt8 := enc (L.getD i 0).toNat ++ (match T[i]? with | some t => enc t.length ++ t | none => [])
def items (L : List Int) (T : List (List UInt8)) : Nat → Nat → List UInt8
  | 0, _ => []
  | n + 1, i => item L T i ++ items L T n (i + 1)
theorem items_snoc (L : List Int) (T : List (List UInt8)) (n : Nat) : ∀ i, items L T (n + 1) i = items L T n i ++ item L T (i + n) := by
  induction n with
  | zero => intro i; simp [items]
  | succ n ih =>
    intro i
    rw [items, ih (i + 1), items, List.append_assoc, show i + 1 + n = i + (n + 1) by omega]
theorem mem_sum {t : List UInt8} {T : List (List UInt8)} (h : t ∈ T) : t.length ≤ (T.map List.length).sum := by
  induction T with
  | nil => cases h
  | cons x r ih =>
    simp only [List.map_cons, List.sum_cons]
    rcases List.mem_cons.1 h with rfl | h
    · omega
    · have := ih h
      omega
theorem item_le (L : List Int) (T : List (List UInt8)) (i : Nat) (hL : ∀ x ∈ L, (Lit.int .i64 x).wf = true) (hT : (T.map List.length).sum ≤ 1048576) : (item L T i).length ≤ 1048594 := by
  have h1 : (enc (L.getD i 0).toNat).length ≤ 9 := by
    refine enc_le 8 _ ?_
    rw [List.getD_eq_getElem?_getD]
    cases h : L[i]? with
    | none => simp
    | some x =>
      have := hL x (List.mem_of_getElem? h)
      simp [Lit.wf, IntKind.min, IntKind.max, IntKind.bits, IntKind.signed] at this
      simp only [Option.getD_some]
      omega
  unfold item
  rw [List.length_append]
  cases h : T[i]? with
  | none =>
    simp only [List.length_nil]
    omega
  | some t =>
    have h2 := mem_sum (List.mem_of_getElem? h)
    have h3 : (enc t.length).length ≤ 9 := enc_le 8 _ (by omega)
    simp only [List.length_append]
    omega
theorem items_le (L : List Int) (T : List (List UInt8)) (hL : ∀ x ∈ L, (Lit.int .i64 x).wf = true) (hT : (T.map List.length).sum ≤ 1048576) (n : Nat) : ∀ i, (items L T n i).length ≤ n * 1048594 := by
  induction n with
  | zero => intro i; simp [items]
  | succ n ih =>
    intro i
    have h1 := item_le L T i hL hT
    have h2 := ih (i + 1)
    rw [items, List.length_append]
    omega
theorem item_none (L : List Int) (T : List (List UInt8)) (i : Nat) (hi : i < L.length) (ht : T.length ≤ i) : item L T i = enc (L[i]).toNat := by
  unfold item
  rw [List.getElem?_eq_none ht, List.getD_eq_getElem?_getD, List.getElem?_eq_getElem hi]
  simp
theorem item_some (L : List Int) (T : List (List UInt8)) (i : Nat) (hi : i < L.length) (ht : i < T.length) : item L T i = enc (L[i]).toNat ++ (enc T[i].length ++ T[i]) := by
  unfold item
  rw [List.getElem?_eq_getElem ht, List.getD_eq_getElem?_getD, List.getElem?_eq_getElem hi]
  simp
end Word

/-- One element, in whatever later world, and where it lies. -/
theorem RSl.cell1 {α : Type} {R : World → List Value → α → Prop} {w : World} {a : Option Addr} {n cap : Nat} {l : List α} (h : RSl R 1 w (.slice a n cap) l) (i : Nat) (hi : i < l.length) :
    ∃ b off v, a = some ⟨b, off, none⟩ ∧ b < w.heap.size ∧ w.cell? ⟨b, off + i, none⟩ = some v ∧ R w [v] l[i] := by
  obtain ⟨b, off, cap', hv, cs, hcs, hcell, hR⟩ := h.at i hi
  simp only [Value.slice.injEq] at hv
  obtain ⟨rfl, _, rfl⟩ := hv
  match cs, hcs with
  | [v], _ =>
    have h0 := hcell 0 (by simp)
    rw [Nat.mul_one, Nat.add_zero] at h0
    exact ⟨b, off, v, rfl, World.block_lt_of_cell? w _ h0, h0, hR⟩

theorem Get_next (p base M : Nat) (r : List UInt8) (hM : M < 9223372036854775808) (w : World) (h : Rd w p base (Word.enc M ++ r) false) :
    Calls Try.prog 18 #[.pointer (some ⟨p, 0, none⟩), .int .i64 (M : Int)] w fun e w' => e = .returned (.int .i64 (M : Int)) ∧ Rd w' p base r false ∧ Fr (fun k => k = p) w w' := by
  have hg := Word.get_enc (M : Int) M r hM (Int.le_refl _)
  have := Get_any p base (Word.enc M ++ r) false (M : Int) w h (by simp [Lit.wf, IntKind.min, IntKind.max, IntKind.bits, IntKind.signed]; omega)
  rw [hg] at this
  exact this
theorem Text_next (p base : Nat) (s r : List UInt8) (hs : s.length < 9223372036854775808) (w : World) (h : Rd w p base (Word.enc s.length ++ (s ++ r)) false) :
    Calls Try.prog 17 #[.pointer (some ⟨p, 0, none⟩), .int .i64 (s.length : Int)] w fun e w' => e = .returned (.string (S s)) ∧ Rd w' p base r false ∧ Fr (fun k => k = p) w w' := by
  have hg := Word.text_enc (s.length : Int) s r hs (Int.le_refl _)
  have := RText_any p base (Word.enc s.length ++ (s ++ r)) false (s.length : Int) w h (by simp [Lit.wf, IntKind.min, IntKind.max, IntKind.bits, IntKind.signed]; omega)
  rw [hg] at this
  exact this
theorem End_done (p base : Nat) (w : World) (h : Rd w p base [] false) :
    Calls Try.prog 19 #[.pointer (some ⟨p, 0, none⟩)] w fun e w' => e = .returned (.bool true) ∧ w = w' := End_any p base [] false w h

theorem texts_read {w : World} {x : Addr} {len cap : Nat} (Sx : Nat → ByteArray) (hl : len ≤ cap) (hm : cap ≤ maxLen) (h : ∀ i, i < len → w.cell? (x.add i) = some (.string (Sx i)) ∧ (Sx i).size ≤ maxLen) :
    RSl CT 1 w (.slice (some x) len cap) ((List.range len).map fun i => (Sx i).data.toList) := by
  refine ⟨some x, cap, by simp, by simpa using hl, hm, (fun h => nomatch h), ?_⟩
  by_cases hz : len = 0
  · left
    subst hz
    simp
  · right
    obtain ⟨b, off, spot⟩ := x
    have hspot : spot = none := by simpa [Addr.add] using World.cell?_spot (h 0 (by omega)).1
    subst hspot
    refine ⟨b, off, rfl, fun i hi => ?_⟩
    have hi' : i < len := by simpa using hi
    obtain ⟨h1, h2⟩ := h i hi'
    have e : ((List.range len).map fun i => (Sx i).data.toList)[i] = (Sx i).data.toList := by simp
    refine ⟨[.string (Sx i)], rfl, fun j hj => ?_, ?_, ?_⟩
    · have hj0 : j = 0 := by simpa using hj
      subst hj0
      rw [Addr.add_lit] at h1
      rw [Nat.mul_one, Nat.add_zero]
      exact h1
    · rw [e, ← S_of]
    · rw [e, Array.length_toList]
      exact h2

set_option maxRecDepth 100000 in
set_option maxHeartbeats 2000000 in
theorem wordBack_walk (vl : Value) (L : List Int) (vt : Value) (T : List (List UInt8)) (w : World) (hl : RSl CI 1 w vl L) (ht : RSl CT 1 w vt T) (hz : (T.map List.length).sum ≤ 1048576) :
    Calls Try.prog 5 #[vl, vt] w fun e w' => e = .returned (.bool true) ∧ Below w.heap.size w w' := by
  have hLw : ∀ x ∈ L, (Lit.int .i64 x).wf = true := by
    intro x hx
    obtain ⟨i, hi, rfl⟩ := List.getElem_of_mem hx
    obtain ⟨b, off, cap, hv, cs, hcs, hcell, hR⟩ := hl.at i hi
    exact hR.2
  have HIL := Lib.hid (fun n i => Word.items_le L T hLw hz n i)
  have HLW := Lib.hid hLw
  have HL := Lib.hid hl
  have HT := Lib.hid ht
  have HTl : Hid (∀ i (hi : i < T.length), T[i].length ≤ 1048576) := fun i hi => Nat.le_trans (Word.mem_sum (List.getElem_mem hi)) hz
  obtain ⟨al, cl, rfl, hl1, hl2⟩ := hl.shape
  obtain ⟨at', ct, rfl, ht1, ht2⟩ := ht.shape
  simp only [maxLen] at hl2 ht2
  clear hl ht hLw hz
  obtain ⟨s0, Hs0⟩ := hid_of w.heap.size
  obtain ⟨M, HM⟩ := hid_of (min L.length 40)
  have hM1 : M ≤ L.length := by have := HM.out; omega
  have hM2 : M ≤ 40 := by have := HM.out; omega
  go_enter Try.func5, Try.ntmps5
  go_wp2
  go_loopw [5, 6] (fun v i wr => ∃ j : Nat, j ≤ M ∧ i = .int .i64 j ∧ RB wr v (Word.items L T j 0) ∧ Below s0 w wr) (fun _ i _ => M - (intOf i).toNat)
  case atStart => exact ⟨0, by omega, rfl, ⟨_, 0, rfl, by simp [Word.items], by simp [maxLen], fun h => by simp at h, .inl rfl⟩, (Below.refl s0 w).alloc (by rw [Hs0.out]; exact Nat.le_refl _) _⟩
  case round =>
    obtain ⟨j, hj, rfl, h1, h2⟩ := hrel
    have hszr : Hid (s0 ≤ wr.heap.size) := by rw [← Hs0.out]; exact h2.size
    have HR := Lib.hid h1
    have HBr := Lib.hid h2
    clear h1 h2
    by_cases hlt : j < M
    · have hjL : (j : Int) < (L.length : Int) := by omega
      have hj40 : (j : Int) < 40 := by omega
      obtain ⟨bl, off, c, rfl, hbl, hc, hck⟩ := HL.out.cell1 j (by omega)
      obtain ⟨rfl⟩ : c = .int .i64 (L[j]'(by omega)) := by have := hck.1; simp only [List.cons.injEq, and_true] at this; exact this
      have hwf := hck.2
      have hcr := (HBr.out.cell (p := ⟨bl, off + j, none⟩) (by rw [Hs0.out] at hbl; exact hbl)).trans hc
      obtain ⟨X, HX⟩ := hid_of (L[j]'(by omega))
      rw [HX.out] at hcr hwf
      have HWF := Lib.hid hwf
      have hsn := Word.items_snoc L T j 0
      rw [Nat.zero_add] at hsn
      have HSn := Lib.hid hsn
      have hle : (Word.items L T j 0).length + 20 ≤ 140737488355328 := by have := HIL.out j 0; omega
      have hle2 : (Word.items L T (j + 1) 0).length + 20 ≤ 140737488355328 := by have := HIL.out (j + 1) 0; omega
      have HLe := Lib.hid hle
      clear hck hc hwf hsn hle
      go_wp2_with fail
      refine (Put_any _ _ X wr HR.out HWF.out HLe.out).mono ?_
      rintro e w1 ⟨v1, rfl, ho1, hb1⟩
      have HO1 := Lib.hid (RB.own ho1)
      have HB1 := Lib.hid (HBr.out.trans (hb1.mono hszr.out))
      have hsz1 : Hid (s0 ≤ w1.heap.size) := Lib.hid (Nat.le_trans hszr.out hb1.size)
      clear ho1 hb1 HR HBr hszr hcr
      by_cases htj : j < T.length
      · obtain ⟨bt, offt, ct', rfl, hbt, hct, hckt⟩ := HT.out.cell1 j htj
        obtain ⟨rfl⟩ : ct' = .string (S T[j]) := by have := hckt.1; simp only [List.cons.injEq, and_true] at this; exact this
        have hct1 := (HB1.out.cell (p := ⟨bt, offt + j, none⟩) (by rw [Hs0.out] at hbt; exact hbt)).trans hct
        have htl := HTl.out j htj
        have hit := Word.item_some L T j (by omega) htj
        obtain ⟨Y, HY⟩ := hid_of T[j]
        rw [HY.out] at hct1 htl hit
        have HIt := Lib.hid hit
        have HTle : Hid ((Word.items L T j 0 ++ Word.enc X.toNat).length + 20 + Y.length ≤ 140737488355328) := by
          have h1 := HIL.out (j + 1) 0
          rw [HSn.out, HIt.out, HX.out] at h1
          simp only [List.length_append] at h1 ⊢
          exact Lib.hid (by omega)
        clear hckt hct hit
        go_wp2_with fail
        refine (WText_any _ _ Y w1 HO1.out HTle.out).mono ?_
        rintro e w2 ⟨v2, rfl, ho2, hb2⟩
        have HO2 := Lib.hid (RB.own ho2)
        have HB2 := Lib.hid (HB1.out.trans (hb2.mono hsz1.out))
        clear ho2 hb2 HO1 HB1 hsz1 hct1
        go_wp2
        go_roundw
        case rel => exact ⟨j + 1, by omega, by go_num, by rw [HSn.out, HIt.out, HX.out, ← List.append_assoc, ← List.append_assoc]; exact HO2.out, HB2.out⟩
        case measure => simp [intOf]; omega
      · have htj' : ¬ (j : Int) < (T.length : Int) := by omega
        have HIt := Lib.hid (Word.item_none L T j (by omega) (by omega))
        go_wp2
        go_roundw
        case rel => exact ⟨j + 1, by omega, by go_num, by rw [HSn.out, HIt.out, HX.out]; exact HO1.out, HB1.out⟩
        case measure => simp [intOf]; omega
    · have hjM : M = j := by omega
      subst hjM
      clear hj hlt
      have hout : (¬ (M : Int) < (L.length : Int)) ∨ ((M : Int) < (L.length : Int) ∧ ¬ (M : Int) < 40) := by have := HM.out; omega
      have hlen : (Word.items L T M 0).length ≤ 140737488355328 := by have := HIL.out M 0; omega
      rcases hout with hout | ⟨hout, hout2⟩
      all_goals
        go_wp2_with fail
        refine (New_any _ _ wr HR.out hlen).mono ?_
        rintro e w1 ⟨p, rfl, hr1, hb1⟩
        obtain ⟨s1, Hs1⟩ := hid_of wr.heap.size
        rw [Hs1.out] at hr1 hb1 hszr
        have hs01 := hszr.out
        have HR1 := Lib.hid hr1
        have HB1 := Lib.hid (HBr.out.trans (hb1.mono hs01))
        have hp := hr1.lt.1
        have hsz1 : Hid (s0 ≤ w1.heap.size) := Lib.hid (by have := hr1.lt.2; omega)
        clear hr1 hb1 HR HBr hszr hlen Hs1
        go_wp2
        go_loopw [8] (fun i wx => ∃ j : Nat, j ≤ M ∧ i = .int .i64 j ∧ Rd wx p s1 (Word.items L T (M - j) j) false ∧ Below s0 w wx) (fun i _ => M - (intOf i).toNat)
        case atStart => exact ⟨0, by omega, rfl, HR1.out, HB1.out⟩
        case round =>
          clear HR1 HB1 hsz1
          obtain ⟨j, hj, rfl, h1, h2⟩ := hrel
          have hszx : Hid (s0 ≤ wr.heap.size) := Lib.hid (by have := h1.lt.2; omega)
          have HR := Lib.hid h1
          have HBx := Lib.hid h2
          clear h1 h2
          by_cases hlt : j < M
          · have hjL : (j : Int) < (L.length : Int) := by omega
            have hj40 : (j : Int) < 40 := by omega
            obtain ⟨bl, off, c, rfl, hbl, hc, hck⟩ := HL.out.cell1 j (by omega)
            obtain ⟨rfl⟩ : c = .int .i64 (L[j]'(by omega)) := by have := hck.1; simp only [List.cons.injEq, and_true] at this; exact this
            have hwf := hck.2
            have hcr := (HBx.out.cell (p := ⟨bl, off + j, none⟩) (by rw [Hs0.out] at hbl; exact hbl)).trans hc
            have hq : M - j = (M - (j + 1)) + 1 := by omega
            have hrd := HR.out
            rw [hq, Word.items] at hrd
            obtain ⟨X, HX⟩ := hid_of (L[j]'(by omega))
            have HX' := HX
            rw [HX.out] at hcr hwf
            have hXn : X.toNat < 9223372036854775808 := by
              simp [Lit.wf, IntKind.min, IntKind.max, IntKind.bits, IntKind.signed] at hwf
              omega
            obtain ⟨N, HN⟩ := hid_of X.toNat
            rw [HN.out] at hXn
            have HXn := Lib.hid hXn
            obtain ⟨Rest, HRest⟩ := hid_of (Word.items L T (M - (j + 1)) (j + 1))
            rw [HRest.out] at hrd
            have HRD := Lib.hid hrd
            clear hck hc hwf hrd hXn hq HR
            go_upto_if 54 with fail
            go_cut [9] (fun z wy => z = .int .i64 (N : Int) ∧ wy = wr)
            case first =>
              by_cases h0 : X < 0
              · go_wp2
                go_meet
                case rel => exact ⟨by have := HN.out; congr 1; omega, rfl⟩
              · go_wp2
                go_meet
                case rel => exact ⟨by have := HN.out; congr 1; omega, rfl⟩
            obtain ⟨rfl, rfl⟩ := hcut
            by_cases htj : j < T.length
            · obtain ⟨bt, offt, ct', rfl, hbt, hct, hckt⟩ := HT.out.cell1 j htj
              obtain ⟨rfl⟩ : ct' = .string (S T[j]) := by have := hckt.1; simp only [List.cons.injEq, and_true] at this; exact this
              have htjI : (j : Int) < (T.length : Int) := by omega
              have hct1 := (HBx.out.cell (p := ⟨bt, offt + j, none⟩) (by rw [Hs0.out] at hbt; exact hbt)).trans hct
              have htl := HTl.out j htj
              have hit := Word.item_some L T j (by omega) htj
              obtain ⟨Y, HY⟩ := hid_of T[j]
              rw [HY.out] at hct1 htl hit
              have hrd := HRD.out
              rw [hit, HX.out, HN.out, List.append_assoc, List.append_assoc] at hrd
              have HRD2 := Lib.hid hrd
              have hbtp : ¬ bt = p := by have := Hs0.out; omega
              have hYs := S_size Y
              have hct1d : wc.drew.cell? ⟨bt, offt + j, none⟩ = some (.string (S Y)) := hct1
              have HRDd := Lib.hid (HRD2.out.fr (S := fun _ => False) (Fr.refl _ wc).drew (fun _ _ h => h))
              have HBd := Lib.hid HBx.out.drew
              have hszd : Hid (s0 ≤ wc.drew.heap.size) := hszx
              clear HRD2 HBx
              clear hckt hct hit hrd HRD HX' HIL HLW
              go_wp2_with fail
              go_region_held (fun wq => wq.cell? ⟨bt, offt + j, none⟩ = some (.string (S Y)))
                (first | exact hct1d | exact hct3 | exact hct4)
                (first
                | (go_at_call 18
                   refine (Get_next p _ N _ HXn.out _ HRDd.out).mono ?_
                   rintro e wa ⟨rfl, hra, hfa⟩
                   have HRa := Lib.hid hra
                   have hct3 := hfa.cell hct1d hbtp
                   have HFa := Lib.hid hfa
                   clear hra hfa)
                | (go_at_call 17
                   refine (Text_next p _ Y _ (by omega) _ HRa.out).mono ?_
                   rintro e wb ⟨rfl, hrb, hfb⟩
                   have HRb := Lib.hid hrb
                   have hct4 := hfb.cell hct3 hbtp
                   have HFb := Lib.hid hfb
                   clear hrb hfb))
              go_wp2
              go_roundw
              case rel => exact ⟨j + 1, by omega, by go_num, by rw [HRest.out]; exact HRb.out, HBd.out.trans ((HFa.out.below hszd.out (fun k hk e => by omega)).trans (HFb.out.below (Nat.le_trans hszd.out HFa.out.size) (fun k hk e => by omega)))⟩
              case measure => simp [intOf]; omega
            · have htjI : ¬ (j : Int) < (T.length : Int) := by omega
              have hit := Word.item_none L T j (by omega) (by omega)
              have hrd := HRD.out
              rw [hit, HX.out, HN.out] at hrd
              have HRD2 := Lib.hid hrd
              have HRDd := Lib.hid (HRD2.out.fr (S := fun _ => False) (Fr.refl _ wc).drew (fun _ _ h => h))
              have HBd := Lib.hid HBx.out.drew
              have hszd : Hid (s0 ≤ wc.drew.heap.size) := hszx
              clear HRD2 HBx
              clear hit hrd HRD HX' HIL HLW
              go_wp2_with fail
              have hd : decide ((j : Int) < (T.length : Int)) = false := by
                rw [decide_eq_false_iff_not]
                omega
              refine wp_region_held_drew (S := fun _ => True) (by kernel_rfl) trivial (fun hHeld => ?_)
              refine wpAnyH_take (i := 0) (oi := ⟨_, _, _, _, _, _⟩) (v := ?_) rfl (by kernel_rfl) (by kernel_rfl) (by kernel_rfl) (fun _ _ _ h => h) (Or.inl ⟨by rfl, ?_⟩) hHeld ?_
              rotate_left
              · (intro wq hq; go_simp; try with_reducible rfl)
              simp only [Act.put, List.setIfInBounds_toArray, List.set_cons_zero, List.set_cons_succ]
              refine wpAnyH_take (i := 1) (oi := ⟨_, _, _, _, _, _⟩) (v := ?_) rfl (by kernel_rfl) (by kernel_rfl) (by kernel_rfl) (fun _ _ _ h => h) (Or.inl ⟨by rfl, ?_⟩) hHeld ?_
              rotate_left
              · (intro wq hq; go_simp; try with_reducible rfl)
              simp only [Act.put, List.setIfInBounds_toArray, List.set_cons_zero, List.set_cons_succ]
              refine wpAnyH_take (i := 3) (oi := ⟨_, _, _, _, _, _⟩) (v := ?_) rfl (by kernel_rfl) (by kernel_rfl) (by kernel_rfl) (fun _ _ _ h => h) (Or.inl ⟨by rfl, ?_⟩) hHeld ?_
              rotate_left
              · (intro wq hq; go_simp; try with_reducible rfl)
              simp only [Act.put, List.setIfInBounds_toArray, List.set_cons_zero, List.set_cons_succ]
              refine wpAnyH_ready (rs := [2]) (by kernel_rfl) (by simp) ?_
              refine AllReadyH.cons rfl (fun K hK => ?_) AllReadyH.nil
              go_simp
              go_wp2_with (first
                | (go_at_call 18
                   refine (Get_next p _ N _ HXn.out _ HRDd.out).mono ?_
                   rintro e wa ⟨rfl, hra, hfa⟩
                   have HRa := Lib.hid hra
                   have HFa := Lib.hid hfa
                   clear hra hfa))
              refine hK.out _ _ trivial (fun hHeld => ?_)
              clear hK K
              refine wpAnyH_take (i := 4) (oi := ⟨_, _, _, _, _, _⟩) (v := ?_) rfl (by kernel_rfl) (by kernel_rfl) (by kernel_rfl) (fun _ _ _ h => h) (Or.inl ⟨by rfl, ?_⟩) hHeld ?_
              rotate_left
              · (intro wq hq; go_simp; try with_reducible rfl)
              simp only [Act.put, List.setIfInBounds_toArray, List.set_cons_zero, List.set_cons_succ]
              refine wpAnyH_take (i := 5) (oi := ⟨_, _, _, _, _, _⟩) (v := ?_) rfl (by kernel_rfl) (by kernel_rfl) (by kernel_rfl) (fun _ _ _ h => h) (Or.inl ⟨by rfl, ?_⟩) hHeld ?_
              rotate_left
              · (intro wq hq; go_simp; try with_reducible rfl)
              simp only [Act.put, List.setIfInBounds_toArray, List.set_cons_zero, List.set_cons_succ]
              refine wpAnyH_take (i := 6) (oi := ⟨_, _, _, _, _, _⟩) (v := ?_) rfl (by kernel_rfl) (by kernel_rfl) (by kernel_rfl) (fun _ _ _ h => h) (Or.inl ⟨by rfl, ?_⟩) hHeld ?_
              rotate_left
              · (intro wq hq; go_simp; try with_reducible rfl)
              simp only [Act.put, List.setIfInBounds_toArray, List.set_cons_zero, List.set_cons_succ]
              refine wpAnyH_take (i := 7) (oi := ⟨_, _, _, _, _, _⟩) (v := ?_) rfl (by kernel_rfl) (by kernel_rfl) (by kernel_rfl) (fun _ _ _ h => h) (Or.inl ⟨by rfl, ?_⟩) hHeld ?_
              rotate_left
              · (intro wq hq; go_simp; try with_reducible rfl)
              simp only [Act.put, List.setIfInBounds_toArray, List.set_cons_zero, List.set_cons_succ]
              refine wpAnyH_take (i := 8) (oi := ⟨_, _, _, _, _, _⟩) (v := ?_) rfl (by kernel_rfl) (by kernel_rfl) (by kernel_rfl) (fun _ _ _ h => h) (Or.inl ⟨by rfl, ?_⟩) hHeld ?_
              rotate_left
              · (intro wq hq; go_simp; try with_reducible rfl)
              simp only [Act.put, List.setIfInBounds_toArray, List.set_cons_zero, List.set_cons_succ]
              refine wpAnyH_take (i := 9) (oi := ⟨_, _, _, _, _, _⟩) (v := ?_) rfl (by kernel_rfl) (by kernel_rfl) (by kernel_rfl) (fun _ _ _ h => h) (Or.inl ⟨by rfl, ?_⟩) hHeld ?_
              rotate_left
              · (intro wq hq; go_simp; try with_reducible rfl)
              simp only [Act.put, List.setIfInBounds_toArray, List.set_cons_zero, List.set_cons_succ]
              refine wpAnyH_take (i := 10) (oi := ⟨_, _, _, _, _, _⟩) (v := ?_) rfl (by kernel_rfl) (by kernel_rfl) (by kernel_rfl) (fun _ _ _ h => h) (Or.inl ⟨by rfl, ?_⟩) hHeld ?_
              rotate_left
              · (intro wq hq; go_simp; try with_reducible rfl)
              simp only [Act.put, List.setIfInBounds_toArray, List.set_cons_zero, List.set_cons_succ]
              refine wpAnyH_take (i := 11) (oi := ⟨_, _, _, _, _, _⟩) (v := undef) rfl (by kernel_rfl) (by kernel_rfl) (by kernel_rfl) (fun _ _ _ h => h) (Or.inr ⟨by rfl, rfl⟩) hHeld ?_
              simp only [Act.put, List.setIfInBounds_toArray, List.set_cons_zero, List.set_cons_succ]
              refine wpAnyH_take (i := 12) (oi := ⟨_, _, _, _, _, _⟩) (v := undef) rfl (by kernel_rfl) (by kernel_rfl) (by kernel_rfl) (fun _ _ _ h => h) (Or.inr ⟨by rfl, rfl⟩) hHeld ?_
              simp only [Act.put, List.setIfInBounds_toArray, List.set_cons_zero, List.set_cons_succ]
              refine wpAnyH_take (i := 13) (oi := ⟨_, _, _, _, _, _⟩) (v := undef) rfl (by kernel_rfl) (by kernel_rfl) (by kernel_rfl) (fun _ _ _ h => h) (Or.inr ⟨by rfl, rfl⟩) hHeld ?_
              simp only [Act.put, List.setIfInBounds_toArray, List.set_cons_zero, List.set_cons_succ]
              refine wpAnyH_take (i := 14) (oi := ⟨_, _, _, _, _, _⟩) (v := undef) rfl (by kernel_rfl) (by kernel_rfl) (by kernel_rfl) (fun _ _ _ h => h) (Or.inr ⟨by rfl, rfl⟩) hHeld ?_
              simp only [Act.put, List.setIfInBounds_toArray, List.set_cons_zero, List.set_cons_succ]
              refine wpAnyH_take (i := 15) (oi := ⟨_, _, _, _, _, _⟩) (v := undef) rfl (by kernel_rfl) (by kernel_rfl) (by kernel_rfl) (fun _ _ _ h => h) (Or.inr ⟨by rfl, rfl⟩) hHeld ?_
              simp only [Act.put, List.setIfInBounds_toArray, List.set_cons_zero, List.set_cons_succ]
              refine wpAnyH_take (i := 16) (oi := ⟨_, _, _, _, _, _⟩) (v := undef) rfl (by kernel_rfl) (by kernel_rfl) (by kernel_rfl) (fun _ _ _ h => h) (Or.inr ⟨by rfl, rfl⟩) hHeld ?_
              simp only [Act.put, List.setIfInBounds_toArray, List.set_cons_zero, List.set_cons_succ]
              refine wpAnyH_take (i := 17) (oi := ⟨_, _, _, _, _, _⟩) (v := undef) rfl (by kernel_rfl) (by kernel_rfl) (by kernel_rfl) (fun _ _ _ h => h) (Or.inr ⟨by rfl, rfl⟩) hHeld ?_
              simp only [Act.put, List.setIfInBounds_toArray, List.set_cons_zero, List.set_cons_succ]
              refine wpAnyH_take (i := 18) (oi := ⟨_, _, _, _, _, _⟩) (v := undef) rfl (by kernel_rfl) (by kernel_rfl) (by kernel_rfl) (fun _ _ _ h => h) (Or.inr ⟨by rfl, rfl⟩) hHeld ?_
              simp only [Act.put, List.setIfInBounds_toArray, List.set_cons_zero, List.set_cons_succ]
              refine wpAnyH_take (i := 19) (oi := ⟨_, _, _, _, _, _⟩) (v := undef) rfl (by kernel_rfl) (by kernel_rfl) (by kernel_rfl) (fun _ _ _ h => h) (Or.inr ⟨by rfl, rfl⟩) hHeld ?_
              simp only [Act.put, List.setIfInBounds_toArray, List.set_cons_zero, List.set_cons_succ]
              refine wpAnyH_take (i := 20) (oi := ⟨_, _, _, _, _, _⟩) (v := undef) rfl (by kernel_rfl) (by kernel_rfl) (by kernel_rfl) (fun _ _ _ h => h) (Or.inr ⟨by rfl, rfl⟩) hHeld ?_
              simp only [Act.put, List.setIfInBounds_toArray, List.set_cons_zero, List.set_cons_succ]
              refine wpAnyH_take (i := 21) (oi := ⟨_, _, _, _, _, _⟩) (v := undef) rfl (by kernel_rfl) (by kernel_rfl) (by kernel_rfl) (fun _ _ _ h => h) (Or.inr ⟨by rfl, rfl⟩) hHeld ?_
              simp only [Act.put, List.setIfInBounds_toArray, List.set_cons_zero, List.set_cons_succ]
              refine wpAnyH_take (i := 22) (oi := ⟨_, _, _, _, _, _⟩) (v := undef) rfl (by kernel_rfl) (by kernel_rfl) (by kernel_rfl) (fun _ _ _ h => h) (Or.inr ⟨by rfl, rfl⟩) hHeld ?_
              simp only [Act.put, List.setIfInBounds_toArray, List.set_cons_zero, List.set_cons_succ]
              refine wpAnyH_take (i := 23) (oi := ⟨_, _, _, _, _, _⟩) (v := ?_) rfl (by kernel_rfl) (by kernel_rfl) (by kernel_rfl) (fun _ _ _ h => h) (Or.inl ⟨by rfl, ?_⟩) hHeld ?_
              rotate_left
              · (intro wq hq; go_simp; try with_reducible rfl)
              simp only [Act.put, List.setIfInBounds_toArray, List.set_cons_zero, List.set_cons_succ]
              refine wpAnyH_take (i := 24) (oi := ⟨_, _, _, _, _, _⟩) (v := ?_) rfl (by kernel_rfl) (by kernel_rfl) (by kernel_rfl) (fun _ _ _ h => h) (Or.inl ⟨by rfl, ?_⟩) hHeld ?_
              rotate_left
              · (intro wq hq; go_simp; try with_reducible rfl)
              simp only [Act.put, List.setIfInBounds_toArray, List.set_cons_zero, List.set_cons_succ]
              refine wpAnyH_done (by kernel_rfl) ?_ _
              go_wp2
              go_roundw
              case rel => exact ⟨j + 1, by omega, by go_num, by rw [HRest.out]; exact HRa.out, HBd.out.trans (HFa.out.below hszd.out (fun k hk e => by omega))⟩
              case measure => simp [intOf]; omega
          · have hjM : M = j := by omega
            subst hjM
            have HR2 : Hid (Rd wr p s1 [] false) := by have := HR.out; rw [Nat.sub_self] at this; exact this
            clear HR hj hlt
            go_wp2_with fail
            refine (awake_any _).mono ?_
            rintro e w3 ⟨rfl, hb3⟩
            have HR3 := Lib.hid (HR2.out.below hb3 rfl)
            have HB3 := Lib.hid (HBx.out.trans (hb3.mono hszx.out))
            clear hb3
            go_wp2_with fail
            refine (End_done p _ _ HR3.out).mono ?_
            rintro e w4 ⟨rfl, rfl⟩
            go_wp2
            go_ret
            exact ⟨rfl, by rw [Hs0.out]; exact HB3.out⟩
end Go.Proofs.Ytpihnlfnolgldaa
