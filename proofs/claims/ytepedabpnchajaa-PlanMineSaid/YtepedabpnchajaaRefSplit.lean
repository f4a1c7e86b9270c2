/-
  kistref18: Groups, Split.
-/
import Derived.Test.YtepedabpnchajaaSplit
import Derived.Test.YtepedabpnchajaaLabRef

namespace Go.Proofs.Ytepedabpnchajaa
open Go.RowKit
set_option linter.unusedVariables false
set_option linter.unusedSimpArgs false

theorem refGroups_any (n : Int) (w : World) :
    Calls Try.prog 46 #[.int .i64 n] w fun e w' => e = .returned (.int .i64 (Blob.gI n)) ∧ w = w' := by
  by_cases h0 : n < 0
  · have HG := Lib.hid (Blob.gI_out (s := n) (.inl h0))
    go_enter Try.func46, Try.ntmps46
    go_wp2
    go_ret
    exact ⟨ret64 HG.out.symm, rfl⟩
  · by_cases h1 : 512 < n
    · have HG := Lib.hid (Blob.gI_out (s := n) (.inr h1))
      go_enter Try.func46, Try.ntmps46
      go_wp2
      go_ret
      exact ⟨ret64 HG.out.symm, rfl⟩
    · have HG := Lib.hid (Blob.gI_in (s := n) (by omega) (by omega))
      have h0' : 0 ≤ n := by omega
      have h1' : n ≤ 512 := by omega
      go_enter Try.func46, Try.ntmps46
      go_wp2_with ((with_reducible refine (rgroups_any _ _ h0' h1').mono ?_); rintro e w' ⟨rfl, rfl⟩)
      go_ret
      exact ⟨ret64 HG.out.symm, rfl⟩
namespace Blob
/-- the byte at a place of a group -/
def at' (l : List UInt8) (g i : Nat) : UInt8 := if 128 * g + i < l.length then l.getD (128 * g + i) 0 else 0
theorem all_get {l : List UInt8} (h : l.length ≤ 512) (k : Nat) : (all l).getD k 0 = if k < l.length then l.getD k 0 else 0 := by
  unfold all
  rw [if_pos h]
  by_cases hk : k < l.length
  · rw [if_pos hk]
    simp only [List.getD_eq_getElem?_getD]
    rw [List.getElem?_append_left hk]
  · rw [if_neg hk]
    simp only [List.getD_eq_getElem?_getD]
    rw [List.getElem?_append_right (by omega)]
    simp only [List.getElem?_replicate]
    split <;> rfl
theorem grp_line {l : List UInt8} (h : l.length ≤ 512) {g : Nat} (hg : g < gN l.length) : grp l g = line 128 (at' l g) := by
  apply List.ext_getElem?
  intro i
  have hl := grp_length hg
  by_cases hi : i < 128
  · have h1 : (grp l g)[i]? = some ((all l).getD (128 * g + i) 0) := by
      unfold grp
      have ha := all_length l
      rw [List.getElem?_take_of_lt hi, List.getElem?_drop]
      simp [List.getD_eq_getElem?_getD, show 128 * g + i < (all l).length by omega]
    rw [h1, all_get h]
    simp [line, hi, at']
  · rw [List.getElem?_eq_none (by omega), List.getElem?_eq_none (by simp [line]; omega)]
theorem split_tab {l : List UInt8} (h : l.length ≤ 512) : split l = tab (gN l.length) 128 (at' l) := by
  unfold split tab
  apply List.map_congr_left
  intro g hg
  exact grp_line h (List.mem_range.1 hg)
end Blob
set_option maxRecDepth 100000 in
set_option maxHeartbeats 4000000 in
theorem refSplit_any (v : Value) (l : List UInt8) (w : World) (h : RB w v l) :
    Calls Try.prog 50 #[v] w fun e w' => ∃ v', e = .returned v' ∧ RT w' v' (Blob.split l) ∧ Below w.heap.size w w' := by
  obtain ⟨a, c, rfl, h1, h2⟩ := h.shape
  simp only [maxLen] at h2
  have H := Lib.hid h
  have HGt := Lib.hid (Blob.gN_int l.length)
  have HG4 := Lib.hid (Blob.gN_le l.length)
  obtain ⟨n, Hn⟩ := hid_of l.length
  rw [Hn.out] at h1 H HGt HG4
  rw [Hn.out]
  clear h
  by_cases hlt : 512 < n
  · have hI : (512 : Int) < (n : Int) := by omega
    have HS : Hid (Blob.split l = []) := List.eq_nil_of_length_eq_zero (by rw [Blob.split_length, Hn.out, Blob.gN_out hlt])
    rw [HS.out]
    go_enter Try.func50, Try.ntmps50
    go_wp2
    go_ret
    exact ⟨_, rfl, (CTb.start (e := 35) (Nat.le_refl _) rfl).read, (Below.refl _ _).alloc (Nat.le_refl _) _⟩
  · have hI : (n : Int) ≤ 512 := by omega
    have HTb : Hid (Blob.split l = tab (Blob.gN n) 128 (Blob.at' l)) := by have := Blob.split_tab (l := l) (by rw [Hn.out]; omega); rw [Hn.out] at this; exact this
    obtain ⟨m, Hm⟩ := hid_of (Blob.gN n)
    rw [Hm.out] at HTb HG4 HGt
    have hm4 := HG4.out
    have HGr : Hid (∀ wx, Calls Try.prog 46 #[.int .i64 (n : Int)] wx fun e w' => e = .returned (.int .i64 (m : Int)) ∧ wx = w') := fun wx => by
      have := refGroups_any (n : Int) wx
      rw [← HGt.out] at this
      exact this
    have HC0 : Hid (CTb w.heap.size 35 (w.alloc (.cells #[] 35)) (.slice (some ⟨w.heap.size, 0, none⟩) 0 0) (tab 0 128 (Blob.at' l))) := CTb.start (w := w) (Nat.le_refl _) rfl
    have HB0 : Hid (Below w.heap.size w (w.alloc (.cells #[] 35))) := (Below.refl _ _).alloc (Nat.le_refl _) _
    rw [HTb.out]
    go_enter Try.func50, Try.ntmps50
    go_wp2
    go_loopw [3, 4] (fun v x wr => ∃ g : Nat, g ≤ m ∧ x = .int .i64 (g : Int) ∧ CTb w.heap.size 35 wr v (tab g 128 (Blob.at' l)) ∧ Below w.heap.size w wr) (fun _ x _ => m - (intOf x).toNat)
    case atStart => exact ⟨0, by omega, rfl, HC0.out, HB0.out⟩
    case round =>
      clear HC0 HB0
      obtain ⟨g, hg, rfl, hct, hbe⟩ := hrel
      obtain ⟨oa, oc, rfl, ho1, ho2⟩ := hct.shape
      rw [tab_length] at ho1 hct ⊢
      simp only [maxLen] at ho2
      obtain ⟨wo, hwo⟩ : ∃ wo : World, wo = wr := ⟨_, rfl⟩
      subst hwo
      have HCt := Lib.hid hct
      have HBe := Lib.hid hbe
      clear hct hbe
      by_cases hlg : g < m
      · have hgi : (g : Int) < (m : Int) := by omega
        have hmk := make_bytes 128 (by omega) wo
        rw [show ((128 : Nat) : Int) = 128 from rfl] at hmk
        have HM0 : Hid (RowF 5 (wo.alloc (.cells (madeCells #[.int .u8 0] 128) 5)) wo.heap.size 128 (fun i => if i < 0 then Blob.at' l g i else 0)) := (made_row wo 5 128 rfl).congr (fun j _ => by simp)
        have HBm : Hid (Below wo.heap.size wo (wo.alloc (.cells (madeCells #[.int .u8 0] 128) 5))) := (Below.refl _ _).alloc (Nat.le_refl _) _
        go_wp2_with ((with_reducible refine (HGr.out _).mono ?_); rintro e w' ⟨rfl, rfl⟩)
        clear hmk
        go_loopw [6] (fun x wx => ∃ j : Nat, j ≤ 128 ∧ x = .int .i64 (j : Int) ∧ RowF 5 wx wo.heap.size 128 (fun i => if i < j then Blob.at' l g i else 0) ∧ Below wo.heap.size wo wx) (fun x _ => 128 - (intOf x).toNat)
        case atStart => exact ⟨0, by omega, rfl, HM0.out, HBm.out⟩
        case round =>
          clear HM0 HBm
          obtain ⟨j, hj, rfl, hrow, hbw⟩ := hrel
          have HRow := Lib.hid hrow
          have HBw := Lib.hid hbw
          clear hrow hbw
          by_cases hlj : j < 128
          · have hji : (j : Int) < 128 := by omega
            by_cases hin : 128 * g + j < n
            · have hin' : 128 * (g : Int) + (j : Int) < (n : Int) := by omega
              have hin2 : (128 * (g : Int) + (j : Int)).toNat = 128 * g + j := by omega
              obtain ⟨b, off, rfl, hb, hby⟩ := H.out.at (by rw [Hn.out]; omega)
              have hc1 : wr.cell? ⟨b, off + (128 * g + j), none⟩ = some (.int .u8 (((l.getD (128 * g + j) 0).toNat : Nat) : Int)) := by
                rw [HBw.out.cell (p := ⟨b, off + (128 * g + j), none⟩) (by have := HBe.out.size; show b < wo.heap.size; omega), HBe.out.cell (p := ⟨b, off + (128 * g + j), none⟩) hb]
                exact hby _ (by rw [Hn.out]; exact hin)
              have hc2 := HRow.out.cell j hlj
              have hf2 := HRow.out.frozen j
              have HSet := Lib.hid ((HRow.out.set j (l.getD (128 * g + j) 0)).congr (f' := fun i => if i < j + 1 then Blob.at' l g i else 0) (fun i hi => by
                by_cases e : i = j
                · subst e
                  rw [if_pos rfl, if_pos (Nat.lt_succ_self _)]
                  unfold Blob.at'
                  rw [if_pos (by rw [Hn.out]; exact hin)]
                · rw [if_neg e]
                  by_cases e2 : i < j
                  · rw [if_pos e2, if_pos (by omega)]
                  · rw [if_neg e2, if_neg (by omega)]))
              obtain ⟨x, Hx⟩ := hid_of (l.getD (128 * g + j) 0)
              rw [Hx.out] at hc1 HSet
              clear hby
              go_wp2
              go_roundw
              case rel => exact ⟨j + 1, by omega, by go_num, HSet.out, HBw.out.setCell (Nat.le_refl _) _⟩
              case measure => simp [intOf]; omega
            · have hin' : ¬ 128 * (g : Int) + (j : Int) < (n : Int) := by omega
              have HSet := Lib.hid (HRow.out.congr (f' := fun i => if i < j + 1 then Blob.at' l g i else 0) (fun i hi => by
                by_cases e2 : i < j
                · rw [if_pos e2, if_pos (by omega)]
                · rw [if_neg e2]
                  by_cases e : i = j
                  · subst e
                    rw [if_pos (Nat.lt_succ_self _)]
                    unfold Blob.at'
                    rw [if_neg (by rw [Hn.out]; exact hin)]
                  · rw [if_neg (by omega)]))
              go_wp2
              go_roundw
              case rel => exact ⟨j + 1, by omega, by go_num, HSet.out, HBw.out⟩
              case measure => simp [intOf]; omega
          · obtain rfl : j = 128 := by omega
            have hrd := (HRow.out.congr (f' := Blob.at' l g) (fun i hi => if_pos hi)).read (Nat.le_refl 128) (by simp only [maxLen]; omega)
            have hgl := HRow.out.lt
            obtain ⟨L, HL⟩ := hid_of (line 128 (Blob.at' l g))
            obtain ⟨Ts, HTs⟩ := hid_of (tab g 128 (Blob.at' l))
            have HTl : Hid (Ts.length = g) := by rw [← HTs.out]; exact tab_length _ _ _
            have HTn : Hid (Ts ++ [L] = tab (g + 1) 128 (Blob.at' l)) := by rw [← HTs.out, ← HL.out]; exact (tab_succ _ _ _).symm
            rw [HTs.out] at HCt
            rw [HL.out] at hrd
            have HRv := Lib.hid hrd
            have HGl := Lib.hid hgl
            rw [show ((128 : Nat) : Int) = 128 from rfl]
            clear hrd hgl
            go_wp2_with (at_builtin; refine stopped ?_)
            have hba : Below wo.heap.size wo (wr.alloc (.cells #[.slice (some ⟨wo.heap.size, 0, none⟩) 128 128] 35)) := HBw.out.alloc HBw.out.size _
            refine going (wpList_push_row _ rfl _ _ 34 rfl w.heap.size 35 Try.underlying34 infoRow _ Ts rfl (HCt.out.below hba rfl) wr.heap.size (.slice (some ⟨wo.heap.size, 0, none⟩) 128 128) L rfl (by rw [cell_of_row _ _ 0 _ _ _ (heap_alloc_new wr _)]; rfl) (HRv.out.below ((Below.refl wr.heap.size wr).alloc (Nat.le_refl _) _) rfl) (fun _ x hx hx2 => by have h1 : wo.heap.size = x := (by simpa [Value.ownBlock] using hx); have h2 := (HCt.out.lt x hx2).2; omega) (by rw [HTl.out]; omega) (by have := HBe.out.size; have := HBw.out.size; simp; omega) ?_)
            intro v3 w3 ho3 hb3 hg3
            rw [HTn.out] at ho3
            have HO3 := Lib.hid ho3
            have HB3 : Hid (Below w.heap.size w w3) := HBe.out.trans ((hba.mono HBe.out.size).trans hb3)
            clear ho3 hb3 hg3 hba
            go_wp2
            refine ⟨⟨g + 1, by omega, by go_num, HO3.out, HB3.out⟩, by simp [intOf]; omega⟩
      · obtain rfl : g = m := by omega
        have HRead := Lib.hid HCt.out.read
        go_wp2_with ((with_reducible refine (HGr.out _).mono ?_); rintro e w' ⟨rfl, rfl⟩)
        go_ret
        exact ⟨_, rfl, HRead.out, HBe.out⟩
end Go.Proofs.Ytepedabpnchajaa

/-
  kist/blob.Join, kistref18.Join.
-/
namespace Go.Proofs.Ytepedabpnchajaa
open Go.RowKit
set_option linter.unusedVariables false
set_option linter.unusedSimpArgs false

namespace Blob
/-- may the groups be a blob's of that size? -/
def JoinOk (rows : List (List UInt8)) (size : Int) : Prop := (0 < rows.length ∧ (rows.length : Int) = gI size) ∧ ∀ j, j < rows.length → (rows.getD j []).length = 128
open Classical in
noncomputable def okB (rows : List (List UInt8)) (size : Int) : Bool := decide (JoinOk rows size)
open Classical in
noncomputable def join (rows : List (List UInt8)) (size : Int) : List UInt8 := if JoinOk rows size then rows.flatten.take size.toNat else []
theorem okB_yes {rows : List (List UInt8)} {size : Int} (h : JoinOk rows size) : okB rows size = true := by unfold okB; simp [h]
theorem okB_no {rows : List (List UInt8)} {size : Int} (h : ¬ JoinOk rows size) : okB rows size = false := by unfold okB; simp [h]
theorem join_yes {rows : List (List UInt8)} {size : Int} (h : JoinOk rows size) : join rows size = rows.flatten.take size.toNat := by unfold join; exact if_pos h
theorem join_no {rows : List (List UInt8)} {size : Int} (h : ¬ JoinOk rows size) : join rows size = [] := by unfold join; exact if_neg h
theorem size_of {n : Nat} {size : Int} (h0 : 0 < n) (h : (n : Int) = gI size) : 0 ≤ size ∧ size ≤ 128 * (n : Int) ∧ n ≤ 4 := by
  have hb := gI_bd size
  have hs : ¬ (size < 0 ∨ 512 < size) := fun hc => by rw [gI_out hc] at h; omega
  rw [gI_in (by omega) (by omega)] at h
  unfold Lab.groupsI at h
  split at h <;> omega
theorem flat_len {rows : List (List UInt8)} : ∀ i, i ≤ rows.length → (∀ j, j < i → (rows.getD j []).length = 128) → (rows.take i).flatten.length = 128 * i
  | 0, _, _ => rfl
  | i + 1, hi, h => by
    have h1 := flat_len (rows := rows) i (by omega) (fun j hj => h j (by omega))
    rw [List.take_succ_eq_append_getElem (by omega), List.flatten_append, List.length_append, h1]
    have h2 := h i (Nat.lt_succ_self _)
    simp only [List.getD_eq_getElem?_getD, show i < rows.length by omega, List.getElem?_eq_getElem, Option.getD_some] at h2
    simp only [List.flatten_cons, List.flatten_nil, List.append_nil]
    omega
theorem flat_snoc {rows : List (List UInt8)} {i : Nat} (hi : i < rows.length) : (rows.take i).flatten ++ rows.getD i [] = (rows.take (i + 1)).flatten := by
  rw [List.take_succ_eq_append_getElem hi, List.flatten_append]
  simp [List.getD_eq_getElem?_getD, hi]
end Blob
set_option maxRecDepth 100000 in
set_option maxHeartbeats 4000000 in
theorem join_any (v : Value) (rows : List (List UInt8)) (size : Int) (w : World) (h : RT w v rows) :
    Calls Try.prog 25 #[v, .int .i64 size] w fun e w' => ∃ a n c, e = .returned (.tuple #[.slice a n c, .bool (Blob.okB rows size)]) ∧ RB w' (.slice a n c) (Blob.join rows size) ∧ Below w.heap.size w w' := by
  obtain ⟨a, c, rfl, h1, h2⟩ := h.shape
  have H := Lib.hid h
  obtain ⟨n, Hn⟩ := hid_of rows.length
  simp only [maxLen] at h2
  rw [Hn.out] at h1 H
  rw [Hn.out]
  have hgb := Blob.gI_bd size
  have HGr : Hid (∀ wx, Calls Try.prog 38 #[.int .i64 size] wx fun e w' => e = .returned (.int .i64 (Blob.gI size)) ∧ wx = w') := fun wx => bgroups_any size wx
  clear h
  by_cases hok : 0 < n ∧ (n : Int) = Blob.gI size
  case neg =>
    have HNo : Hid (¬ Blob.JoinOk rows size) := fun hj => hok (by have := hj.1; rw [Hn.out] at this; exact this)
    have HO := Lib.hid (Blob.okB_no HNo.out)
    have HJ := Lib.hid (Blob.join_no HNo.out)
    rw [HO.out, HJ.out]
    by_cases hs : size < 0
    · go_enter Try.func25, Try.ntmps25
      go_wp2
      go_ret2
      exact ⟨_, _, _, rfl, RB.nil _, Below.refl _ _⟩
    · by_cases h0 : n = 0
      · have h0' : ((n : Int) == 0) = true := by rw [h0]; rfl
        clear h0 hok
        go_enter Try.func25, Try.ntmps25
        go_wp2
        go_ret2
        exact ⟨_, _, _, rfl, RB.nil _, Below.refl _ _⟩
      · have h0' : ((n : Int) == 0) = false := beq_eq_false_iff_ne.2 (by omega)
        have hne : ((n : Int) != Blob.gI size) = true := by rw [bne_iff_ne]; exact fun e => hok ⟨by omega, e⟩
        obtain ⟨G, HG⟩ := hid_of (Blob.gI size)
        rw [HG.out] at HGr hne
        clear h0 hok hgb
        go_enter Try.func25, Try.ntmps25
        go_wp2_with ((with_reducible refine (HGr.out _).mono ?_); rintro e w' ⟨rfl, rfl⟩)
        go_ret2
        exact ⟨_, _, _, rfl, RB.nil _, Below.refl _ _⟩
  case pos =>
  obtain ⟨hp, hg⟩ := hok
  obtain ⟨hs0, hs1, hn4⟩ := Blob.size_of hp hg
  have HHead : Hid (0 < rows.length ∧ (rows.length : Int) = Blob.gI size) := by rw [Hn.out]; exact ⟨hp, hg⟩
  have hs : ¬ size < 0 := by omega
  have h0' : ((n : Int) == 0) = false := beq_eq_false_iff_ne.2 (by omega)
  have hne : ((n : Int) != Blob.gI size) = false := by rw [hg]; simp
  obtain ⟨G, HG⟩ := hid_of (Blob.gI size)
  rw [HG.out] at HGr hne
  obtain ⟨b, off, rfl, hb, hrow⟩ := H.out.row (by rw [Hn.out]; exact hp)
  have HRow := Lib.hid hrow
  clear hg hgb hrow
  go_enter Try.func25, Try.ntmps25
  go_wp2_with ((with_reducible refine (HGr.out _).mono ?_); rintro e w' ⟨rfl, rfl⟩)
  go_loopw [6, 25] (fun u x wr => ∃ i : Nat, i ≤ n ∧ x = .int .i64 (i : Int) ∧ Hid (∀ j, j < i → (rows.getD j []).length = 128) ∧ wr.ownsRow w.heap.size 5 1 u (rows.take i).flatten.length (Bs (rows.take i).flatten) ∧ Below w.heap.size w wr) (fun _ x _ => n - (intOf x).toNat)
  case atStart => exact ⟨0, by omega, rfl, fun j hj => by omega, World.ownsRow_nil _ _ _ _, Below.refl _ _⟩
  case round =>
    obtain ⟨i, hi, rfl, HAll, hown, hbe⟩ := hrel
    have HO := Lib.hid hown
    have HB := Lib.hid hbe
    clear hown hbe
    by_cases hlt : i < n
    · have hin : (i : Int) < (n : Int) := by omega
      obtain ⟨u, hc, hr⟩ := HRow.out i (by rw [Hn.out]; exact hlt)
      obtain ⟨ua, uc, rfl, hu1, hu2⟩ := hr.shape
      have hc' : wr.cell? ⟨b, off + i, none⟩ = some (.slice ua (rows.getD i []).length uc) := by rw [HB.out.cell (p := ⟨b, off + i, none⟩) hb]; exact hc
      have HR := Lib.hid (hr.below HB.out rfl)
      by_cases h128 : (rows.getD i []).length = 128
      · have HSn := Lib.hid (Blob.flat_snoc (rows := rows) (i := i) (by rw [Hn.out]; exact hlt))
        have HFl := Lib.hid (Blob.flat_len (rows := rows) i (by rw [Hn.out]; omega) HAll.out)
        have HAll2 : Hid (∀ j, j < i + 1 → (rows.getD j []).length = 128) := fun j hj => by
          by_cases e : j < i
          · exact HAll.out j e
          · obtain rfl : j = i := by omega
            exact h128
        have HL1 := Lib.hid h128
        rw [h128] at hc' HR
        obtain ⟨R, HRR⟩ := hid_of (rows.getD i [])
        rw [HRR.out] at HSn HR HL1
        clear h128 hc hr hu1
        go_wp2_with (at_builtin; refine stopped ?_)
        refine going (wpList_append_bytes _ rfl _ _ 35 35 rfl w.heap.size 5 5 Try.underlying35 Try.underlying35 infoByte _ _ _ rfl HO.out _ R rfl HR.out (by rw [HFl.out, HL1.out]; omega) HB.out.size ?_)
        intro v3 w3 ho3 hb3 _
        rw [HSn.out] at ho3
        have HO3 := Lib.hid ho3
        have HB3 := Lib.hid (HB.out.trans hb3)
        clear ho3 hb3
        go_wp2
        go_roundw
        case rel => exact ⟨i + 1, by omega, by go_num, HAll2, HO3.out, HB3.out⟩
        case measure => simp [intOf]; omega
      · have HNo : Hid (¬ Blob.JoinOk rows size) := fun hj => h128 (hj.2 i (by rw [Hn.out]; exact hlt))
        have HOk := Lib.hid (Blob.okB_no HNo.out)
        have HJ := Lib.hid (Blob.join_no HNo.out)
        have hd : ((((rows.getD i []).length : Nat) : Int) != 128) = true := by rw [bne_iff_ne]; omega
        obtain ⟨q, Hq⟩ := hid_of (rows.getD i []).length
        rw [Hq.out] at hc' hd
        clear h128 hc hr hu1
        have HPo : Hid (∀ (e : Ending) (w' : World), (∃ a n c, e = .returned (.tuple #[.slice a n c, .bool false]) ∧ RB w' (.slice a n c) [] ∧ Below w.heap.size w w') → ∃ a n c, e = .returned (.tuple #[.slice a n c, .bool (Blob.okB rows size)]) ∧ RB w' (.slice a n c) (Blob.join rows size) ∧ Below w.heap.size w w') := fun e w' h => by rw [HOk.out, HJ.out]; exact h
        go_wp2
        go_ret2
        exact HPo.out _ _ ⟨_, _, _, rfl, RB.nil _, HB.out⟩
    · obtain rfl : i = n := by omega
      have HFl := Lib.hid (Blob.flat_len (rows := rows) i (by rw [Hn.out]; omega) HAll.out)
      have HYes : Hid (Blob.JoinOk rows size) := ⟨HHead.out, fun j hj => HAll.out j (by rw [Hn.out] at hj; exact hj)⟩
      have HOk := Lib.hid (Blob.okB_yes HYes.out)
      have HJ := Lib.hid (Blob.join_yes HYes.out)
      have HT : Hid (rows.take i = rows) := List.take_of_length_le (by rw [Hn.out]; omega)
      rw [HT.out] at HO HFl
      have hown := HO.out
      rw [HFl.out] at hown
      obtain ⟨g, cap, rfl, hg1, hg2⟩ := hown.form (by omega)
      have HOw : Hid (RB wr (.slice (some ⟨g, 0, none⟩) (128 * i) cap) rows.flatten) := RB.own (by have h := hown; rw [← HFl.out] at h ⊢; exact h)
      have hcap : 128 * i ≤ cap := by
        obtain ⟨_, _, he, hx, _⟩ := HOw.out.shape
        simp only [Value.slice.injEq] at he
        omega
      have hsl := HOw.out.sliced 0 size.toNat (Nat.zero_le _) (by omega)
      have HPo : Hid (∀ (e : Ending) (w' : World), (∃ a n c, e = .returned (.tuple #[.slice a n c, .bool true]) ∧ RB w' (.slice a n c) (rows.flatten.take size.toNat) ∧ Below w.heap.size w w') → ∃ a n c, e = .returned (.tuple #[.slice a n c, .bool (Blob.okB rows size)]) ∧ RB w' (.slice a n c) (Blob.join rows size) ∧ Below w.heap.size w w') := fun e w' h => by rw [HOk.out, HJ.out]; exact h
      have hs3 : size ≤ (cap : Int) := by omega
      have HR3 : Hid (RB wr (.slice (some ⟨g, 0, none⟩) size.toNat size.toNat) (rows.flatten.take size.toNat)) := by
        obtain ⟨a', c', he, h1, h2, h3, h4⟩ := hsl
        simp only [List.drop_zero] at he h1 h4
        have hlen : (rows.flatten.take size.toNat).length = size.toNat := by rw [List.length_take, HFl.out]; omega
        have ha : a' = some ⟨g, 0, none⟩ := by
          simp only [sliced, Value.slice.injEq] at he
          rw [← he.1]
          split <;> simp [Addr.add]
        refine ⟨some ⟨g, 0, none⟩, size.toNat, by rw [hlen], by rw [hlen]; exact Nat.le_refl _, by omega, (fun h => nomatch h), ?_⟩
        rw [ha] at h4
        exact h4
      clear hsl
      go_wp2
      go_ret2
      exact HPo.out _ _ ⟨_, _, _, rfl, HR3.out, HB.out⟩
end Go.Proofs.Ytepedabpnchajaa

/-
  kistref18.Join.
-/
namespace Go.Proofs.Ytepedabpnchajaa
open Go.RowKit
set_option linter.unusedVariables false
set_option linter.unusedSimpArgs false

namespace Blob
/-- a byte of groups of 128 -/
theorem flat_get : ∀ (rows : List (List UInt8)) (k : Nat), (∀ j, j < rows.length → (rows.getD j []).length = 128) → k < 128 * rows.length → rows.flatten.getD k 0 = (rows.getD (k / 128) []).getD (k % 128) 0
  | [], k, _, hk => by simp at hk
  | r :: rows, k, h, hk => by
    have h0 : r.length = 128 := by simpa using h 0 (by simp)
    by_cases hlt : k < 128
    · rw [Nat.div_eq_of_lt hlt, Nat.mod_eq_of_lt hlt]
      simp only [List.flatten_cons, List.getD_eq_getElem?_getD, List.getD_cons_zero]
      rw [List.getElem?_append_left (by omega)]
      rfl
    · have ih := flat_get rows (k - 128) (fun j hj => by have := h (j + 1) (by simpa using hj); simpa using this) (by simp at hk; omega)
      have e1 : k / 128 = (k - 128) / 128 + 1 := by omega
      have e2 : k % 128 = (k - 128) % 128 := by omega
      rw [e1, e2]
      simp only [List.getD_cons_succ]
      rw [← ih]
      simp only [List.flatten_cons, List.getD_eq_getElem?_getD]
      rw [List.getElem?_append_right (by omega), h0]
end Blob
theorem take_snoc8 (l : List UInt8) (i : Nat) (h : i < l.length) : l.take i ++ [l.getD i 0] = l.take (i + 1) := by
  rw [List.take_succ_eq_append_getElem h]
  simp [List.getD_eq_getElem?_getD, h]
set_option maxRecDepth 100000 in
set_option maxHeartbeats 4000000 in
theorem refJoin_any (v : Value) (rows : List (List UInt8)) (size : Int) (w : World) (h : RT w v rows) :
    Calls Try.prog 28 #[v, .int .i64 size] w fun e w' => ∃ a n c, e = .returned (.tuple #[.slice a n c, .bool (Blob.okB rows size)]) ∧ RB w' (.slice a n c) (Blob.join rows size) ∧ Below w.heap.size w w' := by
  obtain ⟨a, c, rfl, h1, h2⟩ := h.shape
  have H := Lib.hid h
  obtain ⟨n, Hn⟩ := hid_of rows.length
  simp only [maxLen] at h2
  rw [Hn.out] at h1 H
  rw [Hn.out]
  have hgb := Blob.gI_bd size
  have HGr : Hid (∀ wx, Calls Try.prog 46 #[.int .i64 size] wx fun e w' => e = .returned (.int .i64 (Blob.gI size)) ∧ wx = w') := fun wx => refGroups_any size wx
  clear h
  by_cases hok : 0 < n ∧ (n : Int) = Blob.gI size
  case neg =>
    have HNo : Hid (¬ Blob.JoinOk rows size) := fun hj => hok (by have := hj.1; rw [Hn.out] at this; exact this)
    have HO := Lib.hid (Blob.okB_no HNo.out)
    have HJ := Lib.hid (Blob.join_no HNo.out)
    rw [HO.out, HJ.out]
    by_cases h0 : n = 0
    · have h0' : ((n : Int) == 0) = true := by rw [h0]; rfl
      clear h0 hok
      go_enter Try.func28, Try.ntmps28
      go_wp2
      go_ret2
      exact ⟨_, _, _, rfl, RB.nil _, Below.refl _ _⟩
    · have h0' : ((n : Int) == 0) = false := beq_eq_false_iff_ne.2 (by omega)
      have hne : ((n : Int) != Blob.gI size) = true := by rw [bne_iff_ne]; exact fun e => hok ⟨by omega, e⟩
      obtain ⟨G, HG⟩ := hid_of (Blob.gI size)
      rw [HG.out] at HGr hne
      clear h0 hok hgb
      go_enter Try.func28, Try.ntmps28
      go_wp2_with ((with_reducible refine (HGr.out _).mono ?_); rintro e w' ⟨rfl, rfl⟩)
      go_ret2
      exact ⟨_, _, _, rfl, RB.nil _, Below.refl _ _⟩
  case pos =>
  obtain ⟨hp, hg⟩ := hok
  obtain ⟨hs0, hs1, hn4⟩ := Blob.size_of hp hg
  have HHead : Hid (0 < rows.length ∧ (rows.length : Int) = Blob.gI size) := by rw [Hn.out]; exact ⟨hp, hg⟩
  have h0' : ((n : Int) == 0) = false := beq_eq_false_iff_ne.2 (by omega)
  have hne : ((n : Int) != Blob.gI size) = false := by rw [hg]; simp
  obtain ⟨G, HG⟩ := hid_of (Blob.gI size)
  rw [HG.out] at HGr hne
  obtain ⟨b, off, rfl, hb, hrow⟩ := H.out.row (by rw [Hn.out]; exact hp)
  have HRow := Lib.hid hrow
  clear hg hgb hrow
  go_enter Try.func28, Try.ntmps28
  go_wp2_with ((with_reducible refine (HGr.out _).mono ?_); rintro e w' ⟨rfl, rfl⟩)
  go_loop [6] (fun x => ∃ i : Nat, i ≤ n ∧ x = .int .i64 (i : Int) ∧ Hid (∀ j, j < i → (rows.getD j []).length = 128)) (fun x => n - (intOf x).toNat)
  case atStart => exact ⟨0, by omega, rfl, fun j hj => by omega⟩
  case round =>
    obtain ⟨i, hi, rfl, HAll⟩ := hrel
    by_cases hlt : i < n
    · have hin : (i : Int) < (n : Int) := by omega
      obtain ⟨u, hc, hr⟩ := HRow.out i (by rw [Hn.out]; exact hlt)
      obtain ⟨ua, uc, rfl, hu1, hu2⟩ := hr.shape
      by_cases h128 : (rows.getD i []).length = 128
      · have HAll2 : Hid (∀ j, j < i + 1 → (rows.getD j []).length = 128) := fun j hj => by
          by_cases e : j < i
          · exact HAll.out j e
          · obtain rfl : j = i := by omega
            exact h128
        rw [h128] at hc
        clear h128 hr hu1
        go_wp2
        go_round
        case rel => exact ⟨i + 1, by omega, by go_num, HAll2⟩
        case measure => simp [intOf]; omega
      · have HNo : Hid (¬ Blob.JoinOk rows size) := fun hj => h128 (hj.2 i (by rw [Hn.out]; exact hlt))
        have HOk := Lib.hid (Blob.okB_no HNo.out)
        have HJ := Lib.hid (Blob.join_no HNo.out)
        have hd : ((((rows.getD i []).length : Nat) : Int) != 128) = true := by rw [bne_iff_ne]; omega
        obtain ⟨q, Hq⟩ := hid_of (rows.getD i []).length
        rw [Hq.out] at hc hd
        clear h128 hr hu1
        have HPo : Hid (∀ (e : Ending) (w' : World), (∃ a n c, e = .returned (.tuple #[.slice a n c, .bool false]) ∧ RB w' (.slice a n c) [] ∧ Below w.heap.size w w') → ∃ a n c, e = .returned (.tuple #[.slice a n c, .bool (Blob.okB rows size)]) ∧ RB w' (.slice a n c) (Blob.join rows size) ∧ Below w.heap.size w w') := fun e w' h => by rw [HOk.out, HJ.out]; exact h
        go_wp2
        go_ret2
        exact HPo.out _ _ ⟨_, _, _, rfl, RB.nil _, Below.refl _ _⟩
    · obtain rfl : i = n := by omega
      have HFl := Lib.hid (Blob.flat_len (rows := rows) i (by rw [Hn.out]; omega) HAll.out)
      have HYes : Hid (Blob.JoinOk rows size) := ⟨HHead.out, fun j hj => HAll.out j (by rw [Hn.out] at hj; exact hj)⟩
      have HOk := Lib.hid (Blob.okB_yes HYes.out)
      have HJ := Lib.hid (Blob.join_yes HYes.out)
      have HT : Hid (rows.take i = rows) := List.take_of_length_le (by rw [Hn.out]; omega)
      have HFg : Hid (∀ k, k < 128 * i → rows.flatten.getD k 0 = (rows.getD (k / 128) []).getD (k % 128) 0) := fun k hk => Blob.flat_get rows k (fun j hj => HAll.out j (by rw [Hn.out] at hj; exact hj)) (by rw [Hn.out]; exact hk)
      rw [HT.out] at HFl
      obtain ⟨F, HF⟩ := hid_of rows.flatten
      rw [HF.out] at HFl HJ HFg
      obtain ⟨s, rfl⟩ : ∃ s : Nat, size = (s : Int) := ⟨size.toNat, by omega⟩
      have HPo : Hid (∀ (e : Ending) (w' : World), (∃ a n c, e = .returned (.tuple #[.slice a n c, .bool true]) ∧ RB w' (.slice a n c) (F.take s) ∧ Below w.heap.size w w') → ∃ a n c, e = .returned (.tuple #[.slice a n c, .bool (Blob.okB rows (s : Int))]) ∧ RB w' (.slice a n c) (Blob.join rows (s : Int)) ∧ Below w.heap.size w w') := fun e w' h => by rw [HOk.out, HJ.out, Int.toNat_natCast]; exact h
      have hs5 : s ≤ 128 * i := by omega
      clear HOk HJ HYes HT HHead
      have HO0 : Hid ((w.alloc (.cells #[] 5)).ownsRow w.heap.size 5 1 (.slice (some ⟨w.heap.size, 0, none⟩) 0 0) (F.take 0).length (Bs (F.take 0))) := own_empty w (Nat.le_refl _) rfl
      have HB0 : Hid (Below w.heap.size w (w.alloc (.cells #[] 5))) := (Below.refl _ _).alloc (Nat.le_refl _) _
      go_wp2
      go_loopw [7, 8] (fun u x wr => ∃ k : Nat, k ≤ s ∧ x = .int .i64 (k : Int) ∧ wr.ownsRow w.heap.size 5 1 u (F.take k).length (Bs (F.take k)) ∧ Below w.heap.size w wr) (fun _ x _ => s - (intOf x).toNat)
      case atStart => exact ⟨0, by omega, rfl, HO0.out, HB0.out⟩
      case round =>
        clear HO0 HB0
        obtain ⟨k, hk, rfl, hown, hbe⟩ := hrel
        have HO := Lib.hid hown
        have HB := Lib.hid hbe
        clear hown hbe
        by_cases hks : k < s
        · have hki : (k : Int) < (s : Int) := by omega
          have hq1 : (k : Int) / 128 < (i : Int) := by omega
          have hq2 : ((k : Int) / 128).toNat = k / 128 := by omega
          have hq3 : 0 ≤ (k : Int) / 128 := by omega
          have hm1 : (k : Int) % 128 < 128 := by omega
          have hm2 : ((k : Int) % 128).toNat = k % 128 := by omega
          have hm3 : 0 ≤ (k : Int) % 128 := by omega
          obtain ⟨u, hc, hr⟩ := HRow.out (k / 128) (by rw [Hn.out]; omega)
          obtain ⟨ua, uc, rfl, hu1, hu2⟩ := hr.shape
          have h128 := HAll.out (k / 128) (by omega)
          obtain ⟨rb, ro, rfl, hrb, hrc⟩ := hr.at (by omega)
          have hcc := hrc (k % 128) (by rw [h128]; exact Nat.mod_lt _ (by decide))
          rw [h128] at hc
          have hc1 : wr.cell? ⟨b, off + k / 128, none⟩ = some (.slice (some ⟨rb, ro, none⟩) 128 uc) := by rw [HB.out.cell (p := ⟨b, off + k / 128, none⟩) hb]; exact hc
          have hc2 : wr.cell? ⟨rb, ro + k % 128, none⟩ = some (.int .u8 ((((rows.getD (k / 128) []).getD (k % 128) 0).toNat : Nat) : Int)) := by rw [HB.out.cell (p := ⟨rb, ro + k % 128, none⟩) hrb]; exact hcc
          rw [← HFg.out k (by omega)] at hc2
          have HSn := Lib.hid (take_snoc8 F k (by rw [HFl.out]; omega))
          have HTl : Hid ((F.take k).length = k) := by unfold Hid; rw [List.length_take, HFl.out]; omega
          obtain ⟨x, Hx⟩ := hid_of (F.getD k 0)
          rw [Hx.out] at hc2 HSn
          clear hc hcc hr hrc h128 hu1 hu2
          go_wp2_with (at_builtin; refine stopped ?_)
          refine going (wpList_append_bytes _ rfl _ _ 35 35 rfl w.heap.size 5 5 Try.underlying35 Try.underlying35 infoByte _ _ _ rfl (HO.out.alloc _) _ [x] rfl (RB.lit _ _ _ rfl (by simp [maxLen]) rfl rfl) (by rw [HTl.out]; simp; omega) (by have := HB.out.size; simp; omega) ?_)
          intro v3 w3 ho3 hb3 _
          rw [HSn.out] at ho3
          have HO3 := Lib.hid ho3
          have HB3 := Lib.hid ((HB.out.alloc HB.out.size _).trans hb3)
          clear ho3 hb3
          go_wp2
          go_roundw
          case rel => exact ⟨k + 1, by omega, by go_num, HO3.out, HB3.out⟩
          case measure => simp [intOf]; omega
        · obtain rfl : k = s := by omega
          have HRd := Lib.hid (RB.own HO.out)
          obtain ⟨a5, c5, rfl, _, _⟩ := own_form HO.out
          go_wp2
          go_ret2
          exact HPo.out _ _ ⟨_, _, _, rfl, HRd.out, HB.out⟩
end Go.Proofs.Ytepedabpnchajaa
