/-
  kistref02.Full: does no row come of others?
-/
import Derived.Test.YtdcjcbfnniimpaaRefCopy
import Derived.Deep.RegionHeld3
namespace Go.Proofs.Ytdcjcbfnniimpaa
open Go.RowKit
set_option linter.unusedVariables false

theorem Elim.congr {n k : Nat} {A M M' : Fm} (h : Elim n k A M) (hk : k ≤ n) (hm : ∀ i j, i < n → j < n → M i j = M' i j) : Elim n k A M' := by
  refine ⟨fun v => ?_, fun i j hi hj hji => by rw [← hm i j hi (by omega)]; exact h.low i j hi hj hji, fun j hj => by rw [← hm j j (by omega) (by omega)]; exact h.diag j hj⟩
  rw [← h.ker v]
  constructor
  · intro hv i hi
    rw [← hv i hi]
    exact ap_congr (fun j hj => hm i j hi hj) (fun _ _ => rfl)
  · intro hv i hi
    rw [← hv i hi]
    exact ap_congr (fun j hj => (hm i j hi hj).symm) (fun _ _ => rfl)
theorem World.drewN_heapsize (w : World) (n : Nat) : (w.drewN n).heap.size = w.heap.size := rfl
/-- n rows of n bytes -/
def Sq (n : Nat) (rows : List (List UInt8)) : Prop := rows.length = n ∧ ∀ i, i < n → (rows.getD i []).length = n
theorem getD_set_eq {α : Type} (l : List α) (i j : Nat) (x d : α) (hi : i < l.length) : (l.set i x).getD j d = if i = j then x else l.getD j d := by
  by_cases e : i = j
  · subst e; simp [List.getD_eq_getElem?_getD, hi]
  · simp [List.getD_eq_getElem?_getD, List.getElem?_set_ne e, e]
theorem Sq.set {n : Nat} {rows : List (List UInt8)} (h : Sq n rows) (i : Nat) (hi : i < n) (r : List UInt8) (hr : r.length = n) : Sq n (rows.set i r) := by
  refine ⟨by rw [List.length_set]; exact h.1, fun j hj => ?_⟩
  rw [getD_set_eq _ _ _ _ _ (by rw [h.1]; exact hi)]
  split
  · exact hr
  · exact h.2 j hj
/-- what the call holds of its table -/
structure FT (t : TypeId) (w0 wr : World) (g n c : Nat) (rows : List (List UInt8)) : Prop where
  ct : CTb w0.heap.size t wr (.slice (some ⟨g, 0, none⟩) n c) rows
  sq : Sq n rows
  be : Below w0.heap.size w0 wr
section
variable {t : TypeId} {w0 wr w' : World} {g n c : Nat} {rows : List (List UInt8)}
theorem FT.below (h : FT t w0 wr g n c rows) (hb : Below wr.heap.size wr w') : FT t w0 w' g n c rows := ⟨h.ct.below hb rfl, h.sq, h.be.trans (hb.mono h.be.size)⟩
theorem FT.lt (h : FT t w0 wr g n c rows) : w0.heap.size ≤ g ∧ g < wr.heap.size := h.ct.lt g rfl
/-- a row: its header's cell, its bytes; and what setting it does -/
theorem FT.at (h : FT t w0 wr g n c rows) (i : Nat) (hi : i < n) : ∃ b o cc, wr.cell? ⟨g, i, none⟩ = some (.slice (some ⟨b, o, none⟩) n cc) ∧ wr.frozen? ⟨g, i, none⟩ = false ∧ n ≤ cc ∧ cc ≤ 9223372036854775807 ∧ b ≠ g ∧ b < wr.heap.size ∧
    RB wr (.slice (some ⟨b, o, none⟩) n cc) (rows.getD i []) ∧ (∀ j, j < n → wr.cell? ⟨b, o + j, none⟩ = some (.int .u8 ((At rows i j).toNat : Int))) := by
  have hp : 0 < rows.length := by rw [h.sq.1]; omega
  obtain ⟨g', hg', hb1, hb2, hrow⟩ := h.ct.cell hp
  cases hg'
  obtain ⟨u, hc, hfz, hr, hne, _⟩ := hrow i (by rw [h.sq.1]; exact hi)
  obtain ⟨ua, uc, rfl, hu1, hu2⟩ := hr.shape
  have hl := h.sq.2 i hi
  rw [hl] at hc hr hne hu1
  obtain ⟨b, o, rfl, hlt, hby⟩ := hr.at (by rw [hl]; omega)
  refine ⟨b, o, uc, hc, hfz, hu1, hu2, ?_, hlt, hr, fun j hj => hby j (by rw [hl]; exact hj)⟩
  have := hne (by omega)
  simpa [Value.ownBlock] using this
theorem FT.set (h : FT t w0 wr g n c rows) (i : Nat) (hi : i < n) (u : Value) (r : List UInt8) (hr : r.length = n) (hu : RB wr u r) (hne : u.ownBlock ≠ some g) : FT t w0 (wr.setCell ⟨g, i, none⟩ u) g n c (rows.set i r) := by
  have hp : 0 < rows.length := by rw [h.sq.1]; omega
  obtain ⟨g', hg', hb1, hb2, hrow⟩ := h.ct.cell hp
  cases hg'
  obtain ⟨_, _, _, _, _, hs⟩ := hrow i (by rw [h.sq.1]; exact hi)
  exact ⟨hs u r hu (fun _ => hne), h.sq.set i hi r hr, h.be.setCell hb1 u⟩
end
theorem at_set {rows : List (List UInt8)} {n i : Nat} (hq : Sq n rows) (hi : i < n) (r : List UInt8) (a b : Nat) : At (rows.set i r) a b = if i = a then r.getD b 0 else At rows a b := by
  unfold At
  rw [getD_set_eq _ _ _ _ _ (by rw [hq.1]; exact hi)]
  split <;> rfl

def SomeB (P : Bool → Prop) (e : Ending) : Prop := ∃ b, e = .returned (.bool b) ∧ P b
set_option maxRecDepth 100000 in
set_option maxHeartbeats 8000000 in
theorem refFull_any (v : Value) (A : List (List UInt8)) (w : World) (h : RT w v A) (hT : Table A) (hs : A.length = cols A) :
    Calls Try.prog 15 #[v] w fun e w' => SomeB (fun b => b = true ↔ Inj A.length (At A)) e ∧ Below w.heap.size w w' := by
  have h5 := hT.1
  have h6 := hT.2.1
  have hsq : Sq A.length A := ⟨rfl, fun i hi => by rw [hT.2.2.2.2 i hi, hs]⟩
  obtain ⟨n, Hn⟩ := hid_of A.length
  rw [Hn.out] at h5 h6 hsq ⊢
  have HSq := Lib.hid hsq
  have H := Lib.hid h
  clear h hT hs hsq
  go_enter Try.func15, Try.ntmps15
  go_wp2_with fail
  refine (refCopy_any _ A _ H.out (by rw [Hn.out]; omega) (fun i hi => by rw [HSq.out.2 i (by rw [← Hn.out]; exact hi)]; omega)).mono ?_
  rintro e w1 ⟨v1, rfl, hct, hbe⟩
  obtain ⟨ga, c, rfl, hc1, hc2⟩ := hct.shape
  rw [Hn.out] at hct hc1 ⊢
  simp only [maxLen] at hc2
  obtain ⟨g, rfl, hg1, hg2, _⟩ := hct.cell (by rw [Hn.out]; omega)
  have HF0 : Hid (FT 29 w w1 g n c A) := ⟨hct, HSq.out, hbe⟩
  have HE0 : Hid (Elim n 0 (At A) (At A)) := Elim.start n (At A)
  clear hct hbe hg1 hg2
  go_wp2
  go_loopw [5] (fun x wr => ∃ (k : Nat) (rows : List (List UInt8)), k ≤ n ∧ x = .int .i64 (k : Int) ∧ FT 29 w wr g n c rows ∧ Elim n k (At A) (At rows)) (fun x _ => n - (intOf x).toNat)
  case atStart => exact ⟨0, A, by omega, rfl, HF0.out, HE0.out⟩
  case round =>
    clear HF0 HE0
    obtain ⟨k, rows, hk, rfl, hft, hel⟩ := hrel
    have HFt := Lib.hid hft
    have HEl := Lib.hid hel
    clear hft hel
    by_cases hlk : k < n
    · have hkn : (k : Int) < (n : Int) := by omega
      go_wp2
      go_loop [6, 7] (fun a x => ∃ i : Nat, k ≤ i ∧ i ≤ n ∧ x = .int .i64 (i : Int) ∧ ((a = .int .i64 (-1) ∧ ∀ r, k ≤ r → r < i → At rows r k = 0) ∨ ∃ r : Nat, k ≤ r ∧ r < i ∧ a = .int .i64 (r : Int) ∧ At rows r k ≠ 0)) (fun _ x => n - (intOf x).toNat)
      case atStart => exact ⟨k, by omega, by omega, rfl, .inl ⟨rfl, fun r h1 h2 => by omega⟩⟩
      case round =>
        obtain ⟨i, hki, hin, rfl, hat⟩ := hrel
        have HAt := Lib.hid hat
        by_cases hli : i < n
        · obtain ⟨b, o, cc, hc, hfz, hcc1, hcc2, hbg, hblt, hrb, hby⟩ := HFt.out.at i hli
          have hb := hby k hlk
          have hinI : (i : Int) < (n : Int) := by omega
          clear hrb hby hat
          by_cases hz : At rows i k = 0
          · rw [hz] at hb
            have HRel : Hid ((u6 = .int .i64 (-1) ∧ ∀ r, k ≤ r → r < i + 1 → At rows r k = 0) ∨ ∃ r : Nat, k ≤ r ∧ r < i + 1 ∧ u6 = .int .i64 (r : Int) ∧ At rows r k ≠ 0) := by
              rcases HAt.out with ⟨h1, h2⟩ | ⟨r, h1, h2, h3, h4⟩
              · refine .inl ⟨h1, fun r hr1 hr2 => ?_⟩
                by_cases e : r = i
                · rw [e, hz]
                · exact h2 r hr1 (by omega)
              · exact .inr ⟨r, h1, by omega, h3, h4⟩
            clear hz HAt
            go_wp2
            go_round
            case rel => exact ⟨i + 1, by omega, by omega, by go_num, HRel.out⟩
            case measure => simp [intOf]; omega
          · have hne := u8_ne (y := 0) hz
            have HZ := Lib.hid hz
            obtain ⟨z, Hz⟩ := hid_of (At rows i k)
            rw [Hz.out] at hb hne
            have hne' : ((z.toNat : Int) == 0) = false := hne
            clear hz HAt hne
            go_wp2
            go_round
            case rel => exact ⟨i + 1, by omega, by omega, by go_num, .inr ⟨i, by omega, by omega, rfl, HZ.out⟩⟩
            case measure => simp [intOf]; omega
        · obtain rfl : n = i := by omega
          rcases hat with ⟨rfl, hz⟩ | ⟨m, hkm, hmn, rfl, hm⟩
          · have HF : Hid (¬ Inj n (At A)) := HEl.out.fails hlk hz
            have HB := Lib.hid HFt.out.be
            clear hz HAt
            go_wp2
            go_ret
            exact ⟨⟨false, rfl, ⟨fun h => (by cases h), fun h => absurd h HF.out⟩⟩, HB.out⟩
          · have HM := Lib.hid hm
            clear hm HAt
            have hmI : (m : Int) < (n : Int) := by omega
            obtain ⟨bm, om, cm, hcm, fzm, hm1, hm2, hbm, hbmlt, hrbm, _⟩ := HFt.out.at m hmn
            obtain ⟨bk, ok, ck, hck, fzk, hk1, hk2, hbk, hbklt, hrbk, _⟩ := HFt.out.at k hlk
            have hft1 := HFt.out.set m hmn _ _ (HFt.out.sq.2 k hlk) hrbk (by simpa [Value.ownBlock] using hbk)
            have hrbm1 : RB (wr.setCell ⟨g, m, none⟩ (.slice (some ⟨bk, ok, none⟩) n ck)) (.slice (some ⟨bm, om, none⟩) n cm) (rows.getD m []) :=
              hrbm.fr (Fr.setCell (S := fun x => x = g) (Fr.refl _ _) (p := ⟨g, m, none⟩) (fun _ => rfl) _) (fun _ x hx e => hbm (by rw [e] at hx; simpa [Value.ownBlock] using hx))
            have hft2 := hft1.set k hlk _ _ (HFt.out.sq.2 m hmn) hrbm1 (by simpa [Value.ownBlock] using hbm)
            have hM1 : ∀ a b, At ((rows.set m (rows.getD k [])).set k (rows.getD m [])) a b = At rows (swn k m a) b := fun a b => by
              rw [at_set hft1.sq hlk, at_set HFt.out.sq hmn]
              unfold swn
              by_cases e1 : a = k
              · rw [if_pos e1.symm, if_pos e1]; rfl
              · rw [if_neg (Ne.symm e1), if_neg e1]
                by_cases e2 : a = m
                · rw [if_pos e2.symm, if_pos e2]; rfl
                · rw [if_neg (Ne.symm e2), if_neg e2]
            obtain ⟨y1, hy1⟩ : ∃ y, (wr.setCell ⟨g, m, none⟩ (.slice (some ⟨bk, ok, none⟩) n ck)).cell? ⟨g, k, none⟩ = some y := cell?_setCell_some (w := wr) (p := ⟨g, m, none⟩) (x := .slice (some ⟨bk, ok, none⟩) n ck) (q := ⟨g, k, none⟩) (v := _) hck
            have HStep := Lib.hid (HEl.out.step hlk hmn hkm HM.out)
            have HF2 := Lib.hid hft2
            obtain ⟨rows1, Hr1⟩ := hid_of ((rows.set m (rows.getD k [])).set k (rows.getD m []))
            rw [Hr1.out] at HF2 hM1
            have HM1 := Lib.hid hM1
            clear hft1 hft2 hrbm1 hrbm hrbk hM1
            go_wp2
            obtain ⟨w2, Hw2⟩ := hid_of ((wr.setCell ⟨g, m, none⟩ (.slice (some ⟨bk, ok, none⟩) n ck)).setCell ⟨g, k, none⟩ (.slice (some ⟨bm, om, none⟩) n cm))
            rw [Hw2.out] at HF2 ⊢
            have HR0 : Hid (∀ r j, r < n → j < n → At rows1 r j = if k < r ∧ r < k + 1 then mul (At rows1 r j) (At rows1 k k) ^^^ mul (At rows1 k j) (At rows1 r k) else At rows1 r j) := fun r j _ _ => by rw [if_neg (by omega)]
            clear hcm fzm hck fzk hy1 Hw2 HFt hbm hbk hbmlt hbklt hm1 hm2 hk1 hk2
            go_loopw [9] (fun x wx => ∃ (i : Nat) (rows2 : List (List UInt8)), k + 1 ≤ i ∧ i ≤ n ∧ x = .int .i64 (i : Int) ∧ FT 29 w wx g n c rows2 ∧ ∀ r j, r < n → j < n → At rows2 r j = if k < r ∧ r < i then mul (At rows1 r j) (At rows1 k k) ^^^ mul (At rows1 k j) (At rows1 r k) else At rows1 r j) (fun x _ => n - (intOf x).toNat)
            case atStart => exact ⟨k + 1, rows1, by omega, by omega, by go_num, HF2.out, HR0.out⟩
            case round =>
              clear HF2 HR0
              obtain ⟨i, rows2, hki1, hi, rfl, hft2, hr2⟩ := hrel
              have HF2 := Lib.hid hft2
              have HR2 := Lib.hid hr2
              clear hft2 hr2
              by_cases hli : i < n
              · obtain ⟨bi, oi, ci, hci, fzi, hi1, hi2, hbi, hbilt, hrbi, hbyi⟩ := HF2.out.at i hli
                obtain ⟨bk, ok, ck, hck, fzk, hk1, hk2, hbk, hbklt, hrbk, hbyk⟩ := HF2.out.at k hlk
                have hinI : (i : Int) < (n : Int) := by omega
                have hx := hbyk k hlk
                have hy := hbyi k hlk
                rw [HR2.out k k hlk hlk, if_neg (by omega)] at hx
                rw [HR2.out i k hli hlk, if_neg (by omega)] at hy
                obtain ⟨X, HX⟩ := hid_of (At rows1 k k)
                obtain ⟨Y, HY⟩ := hid_of (At rows1 i k)
                rw [HX.out] at hx
                rw [HY.out] at hy
                have HBi : Hid (∀ j, j < n → wr.cell? ⟨bi, oi + j, none⟩ = some (.int .u8 ((At rows1 i j).toNat : Int))) := fun j hj => by
                  have := hbyi j hj
                  rw [HR2.out i j hli hj, if_neg (by omega)] at this
                  exact this
                have HBk : Hid (∀ j, j < n → wr.cell? ⟨bk, ok + j, none⟩ = some (.int .u8 ((At rows1 k j).toNat : Int))) := fun j hj => by
                  have := hbyk j hj
                  rw [HR2.out k j hlk hj, if_neg (by omega)] at this
                  exact this
                have HHd : Hid (wr.cell? ⟨g, i, none⟩ = some (.slice (some ⟨bi, oi, none⟩) n ci) ∧ wr.cell? ⟨g, k, none⟩ = some (.slice (some ⟨bk, ok, none⟩) n ck)) := ⟨hci, hck⟩
                have HLt : Hid (bi < wr.heap.size ∧ bk < wr.heap.size ∧ g < wr.heap.size ∧ w.heap.size ≤ g) := ⟨hbilt, hbklt, HF2.out.lt.2, HF2.out.lt.1⟩
                clear hrbi hbyi hrbk hbyk fzi fzk
                go_wp2
                go_quiet (fail)
                go_wp2
                obtain ⟨w3, Hw3⟩ := hid_of (wr.drewN nq)
                have HB3 : Hid (Below wr.heap.size wr w3) := by rw [← Hw3.out]; exact Below.drewN2 (Below.refl _ _) nq
                have HSz : Hid (w3.heap.size = wr.heap.size) := by rw [← Hw3.out]; exact Lib.hid rfl
                rw [← World.drewN_heapsize wr nq]
                rw [Hw3.out]
                have hown0 : (w3.alloc (.cells #[] 5)).ownsRow w3.heap.size 5 1 (.slice (some ⟨w3.heap.size, 0, none⟩) 0 0) (line 0 (fun j => mul (At rows1 i j) X ^^^ mul (At rows1 k j) Y)).length (Bs (line 0 (fun j => mul (At rows1 i j) X ^^^ mul (At rows1 k j) Y))) := by
                  have := own_empty (w := w3) (e := 5) (Nat.le_refl _) rfl
                  simpa [line, Bs] using this
                have HOwn0 := Lib.hid hown0
                have HBo : Hid (Below w3.heap.size w3 (w3.alloc (.cells #[] 5))) := (Below.refl _ _).alloc (Nat.le_refl _) _
                have HCy : Hid (∀ wx, Below w3.heap.size w3 wx → (wx.cell? ⟨g, i, none⟩ = some (.slice (some ⟨bi, oi, none⟩) n ci) ∧ wx.cell? ⟨g, k, none⟩ = some (.slice (some ⟨bk, ok, none⟩) n ck)) ∧ ∀ j, j < n → wx.cell? ⟨bi, oi + j, none⟩ = some (.int .u8 ((At rows1 i j).toNat : Int)) ∧ wx.cell? ⟨bk, ok + j, none⟩ = some (.int .u8 ((At rows1 k j).toNat : Int))) := by
                  intro wx hwx
                  obtain ⟨l1, l2, l3, _⟩ := HLt.out
                  have hs3 := HSz.out
                  have carry : ∀ b o (x : Value), b < wr.heap.size → wr.cell? ⟨b, o, none⟩ = some x → wx.cell? ⟨b, o, none⟩ = some x := fun b o x hb hx => by
                    rw [hwx.cell (p := ⟨b, o, none⟩) (by simp only; omega), HB3.out.cell (p := ⟨b, o, none⟩) hb]
                    exact hx
                  exact ⟨⟨carry _ _ _ l3 HHd.out.1, carry _ _ _ l3 HHd.out.2⟩, fun j hj => ⟨carry _ _ _ l1 (HBi.out j hj), carry _ _ _ l2 (HBk.out j hj)⟩⟩
                have HFb : Hid (∀ wx, Below w3.heap.size w3 wx → FT 29 w wx g n c rows2) := fun wx hwx => HF2.out.below (HB3.out.trans (hwx.mono (by rw [HSz.out]; omega)))
                have HGl : Hid (g < w3.heap.size) := by rw [HSz.out]; exact HLt.out.2.2.1
                clear hown0 hx hy hci hck Hw3 hbilt hbklt
                go_loopw [12, 13] (fun v x wx => ∃ j : Nat, j ≤ n ∧ x = .int .i64 (j : Int) ∧ wx.ownsRow w3.heap.size 5 1 v (line j (fun j => mul (At rows1 i j) X ^^^ mul (At rows1 k j) Y)).length (Bs (line j (fun j => mul (At rows1 i j) X ^^^ mul (At rows1 k j) Y))) ∧ Below w3.heap.size w3 wx) (fun _ x _ => n - (intOf x).toNat)
                case atStart => exact ⟨0, by omega, rfl, HOwn0.out, HBo.out⟩
                case round =>
                  clear HOwn0 HBo
                  obtain ⟨j, hj, rfl, hown, hbk'⟩ := hrel
                  obtain ⟨va, vc, rfl, hv1, hv2⟩ := own_shape hown
                  rw [line_length] at hown hv1 ⊢
                  have HO := Lib.hid hown
                  have HBk3 := Lib.hid hbk'
                  clear hown hbk'
                  simp only [maxLen] at hv2
                  by_cases hjn : j < n
                  · have hjnI : (j : Int) < (n : Int) := by omega
                    obtain ⟨⟨c1, c2⟩, c34⟩ := HCy.out wr.drew HBk3.out.drew
                    obtain ⟨c3, c4⟩ := c34 j hjn
                    have HLs : Hid (line j (fun j => mul (At rows1 i j) X ^^^ mul (At rows1 k j) Y) ++ [mul (At rows1 i j) X ^^^ mul (At rows1 k j) Y] = line (j + 1) (fun j => mul (At rows1 i j) X ^^^ mul (At rows1 k j) Y)) := (line_succ _ _).symm
                    have HLn : Hid ((line j (fun j => mul (At rows1 i j) X ^^^ mul (At rows1 k j) Y)).length = j) := line_length _ _
                    obtain ⟨L, HL⟩ := hid_of (line j (fun j => mul (At rows1 i j) X ^^^ mul (At rows1 k j) Y))
                    rw [HL.out] at HLs HLn HO
                    obtain ⟨p, Hp⟩ := hid_of (At rows1 i j)
                    obtain ⟨q, Hq⟩ := hid_of (At rows1 k j)
                    rw [Hp.out] at c3 HLs
                    rw [Hq.out] at c4 HLs
                    have HMa : Hid (∀ wx, Calls Try.prog 22 #[.int .u8 (p.toNat : Int), .int .u8 (X.toNat : Int)] wx fun e w' => e = .returned (.int .u8 ((mul p X).toNat : Int)) ∧ w' = wx) := fun wx => (refMul_any p X wx).mono fun e w' ⟨h1, h2⟩ => ⟨h1, h2.symm⟩
                    have HMb : Hid (∀ wx, Calls Try.prog 22 #[.int .u8 (q.toNat : Int), .int .u8 (Y.toNat : Int)] wx fun e w' => e = .returned (.int .u8 ((mul q Y).toNat : Int)) ∧ w' = wx) := fun wx => (refMul_any q Y wx).mono fun e w' ⟨h1, h2⟩ => ⟨h1, h2.symm⟩
                    have hxx := u8_xor_u8 (mul p X) (mul q Y)
                    obtain ⟨a1, Ha1⟩ := hid_of (mul p X)
                    obtain ⟨a2, Ha2⟩ := hid_of (mul q Y)
                    rw [Ha1.out] at HMa HLs hxx
                    rw [Ha2.out] at HMb HLs hxx
                    obtain ⟨z, Hz⟩ := hid_of (a1 ^^^ a2)
                    rw [Hz.out] at HLs hxx
                    have HSw : Hid (∀ wx, Below w3.heap.size w3 wx → (wx.cell? ⟨g, i, none⟩ = some (.slice (some ⟨bi, oi, none⟩) n ci) ∧ wx.cell? ⟨g, k, none⟩ = some (.slice (some ⟨bk, ok, none⟩) n ck)) ∧ wx.cell? ⟨bi, oi + j, none⟩ = some (.int .u8 (p.toNat : Int)) ∧ wx.cell? ⟨bk, ok + j, none⟩ = some (.int .u8 (q.toNat : Int))) := fun wx hwx => by
                      rw [← Hp.out, ← Hq.out]
                      exact ⟨(HCy.out wx hwx).1, (HCy.out wx hwx).2 j hjn⟩
                    have HB1 : Hid (Below w3.heap.size w3 wr.drew) := HBk3.out.drew
                    have HB2 : Hid (Below w3.heap.size w3 (wr.drew.alloc (.cells #[.int .u8 (z.toNat : Int)] 5))) := HBk3.out.drew.alloc HBk3.out.size _
                    have HSz2 : Hid (w3.heap.size ≤ wr.heap.size) := HBk3.out.size
                    clear c34 c1 c2 c3 c4
                    go_wp2
                    go_region_held3 (fun wx => (wx.cell? ⟨g, i, none⟩ = some (.slice (some ⟨bi, oi, none⟩) n ci) ∧ wx.cell? ⟨g, k, none⟩ = some (.slice (some ⟨bk, ok, none⟩) n ck)) ∧ wx.cell? ⟨bi, oi + j, none⟩ = some (.int .u8 (p.toNat : Int)) ∧ wx.cell? ⟨bk, ok + j, none⟩ = some (.int .u8 (q.toNat : Int)))
                      (first | exact HSw.out _ HB1.out | exact HSw.out _ HB2.out | exact HSw.out _ HB4.out)
                      (first
                      | (go_at_call 22; with_reducible refine (HMa.out _).mono ?_; rintro e w' ⟨rfl, rfl⟩)
                      | (go_at_call 22; with_reducible refine (HMb.out _).mono ?_; rintro e w' ⟨rfl, rfl⟩)
                      | (refine step_append_bytes _ (by rfl) _ _ 29 29 (by rfl) w3.heap.size 5 5 Try.underlying29 Try.underlying29 infoByte _ L _ (by rfl) (own_fr HO.out ((Fr.refl (fun _ => False) wr).drew.alloc _) (fun _ _ h => h)) _ [z] (by rfl) (RB.lit _ _ _ rfl (by simp [maxLen]) (by simp) rfl) (by rw [HLn.out]; simp; omega) (by have := HSz2.out; simp; omega) ?_
                         intro v3 w4 ho3 hb3 hg3
                         rw [HLs.out] at ho3
                         have HO3 := Lib.hid ho3
                         have HB4 := Lib.hid (HB2.out.trans hb3)
                         clear ho3 hb3 hg3))
                    clear hxx
                    go_wp2
                    go_roundw
                    case rel => exact ⟨j + 1, by omega, by go_num, HO3.out, HB4.out⟩
                    case measure => simp [intOf]; omega
                  · obtain rfl : n = j := by omega
                    have hftx := HFb.out wr HBk3.out
                    obtain ⟨_, _, _, hold, fzi, _⟩ := hftx.at i hli
                    have hset := hftx.set i hli _ _ (line_length _ _) (RB.own HO.out) (fun e => by have h1 := (HO.out.lt g e).1; have h2 := HGl.out; omega)
                    have HSet := Lib.hid hset
                    have HR3 : Hid (∀ r j, r < n → j < n → At (rows2.set i (line n (fun j => mul (At rows1 i j) X ^^^ mul (At rows1 k j) Y))) r j = if k < r ∧ r < i + 1 then mul (At rows1 r j) (At rows1 k k) ^^^ mul (At rows1 k j) (At rows1 r k) else At rows1 r j) := fun r j hr hj => by
                      rw [at_set hftx.sq hli]
                      by_cases e : i = r
                      · subst e
                        rw [if_pos rfl, line_get _ _ _ hj, if_pos ⟨by omega, by omega⟩, HX.out, HY.out]
                      · rw [if_neg e, HR2.out r j hr hj]
                        by_cases e2 : k < r ∧ r < i
                        · rw [if_pos e2, if_pos ⟨e2.1, by omega⟩]
                        · rw [if_neg e2, if_neg (by omega)]
                    clear hset hftx
                    go_wp2
                    refine ⟨⟨i + 1, _, by omega, by omega, by go_num, HSet.out, HR3.out⟩, by simp [intOf]; omega⟩
              · obtain rfl : n = i := by omega
                have hfin : Elim n (k + 1) (At A) (At rows2) := by
                  refine HStep.out.congr (by omega) fun r j hr hj => ?_
                  rw [HR2.out r j hr hj]
                  unfold fopM fop
                  simp only [swp_swn]
                  have e1 : At rows1 k k = At rows m k := by rw [HM1.out]; simp [swn]
                  by_cases e : r ≤ k
                  · rw [if_pos e, if_neg (by omega), HM1.out]
                  · rw [if_neg e, if_pos ⟨by omega, hr⟩, e1, HM1.out r j, HM1.out k j, HM1.out r k]
                have HFin := Lib.hid hfin
                clear hfin
                go_wp2
                refine ⟨⟨k + 1, rows2, by omega, by go_num, HF2.out, HFin.out⟩, by simp [intOf]; omega⟩
    · obtain rfl : n = k := by omega
      have HI : Hid (Inj n (At A)) := HEl.out.done
      have HB := Lib.hid HFt.out.be
      go_wp2
      go_ret
      exact ⟨⟨true, rfl, ⟨fun _ => HI.out, fun _ => rfl⟩⟩, HB.out⟩
end Go.Proofs.Ytdcjcbfnniimpaa
