/-
  kistref03.Decode (three theorems, by how many parts lack).
-/
import Derived.Test.YtepedabpnchajaaRsLack

namespace Go.Proofs.Ytepedabpnchajaa
open Go.RowKit
set_option linter.unusedVariables false
set_option linter.unusedSimpArgs false

set_option maxRecDepth 100000 in
set_option maxHeartbeats 8000000 in
theorem refDec_0 (v : Value) (sh : List (List UInt8)) (w : World) (h : RT w v sh) (hL : (lackL sh 10).length ≠ 1 ∧ (lackL sh 10).length ≠ 2) :
    Calls Try.prog 27 #[v] w fun e w' => DecOk w.heap.size w' sh e ∧ Below w.heap.size w w' := by
  have HLv := Lib.hid hL
  clear hL
  obtain ⟨a, c, rfl, h1, h2⟩ := h.shape
  simp only [maxLen] at h2
  obtain ⟨n, Hn⟩ := hid_of sh.length
  have H : Hid (RT w (.slice a n c) sh) := by rw [← Hn.out]; exact h
  rw [Hn.out] at h1 ⊢
  clear h
  by_cases h10 : n = 10
  · subst h10
    obtain ⟨g, o, rfl, hg, hrow⟩ := H.out.row (by rw [Hn.out]; omega)
    rw [Hn.out] at hrow
    have HRow := Lib.hid hrow
    have HG := Lib.hid hg
    clear hrow hg
    have HL0 : Hid (OI w.heap.size 3 ((w.alloc (.cells #[] 3)).alloc (.cells #[] 3)) (.slice (some ⟨w.heap.size, 0, none⟩) 0 0) (lackL sh 0)) := (OI.start (w := w) (Nat.le_refl _) rfl).below ((Below.refl _ _).alloc (Nat.le_refl _) _) rfl
    have HS0 : Hid (OI w.heap.size 3 ((w.alloc (.cells #[] 3)).alloc (.cells #[] 3)) (.slice (some ⟨w.heap.size + 1, 0, none⟩) 0 0) (sumL sh 0)) := OI.start (w := w.alloc (.cells #[] 3)) (by simp) (by simp)
    have HB0 : Hid (Below w.heap.size w ((w.alloc (.cells #[] 3)).alloc (.cells #[] 3))) := ((Below.refl _ _).alloc (Nat.le_refl _) _).alloc (by simp) _
    go_enter Try.func27, Try.ntmps27
    go_wp2
    go_loopw [4, 5, 6, 7] (fun tv lv uv x wr => ∃ i : Nat, i ≤ 10 ∧ x = .int .i64 (i : Int) ∧ tv = .int .i64 ((presN sh i).length : Int) ∧ OI w.heap.size 3 wr lv (lackL sh i) ∧ OI w.heap.size 3 wr uv (sumL sh i) ∧ (∀ k, lv.ownBlock = some k → uv.ownBlock ≠ some k) ∧ (∀ j, j < i → (sh.getD j []).length = 0 ∨ (sh.getD j []).length = 16) ∧ Below w.heap.size w wr) (fun _ _ _ x _ => 10 - (intOf x).toNat)
    case atStart => exact ⟨0, by omega, rfl, rfl, HL0.out, HS0.out, (fun k hk he => by have e1 : w.heap.size = k := (by simpa [Value.ownBlock] using hk); have e2 : w.heap.size + 1 = k := (by simpa [Value.ownBlock] using he); omega), (fun j hj => by omega), HB0.out⟩
    case round =>
      clear HL0 HS0 HB0
      obtain ⟨i, hi, rfl, rfl, hl, hu, hsep, hall, hbe⟩ := hrel
      obtain ⟨la, lc, rfl, hl1, hl2⟩ := hl.shape
      obtain ⟨ua, uc, rfl, hu1, hu2⟩ := hu.shape
      simp only [maxLen] at hl2 hu2
      have hlle := lackL_le sh i
      have hule := sumL_le sh i
      have hple := presN_le sh i
      have hls := lackL_succ sh i
      have hus := sumL_succ sh i
      have hps := presN_succ sh i
      obtain ⟨Ls, HLs⟩ := hid_of (lackL sh i)
      obtain ⟨Us, HUs⟩ := hid_of (sumL sh i)
      obtain ⟨Ps, HPs⟩ := hid_of (presN sh i)
      rw [HLs.out] at hl hl1 hlle hls hsep ⊢
      rw [HUs.out] at hu hu1 hule hus hsep ⊢
      rw [HPs.out] at hple hps ⊢
      have HLk := Lib.hid hl
      have HUk := Lib.hid hu
      have HSep := Lib.hid hsep
      have HAll := Lib.hid hall
      have HBe := Lib.hid hbe
      clear hl hu hsep hall hbe
      by_cases hlt : i < 10
      · have hi10 : (i : Int) < 10 := by omega
        obtain ⟨x, hc, hr⟩ := HRow.out i (by omega)
        obtain ⟨xa, xc, rfl, hx1, hx2⟩ := hr.shape
        have hc' : wr.cell? ⟨g, o + i, none⟩ = some (.slice xa (sh.getD i []).length xc) := by rw [HBe.out.cell (p := ⟨g, o + i, none⟩) HG.out]; exact hc
        obtain ⟨m, Hm⟩ := hid_of (sh.getD i []).length
        rw [Hm.out] at hc' hls hus hps hx1
        clear hc hr
        by_cases hbad : m = 0 ∨ m = 16
        · have HAll2 : Hid (∀ j, j < i + 1 → (sh.getD j []).length = 0 ∨ (sh.getD j []).length = 16) := fun j hj => by
            by_cases e : j = i
            · rw [e, Hm.out]; exact hbad
            · exact HAll.out j (by omega)
          by_cases h8 : i < 8
          · have hi8 : (i : Int) < 8 := by omega
            rcases hbad with rfl | rfl
            · rw [if_pos (by omega)] at hls
              rw [if_neg (by omega)] at hus hps
              have HLs2 := Lib.hid hls
              have HUs2 := Lib.hid hus
              have HPs2 : Hid ((presN sh (i + 1)).length = Ps.length) := by rw [hps]; exact rfl
              clear hls hus hps
              go_wp2_with (at_builtin; refine stopped ?_)
              have hba : Below wr.heap.size wr (wr.alloc (.cells #[.int .i64 (i : Int)] 3)) := (Below.refl _ _).alloc (Nat.le_refl _) _
              refine going (wpList_push_int _ rfl _ _ 27 rfl w.heap.size 3 Try.underlying27 infoInt _ Ls rfl (HLk.out.below hba rfl) wr.heap.size i rfl (by rw [cell_of_row _ _ 0 _ _ _ (heap_alloc_new wr _)]; rfl) (by omega) (by have := HBe.out.size; simp; omega) ?_)
              intro v3 w3 ho3 hb3 hg3
              have hfr : Fr (fun k => (Value.slice la Ls.length lc).ownBlock = some k) (wr.alloc (.cells #[.int .i64 (i : Int)] 3)) w3 := (Fr.refl _ _).grown hg3.1 (fun k hk _ => hk)
              have HU3 : Hid (OI w.heap.size 3 w3 (.slice ua Us.length uc) Us) := (HUk.out.below hba rfl).fr hfr (fun k hk he => HSep.out k he hk)
              have HS3 : Hid (∀ k, v3.ownBlock = some k → (Value.slice ua Us.length uc).ownBlock ≠ some k) := fun k hk he => by
                rcases hg3.2 k hk with h | h
                · exact HSep.out k h he
                · have := (HUk.out.lt k he).2; simp at h; omega
              rw [← HLs2.out] at ho3
              have HO3 := Lib.hid ho3
              have HB3 : Hid (Below w.heap.size w w3) := HBe.out.trans ((hba.mono HBe.out.size).trans hb3)
              clear ho3 hb3 hg3 hba hfr
              go_wp2
              go_roundw
              case rel => exact ⟨i + 1, by omega, by go_num, by rw [HPs2.out], HO3.out, by rw [HUs2.out]; exact HU3.out, HS3.out, HAll2.out, HB3.out⟩
              case measure => simp [intOf]; omega
            · rw [if_neg (by omega)] at hls hus
              rw [if_pos (by omega)] at hps
              have HLs2 := Lib.hid hls
              have HUs2 := Lib.hid hus
              have HPs2 : Hid ((presN sh (i + 1)).length = Ps.length + 1) := by rw [hps]; simp [Hid]
              clear hls hus hps
              go_wp2
              go_roundw
              case rel => exact ⟨i + 1, by omega, by go_num, by rw [HPs2.out]; go_num, by rw [HLs2.out]; exact HLk.out, by rw [HUs2.out]; exact HUk.out, HSep.out, HAll2.out, HBe.out⟩
              case measure => simp [intOf]; omega
          · have hi8 : ¬ (i : Int) < 8 := by omega
            have hi8' : (8 : Int) ≤ (i : Int) := by omega
            rcases hbad with rfl | rfl
            · rw [if_neg (by omega)] at hls hus hps
              have HLs2 := Lib.hid hls
              have HUs2 := Lib.hid hus
              have HPs2 : Hid ((presN sh (i + 1)).length = Ps.length) := by rw [hps]; exact rfl
              clear hls hus hps
              go_wp2
              go_roundw
              case rel => exact ⟨i + 1, by omega, by go_num, by rw [HPs2.out], by rw [HLs2.out]; exact HLk.out, by rw [HUs2.out]; exact HUk.out, HSep.out, HAll2.out, HBe.out⟩
              case measure => simp [intOf]; omega
            · rw [if_neg (by omega)] at hls
              rw [if_pos (by omega)] at hus hps
              have HLs2 := Lib.hid hls
              have HUs2 := Lib.hid hus
              have HPs2 : Hid ((presN sh (i + 1)).length = Ps.length + 1) := by rw [hps]; simp [Hid]
              clear hls hus hps
              go_wp2_with (at_builtin; refine stopped ?_)
              have hba : Below wr.heap.size wr (wr.alloc (.cells #[.int .i64 (i : Int)] 3)) := (Below.refl _ _).alloc (Nat.le_refl _) _
              refine going (wpList_push_int _ rfl _ _ 27 rfl w.heap.size 3 Try.underlying27 infoInt _ Us rfl (HUk.out.below hba rfl) wr.heap.size i rfl (by rw [cell_of_row _ _ 0 _ _ _ (heap_alloc_new wr _)]; rfl) (by omega) (by have := HBe.out.size; simp; omega) ?_)
              intro v3 w3 ho3 hb3 hg3
              have hfr : Fr (fun k => (Value.slice ua Us.length uc).ownBlock = some k) (wr.alloc (.cells #[.int .i64 (i : Int)] 3)) w3 := (Fr.refl _ _).grown hg3.1 (fun k hk _ => hk)
              have HL3 : Hid (OI w.heap.size 3 w3 (.slice la Ls.length lc) Ls) := (HLk.out.below hba rfl).fr hfr (fun k hk he => HSep.out k hk he)
              have HS3 : Hid (∀ k, (Value.slice la Ls.length lc).ownBlock = some k → v3.ownBlock ≠ some k) := fun k hk he => by
                rcases hg3.2 k he with h | h
                · exact HSep.out k hk h
                · have := (HLk.out.lt k hk).2; simp at h; omega
              rw [← HUs2.out] at ho3
              have HO3 := Lib.hid ho3
              have HB3 : Hid (Below w.heap.size w w3) := HBe.out.trans ((hba.mono HBe.out.size).trans hb3)
              clear ho3 hb3 hg3 hba hfr
              go_wp2
              go_roundw
              case rel => exact ⟨i + 1, by omega, by go_num, by rw [HPs2.out]; go_num, by rw [HLs2.out]; exact HL3.out, HO3.out, HS3.out, HAll2.out, HB3.out⟩
              case measure => simp [intOf]; omega
        · have HB : Hid (Bad sh) := .inr ⟨i, hlt, by rw [Hm.out]; omega, by rw [Hm.out]; omega⟩
          have e0 : ((m : Int) != 0) = true := by simp; omega
          have e16 : ((m : Int) != 16) = true := by simp; omega
          clear hls hus hps
          go_wp2
          go_ret2
          exact ⟨.inl ⟨HB.out, rfl⟩, HBe.out⟩
      · obtain rfl : i = 10 := by omega
        have HNB : Hid (¬ Bad sh) := by
          rintro (h | ⟨j, hj, h1, h2⟩)
          · exact h Hn.out
          · have := HAll.out j hj
            omega
        have HPl : Hid ((pres sh).length = Ps.length) := by rw [← HPs.out]; exact rfl
        rw [show ((10 : Nat) : Int) = 10 from rfl]
        by_cases hfew : Ps.length < 8
        · have hfew' : (Ps.length : Int) < 8 := by omega
          have HFew : Hid ((pres sh).length < 8) := by rw [HPl.out]; exact hfew
          clear hls hus hps
          go_wp2
          go_ret2
          exact ⟨.inr (.inl ⟨HNB.out, HFew.out, rfl⟩), HBe.out⟩
        · rename World => W1
          have hmany : ¬ ((Ps.length : Int) < 8) := by omega
          clear hls hus hps
          have hmk := make_bytes 128 (by omega) W1
          have HR0 : Hid (RowF 5 (W1.alloc (.cells (madeCells #[.int .u8 0] 128) 5)) W1.heap.size 128 (outN sh (16 * 0))) := (made_row W1 5 128 rfl).congr (fun j hj => by unfold outN; rw [if_neg (by omega)])
          have HB0 : Hid (Below W1.heap.size W1 (W1.alloc (.cells (madeCells #[.int .u8 0] 128) 5))) := (Below.refl _ _).alloc (Nat.le_refl _) _
          rw [show ((128 : Nat) : Int) = 128 from rfl] at hmk
          go_wp2
          clear hmk
          go_loopw [9] (fun x w2 => ∃ k : Nat, k ≤ 8 ∧ x = .int .i64 (k : Int) ∧ RowF 5 w2 W1.heap.size 128 (outN sh (16 * k)) ∧ Below W1.heap.size W1 w2) (fun x _ => 8 - (intOf x).toNat)
          case atStart => exact ⟨0, by omega, rfl, HR0.out, HB0.out⟩
          case round =>
            clear HR0 HB0
            obtain ⟨k, hk, rfl, hrf, hbe2⟩ := hrel
            rename World => w2
            by_cases hlt2 : k < 8
            · have hk8 : (k : Int) < 8 := by omega
              obtain ⟨x, hc, hr⟩ := HRow.out k (by omega)
              obtain ⟨xa, xc, rfl, hx1, hx2⟩ := hr.shape
              have hsz := HBe.out.size
              have hgG : g < W1.heap.size := by have := HG.out; omega
              have HcU : Hid (∀ w3, Below W1.heap.size W1 w3 → w3.cell? ⟨g, o + k, none⟩ = some (.slice xa (sh.getD k []).length xc)) := fun w3 hb3 => by rw [hb3.cell (p := ⟨g, o + k, none⟩) hgG, HBe.out.cell (p := ⟨g, o + k, none⟩) HG.out]; exact hc
              have hlen := HAll.out k (by omega)
              by_cases h0 : (sh.getD k []).length = 0
              · have hc2 := HcU.out w2 hbe2
                rw [h0] at hc2
                have HSk : Hid (RowF 5 w2 W1.heap.size 128 (outN sh (16 * (k + 1)))) := hrf.congr (fun j _ => outN_skip sh k h0 j)
                have HBe2 := Lib.hid hbe2
                clear hc hr hlen hrf hbe2 h0 hx1
                go_wp2
                go_loopw [10] (fun x w3 => x = .int .i64 0 ∧ w3 = w2) (fun _ _ => 0)
                case atStart => exact ⟨rfl, rfl⟩
                case round =>
                  obtain ⟨rfl, rfl⟩ := hrel
                  go_wp2
                  go_roundw
                  case rel => exact ⟨k + 1, by omega, by go_num, HSk.out, HBe2.out⟩
                  case measure => simp [intOf]; omega
              · have h16 : (sh.getD k []).length = 16 := by omega
                obtain ⟨b2, o2, rfl, hb2, hy2⟩ := hr.at (by omega)
                rw [h16] at HcU hy2
                have HSk : Hid (∀ b, b < 16 → ∀ w3, RowF 5 w3 W1.heap.size 128 (outN sh (16 * k + b)) → RowF 5 (w3.setCell ⟨W1.heap.size, 16 * k + b, none⟩ (.int .u8 (((sh.getD k []).getD b 0).toNat : Int))) W1.heap.size 128 (outN sh (16 * k + (b + 1)))) := fun b hb w3 h3 => (h3.set (16 * k + b) _).congr (fun j _ => outN_step sh k b hb (by omega) j)
                have HY2 : Hid (∀ b, b < 16 → ∀ w3, Below W1.heap.size W1 w3 → w3.cell? ⟨b2, o2 + b, none⟩ = some (.int .u8 (((sh.getD k []).getD b 0).toNat : Int))) := fun b hb w3 hb3 => by rw [hb3.cell (p := ⟨b2, o2 + b, none⟩) (by simp only; omega), HBe.out.cell (p := ⟨b2, o2 + b, none⟩) hb2]; exact hy2 b hb
                have HRf := Lib.hid hrf
                have HBe2 := Lib.hid hbe2
                clear hc hr hlen hrf hbe2 h0 hx1 hy2
                have hc2 := HcU.out w2 HBe2.out
                go_wp2
                clear hc2
                go_loopw [10] (fun x w3 => ∃ b : Nat, b ≤ 16 ∧ x = .int .i64 (b : Int) ∧ RowF 5 w3 W1.heap.size 128 (outN sh (16 * k + b)) ∧ Below W1.heap.size W1 w3) (fun x _ => 16 - (intOf x).toNat)
                case atStart => exact ⟨0, by omega, rfl, HRf.out, HBe2.out⟩
                case round =>
                  clear HRf HBe2
                  obtain ⟨b, hb, rfl, hrf, hbe3⟩ := hrel
                  rename World => w3
                  have hc3 := HcU.out w3 hbe3
                  by_cases hb16 : b < 16
                  · have hbI : (b : Int) < 16 := by omega
                    have hcb := HY2.out b hb16 w3 hbe3
                    have hold := hrf.cell (16 * k + b) (by omega)
                    have hfz := hrf.frozen (16 * k + b)
                    have HS3 := Lib.hid (HSk.out b hb16 w3 hrf)
                    obtain ⟨z, Hz⟩ := hid_of ((sh.getD k []).getD b 0)
                    rw [Hz.out] at hcb HS3
                    obtain ⟨y, Hy⟩ := hid_of (outN sh (16 * k + b) (16 * k + b))
                    rw [Hy.out] at hold
                    have HB3 : Hid (Below W1.heap.size W1 (w3.setCell ⟨W1.heap.size, 16 * k + b, none⟩ (.int .u8 (z.toNat : Int)))) := hbe3.setCell (Nat.le_refl _) _
                    clear hrf hbe3
                    go_wp2
                    go_roundw
                    case rel => exact ⟨b + 1, by omega, by go_num, HS3.out, HB3.out⟩
                    case measure => simp [intOf]; omega
                  · obtain rfl : b = 16 := by omega
                    have HRf := Lib.hid hrf
                    have HBe3 := Lib.hid hbe3
                    rw [show ((16 : Nat) : Int) = 16 from rfl]
                    clear hrf hbe3
                    go_wp2
                    go_roundw
                    case rel => exact ⟨k + 1, by omega, by go_num, by rw [Nat.mul_add]; exact HRf.out, HBe3.out⟩
                    case measure => simp [intOf]; omega
            · obtain rfl : k = 8 := by omega
              have hrf8 : RowF 5 w2 W1.heap.size 128 (outN sh 128) := hrf
              have HRf := Lib.hid hrf8
              have HBe2 := Lib.hid hbe2
              have hlk := lack_sums sh
              rw [HLs.out, HUs.out, HPs.out] at hlk
              have hst := sums_two sh
              rw [HUs.out] at hst
              have HLk2 : Hid (OI w.heap.size 3 w2 (.slice la Ls.length lc) Ls) := HLk.out.below hbe2 rfl
              have HUk2 : Hid (OI w.heap.size 3 w2 (.slice ua Us.length uc) Us) := HUk.out.below hbe2 rfl
              have hulen : Us.length ≤ 2 := by rcases hst with h | h | h | h <;> rw [h] <;> simp
              have HSt := Lib.hid hst
              have HDone : Hid (∀ f w9, RowF 5 w9 W1.heap.size 128 f → Sol sh (line 128 f) → Below w.heap.size w w9 → DecOk w.heap.size w9 sh (.returned (.tuple #[.slice (some ⟨W1.heap.size, 0, none⟩) 128 128, .int .i64 0])) ∧ Below w.heap.size w w9) := fun f w9 h1 h2 h3 =>
                ⟨.inr (.inr ⟨HNB.out, by rw [HPl.out]; omega, _, _, rfl, h1.read (Nat.le_refl _) (by simp [maxLen]), h2, fun x hx => by
                  have e : W1.heap.size = x := by simpa [Value.ownBlock] using hx
                  have := HBe.out.size
                  omega⟩), h3⟩
              rw [show ((8 : Nat) : Int) = 8 from rfl]
              clear hrf hrf8 hbe2 hst
              match Ls, HLs, HLk2, HLk, HSep, hlk, hl1, hlle with
              | [], HLs, HLk2, _, _, hlk, _, _ =>
                have HF8 : Hid (∀ w9, Below w2.heap.size w2 w9 → RowF 5 w9 W1.heap.size 128 (outN sh 128) ∧ Below w.heap.size w w9) := fun w9 h => ⟨HRf.out.below h rfl, HBe.out.trans ((HBe2.out.mono HBe.out.size).trans (h.mono (by have := HBe.out.size; have := HBe2.out.size; omega)))⟩
                have HB3 : Hid (Below w2.heap.size w2 ((w2.alloc (.cells #[] 5)).alloc (.cells #[] 5))) := ((Below.refl _ _).alloc (Nat.le_refl _) _).alloc (by simp) _
                have HSol : Hid (Sol sh (line 128 (outN sh 128))) := out_sol0 sh HLs.out
                rw [show (([] : List Nat).length) = 0 from rfl]
                rcases HSt.out with rfl | rfl | rfl | rfl
                · rw [show (([] : List Nat).length) = 0 from rfl]
                  clear hlk
                  go_wp2
                  go_loop [13] (fun x => ∃ b : Nat, b ≤ 16 ∧ x = .int .i64 (b : Int)) (fun x => 16 - (intOf x).toNat)
                  case atStart => exact ⟨0, by omega, rfl⟩
                  case round =>
                    obtain ⟨b, hb, rfl⟩ := hrel
                    by_cases hb16 : b < 16
                    · have hbI : (b : Int) < 16 := by omega
                      go_wp2
                      go_round
                      case rel => exact ⟨b + 1, by omega, by go_num⟩
                      case measure => simp [intOf]; omega
                    · obtain rfl : b = 16 := by omega
                      rw [show ((16 : Nat) : Int) = 16 from rfl]
                      go_wp2
                      go_ret2
                      exact HDone.out _ _ (HF8.out _ HB3.out).1 HSol.out (HF8.out _ HB3.out).2
                · obtain ⟨ug, rfl, _, hug, hucell⟩ := (HUk2.out.below HB3.out rfl).at (by decide)
                  have hc0 := hucell 0 (by decide)
                  rw [show (([8] : List Nat).getD 0 0) = 8 from rfl, show ((8 : Nat) : Int) = 8 from rfl] at hc0
                  rw [show (([8] : List Nat).length) = 1 from rfl]
                  rw [show (([8] : List Nat).length) = 1 from rfl] at hu1
                  clear hlk hucell
                  go_wp2
                  clear hc0
                  go_loop [13] (fun x => ∃ b : Nat, b ≤ 16 ∧ x = .int .i64 (b : Int)) (fun x => 16 - (intOf x).toNat)
                  case atStart => exact ⟨0, by omega, rfl⟩
                  case round =>
                    obtain ⟨b, hb, rfl⟩ := hrel
                    by_cases hb16 : b < 16
                    · have hbI : (b : Int) < 16 := by omega
                      go_wp2
                      go_round
                      case rel => exact ⟨b + 1, by omega, by go_num⟩
                      case measure => simp [intOf]; omega
                    · obtain rfl : b = 16 := by omega
                      rw [show ((16 : Nat) : Int) = 16 from rfl]
                      go_wp2
                      go_ret2
                      exact HDone.out _ _ (HF8.out _ HB3.out).1 HSol.out (HF8.out _ HB3.out).2
                · obtain ⟨ug, rfl, _, hug, hucell⟩ := (HUk2.out.below HB3.out rfl).at (by decide)
                  have hc0 := hucell 0 (by decide)
                  rw [show (([9] : List Nat).getD 0 0) = 9 from rfl, show ((9 : Nat) : Int) = 9 from rfl] at hc0
                  rw [show (([9] : List Nat).length) = 1 from rfl]
                  rw [show (([9] : List Nat).length) = 1 from rfl] at hu1
                  clear hlk hucell
                  go_wp2
                  clear hc0
                  go_loop [13] (fun x => ∃ b : Nat, b ≤ 16 ∧ x = .int .i64 (b : Int)) (fun x => 16 - (intOf x).toNat)
                  case atStart => exact ⟨0, by omega, rfl⟩
                  case round =>
                    obtain ⟨b, hb, rfl⟩ := hrel
                    by_cases hb16 : b < 16
                    · have hbI : (b : Int) < 16 := by omega
                      go_wp2
                      go_round
                      case rel => exact ⟨b + 1, by omega, by go_num⟩
                      case measure => simp [intOf]; omega
                    · obtain rfl : b = 16 := by omega
                      rw [show ((16 : Nat) : Int) = 16 from rfl]
                      go_wp2
                      go_ret2
                      exact HDone.out _ _ (HF8.out _ HB3.out).1 HSol.out (HF8.out _ HB3.out).2
                · obtain ⟨ug, rfl, _, hug, hucell⟩ := (HUk2.out.below HB3.out rfl).at (by decide)
                  have hc0 := hucell 0 (by decide)
                  rw [show (([8, 9] : List Nat).getD 0 0) = 8 from rfl, show ((8 : Nat) : Int) = 8 from rfl] at hc0
                  rw [show (([8, 9] : List Nat).length) = 2 from rfl]
                  rw [show (([8, 9] : List Nat).length) = 2 from rfl] at hu1
                  clear hlk hucell
                  go_wp2
                  clear hc0
                  go_loop [13] (fun x => ∃ b : Nat, b ≤ 16 ∧ x = .int .i64 (b : Int)) (fun x => 16 - (intOf x).toNat)
                  case atStart => exact ⟨0, by omega, rfl⟩
                  case round =>
                    obtain ⟨b, hb, rfl⟩ := hrel
                    by_cases hb16 : b < 16
                    · have hbI : (b : Int) < 16 := by omega
                      go_wp2
                      go_round
                      case rel => exact ⟨b + 1, by omega, by go_num⟩
                      case measure => simp [intOf]; omega
                    · obtain rfl : b = 16 := by omega
                      rw [show ((16 : Nat) : Int) = 16 from rfl]
                      go_wp2
                      go_ret2
                      exact HDone.out _ _ (HF8.out _ HB3.out).1 HSol.out (HF8.out _ HB3.out).2
              | [p], HLs, HLk2, HLk, _, hlk, hl1, hlle =>
                exfalso
                have := HLv.out
                rw [HLs.out] at this
                simp at this
              | [p, q], HLs, HLk2, HLk, _, hlk, hl1, hlle =>
                exfalso
                have := HLv.out
                rw [HLs.out] at this
                simp at this
              | _ :: _ :: _ :: _, _, _, _, _, hlk, _, _ => simp at hlk; omega
  · have HBad : Hid (Bad sh) := .inl (by rw [Hn.out]; exact h10)
    have hne : ((n : Int) == 10) = false := by simp; omega
    go_enter Try.func27, Try.ntmps27
    go_wp2
    go_ret2
    exact ⟨.inl ⟨HBad.out, rfl⟩, Below.refl _ _⟩
set_option maxRecDepth 100000 in
set_option maxHeartbeats 8000000 in
theorem refDec_1 (v : Value) (sh : List (List UInt8)) (w : World) (h : RT w v sh) (hL : (lackL sh 10).length = 1) :
    Calls Try.prog 27 #[v] w fun e w' => DecOk w.heap.size w' sh e ∧ Below w.heap.size w w' := by
  have HLv := Lib.hid hL
  clear hL
  obtain ⟨a, c, rfl, h1, h2⟩ := h.shape
  simp only [maxLen] at h2
  obtain ⟨n, Hn⟩ := hid_of sh.length
  have H : Hid (RT w (.slice a n c) sh) := by rw [← Hn.out]; exact h
  rw [Hn.out] at h1 ⊢
  clear h
  by_cases h10 : n = 10
  · subst h10
    obtain ⟨g, o, rfl, hg, hrow⟩ := H.out.row (by rw [Hn.out]; omega)
    rw [Hn.out] at hrow
    have HRow := Lib.hid hrow
    have HG := Lib.hid hg
    clear hrow hg
    have HL0 : Hid (OI w.heap.size 3 ((w.alloc (.cells #[] 3)).alloc (.cells #[] 3)) (.slice (some ⟨w.heap.size, 0, none⟩) 0 0) (lackL sh 0)) := (OI.start (w := w) (Nat.le_refl _) rfl).below ((Below.refl _ _).alloc (Nat.le_refl _) _) rfl
    have HS0 : Hid (OI w.heap.size 3 ((w.alloc (.cells #[] 3)).alloc (.cells #[] 3)) (.slice (some ⟨w.heap.size + 1, 0, none⟩) 0 0) (sumL sh 0)) := OI.start (w := w.alloc (.cells #[] 3)) (by simp) (by simp)
    have HB0 : Hid (Below w.heap.size w ((w.alloc (.cells #[] 3)).alloc (.cells #[] 3))) := ((Below.refl _ _).alloc (Nat.le_refl _) _).alloc (by simp) _
    go_enter Try.func27, Try.ntmps27
    go_wp2
    go_loopw [4, 5, 6, 7] (fun tv lv uv x wr => ∃ i : Nat, i ≤ 10 ∧ x = .int .i64 (i : Int) ∧ tv = .int .i64 ((presN sh i).length : Int) ∧ OI w.heap.size 3 wr lv (lackL sh i) ∧ OI w.heap.size 3 wr uv (sumL sh i) ∧ (∀ k, lv.ownBlock = some k → uv.ownBlock ≠ some k) ∧ (∀ j, j < i → (sh.getD j []).length = 0 ∨ (sh.getD j []).length = 16) ∧ Below w.heap.size w wr) (fun _ _ _ x _ => 10 - (intOf x).toNat)
    case atStart => exact ⟨0, by omega, rfl, rfl, HL0.out, HS0.out, (fun k hk he => by have e1 : w.heap.size = k := (by simpa [Value.ownBlock] using hk); have e2 : w.heap.size + 1 = k := (by simpa [Value.ownBlock] using he); omega), (fun j hj => by omega), HB0.out⟩
    case round =>
      clear HL0 HS0 HB0
      obtain ⟨i, hi, rfl, rfl, hl, hu, hsep, hall, hbe⟩ := hrel
      obtain ⟨la, lc, rfl, hl1, hl2⟩ := hl.shape
      obtain ⟨ua, uc, rfl, hu1, hu2⟩ := hu.shape
      simp only [maxLen] at hl2 hu2
      have hlle := lackL_le sh i
      have hule := sumL_le sh i
      have hple := presN_le sh i
      have hls := lackL_succ sh i
      have hus := sumL_succ sh i
      have hps := presN_succ sh i
      obtain ⟨Ls, HLs⟩ := hid_of (lackL sh i)
      obtain ⟨Us, HUs⟩ := hid_of (sumL sh i)
      obtain ⟨Ps, HPs⟩ := hid_of (presN sh i)
      rw [HLs.out] at hl hl1 hlle hls hsep ⊢
      rw [HUs.out] at hu hu1 hule hus hsep ⊢
      rw [HPs.out] at hple hps ⊢
      have HLk := Lib.hid hl
      have HUk := Lib.hid hu
      have HSep := Lib.hid hsep
      have HAll := Lib.hid hall
      have HBe := Lib.hid hbe
      clear hl hu hsep hall hbe
      by_cases hlt : i < 10
      · have hi10 : (i : Int) < 10 := by omega
        obtain ⟨x, hc, hr⟩ := HRow.out i (by omega)
        obtain ⟨xa, xc, rfl, hx1, hx2⟩ := hr.shape
        have hc' : wr.cell? ⟨g, o + i, none⟩ = some (.slice xa (sh.getD i []).length xc) := by rw [HBe.out.cell (p := ⟨g, o + i, none⟩) HG.out]; exact hc
        obtain ⟨m, Hm⟩ := hid_of (sh.getD i []).length
        rw [Hm.out] at hc' hls hus hps hx1
        clear hc hr
        by_cases hbad : m = 0 ∨ m = 16
        · have HAll2 : Hid (∀ j, j < i + 1 → (sh.getD j []).length = 0 ∨ (sh.getD j []).length = 16) := fun j hj => by
            by_cases e : j = i
            · rw [e, Hm.out]; exact hbad
            · exact HAll.out j (by omega)
          by_cases h8 : i < 8
          · have hi8 : (i : Int) < 8 := by omega
            rcases hbad with rfl | rfl
            · rw [if_pos (by omega)] at hls
              rw [if_neg (by omega)] at hus hps
              have HLs2 := Lib.hid hls
              have HUs2 := Lib.hid hus
              have HPs2 : Hid ((presN sh (i + 1)).length = Ps.length) := by rw [hps]; exact rfl
              clear hls hus hps
              go_wp2_with (at_builtin; refine stopped ?_)
              have hba : Below wr.heap.size wr (wr.alloc (.cells #[.int .i64 (i : Int)] 3)) := (Below.refl _ _).alloc (Nat.le_refl _) _
              refine going (wpList_push_int _ rfl _ _ 27 rfl w.heap.size 3 Try.underlying27 infoInt _ Ls rfl (HLk.out.below hba rfl) wr.heap.size i rfl (by rw [cell_of_row _ _ 0 _ _ _ (heap_alloc_new wr _)]; rfl) (by omega) (by have := HBe.out.size; simp; omega) ?_)
              intro v3 w3 ho3 hb3 hg3
              have hfr : Fr (fun k => (Value.slice la Ls.length lc).ownBlock = some k) (wr.alloc (.cells #[.int .i64 (i : Int)] 3)) w3 := (Fr.refl _ _).grown hg3.1 (fun k hk _ => hk)
              have HU3 : Hid (OI w.heap.size 3 w3 (.slice ua Us.length uc) Us) := (HUk.out.below hba rfl).fr hfr (fun k hk he => HSep.out k he hk)
              have HS3 : Hid (∀ k, v3.ownBlock = some k → (Value.slice ua Us.length uc).ownBlock ≠ some k) := fun k hk he => by
                rcases hg3.2 k hk with h | h
                · exact HSep.out k h he
                · have := (HUk.out.lt k he).2; simp at h; omega
              rw [← HLs2.out] at ho3
              have HO3 := Lib.hid ho3
              have HB3 : Hid (Below w.heap.size w w3) := HBe.out.trans ((hba.mono HBe.out.size).trans hb3)
              clear ho3 hb3 hg3 hba hfr
              go_wp2
              go_roundw
              case rel => exact ⟨i + 1, by omega, by go_num, by rw [HPs2.out], HO3.out, by rw [HUs2.out]; exact HU3.out, HS3.out, HAll2.out, HB3.out⟩
              case measure => simp [intOf]; omega
            · rw [if_neg (by omega)] at hls hus
              rw [if_pos (by omega)] at hps
              have HLs2 := Lib.hid hls
              have HUs2 := Lib.hid hus
              have HPs2 : Hid ((presN sh (i + 1)).length = Ps.length + 1) := by rw [hps]; simp [Hid]
              clear hls hus hps
              go_wp2
              go_roundw
              case rel => exact ⟨i + 1, by omega, by go_num, by rw [HPs2.out]; go_num, by rw [HLs2.out]; exact HLk.out, by rw [HUs2.out]; exact HUk.out, HSep.out, HAll2.out, HBe.out⟩
              case measure => simp [intOf]; omega
          · have hi8 : ¬ (i : Int) < 8 := by omega
            have hi8' : (8 : Int) ≤ (i : Int) := by omega
            rcases hbad with rfl | rfl
            · rw [if_neg (by omega)] at hls hus hps
              have HLs2 := Lib.hid hls
              have HUs2 := Lib.hid hus
              have HPs2 : Hid ((presN sh (i + 1)).length = Ps.length) := by rw [hps]; exact rfl
              clear hls hus hps
              go_wp2
              go_roundw
              case rel => exact ⟨i + 1, by omega, by go_num, by rw [HPs2.out], by rw [HLs2.out]; exact HLk.out, by rw [HUs2.out]; exact HUk.out, HSep.out, HAll2.out, HBe.out⟩
              case measure => simp [intOf]; omega
            · rw [if_neg (by omega)] at hls
              rw [if_pos (by omega)] at hus hps
              have HLs2 := Lib.hid hls
              have HUs2 := Lib.hid hus
              have HPs2 : Hid ((presN sh (i + 1)).length = Ps.length + 1) := by rw [hps]; simp [Hid]
              clear hls hus hps
              go_wp2_with (at_builtin; refine stopped ?_)
              have hba : Below wr.heap.size wr (wr.alloc (.cells #[.int .i64 (i : Int)] 3)) := (Below.refl _ _).alloc (Nat.le_refl _) _
              refine going (wpList_push_int _ rfl _ _ 27 rfl w.heap.size 3 Try.underlying27 infoInt _ Us rfl (HUk.out.below hba rfl) wr.heap.size i rfl (by rw [cell_of_row _ _ 0 _ _ _ (heap_alloc_new wr _)]; rfl) (by omega) (by have := HBe.out.size; simp; omega) ?_)
              intro v3 w3 ho3 hb3 hg3
              have hfr : Fr (fun k => (Value.slice ua Us.length uc).ownBlock = some k) (wr.alloc (.cells #[.int .i64 (i : Int)] 3)) w3 := (Fr.refl _ _).grown hg3.1 (fun k hk _ => hk)
              have HL3 : Hid (OI w.heap.size 3 w3 (.slice la Ls.length lc) Ls) := (HLk.out.below hba rfl).fr hfr (fun k hk he => HSep.out k hk he)
              have HS3 : Hid (∀ k, (Value.slice la Ls.length lc).ownBlock = some k → v3.ownBlock ≠ some k) := fun k hk he => by
                rcases hg3.2 k he with h | h
                · exact HSep.out k hk h
                · have := (HLk.out.lt k hk).2; simp at h; omega
              rw [← HUs2.out] at ho3
              have HO3 := Lib.hid ho3
              have HB3 : Hid (Below w.heap.size w w3) := HBe.out.trans ((hba.mono HBe.out.size).trans hb3)
              clear ho3 hb3 hg3 hba hfr
              go_wp2
              go_roundw
              case rel => exact ⟨i + 1, by omega, by go_num, by rw [HPs2.out]; go_num, by rw [HLs2.out]; exact HL3.out, HO3.out, HS3.out, HAll2.out, HB3.out⟩
              case measure => simp [intOf]; omega
        · have HB : Hid (Bad sh) := .inr ⟨i, hlt, by rw [Hm.out]; omega, by rw [Hm.out]; omega⟩
          have e0 : ((m : Int) != 0) = true := by simp; omega
          have e16 : ((m : Int) != 16) = true := by simp; omega
          clear hls hus hps
          go_wp2
          go_ret2
          exact ⟨.inl ⟨HB.out, rfl⟩, HBe.out⟩
      · obtain rfl : i = 10 := by omega
        have HNB : Hid (¬ Bad sh) := by
          rintro (h | ⟨j, hj, h1, h2⟩)
          · exact h Hn.out
          · have := HAll.out j hj
            omega
        have HPl : Hid ((pres sh).length = Ps.length) := by rw [← HPs.out]; exact rfl
        rw [show ((10 : Nat) : Int) = 10 from rfl]
        by_cases hfew : Ps.length < 8
        · have hfew' : (Ps.length : Int) < 8 := by omega
          have HFew : Hid ((pres sh).length < 8) := by rw [HPl.out]; exact hfew
          clear hls hus hps
          go_wp2
          go_ret2
          exact ⟨.inr (.inl ⟨HNB.out, HFew.out, rfl⟩), HBe.out⟩
        · rename World => W1
          have hmany : ¬ ((Ps.length : Int) < 8) := by omega
          clear hls hus hps
          have hmk := make_bytes 128 (by omega) W1
          have HR0 : Hid (RowF 5 (W1.alloc (.cells (madeCells #[.int .u8 0] 128) 5)) W1.heap.size 128 (outN sh (16 * 0))) := (made_row W1 5 128 rfl).congr (fun j hj => by unfold outN; rw [if_neg (by omega)])
          have HB0 : Hid (Below W1.heap.size W1 (W1.alloc (.cells (madeCells #[.int .u8 0] 128) 5))) := (Below.refl _ _).alloc (Nat.le_refl _) _
          rw [show ((128 : Nat) : Int) = 128 from rfl] at hmk
          go_wp2
          clear hmk
          go_loopw [9] (fun x w2 => ∃ k : Nat, k ≤ 8 ∧ x = .int .i64 (k : Int) ∧ RowF 5 w2 W1.heap.size 128 (outN sh (16 * k)) ∧ Below W1.heap.size W1 w2) (fun x _ => 8 - (intOf x).toNat)
          case atStart => exact ⟨0, by omega, rfl, HR0.out, HB0.out⟩
          case round =>
            clear HR0 HB0
            obtain ⟨k, hk, rfl, hrf, hbe2⟩ := hrel
            rename World => w2
            by_cases hlt2 : k < 8
            · have hk8 : (k : Int) < 8 := by omega
              obtain ⟨x, hc, hr⟩ := HRow.out k (by omega)
              obtain ⟨xa, xc, rfl, hx1, hx2⟩ := hr.shape
              have hsz := HBe.out.size
              have hgG : g < W1.heap.size := by have := HG.out; omega
              have HcU : Hid (∀ w3, Below W1.heap.size W1 w3 → w3.cell? ⟨g, o + k, none⟩ = some (.slice xa (sh.getD k []).length xc)) := fun w3 hb3 => by rw [hb3.cell (p := ⟨g, o + k, none⟩) hgG, HBe.out.cell (p := ⟨g, o + k, none⟩) HG.out]; exact hc
              have hlen := HAll.out k (by omega)
              by_cases h0 : (sh.getD k []).length = 0
              · have hc2 := HcU.out w2 hbe2
                rw [h0] at hc2
                have HSk : Hid (RowF 5 w2 W1.heap.size 128 (outN sh (16 * (k + 1)))) := hrf.congr (fun j _ => outN_skip sh k h0 j)
                have HBe2 := Lib.hid hbe2
                clear hc hr hlen hrf hbe2 h0 hx1
                go_wp2
                go_loopw [10] (fun x w3 => x = .int .i64 0 ∧ w3 = w2) (fun _ _ => 0)
                case atStart => exact ⟨rfl, rfl⟩
                case round =>
                  obtain ⟨rfl, rfl⟩ := hrel
                  go_wp2
                  go_roundw
                  case rel => exact ⟨k + 1, by omega, by go_num, HSk.out, HBe2.out⟩
                  case measure => simp [intOf]; omega
              · have h16 : (sh.getD k []).length = 16 := by omega
                obtain ⟨b2, o2, rfl, hb2, hy2⟩ := hr.at (by omega)
                rw [h16] at HcU hy2
                have HSk : Hid (∀ b, b < 16 → ∀ w3, RowF 5 w3 W1.heap.size 128 (outN sh (16 * k + b)) → RowF 5 (w3.setCell ⟨W1.heap.size, 16 * k + b, none⟩ (.int .u8 (((sh.getD k []).getD b 0).toNat : Int))) W1.heap.size 128 (outN sh (16 * k + (b + 1)))) := fun b hb w3 h3 => (h3.set (16 * k + b) _).congr (fun j _ => outN_step sh k b hb (by omega) j)
                have HY2 : Hid (∀ b, b < 16 → ∀ w3, Below W1.heap.size W1 w3 → w3.cell? ⟨b2, o2 + b, none⟩ = some (.int .u8 (((sh.getD k []).getD b 0).toNat : Int))) := fun b hb w3 hb3 => by rw [hb3.cell (p := ⟨b2, o2 + b, none⟩) (by simp only; omega), HBe.out.cell (p := ⟨b2, o2 + b, none⟩) hb2]; exact hy2 b hb
                have HRf := Lib.hid hrf
                have HBe2 := Lib.hid hbe2
                clear hc hr hlen hrf hbe2 h0 hx1 hy2
                have hc2 := HcU.out w2 HBe2.out
                go_wp2
                clear hc2
                go_loopw [10] (fun x w3 => ∃ b : Nat, b ≤ 16 ∧ x = .int .i64 (b : Int) ∧ RowF 5 w3 W1.heap.size 128 (outN sh (16 * k + b)) ∧ Below W1.heap.size W1 w3) (fun x _ => 16 - (intOf x).toNat)
                case atStart => exact ⟨0, by omega, rfl, HRf.out, HBe2.out⟩
                case round =>
                  clear HRf HBe2
                  obtain ⟨b, hb, rfl, hrf, hbe3⟩ := hrel
                  rename World => w3
                  have hc3 := HcU.out w3 hbe3
                  by_cases hb16 : b < 16
                  · have hbI : (b : Int) < 16 := by omega
                    have hcb := HY2.out b hb16 w3 hbe3
                    have hold := hrf.cell (16 * k + b) (by omega)
                    have hfz := hrf.frozen (16 * k + b)
                    have HS3 := Lib.hid (HSk.out b hb16 w3 hrf)
                    obtain ⟨z, Hz⟩ := hid_of ((sh.getD k []).getD b 0)
                    rw [Hz.out] at hcb HS3
                    obtain ⟨y, Hy⟩ := hid_of (outN sh (16 * k + b) (16 * k + b))
                    rw [Hy.out] at hold
                    have HB3 : Hid (Below W1.heap.size W1 (w3.setCell ⟨W1.heap.size, 16 * k + b, none⟩ (.int .u8 (z.toNat : Int)))) := hbe3.setCell (Nat.le_refl _) _
                    clear hrf hbe3
                    go_wp2
                    go_roundw
                    case rel => exact ⟨b + 1, by omega, by go_num, HS3.out, HB3.out⟩
                    case measure => simp [intOf]; omega
                  · obtain rfl : b = 16 := by omega
                    have HRf := Lib.hid hrf
                    have HBe3 := Lib.hid hbe3
                    rw [show ((16 : Nat) : Int) = 16 from rfl]
                    clear hrf hbe3
                    go_wp2
                    go_roundw
                    case rel => exact ⟨k + 1, by omega, by go_num, by rw [Nat.mul_add]; exact HRf.out, HBe3.out⟩
                    case measure => simp [intOf]; omega
            · obtain rfl : k = 8 := by omega
              have hrf8 : RowF 5 w2 W1.heap.size 128 (outN sh 128) := hrf
              have HRf := Lib.hid hrf8
              have HBe2 := Lib.hid hbe2
              have hlk := lack_sums sh
              rw [HLs.out, HUs.out, HPs.out] at hlk
              have hst := sums_two sh
              rw [HUs.out] at hst
              have HLk2 : Hid (OI w.heap.size 3 w2 (.slice la Ls.length lc) Ls) := HLk.out.below hbe2 rfl
              have HUk2 : Hid (OI w.heap.size 3 w2 (.slice ua Us.length uc) Us) := HUk.out.below hbe2 rfl
              have hulen : Us.length ≤ 2 := by rcases hst with h | h | h | h <;> rw [h] <;> simp
              have HSt := Lib.hid hst
              have HDone : Hid (∀ f w9, RowF 5 w9 W1.heap.size 128 f → Sol sh (line 128 f) → Below w.heap.size w w9 → DecOk w.heap.size w9 sh (.returned (.tuple #[.slice (some ⟨W1.heap.size, 0, none⟩) 128 128, .int .i64 0])) ∧ Below w.heap.size w w9) := fun f w9 h1 h2 h3 =>
                ⟨.inr (.inr ⟨HNB.out, by rw [HPl.out]; omega, _, _, rfl, h1.read (Nat.le_refl _) (by simp [maxLen]), h2, fun x hx => by
                  have e : W1.heap.size = x := by simpa [Value.ownBlock] using hx
                  have := HBe.out.size
                  omega⟩), h3⟩
              rw [show ((8 : Nat) : Int) = 8 from rfl]
              clear hrf hrf8 hbe2 hst
              match Ls, HLs, HLk2, HLk, HSep, hlk, hl1, hlle with
              | [], HLs, HLk2, _, _, hlk, _, _ =>
                exfalso
                have := HLv.out
                rw [HLs.out] at this
                simp at this
              | [p], HLs, HLk2, HLk, _, hlk, hl1, hlle =>
                have hpm := mem_lack.1 (show p ∈ lackL sh 10 by rw [HLs.out]; simp)
                obtain ⟨hp8, hp0⟩ := hpm
                obtain ⟨lg, rfl, hlg0, hlg, hlcell⟩ := HLk2.out.at (by simp)
                have hlc := hlcell 0 (by simp)
                rw [show ([p].getD 0 0) = p from rfl] at hlc
                have hlgG : lg < W1.heap.size := (HLk.out.lt lg rfl).2
                have hUpos : 0 < Us.length := by simp at hlk; omega
                obtain ⟨ug, rfl, hug0, hug, hucell⟩ := HUk2.out.at hUpos
                have hugG : ug < W1.heap.size := (HUk.out.lt ug rfl).2
                have hus0 := hucell 0 hUpos
                obtain ⟨s, rest, hUs, hs89⟩ : ∃ s rest, Us = s :: rest ∧ (s = 8 ∨ s = 9) := by
                  rcases HSt.out with h | h | h | h
                  · rw [h] at hUpos; simp at hUpos
                  · exact ⟨8, [], h, .inl rfl⟩
                  · exact ⟨9, [], h, .inr rfl⟩
                  · exact ⟨8, [9], h, .inl rfl⟩
                have hsm := mem_sums (show s ∈ sumL sh 10 by rw [HUs.out, hUs]; simp)
                have hs16 : (sh.getD s []).length = 16 := by have := HAll.out s hsm.2.1; omega
                have HSol : Hid (Sol sh (line 128 (putP (outN sh 128) p 16 (oneX sh s p)))) := out_sol1 sh p s rest HLs.out (by rw [HUs.out, hUs])
                rw [show Us.getD 0 0 = s by rw [hUs]; rfl] at hus0
                have hG2 : W1.heap.size < w2.heap.size := HRf.out.lt
                obtain ⟨nu, Hnu⟩ := hid_of Us.length
                rw [Hnu.out] at hUpos hu1 hulen ⊢
                have hfs := fac_ne s p hsm.1 hsm.2.1 hp8
                have HLc := Lib.hid hlc
                have HUs0 := Lib.hid hus0
                have HS16 := Lib.hid hs16
                have HFs := Lib.hid hfs
                have HP8 := Lib.hid hp8
                rw [show ([p].length) = 1 from rfl] at hl1 ⊢
                clear hlk hUs hlcell hucell hlc hus0 hs16 hp0 hfs hsm hlle hule
                have HFac8 : Hid (∀ wx, Calls Try.prog 42 #[.int .i64 8] wx fun e w' => ∃ v, e = .returned v ∧ RB w' v (facL 8 8) ∧ Below wx.heap.size wx w' ∧ ∀ k, v.ownBlock = some k → wx.heap.size ≤ k) := fun wx => factors_any 8 wx (by omega) (by omega)
                have HFac9 : Hid (∀ wx, Calls Try.prog 42 #[.int .i64 9] wx fun e w' => ∃ v, e = .returned v ∧ RB w' v (facL 9 8) ∧ Below wx.heap.size wx w' ∧ ∀ k, v.ownBlock = some k → wx.heap.size ≤ k) := fun wx => factors_any 9 wx (by omega) (by omega)
                have HB3 : Hid (Below w2.heap.size w2 ((w2.alloc (.cells #[] 5)).alloc (.cells #[] 5))) := ((Below.refl _ _).alloc (Nat.le_refl _) _).alloc (by simp) _
                go_wp2_with fail
                refine (HFac8.out _).mono ?_
                rintro e w3 ⟨v8, rfl, h8, hb8, hf8⟩
                obtain ⟨a8, c8, rfl, h81, h82⟩ := h8.shape
                rw [show (facL 8 8).length = 8 from line_length _ _] at h81 h8 hf8 ⊢
                have HB3' : Hid (Below w2.heap.size w2 w3) := HB3.out.trans (hb8.mono (by simp; omega))
                have HE8 := Lib.hid h8
                have HFr8 : Hid (∀ k, (Value.slice a8 8 c8).ownBlock = some k → W1.heap.size < k) := fun k hk => by have := hf8 k hk; simp at this; omega
                clear h8 hb8 hf8
                go_wp2_with fail
                refine (HFac9.out _).mono ?_
                rintro e w4 ⟨v9, rfl, h9, hb9, hf9⟩
                obtain ⟨a9, c9, rfl, h91, h92⟩ := h9.shape
                rw [show (facL 9 8).length = 8 from line_length _ _] at h91 h9 hf9 ⊢
                have HB4 : Hid (Below w2.heap.size w2 w4) := HB3'.out.trans (hb9.mono HB3'.out.size)
                have HE9 := Lib.hid h9
                have HFr9 : Hid (∀ k, (Value.slice a9 8 c9).ownBlock = some k → W1.heap.size < k) := fun k hk => by have := hf9 k hk; have := HB3'.out.size; omega
                have HE84 : Hid (RB w4 (.slice a8 8 c8) (facL 8 8)) := HE8.out.below hb9 rfl
                clear h9 hb9 hf9 HE8 HFac8 HFac9 HB3 HB3'
                have HRf4 : Hid (RowF 5 w4 W1.heap.size 128 (putP (outN sh 128) p 0 (oneX sh s p))) := (HRf.out.below HB4.out rfl).congr fun j _ => (putP_zero _ _ _ _).symm
                have hlc4 : w4.cell? ⟨lg, 0, none⟩ = some (.int .i64 (p : Int)) := by rw [HB4.out.cell (p := ⟨lg, 0, none⟩) (by simp only; omega)]; exact HLc.out
                have hus4 : w4.cell? ⟨ug, 0, none⟩ = some (.int .i64 (s : Int)) := by rw [HB4.out.cell (p := ⟨ug, 0, none⟩) (by simp only; omega)]; exact HUs0.out
                have HLc4 := Lib.hid hlc4
                clear hlc4
                simp only [maxLen] at h82 h92
                have HRT4 : Hid (RT w4 (.slice (some ⟨g, o, none⟩) 10 c) sh) := ((H.out.below HBe.out rfl).below HBe2.out rfl).below HB4.out rfl
                have HG4 : Hid (W1.heap.size < w4.heap.size) := Nat.lt_of_lt_of_le hG2 HB4.out.size
                have HB04 : Hid (Below w.heap.size w w4) := HBe.out.trans ((HBe2.out.mono HBe.out.size).trans (HB4.out.mono (by have := HBe.out.size; have := HBe2.out.size; omega)))
                obtain ⟨wb, Hwb⟩ := hid_of w4
                rw [Hwb.out] at hus4
                have hpI : (p : Int) < 8 := by omega
                rcases hs89 with rfl | rfl
                · rw [show ((8 : Nat) : Int) = 8 from rfl] at hus4
                  have hus5 : w4.cell? ⟨ug, 0, none⟩ = some (.int .i64 8) := by rw [Hwb.out]; exact hus4
                  have HUs5 := Lib.hid hus5
                  clear hus4 Hwb wb
                  obtain ⟨eb, eo, rfl, heb, hey⟩ := HE84.out.at (by rw [show (facL 8 8).length = 8 from line_length _ _]; omega)
                  have hebG : W1.heap.size ≠ eb := Nat.ne_of_lt (HFr8.out eb rfl)
                  have hce := hey p (by rw [show (facL 8 8).length = 8 from line_length _ _]; omega)
                  rw [facL_at 8 p HP8.out] at hce
                  have HCe := Lib.hid hce
                  clear hey hce
                  go_wp2
                  clear hus5
                  go_loopw [13] (fun x wl => ∃ b : Nat, b ≤ 16 ∧ x = .int .i64 (b : Int) ∧ RowF 5 wl W1.heap.size 128 (putP (outN sh 128) p b (oneX sh 8 p)) ∧ Fr (fun k => k = W1.heap.size) w4 wl) (fun x _ => 16 - (intOf x).toNat)
                  case atStart => exact ⟨0, by omega, rfl, HRf4.out, Fr.refl _ _⟩
                  case round =>
                    clear HRf4
                    obtain ⟨b, hb, rfl, hrf, hfr⟩ := hrel
                    rename World => wl
                    have HBl : Hid (Below w.heap.size w wl) := HB04.out.trans (hfr.below (B := w.heap.size) HB04.out.size (fun k hk he => by have := HBe.out.size; omega))
                    by_cases hb16 : b < 16
                    · have hbI : (b : Int) < 16 := by omega
                      have hcs := hfr.cell HUs5.out (by show ¬ ug = _; omega)
                      have hcl := hfr.cell HLc4.out (by show ¬ lg = _; omega)
                      have hce := hfr.cell HCe.out (by show ¬ eb = _; omega)
                      have hRTl : RT wl (.slice (some ⟨g, o, none⟩) 10 c) sh := H.out.below HBl.out rfl
                      have hEl : RB wl (.slice (some ⟨eb, eo, none⟩) 8 c8) (facL 8 8) := HE84.out.fr hfr (fun _ k hk => by have := HFr8.out k hk; omega)
                      have HLeft : Hid (∀ n, Calls Try.prog 44 #[.slice (some ⟨g, o, none⟩) 10 c, .int .i64 8, .int .i64 (b : Int), .slice (some ⟨eb, eo, none⟩) 8 c8] (wl.drewN n) fun e w' => e = .returned (.int .u8 ((leftF sh (facL 8 8) 8 b 8).toNat : Int)) ∧ ∃ m, w' = wl.drewN m) := fun n =>
                        (left_any _ sh _ (facL 8 8) 8 b (wl.drewN n) (hRTl.drewN n) Hn.out (by omega) hb16 HAll.out HS16.out (hEl.drewN n) (line_length _ _)).mono fun e w' ⟨h1, d, h2⟩ => ⟨h1, n + d, by rw [h2, World.drewN_drewN]⟩
                      have HDiv : Hid (∀ n, Calls Try.prog 43 #[.int .u8 ((leftF sh (facL 8 8) 8 b 8).toNat : Int), .int .u8 ((facF 8 p).toNat : Int)] (wl.drewN n) fun e w' => e = .returned (.tuple #[.int .u8 ((oneX sh 8 p b).toNat : Int), .bool true]) ∧ ∃ m, w' = wl.drewN m) := fun n =>
                        (refDiv_yes _ _ (wl.drewN n) HFs.out).mono fun e w' ⟨h1, h2⟩ => ⟨h1, n, h2.symm⟩
                      have hold := hrf.cell (16 * p + b) (by omega)
                      have hfz := hrf.frozen (16 * p + b)
                      have HS3 : Hid (∀ m, RowF 5 ((wl.drewN m).setCell ⟨W1.heap.size, 16 * p + b, none⟩ (.int .u8 ((oneX sh 8 p b).toNat : Int))) W1.heap.size 128 (putP (outN sh 128) p (b + 1) (oneX sh 8 p))) := fun m => (RowF.set (w := wl.drewN m) hrf (16 * p + b) _).congr fun j _ => putP_step _ p b _ hb16 j
                      have HF3 : Hid (∀ m u, Fr (fun k => k = W1.heap.size) w4 ((wl.drewN m).setCell ⟨W1.heap.size, 16 * p + b, none⟩ u)) := fun m u => (hfr.drewN m).setCell (fun _ => rfl) u
                      obtain ⟨X, HX⟩ := hid_of (oneX sh 8 p b)
                      obtain ⟨L, HL⟩ := hid_of (leftF sh (facL 8 8) 8 b 8)
                      obtain ⟨F, HF⟩ := hid_of (facF 8 p)
                      obtain ⟨y, Hy⟩ := hid_of (putP (outN sh 128) p b (oneX sh 8 p) (16 * p + b))
                      rw [HX.out, HL.out, HF.out] at HDiv
                      rw [HL.out] at HLeft
                      rw [HX.out] at HS3
                      rw [HF.out] at hce
                      rw [Hy.out] at hold
                      clear hrf hfr hRTl hEl
                      go_wp2
                      go_quiet (first | (with_reducible exact HLeft.out _) | (with_reducible exact HDiv.out _))
                      go_wp2
                      go_roundw
                      case rel => exact ⟨b + 1, by omega, by go_num, HS3.out _, HF3.out _ _⟩
                      case measure => simp [intOf]; omega
                    · obtain rfl : b = 16 := by omega
                      rw [show ((16 : Nat) : Int) = 16 from rfl]
                      have HRfl := Lib.hid hrf
                      clear hrf hfr
                      go_wp2
                      go_ret2
                      exact HDone.out _ _ HRfl.out HSol.out HBl.out
                · rw [show ((9 : Nat) : Int) = 9 from rfl] at hus4
                  have hus5 : w4.cell? ⟨ug, 0, none⟩ = some (.int .i64 9) := by rw [Hwb.out]; exact hus4
                  have HUs5 := Lib.hid hus5
                  clear hus4 Hwb wb
                  obtain ⟨eb, eo, rfl, heb, hey⟩ := HE9.out.at (by rw [show (facL 9 8).length = 8 from line_length _ _]; omega)
                  have hebG : W1.heap.size ≠ eb := Nat.ne_of_lt (HFr9.out eb rfl)
                  have hce := hey p (by rw [show (facL 9 8).length = 8 from line_length _ _]; omega)
                  rw [facL_at 9 p HP8.out] at hce
                  have HCe := Lib.hid hce
                  clear hey hce
                  go_wp2
                  clear hus5
                  go_loopw [13] (fun x wl => ∃ b : Nat, b ≤ 16 ∧ x = .int .i64 (b : Int) ∧ RowF 5 wl W1.heap.size 128 (putP (outN sh 128) p b (oneX sh 9 p)) ∧ Fr (fun k => k = W1.heap.size) w4 wl) (fun x _ => 16 - (intOf x).toNat)
                  case atStart => exact ⟨0, by omega, rfl, HRf4.out, Fr.refl _ _⟩
                  case round =>
                    clear HRf4
                    obtain ⟨b, hb, rfl, hrf, hfr⟩ := hrel
                    rename World => wl
                    have HBl : Hid (Below w.heap.size w wl) := HB04.out.trans (hfr.below (B := w.heap.size) HB04.out.size (fun k hk he => by have := HBe.out.size; omega))
                    by_cases hb16 : b < 16
                    · have hbI : (b : Int) < 16 := by omega
                      have hcs := hfr.cell HUs5.out (by show ¬ ug = _; omega)
                      have hcl := hfr.cell HLc4.out (by show ¬ lg = _; omega)
                      have hce := hfr.cell HCe.out (by show ¬ eb = _; omega)
                      have hRTl : RT wl (.slice (some ⟨g, o, none⟩) 10 c) sh := H.out.below HBl.out rfl
                      have hEl : RB wl (.slice (some ⟨eb, eo, none⟩) 8 c9) (facL 9 8) := HE9.out.fr hfr (fun _ k hk => by have := HFr9.out k hk; omega)
                      have HLeft : Hid (∀ n, Calls Try.prog 44 #[.slice (some ⟨g, o, none⟩) 10 c, .int .i64 9, .int .i64 (b : Int), .slice (some ⟨eb, eo, none⟩) 8 c9] (wl.drewN n) fun e w' => e = .returned (.int .u8 ((leftF sh (facL 9 8) 9 b 8).toNat : Int)) ∧ ∃ m, w' = wl.drewN m) := fun n =>
                        (left_any _ sh _ (facL 9 8) 9 b (wl.drewN n) (hRTl.drewN n) Hn.out (by omega) hb16 HAll.out HS16.out (hEl.drewN n) (line_length _ _)).mono fun e w' ⟨h1, d, h2⟩ => ⟨h1, n + d, by rw [h2, World.drewN_drewN]⟩
                      have HDiv : Hid (∀ n, Calls Try.prog 43 #[.int .u8 ((leftF sh (facL 9 8) 9 b 8).toNat : Int), .int .u8 ((facF 9 p).toNat : Int)] (wl.drewN n) fun e w' => e = .returned (.tuple #[.int .u8 ((oneX sh 9 p b).toNat : Int), .bool true]) ∧ ∃ m, w' = wl.drewN m) := fun n =>
                        (refDiv_yes _ _ (wl.drewN n) HFs.out).mono fun e w' ⟨h1, h2⟩ => ⟨h1, n, h2.symm⟩
                      have hold := hrf.cell (16 * p + b) (by omega)
                      have hfz := hrf.frozen (16 * p + b)
                      have HS3 : Hid (∀ m, RowF 5 ((wl.drewN m).setCell ⟨W1.heap.size, 16 * p + b, none⟩ (.int .u8 ((oneX sh 9 p b).toNat : Int))) W1.heap.size 128 (putP (outN sh 128) p (b + 1) (oneX sh 9 p))) := fun m => (RowF.set (w := wl.drewN m) hrf (16 * p + b) _).congr fun j _ => putP_step _ p b _ hb16 j
                      have HF3 : Hid (∀ m u, Fr (fun k => k = W1.heap.size) w4 ((wl.drewN m).setCell ⟨W1.heap.size, 16 * p + b, none⟩ u)) := fun m u => (hfr.drewN m).setCell (fun _ => rfl) u
                      obtain ⟨X, HX⟩ := hid_of (oneX sh 9 p b)
                      obtain ⟨L, HL⟩ := hid_of (leftF sh (facL 9 8) 9 b 8)
                      obtain ⟨F, HF⟩ := hid_of (facF 9 p)
                      obtain ⟨y, Hy⟩ := hid_of (putP (outN sh 128) p b (oneX sh 9 p) (16 * p + b))
                      rw [HX.out, HL.out, HF.out] at HDiv
                      rw [HL.out] at HLeft
                      rw [HX.out] at HS3
                      rw [HF.out] at hce
                      rw [Hy.out] at hold
                      clear hrf hfr hRTl hEl
                      go_wp2
                      go_quiet (first | (with_reducible exact HLeft.out _) | (with_reducible exact HDiv.out _))
                      go_wp2
                      go_roundw
                      case rel => exact ⟨b + 1, by omega, by go_num, HS3.out _, HF3.out _ _⟩
                      case measure => simp [intOf]; omega
                    · obtain rfl : b = 16 := by omega
                      rw [show ((16 : Nat) : Int) = 16 from rfl]
                      have HRfl := Lib.hid hrf
                      clear hrf hfr
                      go_wp2
                      go_ret2
                      exact HDone.out _ _ HRfl.out HSol.out HBl.out
              | [p, q], HLs, HLk2, HLk, _, hlk, hl1, hlle =>
                exfalso
                have := HLv.out
                rw [HLs.out] at this
                simp at this
              | _ :: _ :: _ :: _, _, _, _, _, hlk, _, _ => simp at hlk; omega
  · have HBad : Hid (Bad sh) := .inl (by rw [Hn.out]; exact h10)
    have hne : ((n : Int) == 10) = false := by simp; omega
    go_enter Try.func27, Try.ntmps27
    go_wp2
    go_ret2
    exact ⟨.inl ⟨HBad.out, rfl⟩, Below.refl _ _⟩
set_option maxRecDepth 100000 in
set_option maxHeartbeats 8000000 in
theorem refDec_2 (v : Value) (sh : List (List UInt8)) (w : World) (h : RT w v sh) (hL : (lackL sh 10).length = 2) :
    Calls Try.prog 27 #[v] w fun e w' => DecOk w.heap.size w' sh e ∧ Below w.heap.size w w' := by
  have HLv := Lib.hid hL
  clear hL
  obtain ⟨a, c, rfl, h1, h2⟩ := h.shape
  simp only [maxLen] at h2
  obtain ⟨n, Hn⟩ := hid_of sh.length
  have H : Hid (RT w (.slice a n c) sh) := by rw [← Hn.out]; exact h
  rw [Hn.out] at h1 ⊢
  clear h
  by_cases h10 : n = 10
  · subst h10
    obtain ⟨g, o, rfl, hg, hrow⟩ := H.out.row (by rw [Hn.out]; omega)
    rw [Hn.out] at hrow
    have HRow := Lib.hid hrow
    have HG := Lib.hid hg
    clear hrow hg
    have HL0 : Hid (OI w.heap.size 3 ((w.alloc (.cells #[] 3)).alloc (.cells #[] 3)) (.slice (some ⟨w.heap.size, 0, none⟩) 0 0) (lackL sh 0)) := (OI.start (w := w) (Nat.le_refl _) rfl).below ((Below.refl _ _).alloc (Nat.le_refl _) _) rfl
    have HS0 : Hid (OI w.heap.size 3 ((w.alloc (.cells #[] 3)).alloc (.cells #[] 3)) (.slice (some ⟨w.heap.size + 1, 0, none⟩) 0 0) (sumL sh 0)) := OI.start (w := w.alloc (.cells #[] 3)) (by simp) (by simp)
    have HB0 : Hid (Below w.heap.size w ((w.alloc (.cells #[] 3)).alloc (.cells #[] 3))) := ((Below.refl _ _).alloc (Nat.le_refl _) _).alloc (by simp) _
    go_enter Try.func27, Try.ntmps27
    go_wp2
    go_loopw [4, 5, 6, 7] (fun tv lv uv x wr => ∃ i : Nat, i ≤ 10 ∧ x = .int .i64 (i : Int) ∧ tv = .int .i64 ((presN sh i).length : Int) ∧ OI w.heap.size 3 wr lv (lackL sh i) ∧ OI w.heap.size 3 wr uv (sumL sh i) ∧ (∀ k, lv.ownBlock = some k → uv.ownBlock ≠ some k) ∧ (∀ j, j < i → (sh.getD j []).length = 0 ∨ (sh.getD j []).length = 16) ∧ Below w.heap.size w wr) (fun _ _ _ x _ => 10 - (intOf x).toNat)
    case atStart => exact ⟨0, by omega, rfl, rfl, HL0.out, HS0.out, (fun k hk he => by have e1 : w.heap.size = k := (by simpa [Value.ownBlock] using hk); have e2 : w.heap.size + 1 = k := (by simpa [Value.ownBlock] using he); omega), (fun j hj => by omega), HB0.out⟩
    case round =>
      clear HL0 HS0 HB0
      obtain ⟨i, hi, rfl, rfl, hl, hu, hsep, hall, hbe⟩ := hrel
      obtain ⟨la, lc, rfl, hl1, hl2⟩ := hl.shape
      obtain ⟨ua, uc, rfl, hu1, hu2⟩ := hu.shape
      simp only [maxLen] at hl2 hu2
      have hlle := lackL_le sh i
      have hule := sumL_le sh i
      have hple := presN_le sh i
      have hls := lackL_succ sh i
      have hus := sumL_succ sh i
      have hps := presN_succ sh i
      obtain ⟨Ls, HLs⟩ := hid_of (lackL sh i)
      obtain ⟨Us, HUs⟩ := hid_of (sumL sh i)
      obtain ⟨Ps, HPs⟩ := hid_of (presN sh i)
      rw [HLs.out] at hl hl1 hlle hls hsep ⊢
      rw [HUs.out] at hu hu1 hule hus hsep ⊢
      rw [HPs.out] at hple hps ⊢
      have HLk := Lib.hid hl
      have HUk := Lib.hid hu
      have HSep := Lib.hid hsep
      have HAll := Lib.hid hall
      have HBe := Lib.hid hbe
      clear hl hu hsep hall hbe
      by_cases hlt : i < 10
      · have hi10 : (i : Int) < 10 := by omega
        obtain ⟨x, hc, hr⟩ := HRow.out i (by omega)
        obtain ⟨xa, xc, rfl, hx1, hx2⟩ := hr.shape
        have hc' : wr.cell? ⟨g, o + i, none⟩ = some (.slice xa (sh.getD i []).length xc) := by rw [HBe.out.cell (p := ⟨g, o + i, none⟩) HG.out]; exact hc
        obtain ⟨m, Hm⟩ := hid_of (sh.getD i []).length
        rw [Hm.out] at hc' hls hus hps hx1
        clear hc hr
        by_cases hbad : m = 0 ∨ m = 16
        · have HAll2 : Hid (∀ j, j < i + 1 → (sh.getD j []).length = 0 ∨ (sh.getD j []).length = 16) := fun j hj => by
            by_cases e : j = i
            · rw [e, Hm.out]; exact hbad
            · exact HAll.out j (by omega)
          by_cases h8 : i < 8
          · have hi8 : (i : Int) < 8 := by omega
            rcases hbad with rfl | rfl
            · rw [if_pos (by omega)] at hls
              rw [if_neg (by omega)] at hus hps
              have HLs2 := Lib.hid hls
              have HUs2 := Lib.hid hus
              have HPs2 : Hid ((presN sh (i + 1)).length = Ps.length) := by rw [hps]; exact rfl
              clear hls hus hps
              go_wp2_with (at_builtin; refine stopped ?_)
              have hba : Below wr.heap.size wr (wr.alloc (.cells #[.int .i64 (i : Int)] 3)) := (Below.refl _ _).alloc (Nat.le_refl _) _
              refine going (wpList_push_int _ rfl _ _ 27 rfl w.heap.size 3 Try.underlying27 infoInt _ Ls rfl (HLk.out.below hba rfl) wr.heap.size i rfl (by rw [cell_of_row _ _ 0 _ _ _ (heap_alloc_new wr _)]; rfl) (by omega) (by have := HBe.out.size; simp; omega) ?_)
              intro v3 w3 ho3 hb3 hg3
              have hfr : Fr (fun k => (Value.slice la Ls.length lc).ownBlock = some k) (wr.alloc (.cells #[.int .i64 (i : Int)] 3)) w3 := (Fr.refl _ _).grown hg3.1 (fun k hk _ => hk)
              have HU3 : Hid (OI w.heap.size 3 w3 (.slice ua Us.length uc) Us) := (HUk.out.below hba rfl).fr hfr (fun k hk he => HSep.out k he hk)
              have HS3 : Hid (∀ k, v3.ownBlock = some k → (Value.slice ua Us.length uc).ownBlock ≠ some k) := fun k hk he => by
                rcases hg3.2 k hk with h | h
                · exact HSep.out k h he
                · have := (HUk.out.lt k he).2; simp at h; omega
              rw [← HLs2.out] at ho3
              have HO3 := Lib.hid ho3
              have HB3 : Hid (Below w.heap.size w w3) := HBe.out.trans ((hba.mono HBe.out.size).trans hb3)
              clear ho3 hb3 hg3 hba hfr
              go_wp2
              go_roundw
              case rel => exact ⟨i + 1, by omega, by go_num, by rw [HPs2.out], HO3.out, by rw [HUs2.out]; exact HU3.out, HS3.out, HAll2.out, HB3.out⟩
              case measure => simp [intOf]; omega
            · rw [if_neg (by omega)] at hls hus
              rw [if_pos (by omega)] at hps
              have HLs2 := Lib.hid hls
              have HUs2 := Lib.hid hus
              have HPs2 : Hid ((presN sh (i + 1)).length = Ps.length + 1) := by rw [hps]; simp [Hid]
              clear hls hus hps
              go_wp2
              go_roundw
              case rel => exact ⟨i + 1, by omega, by go_num, by rw [HPs2.out]; go_num, by rw [HLs2.out]; exact HLk.out, by rw [HUs2.out]; exact HUk.out, HSep.out, HAll2.out, HBe.out⟩
              case measure => simp [intOf]; omega
          · have hi8 : ¬ (i : Int) < 8 := by omega
            have hi8' : (8 : Int) ≤ (i : Int) := by omega
            rcases hbad with rfl | rfl
            · rw [if_neg (by omega)] at hls hus hps
              have HLs2 := Lib.hid hls
              have HUs2 := Lib.hid hus
              have HPs2 : Hid ((presN sh (i + 1)).length = Ps.length) := by rw [hps]; exact rfl
              clear hls hus hps
              go_wp2
              go_roundw
              case rel => exact ⟨i + 1, by omega, by go_num, by rw [HPs2.out], by rw [HLs2.out]; exact HLk.out, by rw [HUs2.out]; exact HUk.out, HSep.out, HAll2.out, HBe.out⟩
              case measure => simp [intOf]; omega
            · rw [if_neg (by omega)] at hls
              rw [if_pos (by omega)] at hus hps
              have HLs2 := Lib.hid hls
              have HUs2 := Lib.hid hus
              have HPs2 : Hid ((presN sh (i + 1)).length = Ps.length + 1) := by rw [hps]; simp [Hid]
              clear hls hus hps
              go_wp2_with (at_builtin; refine stopped ?_)
              have hba : Below wr.heap.size wr (wr.alloc (.cells #[.int .i64 (i : Int)] 3)) := (Below.refl _ _).alloc (Nat.le_refl _) _
              refine going (wpList_push_int _ rfl _ _ 27 rfl w.heap.size 3 Try.underlying27 infoInt _ Us rfl (HUk.out.below hba rfl) wr.heap.size i rfl (by rw [cell_of_row _ _ 0 _ _ _ (heap_alloc_new wr _)]; rfl) (by omega) (by have := HBe.out.size; simp; omega) ?_)
              intro v3 w3 ho3 hb3 hg3
              have hfr : Fr (fun k => (Value.slice ua Us.length uc).ownBlock = some k) (wr.alloc (.cells #[.int .i64 (i : Int)] 3)) w3 := (Fr.refl _ _).grown hg3.1 (fun k hk _ => hk)
              have HL3 : Hid (OI w.heap.size 3 w3 (.slice la Ls.length lc) Ls) := (HLk.out.below hba rfl).fr hfr (fun k hk he => HSep.out k hk he)
              have HS3 : Hid (∀ k, (Value.slice la Ls.length lc).ownBlock = some k → v3.ownBlock ≠ some k) := fun k hk he => by
                rcases hg3.2 k he with h | h
                · exact HSep.out k hk h
                · have := (HLk.out.lt k hk).2; simp at h; omega
              rw [← HUs2.out] at ho3
              have HO3 := Lib.hid ho3
              have HB3 : Hid (Below w.heap.size w w3) := HBe.out.trans ((hba.mono HBe.out.size).trans hb3)
              clear ho3 hb3 hg3 hba hfr
              go_wp2
              go_roundw
              case rel => exact ⟨i + 1, by omega, by go_num, by rw [HPs2.out]; go_num, by rw [HLs2.out]; exact HL3.out, HO3.out, HS3.out, HAll2.out, HB3.out⟩
              case measure => simp [intOf]; omega
        · have HB : Hid (Bad sh) := .inr ⟨i, hlt, by rw [Hm.out]; omega, by rw [Hm.out]; omega⟩
          have e0 : ((m : Int) != 0) = true := by simp; omega
          have e16 : ((m : Int) != 16) = true := by simp; omega
          clear hls hus hps
          go_wp2
          go_ret2
          exact ⟨.inl ⟨HB.out, rfl⟩, HBe.out⟩
      · obtain rfl : i = 10 := by omega
        have HNB : Hid (¬ Bad sh) := by
          rintro (h | ⟨j, hj, h1, h2⟩)
          · exact h Hn.out
          · have := HAll.out j hj
            omega
        have HPl : Hid ((pres sh).length = Ps.length) := by rw [← HPs.out]; exact rfl
        rw [show ((10 : Nat) : Int) = 10 from rfl]
        by_cases hfew : Ps.length < 8
        · have hfew' : (Ps.length : Int) < 8 := by omega
          have HFew : Hid ((pres sh).length < 8) := by rw [HPl.out]; exact hfew
          clear hls hus hps
          go_wp2
          go_ret2
          exact ⟨.inr (.inl ⟨HNB.out, HFew.out, rfl⟩), HBe.out⟩
        · rename World => W1
          have hmany : ¬ ((Ps.length : Int) < 8) := by omega
          clear hls hus hps
          have hmk := make_bytes 128 (by omega) W1
          have HR0 : Hid (RowF 5 (W1.alloc (.cells (madeCells #[.int .u8 0] 128) 5)) W1.heap.size 128 (outN sh (16 * 0))) := (made_row W1 5 128 rfl).congr (fun j hj => by unfold outN; rw [if_neg (by omega)])
          have HB0 : Hid (Below W1.heap.size W1 (W1.alloc (.cells (madeCells #[.int .u8 0] 128) 5))) := (Below.refl _ _).alloc (Nat.le_refl _) _
          rw [show ((128 : Nat) : Int) = 128 from rfl] at hmk
          go_wp2
          clear hmk
          go_loopw [9] (fun x w2 => ∃ k : Nat, k ≤ 8 ∧ x = .int .i64 (k : Int) ∧ RowF 5 w2 W1.heap.size 128 (outN sh (16 * k)) ∧ Below W1.heap.size W1 w2) (fun x _ => 8 - (intOf x).toNat)
          case atStart => exact ⟨0, by omega, rfl, HR0.out, HB0.out⟩
          case round =>
            clear HR0 HB0
            obtain ⟨k, hk, rfl, hrf, hbe2⟩ := hrel
            rename World => w2
            by_cases hlt2 : k < 8
            · have hk8 : (k : Int) < 8 := by omega
              obtain ⟨x, hc, hr⟩ := HRow.out k (by omega)
              obtain ⟨xa, xc, rfl, hx1, hx2⟩ := hr.shape
              have hsz := HBe.out.size
              have hgG : g < W1.heap.size := by have := HG.out; omega
              have HcU : Hid (∀ w3, Below W1.heap.size W1 w3 → w3.cell? ⟨g, o + k, none⟩ = some (.slice xa (sh.getD k []).length xc)) := fun w3 hb3 => by rw [hb3.cell (p := ⟨g, o + k, none⟩) hgG, HBe.out.cell (p := ⟨g, o + k, none⟩) HG.out]; exact hc
              have hlen := HAll.out k (by omega)
              by_cases h0 : (sh.getD k []).length = 0
              · have hc2 := HcU.out w2 hbe2
                rw [h0] at hc2
                have HSk : Hid (RowF 5 w2 W1.heap.size 128 (outN sh (16 * (k + 1)))) := hrf.congr (fun j _ => outN_skip sh k h0 j)
                have HBe2 := Lib.hid hbe2
                clear hc hr hlen hrf hbe2 h0 hx1
                go_wp2
                go_loopw [10] (fun x w3 => x = .int .i64 0 ∧ w3 = w2) (fun _ _ => 0)
                case atStart => exact ⟨rfl, rfl⟩
                case round =>
                  obtain ⟨rfl, rfl⟩ := hrel
                  go_wp2
                  go_roundw
                  case rel => exact ⟨k + 1, by omega, by go_num, HSk.out, HBe2.out⟩
                  case measure => simp [intOf]; omega
              · have h16 : (sh.getD k []).length = 16 := by omega
                obtain ⟨b2, o2, rfl, hb2, hy2⟩ := hr.at (by omega)
                rw [h16] at HcU hy2
                have HSk : Hid (∀ b, b < 16 → ∀ w3, RowF 5 w3 W1.heap.size 128 (outN sh (16 * k + b)) → RowF 5 (w3.setCell ⟨W1.heap.size, 16 * k + b, none⟩ (.int .u8 (((sh.getD k []).getD b 0).toNat : Int))) W1.heap.size 128 (outN sh (16 * k + (b + 1)))) := fun b hb w3 h3 => (h3.set (16 * k + b) _).congr (fun j _ => outN_step sh k b hb (by omega) j)
                have HY2 : Hid (∀ b, b < 16 → ∀ w3, Below W1.heap.size W1 w3 → w3.cell? ⟨b2, o2 + b, none⟩ = some (.int .u8 (((sh.getD k []).getD b 0).toNat : Int))) := fun b hb w3 hb3 => by rw [hb3.cell (p := ⟨b2, o2 + b, none⟩) (by simp only; omega), HBe.out.cell (p := ⟨b2, o2 + b, none⟩) hb2]; exact hy2 b hb
                have HRf := Lib.hid hrf
                have HBe2 := Lib.hid hbe2
                clear hc hr hlen hrf hbe2 h0 hx1 hy2
                have hc2 := HcU.out w2 HBe2.out
                go_wp2
                clear hc2
                go_loopw [10] (fun x w3 => ∃ b : Nat, b ≤ 16 ∧ x = .int .i64 (b : Int) ∧ RowF 5 w3 W1.heap.size 128 (outN sh (16 * k + b)) ∧ Below W1.heap.size W1 w3) (fun x _ => 16 - (intOf x).toNat)
                case atStart => exact ⟨0, by omega, rfl, HRf.out, HBe2.out⟩
                case round =>
                  clear HRf HBe2
                  obtain ⟨b, hb, rfl, hrf, hbe3⟩ := hrel
                  rename World => w3
                  have hc3 := HcU.out w3 hbe3
                  by_cases hb16 : b < 16
                  · have hbI : (b : Int) < 16 := by omega
                    have hcb := HY2.out b hb16 w3 hbe3
                    have hold := hrf.cell (16 * k + b) (by omega)
                    have hfz := hrf.frozen (16 * k + b)
                    have HS3 := Lib.hid (HSk.out b hb16 w3 hrf)
                    obtain ⟨z, Hz⟩ := hid_of ((sh.getD k []).getD b 0)
                    rw [Hz.out] at hcb HS3
                    obtain ⟨y, Hy⟩ := hid_of (outN sh (16 * k + b) (16 * k + b))
                    rw [Hy.out] at hold
                    have HB3 : Hid (Below W1.heap.size W1 (w3.setCell ⟨W1.heap.size, 16 * k + b, none⟩ (.int .u8 (z.toNat : Int)))) := hbe3.setCell (Nat.le_refl _) _
                    clear hrf hbe3
                    go_wp2
                    go_roundw
                    case rel => exact ⟨b + 1, by omega, by go_num, HS3.out, HB3.out⟩
                    case measure => simp [intOf]; omega
                  · obtain rfl : b = 16 := by omega
                    have HRf := Lib.hid hrf
                    have HBe3 := Lib.hid hbe3
                    rw [show ((16 : Nat) : Int) = 16 from rfl]
                    clear hrf hbe3
                    go_wp2
                    go_roundw
                    case rel => exact ⟨k + 1, by omega, by go_num, by rw [Nat.mul_add]; exact HRf.out, HBe3.out⟩
                    case measure => simp [intOf]; omega
            · obtain rfl : k = 8 := by omega
              have hrf8 : RowF 5 w2 W1.heap.size 128 (outN sh 128) := hrf
              have HRf := Lib.hid hrf8
              have HBe2 := Lib.hid hbe2
              have hlk := lack_sums sh
              rw [HLs.out, HUs.out, HPs.out] at hlk
              have hst := sums_two sh
              rw [HUs.out] at hst
              have HLk2 : Hid (OI w.heap.size 3 w2 (.slice la Ls.length lc) Ls) := HLk.out.below hbe2 rfl
              have HUk2 : Hid (OI w.heap.size 3 w2 (.slice ua Us.length uc) Us) := HUk.out.below hbe2 rfl
              have hulen : Us.length ≤ 2 := by rcases hst with h | h | h | h <;> rw [h] <;> simp
              have HSt := Lib.hid hst
              have HDone : Hid (∀ f w9, RowF 5 w9 W1.heap.size 128 f → Sol sh (line 128 f) → Below w.heap.size w w9 → DecOk w.heap.size w9 sh (.returned (.tuple #[.slice (some ⟨W1.heap.size, 0, none⟩) 128 128, .int .i64 0])) ∧ Below w.heap.size w w9) := fun f w9 h1 h2 h3 =>
                ⟨.inr (.inr ⟨HNB.out, by rw [HPl.out]; omega, _, _, rfl, h1.read (Nat.le_refl _) (by simp [maxLen]), h2, fun x hx => by
                  have e : W1.heap.size = x := by simpa [Value.ownBlock] using hx
                  have := HBe.out.size
                  omega⟩), h3⟩
              rw [show ((8 : Nat) : Int) = 8 from rfl]
              clear hrf hrf8 hbe2 hst
              match Ls, HLs, HLk2, HLk, HSep, hlk, hl1, hlle with
              | [], HLs, HLk2, _, _, hlk, _, _ =>
                exfalso
                have := HLv.out
                rw [HLs.out] at this
                simp at this
              | [p], HLs, HLk2, HLk, _, hlk, hl1, hlle =>
                exfalso
                have := HLv.out
                rw [HLs.out] at this
                simp at this
              | [p, q], HLs, HLk2, HLk, _, hlk, hl1, hlle =>
                have hpm := mem_lack.1 (show p ∈ lackL sh 10 by rw [HLs.out]; simp)
                have hqm := mem_lack.1 (show q ∈ lackL sh 10 by rw [HLs.out]; simp)
                have hpq : p ≠ q := by have := lack_nodup sh 10; rw [HLs.out] at this; simpa using this
                obtain ⟨hp8, hp0⟩ := hpm
                obtain ⟨hq8, hq0⟩ := hqm
                obtain ⟨lg, rfl, hlg0, hlg, hlcell⟩ := HLk2.out.at (by simp)
                have hlc := hlcell 0 (by simp)
                have hld := hlcell 1 (by simp)
                rw [show ([p, q].getD 0 0) = p from rfl] at hlc
                rw [show ([p, q].getD 1 0) = q from rfl] at hld
                have hlgG : lg < W1.heap.size := (HLk.out.lt lg rfl).2
                have hUeq : Us = [8, 9] := by
                  rcases HSt.out with h | h | h | h
                  · rw [h] at hlk; simp at hlk; omega
                  · rw [h] at hlk; simp at hlk; omega
                  · rw [h] at hlk; simp at hlk; omega
                  · exact h
                subst hUeq
                have h816 : (sh.getD 8 []).length = 16 := by have h1 := mem_sums (show 8 ∈ sumL sh 10 by rw [HUs.out]; simp); have := HAll.out 8 (by omega); omega
                have h916 : (sh.getD 9 []).length = 16 := by have h1 := mem_sums (show 9 ∈ sumL sh 10 by rw [HUs.out]; simp); have := HAll.out 9 (by omega); omega
                obtain ⟨ug, rfl, hug0, hug, hucell⟩ := HUk2.out.at (by simp)
                have hus0 := hucell 0 (by simp)
                rw [show (([8, 9] : List Nat).getD 0 0) = 8 from rfl, show ((8 : Nat) : Int) = 8 from rfl] at hus0
                have HSol : Hid (Sol sh (line 128 (putP (putP (outN sh 128) p 16 (twoX sh p q)) q 16 (twoY sh p q)))) := out_sol2 sh p q HLs.out HUs.out
                have HDet := Lib.hid (detX_ne hp8 hq8 hpq)
                have hG2 : W1.heap.size < w2.heap.size := HRf.out.lt
                have HLc := Lib.hid hlc
                have HLd := Lib.hid hld
                have HUs0 := Lib.hid hus0
                have H816 := Lib.hid h816
                have H916 := Lib.hid h916
                have HPq := Lib.hid hpq
                rw [show ([p, q].length) = 2 from rfl] at hl1 ⊢
                rw [show (([8, 9] : List Nat).length) = 2 from rfl] at hu1 ⊢
                clear hlk hlcell hucell hlc hld hus0 h816 h916 hp0 hq0 hpq hlle hule hulen
                have HFac8 : Hid (∀ wx, Calls Try.prog 42 #[.int .i64 8] wx fun e w' => ∃ v, e = .returned v ∧ RB w' v (facL 8 8) ∧ Below wx.heap.size wx w' ∧ ∀ k, v.ownBlock = some k → wx.heap.size ≤ k) := fun wx => factors_any 8 wx (by omega) (by omega)
                have HFac9 : Hid (∀ wx, Calls Try.prog 42 #[.int .i64 9] wx fun e w' => ∃ v, e = .returned v ∧ RB w' v (facL 9 8) ∧ Below wx.heap.size wx w' ∧ ∀ k, v.ownBlock = some k → wx.heap.size ≤ k) := fun wx => factors_any 9 wx (by omega) (by omega)
                have HB3 : Hid (Below w2.heap.size w2 ((w2.alloc (.cells #[] 5)).alloc (.cells #[] 5))) := ((Below.refl _ _).alloc (Nat.le_refl _) _).alloc (by simp) _
                go_wp2_with fail
                refine (HFac8.out _).mono ?_
                rintro e w3 ⟨v8, rfl, h8, hb8, hf8⟩
                obtain ⟨a8, c8, rfl, h81, h82⟩ := h8.shape
                rw [show (facL 8 8).length = 8 from line_length _ _] at h81 h8 hf8 ⊢
                have HB3' : Hid (Below w2.heap.size w2 w3) := HB3.out.trans (hb8.mono (by simp; omega))
                have HE8 := Lib.hid h8
                have HFr8 : Hid (∀ k, (Value.slice a8 8 c8).ownBlock = some k → W1.heap.size < k) := fun k hk => by have := hf8 k hk; simp at this; omega
                clear h8 hb8 hf8
                go_wp2_with fail
                refine (HFac9.out _).mono ?_
                rintro e w4 ⟨v9, rfl, h9, hb9, hf9⟩
                obtain ⟨a9, c9, rfl, h91, h92⟩ := h9.shape
                rw [show (facL 9 8).length = 8 from line_length _ _] at h91 h9 hf9 ⊢
                have HB4 : Hid (Below w2.heap.size w2 w4) := HB3'.out.trans (hb9.mono HB3'.out.size)
                have HE9 := Lib.hid h9
                have HFr9 : Hid (∀ k, (Value.slice a9 8 c9).ownBlock = some k → W1.heap.size < k) := fun k hk => by have := hf9 k hk; have := HB3'.out.size; omega
                have HE84 : Hid (RB w4 (.slice a8 8 c8) (facL 8 8)) := HE8.out.below hb9 rfl
                clear h9 hb9 hf9 HE8 HFac8 HFac9 HB3 HB3'
                have HRf4 : Hid (RowF 5 w4 W1.heap.size 128 (putP (putP (outN sh 128) p 0 (twoX sh p q)) q 0 (twoY sh p q))) := (HRf.out.below HB4.out rfl).congr fun j _ => by rw [putP_zero, putP_zero]
                have hus4 : w4.cell? ⟨ug, 0, none⟩ = some (.int .i64 8) := by rw [HB4.out.cell (p := ⟨ug, 0, none⟩) (by simp only; omega)]; exact HUs0.out
                have HLc4 : Hid (w4.cell? ⟨lg, 0, none⟩ = some (.int .i64 (p : Int))) := by unfold Hid; rw [HB4.out.cell (p := ⟨lg, 0, none⟩) (by simp only; omega)]; exact HLc.out
                have HLd4 : Hid (w4.cell? ⟨lg, 1, none⟩ = some (.int .i64 (q : Int))) := by unfold Hid; rw [HB4.out.cell (p := ⟨lg, 1, none⟩) (by simp only; omega)]; exact HLd.out
                simp only [maxLen] at h82 h92
                have HB04 : Hid (Below w.heap.size w w4) := HBe.out.trans ((HBe2.out.mono HBe.out.size).trans (HB4.out.mono (by have := HBe.out.size; have := HBe2.out.size; omega)))
                have hpI : (p : Int) < 8 := by omega
                have hqI : (q : Int) < 8 := by omega
                obtain ⟨eb, eo, rfl, heb, hey⟩ := HE84.out.at (by rw [show (facL 8 8).length = 8 from line_length _ _]; omega)
                obtain ⟨nb, no, rfl, hnb, hny⟩ := HE9.out.at (by rw [show (facL 9 8).length = 8 from line_length _ _]; omega)
                have hebG : W1.heap.size ≠ eb := Nat.ne_of_lt (HFr8.out eb rfl)
                have hnbG : W1.heap.size ≠ nb := Nat.ne_of_lt (HFr9.out nb rfl)
                have h8p := hey p (by rw [show (facL 8 8).length = 8 from line_length _ _]; omega)
                have h8q := hey q (by rw [show (facL 8 8).length = 8 from line_length _ _]; omega)
                have h9p := hny p (by rw [show (facL 9 8).length = 8 from line_length _ _]; omega)
                have h9q := hny q (by rw [show (facL 9 8).length = 8 from line_length _ _]; omega)
                rw [facL_at 8 p hp8] at h8p
                rw [facL_at 8 q hq8] at h8q
                rw [facL_at 9 p hp8] at h9p
                rw [facL_at 9 q hq8] at h9q
                have H8p := Lib.hid h8p
                have H8q := Lib.hid h8q
                have H9p := Lib.hid h9p
                have H9q := Lib.hid h9q
                clear hey hny h8p h8q h9p h9q
                go_wp2
                clear hus4
                go_loopw [13] (fun x wl => ∃ b : Nat, b ≤ 16 ∧ x = .int .i64 (b : Int) ∧ RowF 5 wl W1.heap.size 128 (putP (putP (outN sh 128) p b (twoX sh p q)) q b (twoY sh p q)) ∧ Fr (fun k => k = W1.heap.size) w4 wl) (fun x _ => 16 - (intOf x).toNat)
                case atStart => exact ⟨0, by omega, rfl, HRf4.out, Fr.refl _ _⟩
                case round =>
                  clear HRf4
                  obtain ⟨b, hb, rfl, hrf, hfr⟩ := hrel
                  rename World => wl
                  have HBl : Hid (Below w.heap.size w wl) := HB04.out.trans (hfr.below (B := w.heap.size) HB04.out.size (fun k hk he => by have := HBe.out.size; omega))
                  by_cases hb16 : b < 16
                  · have hbI : (b : Int) < 16 := by omega
                    have hcl := hfr.cell HLc4.out (by show ¬ lg = _; omega)
                    have hcd := hfr.cell HLd4.out (by show ¬ lg = _; omega)
                    have h8p := hfr.cell H8p.out (by show ¬ eb = _; omega)
                    have h8q := hfr.cell H8q.out (by show ¬ eb = _; omega)
                    have h9p := hfr.cell H9p.out (by show ¬ nb = _; omega)
                    have h9q := hfr.cell H9q.out (by show ¬ nb = _; omega)
                    have hRTl : RT wl (.slice (some ⟨g, o, none⟩) 10 c) sh := H.out.below HBl.out rfl
                    have hEl8 : RB wl (.slice (some ⟨eb, eo, none⟩) 8 c8) (facL 8 8) := HE84.out.fr hfr (fun _ k hk => by have := HFr8.out k hk; omega)
                    have hEl9 : RB wl (.slice (some ⟨nb, no, none⟩) 8 c9) (facL 9 8) := HE9.out.fr hfr (fun _ k hk => by have := HFr9.out k hk; omega)
                    have HLeft8 : Hid (∀ n, Calls Try.prog 44 #[.slice (some ⟨g, o, none⟩) 10 c, .int .i64 8, .int .i64 (b : Int), .slice (some ⟨eb, eo, none⟩) 8 c8] (wl.drewN n) fun e w' => e = .returned (.int .u8 ((leftF sh (facL 8 8) 8 b 8).toNat : Int)) ∧ ∃ m, w' = wl.drewN m) := fun n =>
                      (left_any _ sh _ (facL 8 8) 8 b (wl.drewN n) (hRTl.drewN n) Hn.out (by omega) hb16 HAll.out H816.out (hEl8.drewN n) (line_length _ _)).mono fun e w' ⟨h1, d, h2⟩ => ⟨h1, n + d, by rw [h2, World.drewN_drewN]⟩
                    have HLeft9 : Hid (∀ n, Calls Try.prog 44 #[.slice (some ⟨g, o, none⟩) 10 c, .int .i64 9, .int .i64 (b : Int), .slice (some ⟨nb, no, none⟩) 8 c9] (wl.drewN n) fun e w' => e = .returned (.int .u8 ((leftF sh (facL 9 8) 9 b 8).toNat : Int)) ∧ ∃ m, w' = wl.drewN m) := fun n =>
                      (left_any _ sh _ (facL 9 8) 9 b (wl.drewN n) (hRTl.drewN n) Hn.out (by omega) hb16 HAll.out H916.out (hEl9.drewN n) (line_length _ _)).mono fun e w' ⟨h1, d, h2⟩ => ⟨h1, n + d, by rw [h2, World.drewN_drewN]⟩
                    have hdX := u8_xor_u8 (mul (facF 8 p) (facF 9 q)) (mul (facF 8 q) (facF 9 p))
                    have hnX := u8_xor_u8 (mul (leftF sh (facL 8 8) 8 b 8) (facF 9 q)) (mul (facF 8 q) (leftF sh (facL 9 8) 9 b 8))
                    have hnY := u8_xor_u8 (mul (facF 8 p) (leftF sh (facL 9 8) 9 b 8)) (mul (leftF sh (facL 8 8) 8 b 8) (facF 9 p))
                    have HDivX : Hid (∀ wx, Calls Try.prog 43 #[.int .u8 ((mul (leftF sh (facL 8 8) 8 b 8) (facF 9 q) ^^^ mul (facF 8 q) (leftF sh (facL 9 8) 9 b 8)).toNat : Int), .int .u8 ((mul (facF 8 p) (facF 9 q) ^^^ mul (facF 8 q) (facF 9 p)).toNat : Int)] wx fun e w' => e = .returned (.tuple #[.int .u8 ((twoX sh p q b).toNat : Int), .bool true]) ∧ wx = w') := fun wx => refDiv_yes _ _ wx HDet.out
                    have HDivY : Hid (∀ wx, Calls Try.prog 43 #[.int .u8 ((mul (facF 8 p) (leftF sh (facL 9 8) 9 b 8) ^^^ mul (leftF sh (facL 8 8) 8 b 8) (facF 9 p)).toNat : Int), .int .u8 ((mul (facF 8 p) (facF 9 q) ^^^ mul (facF 8 q) (facF 9 p)).toNat : Int)] wx fun e w' => e = .returned (.tuple #[.int .u8 ((twoY sh p q b).toNat : Int), .bool true]) ∧ wx = w') := fun wx => refDiv_yes _ _ wx HDet.out
                    have hfz : ∀ j, wl.frozen? ⟨W1.heap.size, j, none⟩ = false := hrf.frozen
                    have hfzp := hfz (16 * p + b)
                    have hfzq := hfz (16 * q + b)
                    have holdp := hrf.cell (16 * p + b) (by omega)
                    have holdq := hrf.cell (16 * q + b) (by omega)
                    have HS3 : Hid (∀ m, RowF 5 (((wl.drewN m).setCell ⟨W1.heap.size, 16 * p + b, none⟩ (.int .u8 ((twoX sh p q b).toNat : Int))).setCell ⟨W1.heap.size, 16 * q + b, none⟩ (.int .u8 ((twoY sh p q b).toNat : Int))) W1.heap.size 128 (putP (putP (outN sh 128) p (b + 1) (twoX sh p q)) q (b + 1) (twoY sh p q))) := fun m =>
                      ((RowF.set (w := wl.drewN m) hrf (16 * p + b) (twoX sh p q b)).set (16 * q + b) (twoY sh p q b)).congr fun j _ => two_step _ p q b _ _ hb16 HPq.out j
                    have HF3 : Hid (∀ m u u', Fr (fun k => k = W1.heap.size) w4 (((wl.drewN m).setCell ⟨W1.heap.size, 16 * p + b, none⟩ u).setCell ⟨W1.heap.size, 16 * q + b, none⟩ u')) := fun m u u' => ((hfr.drewN m).setCell (fun _ => rfl) u).setCell (fun _ => rfl) u'
                    obtain ⟨X, HX⟩ := hid_of (twoX sh p q b)
                    obtain ⟨Y, HY⟩ := hid_of (twoY sh p q b)
                    obtain ⟨U, HU⟩ := hid_of (leftF sh (facL 8 8) 8 b 8)
                    obtain ⟨V, HV⟩ := hid_of (leftF sh (facL 9 8) 9 b 8)
                    obtain ⟨fp, Hfp⟩ := hid_of (facF 8 p)
                    obtain ⟨fq, Hfq⟩ := hid_of (facF 8 q)
                    obtain ⟨fr, Hfr⟩ := hid_of (facF 9 p)
                    obtain ⟨fs, Hfs⟩ := hid_of (facF 9 q)
                    obtain ⟨yp, Hyp⟩ := hid_of (putP (putP (outN sh 128) p b (twoX sh p q)) q b (twoY sh p q) (16 * p + b))
                    obtain ⟨yq, Hyq⟩ := hid_of (putP (putP (outN sh 128) p b (twoX sh p q)) q b (twoY sh p q) (16 * q + b))
                    rw [Hyp.out] at holdp
                    rw [Hyq.out] at holdq
                    rw [HX.out, HY.out] at HS3
                    rw [HU.out] at HLeft8
                    rw [HV.out] at HLeft9
                    rw [Hfp.out] at h8p
                    rw [Hfq.out] at h8q
                    rw [Hfr.out] at h9p
                    rw [Hfs.out] at h9q
                    rw [Hfp.out, Hfq.out, Hfr.out, Hfs.out] at hdX
                    rw [HU.out, HV.out, Hfs.out, Hfq.out] at hnX
                    rw [HU.out, HV.out, Hfp.out, Hfr.out] at hnY
                    rw [HU.out, HV.out, Hfp.out, Hfq.out, Hfr.out, Hfs.out, HX.out] at HDivX
                    rw [HU.out, HV.out, Hfp.out, Hfq.out, Hfr.out, Hfs.out, HY.out] at HDivY
                    have HM1 : Hid (∀ wx, Calls Try.prog 45 #[.int .u8 (fp.toNat : Int), .int .u8 (fs.toNat : Int)] wx fun e w' => e = .returned (.int .u8 ((mul fp fs).toNat : Int)) ∧ wx = w') := fun wx => refMul_any fp fs wx
                    have HM2 : Hid (∀ wx, Calls Try.prog 45 #[.int .u8 (fq.toNat : Int), .int .u8 (fr.toNat : Int)] wx fun e w' => e = .returned (.int .u8 ((mul fq fr).toNat : Int)) ∧ wx = w') := fun wx => refMul_any fq fr wx
                    have HM3 : Hid (∀ wx, Calls Try.prog 45 #[.int .u8 (U.toNat : Int), .int .u8 (fs.toNat : Int)] wx fun e w' => e = .returned (.int .u8 ((mul U fs).toNat : Int)) ∧ wx = w') := fun wx => refMul_any U fs wx
                    have HM4 : Hid (∀ wx, Calls Try.prog 45 #[.int .u8 (fq.toNat : Int), .int .u8 (V.toNat : Int)] wx fun e w' => e = .returned (.int .u8 ((mul fq V).toNat : Int)) ∧ wx = w') := fun wx => refMul_any fq V wx
                    have HM5 : Hid (∀ wx, Calls Try.prog 45 #[.int .u8 (fp.toNat : Int), .int .u8 (V.toNat : Int)] wx fun e w' => e = .returned (.int .u8 ((mul fp V).toNat : Int)) ∧ wx = w') := fun wx => refMul_any fp V wx
                    have HM6 : Hid (∀ wx, Calls Try.prog 45 #[.int .u8 (U.toNat : Int), .int .u8 (fr.toNat : Int)] wx fun e w' => e = .returned (.int .u8 ((mul U fr).toNat : Int)) ∧ wx = w') := fun wx => refMul_any U fr wx
                    obtain ⟨m1, Hm1⟩ := hid_of (mul fp fs)
                    obtain ⟨m2, Hm2⟩ := hid_of (mul fq fr)
                    obtain ⟨m3, Hm3⟩ := hid_of (mul U fs)
                    obtain ⟨m4, Hm4⟩ := hid_of (mul fq V)
                    obtain ⟨m5, Hm5⟩ := hid_of (mul fp V)
                    obtain ⟨m6, Hm6⟩ := hid_of (mul U fr)
                    rw [Hm1.out] at HM1 hdX HDivX HDivY
                    rw [Hm2.out] at HM2 hdX HDivX HDivY
                    rw [Hm3.out] at HM3 hnX HDivX
                    rw [Hm4.out] at HM4 hnX HDivX
                    rw [Hm5.out] at HM5 hnY HDivY
                    rw [Hm6.out] at HM6 hnY HDivY
                    obtain ⟨D, HD⟩ := hid_of (m1 ^^^ m2)
                    obtain ⟨NX, HNX⟩ := hid_of (m3 ^^^ m4)
                    obtain ⟨NY, HNY⟩ := hid_of (m5 ^^^ m6)
                    rw [HD.out] at hdX HDivX HDivY
                    rw [HNX.out] at hnX HDivX
                    rw [HNY.out] at hnY HDivY
                    clear hrf hfr hRTl hEl8 hEl9 hfz
                    go_wp2
                    go_quiet (fail)
                    go_wp2_with fail
                    refine (HLeft8.out _).mono ?_
                    rintro e w5 ⟨rfl, d1, rfl⟩
                    go_wp2_with fail
                    refine (HLeft9.out _).mono ?_
                    rintro e w5 ⟨rfl, d2, rfl⟩
                    go_wp2_with fail
                    refine (HM1.out _).mono ?_
                    rintro e w5 ⟨rfl, rfl⟩
                    go_wp2_with fail
                    refine (HM2.out _).mono ?_
                    rintro e w5 ⟨rfl, rfl⟩
                    go_wp2_with fail
                    refine (HM3.out _).mono ?_
                    rintro e w5 ⟨rfl, rfl⟩
                    go_wp2_with fail
                    refine (HM4.out _).mono ?_
                    rintro e w5 ⟨rfl, rfl⟩
                    go_wp2_with fail
                    refine (HDivX.out _).mono ?_
                    rintro e w5 ⟨rfl, rfl⟩
                    go_wp2_with fail
                    refine (HM5.out _).mono ?_
                    rintro e w5 ⟨rfl, rfl⟩
                    go_wp2_with fail
                    refine (HM6.out _).mono ?_
                    rintro e w5 ⟨rfl, rfl⟩
                    go_wp2_with fail
                    refine (HDivY.out _).mono ?_
                    rintro e w5 ⟨rfl, rfl⟩
                    go_wp2
                    have hw1 : IntKind.i64.wrap (16 * (p : Int)) = 16 * (p : Int) := IntWalk.i64_in _ (by omega)
                    have hw2 : IntKind.i64.wrap (16 * (p : Int) + (b : Int)) = 16 * (p : Int) + (b : Int) := IntWalk.i64_in _ (by omega)
                    have hw3 : IntKind.i64.wrap (16 * (q : Int)) = 16 * (q : Int) := IntWalk.i64_in _ (by omega)
                    have hw4 : IntKind.i64.wrap (16 * (q : Int) + (b : Int)) = 16 * (q : Int) + (b : Int) := IntWalk.i64_in _ (by omega)
                    have hn2 : (16 * (p : Int) + (b : Int)).toNat = 16 * p + b := by omega
                    have hn4 : (16 * (q : Int) + (b : Int)).toNat = 16 * q + b := by omega
                    have hg2 : 0 ≤ 16 * (p : Int) + (b : Int) := by omega
                    have hg4 : 0 ≤ 16 * (q : Int) + (b : Int) := by omega
                    have hl2 : 16 * (p : Int) + (b : Int) < 128 := by omega
                    have hl4 : 16 * (q : Int) + (b : Int) < 128 := by omega
                    obtain ⟨yy, hy⟩ : ∃ y, ((wl.drewN (d2 + 1)).setCell ⟨W1.heap.size, 16 * p + b, none⟩ (.int .u8 (X.toNat : Int))).cell? ⟨W1.heap.size, 16 * q + b, none⟩ = some y := by
                      obtain ⟨y, hy⟩ := cell?_setCell_some (w := wl.drewN (d2 + 1)) (p := ⟨W1.heap.size, 16 * p + b, none⟩) (x := .int .u8 (X.toNat : Int)) (q := ⟨W1.heap.size, 16 * q + b, none⟩) (v := _) holdq
                      exact ⟨y, hy⟩
                    have hcl2 : ((wl.drewN (d2 + 1)).setCell ⟨W1.heap.size, 16 * p + b, none⟩ (.int .u8 (X.toNat : Int))).cell? ⟨lg, 1, none⟩ = some (.int .i64 (q : Int)) := (Fr.setCell (S := fun k => k = W1.heap.size) (Fr.refl _ (wl.drewN (d2 + 1))) (p := ⟨W1.heap.size, 16 * p + b, none⟩) (fun _ => rfl) _).cell hcd (by show ¬ lg = _; omega)
                    have hcl0 : ((wl.drewN (d2 + 1)).setCell ⟨W1.heap.size, 16 * p + b, none⟩ (.int .u8 (X.toNat : Int))).cell? ⟨lg, 0, none⟩ = some (.int .i64 (p : Int)) := (Fr.setCell (S := fun k => k = W1.heap.size) (Fr.refl _ (wl.drewN (d2 + 1))) (p := ⟨W1.heap.size, 16 * p + b, none⟩) (fun _ => rfl) _).cell hcl (by show ¬ lg = _; omega)
                    clear h8p h8q h9p h9q hdX hnX hnY hp8 hq8 hpI hqI hbI
                    go_region_with (fail)
                    all_goals
                      go_wp2
                      go_roundw
                      case rel => exact ⟨b + 1, by omega, by go_num, HS3.out _, HF3.out _ _ _⟩
                      case measure => simp [intOf]; omega
                  · obtain rfl : b = 16 := by omega
                    rw [show ((16 : Nat) : Int) = 16 from rfl]
                    have HRfl := Lib.hid hrf
                    clear hrf hfr
                    go_wp2
                    go_ret2
                    exact HDone.out _ _ HRfl.out HSol.out HBl.out
              | _ :: _ :: _ :: _, _, _, _, _, hlk, _, _ => simp at hlk; omega
  · have HBad : Hid (Bad sh) := .inl (by rw [Hn.out]; exact h10)
    have hne : ((n : Int) == 10) = false := by simp; omega
    go_enter Try.func27, Try.ntmps27
    go_wp2
    go_ret2
    exact ⟨.inl ⟨HBad.out, rfl⟩, Below.refl _ _⟩
theorem refDec_any (v : Value) (sh : List (List UInt8)) (w : World) (h : RT w v sh) :
    Calls Try.prog 27 #[v] w fun e w' => DecOk w.heap.size w' sh e ∧ Below w.heap.size w w' := by
  by_cases h1 : (lackL sh 10).length = 1
  · exact refDec_1 v sh w h h1
  · by_cases h2 : (lackL sh 10).length = 2
    · exact refDec_2 v sh w h h2
    · exact refDec_0 v sh w h ⟨h1, h2⟩
end Go.Proofs.Ytepedabpnchajaa
