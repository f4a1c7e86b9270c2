/-
  kist/label.parse.
-/
import Derived.Test.YtmjhfgnonafknaaLabEnc
import Derived.Test.YtmjhfgnonafknaaReader
import Derived.StillTailTactics

namespace Go.Proofs.Ytmjhfgnonafknaa
open Go.RowKit
set_option linter.unusedVariables false
set_option linter.unusedSimpArgs false

theorem getD_one {b : List UInt8} (h : 2 ≤ b.length) : b[1] = b.getD 1 0 := by simp [List.getD_eq_getElem?_getD, show 1 < b.length by omega]
theorem take_all {α : Type} (l : List α) : l.take l.length = l := List.take_length
theorem Fr.one (w : World) (p i : Nat) (u : Value) : Fr (fun k => k = p) w (w.setCell ⟨p, i, none⟩ u) := Fr.setCell (S := fun k => k = p) (Fr.refl _ w) (p := ⟨p, i, none⟩) (fun _ => rfl) u
/-- a whole record is stored -/
theorem Blk.put10 {w : World} {p : Nat} {l : List Value} {t : TypeId} (h : Blk w p l t) (hl : l.length = 10) (v0 v1 v2 v3 v4 v5 v6 v7 v8 v9 : Value) :
    Blk ((((((((((w.setCell ⟨p, 0, none⟩ v0).setCell ⟨p, 1, none⟩ v1).setCell ⟨p, 2, none⟩ v2).setCell ⟨p, 3, none⟩ v3).setCell ⟨p, 4, none⟩ v4).setCell ⟨p, 5, none⟩ v5).setCell ⟨p, 6, none⟩ v6).setCell ⟨p, 7, none⟩ v7).setCell ⟨p, 8, none⟩ v8).setCell ⟨p, 9, none⟩ v9) p [v0, v1, v2, v3, v4, v5, v6, v7, v8, v9] t := by
  have h1 := (((((((((h.set 0 v0).set 1 v1).set 2 v2).set 3 v3).set 4 v4).set 5 v5).set 6 v6).set 7 v7).set 8 v8).set 9 v9
  match l, hl with
  | [_, _, _, _, _, _, _, _, _, _], _ => exact h1
theorem Below.put10 {B : Nat} {w0 w : World} {p : Nat} (h : Below B w0 w) (hp : B ≤ p) (v0 v1 v2 v3 v4 v5 v6 v7 v8 v9 : Value) :
    Below B w0 ((((((((((w.setCell ⟨p, 0, none⟩ v0).setCell ⟨p, 1, none⟩ v1).setCell ⟨p, 2, none⟩ v2).setCell ⟨p, 3, none⟩ v3).setCell ⟨p, 4, none⟩ v4).setCell ⟨p, 5, none⟩ v5).setCell ⟨p, 6, none⟩ v6).setCell ⟨p, 7, none⟩ v7).setCell ⟨p, 8, none⟩ v8).setCell ⟨p, 9, none⟩ v9) :=
  (((((((((h.setCell hp v0).setCell hp v1).setCell hp v2).setCell hp v3).setCell hp v4).setCell hp v5).setCell hp v6).setCell hp v7).setCell hp v8).setCell hp v9
theorem RB.put10 {w : World} {p : Nat} {v : Value} {l : List UInt8} (h : RB w v l) (hp : ∀ k, v.ownBlock = some k → k ≠ p) (v0 v1 v2 v3 v4 v5 v6 v7 v8 v9 : Value) :
    RB ((((((((((w.setCell ⟨p, 0, none⟩ v0).setCell ⟨p, 1, none⟩ v1).setCell ⟨p, 2, none⟩ v2).setCell ⟨p, 3, none⟩ v3).setCell ⟨p, 4, none⟩ v4).setCell ⟨p, 5, none⟩ v5).setCell ⟨p, 6, none⟩ v6).setCell ⟨p, 7, none⟩ v7).setCell ⟨p, 8, none⟩ v8).setCell ⟨p, 9, none⟩ v9) v l := by
  have st : ∀ (w : World) (i : Nat) (u : Value), RB w v l → RB (w.setCell ⟨p, i, none⟩ u) v l := fun w i u h => h.fr (Fr.one w p i u) (fun _ k hk => hp k hk)
  exact st _ _ _ (st _ _ _ (st _ _ _ (st _ _ _ (st _ _ _ (st _ _ _ (st _ _ _ (st _ _ _ (st _ _ _ (st _ _ _ h)))))))))
theorem Blk.row {w : World} {p : Nat} {cs : Array Value} {t : TypeId} (h : Blk w p cs.toList t) : w.heap[p]? = some (.cells cs t (0, 0)) := h
theorem kind_byte64 (k : UInt8) : wrap64 (k.toNat : Int) = (k.toNat : Int) := by
  have := k.toNat_lt
  unfold wrap64; omega
/-- the reader's block and those of the record stay apart -/
theorem not_base {p base k : Nat} (h : base ≤ p) (hk : k < base) : ¬ k = p := by omega
set_option maxRecDepth 100000 in
set_option maxHeartbeats 4000000 in
theorem parse_any (a : Option Addr) (n cap : Nat) (b : List UInt8) (w : World) (h : RB w (.slice a n cap) b) (hl : 2 ≤ b.length) (hl2 : b.length ≤ 1000) (hcap : n + 4 ≤ cap) :
    Calls Try.prog 36 #[.slice a n cap] w fun e w' => ∃ d, e = .returned (recV (Lab.parse b) d) ∧ RB w' d (Lab.parse b).data ∧ (∀ k, d.ownBlock = some k → w.heap.size ≤ k) ∧ Below w.heap.size w w' := by
  obtain ⟨a', cap', he, h1, h2⟩ := h.shape
  simp only [Value.slice.injEq] at he
  obtain ⟨rfl, rfl, rfl⟩ := he
  obtain ⟨bb, bo, rfl, hbb, hby⟩ := h.at (by omega)
  have hc1 := hby 1 (by omega)
  have H := Lib.hid h
  simp only [maxLen] at h2
  have hn2 : ¬ cap = 2 := by omega
  have HSl := h.sliced 2 b.length (by omega) (Nat.le_refl _)
  rw [take_all, show sliced (some ⟨bb, bo, none⟩) 2 b.length cap 1 = .slice (some ⟨bb, bo + 2, none⟩) (b.length - 2) (cap - 2) by unfold sliced; rw [if_neg hn2]; simp [Addr.add_lit]] at HSl
  have HSl := Lib.hid HSl
  obtain ⟨k, Hk⟩ := hid_of (b.getD 1 0)
  rw [Hk.out] at hc1
  have HP1 : Hid ((k.toNat : Int) = 1 → Lab.parse b = { Rc.zero with kind := 1, cart := (Word.get 31 (b.drop 2) false).1 }) := by rw [← Hk.out]; exact Lab.parse_1
  have HPx : Hid ((k.toNat : Int) ≠ 1 → (k.toNat : Int) ≠ 2 → Lab.parse b = { Rc.zero with kind := (k.toNat : Int), key := (Word.text 16 (b.drop 2) false).1, gen := (Word.get 1099511627776 (Word.text 16 (b.drop 2) false).2.1 (Word.text 16 (b.drop 2) false).2.2).1 }) := by rw [← Hk.out]; exact Lab.parse_x
  obtain ⟨n, Hn⟩ := hid_of b.length
  rw [Hn.out] at H HSl h1 hl hl2 hcap ⊢
  have hk64 := kind_byte64 k
  clear h hby
  have HR0 : Hid (Blk (w.alloc (.cells (recC Rc.zero (.slice none 0 0)) 41)) w.heap.size (recC Rc.zero (.slice none 0 0)).toList 41) := Blk.new w _ _ rfl
  have HQ0 : Hid (Blk ((w.alloc (.cells (recC Rc.zero (.slice none 0 0)) 41)).alloc (.cells (recC { Rc.zero with kind := (k.toNat : Int) } (.slice none 0 0)) 41)) (w.heap.size + 1) (recC { Rc.zero with kind := (k.toNat : Int) } (.slice none 0 0)).toList 41) := Blk.new _ _ _ (by simp)
  have HB0 : Hid (Below w.heap.size w ((w.alloc (.cells (recC Rc.zero (.slice none 0 0)) 41)).alloc (.cells (recC { Rc.zero with kind := (k.toNat : Int) } (.slice none 0 0)) 41))) := ((Below.refl _ _).alloc (Nat.le_refl _) _).alloc (by simp) _
  have HR1 := Lib.hid (HR0.out.alloc (.cells (recC { Rc.zero with kind := (k.toNat : Int) } (.slice none 0 0)) 41))
  clear HR0
  go_enter Try.func36, Try.ntmps36
  go_wp2_with fail
  refine (New_any _ (b.drop 2) _ (HSl.out.below HB0.out rfl) (by rw [List.length_drop, Hn.out]; omega)).mono ?_
  rintro e w1 ⟨p, rfl, hr1, hb1⟩
  have HRd : Hid (Rd w1 p (w.heap.size + 2) (b.drop 2) false) := Lib.hid (by simpa using hr1)
  have HQ1 := Lib.hid (HQ0.out.below hb1 (by simp))
  have HRz := Lib.hid (HR1.out.below hb1 (by simp; omega))
  have HB1 := Lib.hid (HB0.out.trans (hb1.mono (by simp; omega)))
  have hp2 := HRd.out.lt.1
  clear hr1 hb1 HQ0 HR1 HB0
  by_cases k1 : (k.toNat : Int) = 1
  · obtain ⟨q0, q1, q2, q3, q4, q5, q6, q7, q8, q9⟩ := rec_cells HQ1.out
    have e1 : ((k.toNat : Int) == 1) = true := by rw [k1]; rfl
    simp only [Rc.zero] at q0 q1 q2 q3 q4 q5 q6 q7 q8 q9
    go_wp2_with fail
    refine (Get_any p _ _ _ 31 _ HRd.out (by decide)).mono ?_
    rintro e w2 ⟨rfl, hr2, hf2⟩
    have HQ2 := Lib.hid (HQ1.out.fr hf2 (by omega))
    have HRz2 := Lib.hid (HRz.out.fr hf2 (by omega))
    have HB2 := Lib.hid (HB1.out.trans (hf2.below (B := w.heap.size) HB1.out.size (fun k hk => by omega)))
    clear hr2 hf2 q0 q1 q2 q3 q4 q5 q6 q7 q8 q9 HQ1 HRz HB1
    obtain ⟨q0, q1, q2, q3, q4, q5, q6, q7, q8, q9⟩ := rec_cells HQ2.out
    obtain ⟨r0, r1, r2, r3, r4, r5, r6, r7, r8, r9⟩ := rec_cells HRz2.out
    have fq := HQ2.out.frozen
    have fr := HRz2.out.frozen
    simp only [Rc.zero] at q0 q1 q2 q3 q4 q5 q6 q7 q8 q9 r0 r1 r2 r3 r4 r5 r6 r7 r8 r9
    go_wp2
    refine bodyPost_ret (results_cell_row rfl _ _ w.heap.size 41 (recC { Rc.zero with kind := 1, cart := (Word.get 31 (b.drop 2) false).1 } (.slice none 0 0)) (0, 0) _ rfl ?hg Try.underlying41 rfl (by kernel_rfl)) rfl ?_
    case hg =>
      refine Blk.put10 (l := (recC Rc.zero (.slice none 0 0)).toList) ?_ rfl _ _ _ _ _ _ _ _ _ _
      exact HRz2.out.set_far (q := w.heap.size + 1) (by omega) _ _
    refine ⟨.slice none 0 0, by rw [HP1.out k1]; rfl, by rw [HP1.out k1]; exact RB.nil _, fun _ h => by simp [Value.ownBlock] at h, Below.put10 (HB2.out.setCell (by simp) _) (Nat.le_refl _) _ _ _ _ _ _ _ _ _ _⟩
  · obtain ⟨q0, q1, q2, q3, q4, q5, q6, q7, q8, q9⟩ := rec_cells HQ1.out
    have e1 : ((k.toNat : Int) == 1) = false := by simpa using k1
    have HK1 := Lib.hid k1
    simp only [Rc.zero] at q0 q1 q2 q3 q4 q5 q6 q7 q8 q9
    clear k1
    go_wp2_with fail
    refine (RText_any p _ _ _ 16 _ HRd.out (by decide)).mono ?_
    rintro e w2 ⟨rfl, hr2, hf2⟩
    obtain ⟨T, HT⟩ := hid_of (Word.text 16 (b.drop 2) false)
    rw [HT.out] at hr2 HPx ⊢
    have HQ2 := Lib.hid (HQ1.out.fr hf2 (by omega))
    have HRz2 := Lib.hid (HRz.out.fr hf2 (by omega))
    have HB2 := Lib.hid (HB1.out.trans (hf2.below (B := w.heap.size) HB1.out.size (fun k hk => by omega)))
    have HRd2 := Lib.hid hr2
    clear hr2 hf2 q0 q1 q2 q3 q4 q5 q6 q7 q8 q9 HQ1 HRz HB1 HRd
    obtain ⟨q0, q1, q2, q3, q4, q5, q6, q7, q8, q9⟩ := rec_cells HQ2.out
    have fq := HQ2.out.frozen
    simp only [Rc.zero] at q0 q1 q2 q3 q4 q5 q6 q7 q8 q9
    have hf3 := Fr.one w2 (w.heap.size + 1) 2 (.string (S T.1))
    have HQ3 : Hid (Blk (w2.setCell ⟨w.heap.size + 1, 2, none⟩ (.string (S T.1))) (w.heap.size + 1) (recC { Rc.zero with kind := (k.toNat : Int), key := T.1 } (.slice none 0 0)).toList 41) := HQ2.out.set 2 _
    have HRz3 := Lib.hid (HRz2.out.fr hf3 (by omega))
    have HRd3 := Lib.hid (HRd2.out.fr hf3 (fun k hk => by omega))
    have HB3 := Lib.hid (HB2.out.setCell (p := ⟨w.heap.size + 1, 2, none⟩) (by simp) (.string (S T.1)))
    clear hf3 HQ2 HRz2 HB2 HRd2
    go_wp2_with fail
    refine (Get_any p _ _ _ 1099511627776 _ HRd3.out (by decide)).mono ?_
    rintro e w4 ⟨rfl, hr4, hf4⟩
    obtain ⟨G, HG⟩ := hid_of (Word.get 1099511627776 T.2.1 T.2.2)
    rw [HG.out] at hr4 HPx ⊢
    have HQ4 := Lib.hid (HQ3.out.fr hf4 (by omega))
    have HRz4 := Lib.hid (HRz3.out.fr hf4 (by omega))
    have HB4 := Lib.hid (HB3.out.trans (hf4.below (B := w.heap.size) HB3.out.size (fun k hk => by omega)))
    have HRd4 := Lib.hid hr4
    clear hr4 hf4 q0 q1 q2 q3 q4 q5 q6 q7 q8 q9 fq HQ3 HRz3 HB3 HRd3
    obtain ⟨q0, q1, q2, q3, q4, q5, q6, q7, q8, q9⟩ := rec_cells HQ4.out
    obtain ⟨r0, r1, r2, r3, r4, r5, r6, r7, r8, r9⟩ := rec_cells HRz4.out
    have fq := HQ4.out.frozen
    have fr := HRz4.out.frozen
    simp only [Rc.zero] at q0 q1 q2 q3 q4 q5 q6 q7 q8 q9 r0 r1 r2 r3 r4 r5 r6 r7 r8 r9
    have hf5 := Fr.one w4 (w.heap.size + 1) 3 (.int .i64 (G.1 : Int))
    have HQ5 : Hid (Blk (w4.setCell ⟨w.heap.size + 1, 3, none⟩ (.int .i64 (G.1 : Int))) (w.heap.size + 1) (recC { Rc.zero with kind := (k.toNat : Int), key := T.1, gen := (G.1 : Int) } (.slice none 0 0)).toList 41) := HQ4.out.set 3 _
    have HRz5 := Lib.hid (HRz4.out.fr hf5 (by omega))
    have HRd5 := Lib.hid (HRd4.out.fr hf5 (fun k hk => by omega))
    have HB5 := Lib.hid (HB4.out.setCell (p := ⟨w.heap.size + 1, 3, none⟩) (by simp) (.int .i64 (G.1 : Int)))
    clear hf5 HRd4
    by_cases k2 : (k.toNat : Int) = 2
    · have e2 : ((k.toNat : Int) != 2) = false := by simpa using k2
      have HPa := Lib.hid (fun (g1 g2 g3 g4 : Nat × List UInt8 × Bool) => Lab.parse_2 (b := b) (g := G) (a1 := g1) (a2 := g2) (a3 := g3) (a4 := g4) (by rw [Hk.out]; exact k2) HT.out HG.out)
      have HK2 := Lib.hid k2
      clear HPx HK1 HP1 k2 r0 r1 r2 r3 r4 r5 r6 r7 r8 r9 fr HQ4 HRz4 HB4
      go_wp2_with fail
      refine (Get_any p _ _ _ 4 _ HRd5.out (by decide)).mono ?_
      rintro e w6 ⟨rfl, hr6, hf6⟩
      obtain ⟨A1, HA1⟩ := hid_of (Word.get 4 G.2.1 G.2.2)
      rw [HA1.out] at hr6 ⊢
      have HQ6 := Lib.hid (HQ5.out.fr hf6 (by omega))
      have HRz6 := Lib.hid (HRz5.out.fr hf6 (by omega))
      have HB6 := Lib.hid (HB5.out.trans (hf6.below (B := w.heap.size) HB5.out.size (fun k hk => by omega)))
      have HRd6 := Lib.hid hr6
      clear q0 q1 q2 q3 q4 q5 q6 q7 q8 q9 fq
      clear hr6 hf6 HQ5 HRz5 HB5 HRd5
      go_wp2_with fail
      refine (Get_any p _ _ _ 4 _ HRd6.out (by decide)).mono ?_
      rintro e w7 ⟨rfl, hr7, hf7⟩
      obtain ⟨A2, HA2⟩ := hid_of (Word.get 4 A1.2.1 A1.2.2)
      rw [HA2.out] at hr7 ⊢
      have HQ7 := Lib.hid (HQ6.out.fr hf7 (by omega))
      have HRz7 := Lib.hid (HRz6.out.fr hf7 (by omega))
      have HB7 := Lib.hid (HB6.out.trans (hf7.below (B := w.heap.size) HB6.out.size (fun k hk => by omega)))
      have HRd7 := Lib.hid hr7
      clear hr7 hf7 HQ6 HRz6 HB6 HRd6
      go_wp2_with fail
      refine (Get_any p _ _ _ 10 _ HRd7.out (by decide)).mono ?_
      rintro e w8 ⟨rfl, hr8, hf8⟩
      obtain ⟨A3, HA3⟩ := hid_of (Word.get 10 A2.2.1 A2.2.2)
      rw [HA3.out] at hr8 ⊢
      have HQ8 := Lib.hid (HQ7.out.fr hf8 (by omega))
      have HRz8 := Lib.hid (HRz7.out.fr hf8 (by omega))
      have HB8 := Lib.hid (HB7.out.trans (hf8.below (B := w.heap.size) HB7.out.size (fun k hk => by omega)))
      have HRd8 := Lib.hid hr8
      clear hr8 hf8 HQ7 HRz7 HB7 HRd7
      go_wp2_with fail
      refine (Get_any p _ _ _ 512 _ HRd8.out (by decide)).mono ?_
      rintro e w9 ⟨rfl, hr9, hf9⟩
      obtain ⟨A4, HA4⟩ := hid_of (Word.get 512 A3.2.1 A3.2.2)
      rw [HA4.out] at hr9 ⊢
      have HQ9 := Lib.hid (HQ8.out.fr hf9 (by omega))
      have HRz9 := Lib.hid (HRz8.out.fr hf9 (by omega))
      have HB9 := Lib.hid (HB8.out.trans (hf9.below (B := w.heap.size) HB8.out.size (fun k hk => by omega)))
      have HRd9 := Lib.hid hr9
      clear hr9 hf9 HQ8 HRz8 HB8 HRd8
      have HPb := Lib.hid (HPa.out A1 A2 A3 A4 HA1.out HA2.out HA3.out HA4.out)
      rw [Hn.out] at HPb
      clear HPa
      obtain ⟨q0, q1, q2, q3, q4, q5, q6, q7, q8, q9⟩ := rec_cells HQ9.out
      have fq := HQ9.out.frozen
      simp only [Rc.zero] at q0 q1 q2 q3 q4 q5 q6 q7 q8 q9
      have HQa : Hid (Blk ((((w9.setCell ⟨w.heap.size + 1, 4, none⟩ (.int .i64 (A1.1 : Int))).setCell ⟨w.heap.size + 1, 5, none⟩ (.int .i64 (A2.1 : Int))).setCell ⟨w.heap.size + 1, 6, none⟩ (.int .i64 (A3.1 : Int))).setCell ⟨w.heap.size + 1, 7, none⟩ (.int .i64 (A4.1 : Int))) (w.heap.size + 1) (recC ⟨(k.toNat : Int), 0, T.1, (G.1 : Int), (A1.1 : Int), (A2.1 : Int), (A3.1 : Int), (A4.1 : Int), [], []⟩ (.slice none 0 0)).toList 41) := (((HQ9.out.set 4 _).set 5 _).set 6 _).set 7 _
      have HFa : Hid (Fr (fun k => k = w.heap.size + 1) w9 ((((w9.setCell ⟨w.heap.size + 1, 4, none⟩ (.int .i64 (A1.1 : Int))).setCell ⟨w.heap.size + 1, 5, none⟩ (.int .i64 (A2.1 : Int))).setCell ⟨w.heap.size + 1, 6, none⟩ (.int .i64 (A3.1 : Int))).setCell ⟨w.heap.size + 1, 7, none⟩ (.int .i64 (A4.1 : Int)))) := (((Fr.one w9 (w.heap.size + 1) 4 _).trans (Fr.one _ (w.heap.size + 1) 5 _) (fun _ _ h => h)).trans (Fr.one _ (w.heap.size + 1) 6 _) (fun _ _ h => h)).trans (Fr.one _ (w.heap.size + 1) 7 _) (fun _ _ h => h)
      have HRza := Lib.hid (HRz9.out.fr HFa.out (by omega))
      have HBa := Lib.hid (HB9.out.trans (HFa.out.below (B := w.heap.size) HB9.out.size (fun k hk => by omega)))
      clear HQ9 HRz9 HB9 HRd9 HFa
      by_cases hn50 : 50 ≤ n
      · obtain ⟨m, rfl⟩ : ∃ m, n = m + 48 := ⟨n - 48, by omega⟩
        have hx : (2 : Int) ≤ ((m + 48 : Nat) : Int) - 32 - 16 := by omega
        have hxm : (m : Int) + 48 - 32 - 16 = (m : Int) := by omega
        have hx' : (2 : Int) ≤ (m : Int) := by omega
        rw [if_pos hn50, if_pos hn50] at HPb
        obtain ⟨wa, Hwa⟩ := hid_of ((((w9.setCell ⟨w.heap.size + 1, 4, none⟩ (.int .i64 (A1.1 : Int))).setCell ⟨w.heap.size + 1, 5, none⟩ (.int .i64 (A2.1 : Int))).setCell ⟨w.heap.size + 1, 6, none⟩ (.int .i64 (A3.1 : Int))).setCell ⟨w.heap.size + 1, 7, none⟩ (.int .i64 (A4.1 : Int)))
        rw [Hwa.out] at HQa HRza HBa
        go_wp2
        clear hx hxm q0 q1 q2 q3 q4 q5 q6 q7 q8 q9 fq
        rw [Hwa.out]
        have hRa := H.out.below HBa.out rfl
        have hs1 := hRa.sliced m (m + 32) (by omega) (by omega)
        have hs2 := hRa.sliced (m + 32) (m + 48) (by omega) (by omega)
        rw [show sliced (some ⟨bb, bo, none⟩) m (m + 32) cap 1 = .slice (some ⟨bb, bo + m, none⟩) (m + 32 - m) (cap - m) by unfold sliced; rw [if_neg (by omega)]; simp [Addr.add_lit]] at hs1
        rw [show sliced (some ⟨bb, bo, none⟩) (m + 32) (m + 48) cap 1 = .slice (some ⟨bb, bo + (m + 32), none⟩) (m + 48 - (m + 32)) (cap - (m + 32)) by unfold sliced; rw [if_neg (by omega)]; simp [Addr.add_lit]] at hs2
        have e32 : (b.take (m + 32)).drop m = (b.drop (m + 48 - 48)).take 32 := by rw [List.drop_take, show m + 32 - m = 32 by omega, show m + 48 - 48 = m by omega]
        have e16 : (b.take (m + 48)).drop (m + 32) = b.drop (m + 48 - 16) := by rw [List.take_of_length_le (by rw [Hn.out]; omega), show m + 48 - 16 = m + 32 by omega]
        rw [e32, show m + 32 - m = 32 by omega] at hs1
        rw [e16, show m + 48 - (m + 32) = 16 by omega] at hs2
        obtain ⟨SU, HSU⟩ := hid_of ((b.drop (m + 48 - 48)).take 32)
        obtain ⟨DA, HDA⟩ := hid_of (b.drop (m + 48 - 16))
        rw [HSU.out] at hs1 HPb
        rw [HDA.out] at hs2 HPb
        have hcv := run_convert_S (P := Try.prog) hs1.drew 22 9 5 Try.underlying22 Try.underlying5 Try.underlying9
        have HS1 := Lib.hid hs1.drew
        have HS2 := Lib.hid hs2.drew
        have hw1 : IntKind.i64.wrap ((m : Int) + 32) = (m : Int) + 32 := IntWalk.i64_in _ (by omega)
        have hn1 : ((m : Int) + 32).toNat = m + 32 := by omega
        have hb1 : 0 ≤ (m : Int) + 32 := by omega
        have hb2 : (m : Int) ≤ (m : Int) + 32 := by omega
        have hb3 : (m : Int) + 32 ≤ (cap : Int) := by omega
        have hb4 : (m : Int) + 32 ≤ (m : Int) + 48 := by omega
        have HDl : Hid (DA.length ≤ 140737488355328) := by unfold Hid; rw [← HDA.out, List.length_drop, Hn.out]; omega
        clear hs1 hs2 e32 e16 hRa
        go_region_held (fun wx => (convert 22 9 (.slice (some ⟨bb, bo + m, none⟩) 32 (cap - m))).run Try.prog wx = .ok (.string (S SU)) wx)
          (first | exact hcv | exact hcv2 | exact hcv3 | exact hcv4)
          (first
          | (go_at_call 33
             refine (bclone_any _ DA _ HS2.out HDl.out).mono ?_
             rintro e wb ⟨vd, rfl, hod, hbd⟩
             obtain ⟨da, dc, rfl, hdc1, hdc2⟩ := (RB.own hod).shape
             have hqb := HQa.out.drew.below hbd (HQa.out.lt)
             have HQb := Lib.hid hqb
             have HRzb := Lib.hid (HRza.out.drew.below hbd (HRza.out.lt))
             have HBb := Lib.hid (HBa.out.drew.trans (hbd.mono HBa.out.size))
             have HOd := Lib.hid hod
             have HOl : Hid (∀ k, (Value.slice da DA.length dc).ownBlock = some k → w.heap.size + 2 ≤ k) := fun k hk => by have := (hod.lt k hk).1; have := HQa.out.lt; simp at *; omega
             have hs1b := HS1.out.below hbd rfl
             have hcv2 := run_convert_S (P := Try.prog) hs1b 22 9 5 Try.underlying22 Try.underlying5 Try.underlying9
             have hneq : ∀ j, (Value.slice (some ⟨bb, bo + m, none⟩) 32 (cap - m)).ownBlock = some j → ¬ j = w.heap.size + 1 := fun j hj => by simp [Value.ownBlock] at hj; omega
             have hs1c := hs1b.fr (Fr.one wb (w.heap.size + 1) 8 (.string (S SU))) (fun _ => hneq)
             have hcv3 := run_convert_S (P := Try.prog) hs1c 22 9 5 Try.underlying22 Try.underlying5 Try.underlying9
             have hcv4 := run_convert_S (P := Try.prog) (hs1c.fr (Fr.one _ (w.heap.size + 1) 9 (.slice da DA.length dc)) (fun _ => hneq)) 22 9 5 Try.underlying22 Try.underlying5 Try.underlying9
             obtain ⟨q0, q1, q2, q3, q4, q5, q6, q7, q8, q9⟩ := rec_cells hqb
             have fqb := hqb.frozen
             simp only [Rc.zero] at q0 q1 q2 q3 q4 q5 q6 q7 q8 q9
             obtain ⟨r0, r1, r2, r3, r4, r5, r6, r7, r8, r9⟩ := rec_cells HRzb.out
             have fr := HRzb.out.frozen
             simp only [Rc.zero] at r0 r1 r2 r3 r4 r5 r6 r7 r8 r9
             clear hod hbd hqb hs1b hs1c hneq))
        all_goals
          have HQe : Hid (Blk ((wb.setCell ⟨w.heap.size + 1, 8, none⟩ (.string (S SU))).setCell ⟨w.heap.size + 1, 9, none⟩ (.slice da DA.length dc)) (w.heap.size + 1) (recC ⟨(k.toNat : Int), 0, T.1, (G.1 : Int), (A1.1 : Int), (A2.1 : Int), (A3.1 : Int), (A4.1 : Int), SU, DA⟩ (.slice da DA.length dc)).toList 41) := (HQb.out.set 8 _).set 9 _
          have HFe : Hid (Fr (fun k => k = w.heap.size + 1) wb ((wb.setCell ⟨w.heap.size + 1, 8, none⟩ (.string (S SU))).setCell ⟨w.heap.size + 1, 9, none⟩ (.slice da DA.length dc))) := (Fr.one wb (w.heap.size + 1) 8 _).trans (Fr.one _ (w.heap.size + 1) 9 _) (fun _ _ h => h)
          have HRze := Lib.hid (HRzb.out.fr HFe.out (by omega))
          have HBe := Lib.hid (HBb.out.trans (HFe.out.below (B := w.heap.size) HBb.out.size (fun k hk => by omega)))
          have HDe := Lib.hid ((RB.own HOd.out).fr HFe.out (fun _ k hk => by have := HOl.out k hk; omega))
          clear hcv hcv2 hcv3 hcv4
          go_wp2
          refine bodyPost_ret (results_cell_row rfl _ _ w.heap.size 41 (recC ⟨(k.toNat : Int), 0, T.1, (G.1 : Int), (A1.1 : Int), (A2.1 : Int), (A3.1 : Int), (A4.1 : Int), SU, DA⟩ (.slice da DA.length dc)) (0, 0) _ rfl ?hg Try.underlying41 rfl (by kernel_rfl)) rfl ?_
          case hg =>
            refine Blk.put10 (l := (recC Rc.zero (.slice none 0 0)).toList) ?_ rfl _ _ _ _ _ _ _ _ _ _
            exact HRze.out
          refine ⟨.slice da DA.length dc, by rw [HPb.out, HK2.out]; rfl, by rw [HPb.out]; exact RB.put10 HDe.out (fun k hk => by have := HOl.out k hk; omega) _ _ _ _ _ _ _ _ _ _, fun k hk => by have := HOl.out k hk; omega, Below.put10 HBe.out (Nat.le_refl _) _ _ _ _ _ _ _ _ _ _⟩
      · have hx : ¬ (2 : Int) ≤ (n : Int) - 32 - 16 := by omega
        rw [if_neg hn50, if_neg hn50] at HPb
        have HK2' := HK2.out
        obtain ⟨r0, r1, r2, r3, r4, r5, r6, r7, r8, r9⟩ := rec_cells HRza.out
        have fr := HRza.out.frozen
        simp only [Rc.zero] at r0 r1 r2 r3 r4 r5 r6 r7 r8 r9
        go_wp2
        refine bodyPost_ret (results_cell_row rfl _ _ w.heap.size 41 (recC ⟨2, 0, T.1, (G.1 : Int), (A1.1 : Int), (A2.1 : Int), (A3.1 : Int), (A4.1 : Int), [], []⟩ (.slice none 0 0)) (0, 0) _ rfl ?hg Try.underlying41 rfl (by kernel_rfl)) rfl ?_
        case hg =>
          refine Blk.put10 (l := (recC Rc.zero (.slice none 0 0)).toList) ?_ rfl _ _ _ _ _ _ _ _ _ _
          exact HRza.out
        refine ⟨.slice none 0 0, by rw [HPb.out]; rfl, by rw [HPb.out]; exact RB.nil _, fun _ h => by simp [Value.ownBlock] at h, Below.put10 HBa.out (Nat.le_refl _) _ _ _ _ _ _ _ _ _ _⟩
    · have e2 : ((k.toNat : Int) != 2) = true := by simpa using k2
      have HPa := Lib.hid (HPx.out HK1.out k2)
      clear k2 HPx HK1 HP1
      go_wp2
      refine bodyPost_ret (results_cell_row rfl _ _ w.heap.size 41 (recC { Rc.zero with kind := (k.toNat : Int), key := T.1, gen := (G.1 : Int) } (.slice none 0 0)) (0, 0) _ rfl ?hg Try.underlying41 rfl (by kernel_rfl)) rfl ?_
      case hg =>
        refine Blk.put10 (l := (recC Rc.zero (.slice none 0 0)).toList) ?_ rfl _ _ _ _ _ _ _ _ _ _
        exact HRz5.out
      refine ⟨.slice none 0 0, by rw [HPa.out]; rfl, by rw [HPa.out]; exact RB.nil _, fun _ h => by simp [Value.ownBlock] at h, Below.put10 HB5.out (Nat.le_refl _) _ _ _ _ _ _ _ _ _ _⟩
end Go.Proofs.Ytmjhfgnonafknaa
