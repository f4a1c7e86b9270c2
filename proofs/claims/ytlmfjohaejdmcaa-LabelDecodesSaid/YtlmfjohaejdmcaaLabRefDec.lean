/-
  kistref09: number, Decode.
-/
import Derived.Test.YtlmfjohaejdmcaaLabRefEncode
import Derived.Test.YtlmfjohaejdmcaaWordRefWord
import Derived.Test.YtlmfjohaejdmcaaLabelRefLaw
import Derived.Test.YtlmfjohaejdmcaaLabDec
namespace Go.Proofs.Ytlmfjohaejdmcaa
open Go.RowKit
set_option linter.unusedVariables false
set_option linter.unusedSimpArgs false

namespace Lab
open Word
/-- what all kinds but the first have in common -/
def headP (b : List UInt8) : Rc × List UInt8 × Bool :=
  if ((b.getD 1 0).toNat : Int) = 1 then
    ({ Rc.zero with kind := 1, cart := (get 1099511627776 (b.drop 2) false).1 }, (get 1099511627776 (b.drop 2) false).2.1, (get 1099511627776 (b.drop 2) false).2.2)
  else
    ({ Rc.zero with kind := ((b.getD 1 0).toNat : Int), key := (text 16 (b.drop 2) false).1, gen := (get 1099511627776 (text 16 (b.drop 2) false).2.1 (text 16 (b.drop 2) false).2.2).1 }, (get 1099511627776 (text 16 (b.drop 2) false).2.1 (text 16 (b.drop 2) false).2.2).2.1, (get 1099511627776 (text 16 (b.drop 2) false).2.1 (text 16 (b.drop 2) false).2.2).2.2)
theorem headP_1 {b : List UInt8} (h : ((b.getD 1 0).toNat : Int) = 1) {c : Nat × List UInt8 × Bool} (hc : get 1099511627776 (b.drop 2) false = c) : headP b = ({ Rc.zero with kind := 1, cart := c.1 }, c.2.1, c.2.2) := by unfold headP; rw [if_pos h, hc]
theorem headP_x {b : List UInt8} (h : ((b.getD 1 0).toNat : Int) ≠ 1) {t : List UInt8 × List UInt8 × Bool} {g : Nat × List UInt8 × Bool} (ht : text 16 (b.drop 2) false = t) (hg : get 1099511627776 t.2.1 t.2.2 = g) :
    headP b = ({ Rc.zero with kind := ((b.getD 1 0).toNat : Int), key := t.1, gen := g.1 }, g.2.1, g.2.2) := by unfold headP; rw [if_neg h, ht, hg]
theorem headP_kind (b : List UInt8) : (headP b).1.kind = ((b.getD 1 0).toNat : Int) := by
  unfold headP
  split
  · next h => exact h.symm
  · rfl
theorem refP_x {b : List UInt8} (h : ((b.getD 1 0).toNat : Int) ≠ 2) : refP b = headP b := by
  unfold refP headP
  by_cases hk : ((b.getD 1 0).toNat : Int) = 1
  · rw [if_pos hk, if_pos hk]
  · rw [if_neg hk, if_neg hk]
    exact if_pos h
theorem refP_2 {b : List UInt8} (h : ((b.getD 1 0).toNat : Int) = 2) {R : Rc} {L : List UInt8} {bad : Bool} {a1 a2 a3 a4 : Nat × List UInt8 × Bool} (hh : headP b = (R, L, bad))
    (h1 : get 1099511627776 L bad = a1) (h2 : get 1099511627776 a1.2.1 a1.2.2 = a2) (h3 : get 1099511627776 a2.2.1 a2.2.2 = a3) (h4 : get 1099511627776 a3.2.1 a3.2.2 = a4) :
    R = { Rc.zero with kind := 2, key := R.key, gen := R.gen } ∧
    refP b = ({ kind := 2, cart := 0, key := R.key, gen := R.gen, group := a1.1, groups := a2.1, index := a3.1, size := a4.1, sum := a4.2.1.take 32, data := (a4.2.1.drop 32).take 16 }, a4.2.1.drop 48, a4.2.2) := by
  have hn : ¬ ((b.getD 1 0).toNat : Int) = 1 := by omega
  unfold headP at hh
  rw [if_neg hn] at hh
  simp only [Prod.mk.injEq] at hh
  obtain ⟨rfl, rfl, rfl⟩ := hh
  unfold refP
  rw [if_neg hn]
  dsimp only
  rw [if_neg (by omega), h1, h2, h3, h4, h]
  exact ⟨rfl, rfl⟩
theorem headP_suffix (b : List UInt8) : (headP b).2.1 <:+ b := by
  unfold headP
  split
  · exact (get_suffix _ _ _).trans (List.drop_suffix _ _)
  · exact (get_suffix _ _ _).trans ((text_suffix _ _ _).trans (List.drop_suffix _ _))
theorem refP_suffix (b : List UInt8) : (refP b).2.1 <:+ b := by
  by_cases h : ((b.getD 1 0).toNat : Int) = 2
  · have h2 := (refP_2 h (R := (headP b).1) (L := (headP b).2.1) (bad := (headP b).2.2) rfl rfl rfl rfl rfl).2
    rw [h2]
    exact (List.drop_suffix _ _).trans ((get_suffix _ _ _).trans ((get_suffix _ _ _).trans ((get_suffix _ _ _).trans ((get_suffix _ _ _).trans (headP_suffix b)))))
  · rw [refP_x h]
    exact headP_suffix b
theorem headP_texts (b : List UInt8) : (headP b).1.key.length ≤ b.length ∧ (headP b).1.sum = [] := by
  have h1 := text_le 16 (b.drop 2) false
  have h2 : (b.drop 2).length ≤ b.length := by simp
  unfold headP
  split
  · exact ⟨by simp [Rc.zero], rfl⟩
  · exact ⟨Nat.le_trans h1 h2, rfl⟩
theorem refP_texts (b : List UInt8) : (refP b).1.key.length ≤ b.length ∧ (refP b).1.sum.length ≤ 32 := by
  have hh := headP_texts b
  by_cases h : ((b.getD 1 0).toNat : Int) = 2
  · have h2 := (refP_2 h (R := (headP b).1) (L := (headP b).2.1) (bad := (headP b).2.2) rfl rfl rfl rfl rfl).2
    rw [h2]
    exact ⟨hh.1, by simp only [List.length_take]; omega⟩
  · rw [refP_x h, hh.2]
    exact ⟨hh.1, by simp⟩
theorem four_eq {L : List UInt8} {s : Sum.W32} (h4 : L.length = 4) (h : ∀ j, j < 4 → L.getD j 0 = (Sum.ends s).getD j 0) : L = Sum.ends s := by
  match L, h4 with
  | [a, b, c, d], _ =>
    have e0 := h 0 (by omega)
    have e1 := h 1 (by omega)
    have e2 := h 2 (by omega)
    have e3 := h 3 (by omega)
    simp only [List.getD_cons_zero, List.getD_cons_succ] at e0 e1 e2 e3
    rw [e0, e1, e2, e3]
    rfl
theorem no_short {b : List UInt8} (h : b.length < 6) : ¬ RefOk b := fun hf => by have := hf.1; omega
theorem no_long {b : List UInt8} (h : 256 < b.length) : ¬ RefOk b := fun hf => by
  have h1 := ref_code hf
  have h2 := (code_len hf.2.2.2.2.1).2
  rw [h1] at h2
  omega
theorem no_head {b : List UInt8} (h : b.getD 0 0 ≠ 107) : ¬ RefOk b := fun hf => h hf.2.1
theorem no_bad {b : List UInt8} (h : (refP b).2.2 = true) : ¬ RefOk b := fun hf => by have := hf.2.2.1; rw [h] at this; exact absurd this (by decide)
theorem no_rest {b : List UInt8} (h : (refP b).2.1.length ≠ 4) : ¬ RefOk b := fun hf => h hf.2.2.2.1
theorem no_good {b : List UInt8} (h : ¬ Good (refP b).1) : ¬ RefOk b := fun hf => h hf.2.2.2.2.1
theorem no_sum {b : List UInt8} (h : (refP b).2.1 ≠ Sum.ends (Sum.crc (b.take (b.length - 4)))) : ¬ RefOk b := fun hf => h hf.2.2.2.2.2
theorem yes_all {b : List UInt8} (h1 : 6 ≤ b.length) (h2 : b.getD 0 0 = 107) (h3 : (refP b).2.2 = false) (h4 : (refP b).2.1.length = 4) (h5 : Good (refP b).1) (h6 : (refP b).2.1 = Sum.ends (Sum.crc (b.take (b.length - 4)))) : RefOk b := ⟨h1, h2, h3, h4, h5, h6⟩
theorem pos_bad (b l : List UInt8) : pos b l true = -1 := rfl
theorem pos_ok (b l : List UInt8) : pos b l false = (b.length : Int) - l.length := rfl
theorem pos_suf {b l : List UInt8} (h : l <:+ b) : pos b l false = ((b.length - l.length : Nat) : Int) := by have := h.length_le; rw [pos_ok]; omega
theorem suf_drop {b l : List UInt8} (h : l <:+ b) : b.drop (b.length - l.length) = l := (List.suffix_iff_eq_drop.1 h).symm
theorem pos_two {b : List UInt8} (h : 2 ≤ b.length) : pos b (b.drop 2) false = 2 := by rw [pos_ok, List.length_drop]; omega
end Lab
theorem number_any (v : Value) (b l : List UInt8) (bad : Bool) (w : World) (h : RB w v b) (hb : b.length ≤ 140737488355328) (hs : l <:+ b) :
    Calls Try.prog 34 #[v, .int .i64 (Word.pos b l bad)] w fun e w' => e = .returned (.tuple #[.int .i64 ((Word.get 1099511627776 l bad).1 : Nat), .int .i64 (Word.pos b (Word.get 1099511627776 l bad).2.1 (Word.get 1099511627776 l bad).2.2)]) ∧ w = w' := by
  cases bad with
  | true =>
    rw [Word.get_bad]
    have hp : Word.pos b l true < 0 := by rw [Lab.pos_bad]; decide
    have hq : Word.pos b l true = -1 := Lab.pos_bad b l
    obtain ⟨P, HP⟩ := hid_of (Word.pos b l true)
    rw [HP.out] at hp
    have HQ : Hid (P = -1) := by rw [← HP.out]; exact hq
    rw [HP.out]
    clear hq
    go_enter Try.func34, Try.ntmps34
    go_wp2
    go_ret2
    exact ⟨by rw [HQ.out]; rfl, rfl⟩
  | false =>
    have hle := hs.length_le
    have hN := Number_any v b (b.length - l.length) 1099511627776 w h hb (by omega)
    rw [Lab.suf_drop hs, ← Lab.pos_suf hs] at hN
    have hp : ¬ Word.pos b l false < 0 := by rw [Lab.pos_suf hs]; omega
    obtain ⟨P, HP⟩ := hid_of (Word.pos b l false)
    rw [HP.out] at hp hN
    rw [HP.out]
    obtain ⟨G, HG⟩ := hid_of (Word.get 1099511627776 l false)
    rw [HG.out] at hN ⊢
    obtain ⟨Q, HQ⟩ := hid_of (Word.pos b G.2.1 G.2.2)
    rw [HQ.out] at hN ⊢
    have HN := Lib.hid hN
    clear hN h hb hs hle
    go_enter Try.func34, Try.ntmps34
    go_wp2_with fail
    refine HN.out.mono ?_
    rintro e w' ⟨rfl, rfl⟩
    go_wp2
    go_ret2
    exact ⟨rfl, rfl⟩
set_option maxRecDepth 100000 in
set_option maxHeartbeats 8000000 in
theorem rdecode_any (v : Value) (b : List UInt8) (w : World) (h : RB w v b) (hb : b.length ≤ 140737488355328) :
    Calls Try.prog 16 #[v] w fun e w' => ((Lab.RefOk b ∧ ∃ d, e = .returned (.tuple #[recV (Lab.refP b).1 d, .int .i64 0]) ∧ RB w' d (Lab.refP b).1.data ∧ ∀ k, d.ownBlock = some k → w.heap.size ≤ k) ∨
      (¬ Lab.RefOk b ∧ e = .returned (.tuple #[recV Rc.zero (.slice none 0 0), .int .i64 12]))) ∧ Below w.heap.size w w' := by
  have H := Lib.hid h
  obtain ⟨a, c, rfl, h1, h2⟩ := h.shape
  simp only [maxLen] at h2
  obtain ⟨n, Hn⟩ := hid_of b.length
  have HR0 : Hid (Blk (w.alloc (.cells (recC Rc.zero (.slice none 0 0)) 24)) w.heap.size (recC Rc.zero (.slice none 0 0)).toList 24) := Blk.new w _ _ rfl
  have HB0 : Hid (Below w.heap.size w (w.alloc (.cells (recC Rc.zero (.slice none 0 0)) 24))) := (Below.refl _ _).alloc (Nat.le_refl _) _
  clear h
  by_cases hn6 : n < 6
  · have hn6' : (n : Int) < 6 := by omega
    have HNf : Hid (¬ Lab.RefOk b) := Lab.no_short (by rw [Hn.out]; exact hn6)
    rw [Hn.out]
    go_enter Try.func16, Try.ntmps16
    go_wp2
    refine bodyPost_ret (results_row_tmp rfl _ _ w.heap.size 24 (recC Rc.zero (.slice none 0 0)) (0, 0) _ (.int .i64 12) rfl ?hg Try.underlying24 rfl (by kernel_rfl) rfl) rfl ?_
    case hg =>
      exact HR0.out
    exact ⟨.inr ⟨HNf.out, rfl⟩, HB0.out⟩
  have hn6' : ¬ (n : Int) < 6 := by omega
  by_cases hn256 : 256 < n
  · have hn256' : (256 : Int) < (n : Int) := by omega
    have HNf : Hid (¬ Lab.RefOk b) := Lab.no_long (by rw [Hn.out]; exact hn256)
    rw [Hn.out]
    go_enter Try.func16, Try.ntmps16
    go_wp2
    refine bodyPost_ret (results_row_tmp rfl _ _ w.heap.size 24 (recC Rc.zero (.slice none 0 0)) (0, 0) _ (.int .i64 12) rfl ?hg Try.underlying24 rfl (by kernel_rfl) rfl) rfl ?_
    case hg =>
      exact HR0.out
    exact ⟨.inr ⟨HNf.out, rfl⟩, HB0.out⟩
  have hn256' : ¬ (256 : Int) < (n : Int) := by omega
  obtain ⟨bb, bo, rfl, hbb, hby⟩ := H.out.at (by rw [Hn.out]; omega)
  have hc0 := hby 0 (by rw [Hn.out]; omega)
  rw [Nat.add_zero] at hc0
  by_cases h0 : b.getD 0 0 = 107
  case neg =>
    have HNf : Hid (¬ Lab.RefOk b) := Lab.no_head h0
    have hz1 : (((b.getD 0 0).toNat : Int) == 107) = false := u8_ne (y := 107) h0
    have hz2 : (((b.getD 0 0).toNat : Int) != 107) = true := by rw [bne, hz1]; rfl
    obtain ⟨z, Hz⟩ := hid_of (b.getD 0 0)
    rw [Hz.out] at hc0 hz1 hz2
    rw [Hn.out]
    clear hby h0
    go_enter Try.func16, Try.ntmps16
    go_wp2
    refine bodyPost_ret (results_row_tmp rfl _ _ w.heap.size 24 (recC Rc.zero (.slice none 0 0)) (0, 0) _ (.int .i64 12) rfl ?hg Try.underlying24 rfl (by kernel_rfl) rfl) rfl ?_
    case hg =>
      exact HR0.out
    exact ⟨.inr ⟨HNf.out, rfl⟩, HB0.out⟩
  case pos =>
  rw [h0] at hc0
  have HL0 := Lib.hid h0
  have hc1 := hby 1 (by rw [Hn.out]; omega)
  have HPk := Lib.hid (Lab.headP_kind b)
  have HP1 := Lib.hid (fun h c hc => Lab.headP_1 (b := b) h (c := c) hc)
  have HPx := Lib.hid (fun h t g ht hg => Lab.headP_x (b := b) h (t := t) (g := g) ht hg)
  have HRx := Lib.hid (fun h => Lab.refP_x (b := b) h)
  have HR2 := Lib.hid (fun h R L bad a1 a2 a3 a4 hh h1 h2 h3 h4 => Lab.refP_2 (b := b) h (R := R) (L := L) (bad := bad) (a1 := a1) (a2 := a2) (a3 := a3) (a4 := a4) hh h1 h2 h3 h4)
  obtain ⟨k, Hk⟩ := hid_of (b.getD 1 0)
  rw [Hk.out] at hc1 HPk HP1 HPx HRx HR2
  have hk64 := kind_byte64 k
  have HNum : Hid (∀ wx l bad, RB wx (.slice (some ⟨bb, bo, none⟩) n c) b → l <:+ b → Calls Try.prog 34 #[.slice (some ⟨bb, bo, none⟩) n c, .int .i64 (Word.pos b l bad)] wx fun e w' => e = .returned (.tuple #[.int .i64 ((Word.get 1099511627776 l bad).1 : Nat), .int .i64 (Word.pos b (Word.get 1099511627776 l bad).2.1 (Word.get 1099511627776 l bad).2.2)]) ∧ wx = w') := fun wx l bad hx hs => number_any _ b l bad wx hx hb hs
  have HNum2 : Hid (∀ wx, RB wx (.slice (some ⟨bb, bo, none⟩) n c) b → Calls Try.prog 34 #[.slice (some ⟨bb, bo, none⟩) n c, .int .i64 2] wx fun e w' => e = .returned (.tuple #[.int .i64 ((Word.get 1099511627776 (b.drop 2) false).1 : Nat), .int .i64 (Word.pos b (Word.get 1099511627776 (b.drop 2) false).2.1 (Word.get 1099511627776 (b.drop 2) false).2.2)]) ∧ wx = w') := fun wx hx => by
    have := number_any _ b (b.drop 2) false wx hx hb (List.drop_suffix _ _)
    rw [Lab.pos_two (by rw [Hn.out]; omega)] at this
    exact this
  have HWrd : Hid (∀ wx, RB wx (.slice (some ⟨bb, bo, none⟩) n c) b → Calls Try.prog 35 #[.slice (some ⟨bb, bo, none⟩) n c, .int .i64 2, .int .i64 16] wx fun e w' => e = .returned (.tuple #[.string (S (Word.text 16 (b.drop 2) false).1), .int .i64 (Word.pos b (Word.text 16 (b.drop 2) false).2.1 (Word.text 16 (b.drop 2) false).2.2)]) ∧ wx = w') := fun wx hx => Word_any _ b 2 16 wx hx hb (by rw [Hn.out]; omega)
  rw [Hn.out] at H
  rw [Hn.out]
  clear hby h0 h1
  have HQ0 : Hid (Blk ((w.alloc (.cells (recC Rc.zero (.slice none 0 0)) 24)).alloc (.cells (recC { Rc.zero with kind := (k.toNat : Int) } (.slice none 0 0)) 24)) (w.heap.size + 1) (recC { Rc.zero with kind := (k.toNat : Int) } (.slice none 0 0)).toList 24) := Blk.new _ _ _ (by simp)
  have HZ0 := Lib.hid (HR0.out.alloc (.cells (recC { Rc.zero with kind := (k.toNat : Int) } (.slice none 0 0)) 24))
  have HB1 : Hid (Below w.heap.size w ((w.alloc (.cells (recC Rc.zero (.slice none 0 0)) 24)).alloc (.cells (recC { Rc.zero with kind := (k.toNat : Int) } (.slice none 0 0)) 24))) := ((Below.refl _ _).alloc (Nat.le_refl _) _).alloc (by simp) _
  obtain ⟨W, HWW⟩ := hid_of ((w.alloc (.cells (recC Rc.zero (.slice none 0 0)) 24)).alloc (.cells (recC { Rc.zero with kind := (k.toNat : Int) } (.slice none 0 0)) 24))
  rw [HWW.out] at HQ0 HZ0 HB1
  go_enter Try.func16, Try.ntmps16
  go_upto_if 30 with fail
  rw [show (w.alloc (.cells #[.int .i64 0, .int .i64 0, .string ⟨#[]⟩, .int .i64 0, .int .i64 0, .int .i64 0, .int .i64 0, .int .i64 0, .string ⟨#[]⟩, .slice none 0 0] 24)).alloc (.cells #[.int .i64 (k.toNat : Int), .int .i64 0, .string ⟨#[]⟩, .int .i64 0, .int .i64 0, .int .i64 0, .int .i64 0, .int .i64 0, .string ⟨#[]⟩, .slice none 0 0] 24) = W from HWW.out]
  clear HWW HR0 HB0
  have HRb := Lib.hid (H.out.below HB1.out rfl)
  have HFar : Hid (∀ wx i u, RB wx (.slice (some ⟨bb, bo, none⟩) n c) b → RB (World.setCell wx ⟨w.heap.size + 1, i, none⟩ u) (.slice (some ⟨bb, bo, none⟩) n c) b) := fun wx i u hx => hx.fr (Fr.one wx (w.heap.size + 1) i u) (fun _ j hj => by simp [Value.ownBlock] at hj; omega)
  go_cut [5] (fun z wx => ∃ (R : Rc) (L : List UInt8) (bad : Bool), Hid (Lab.headP b = (R, L, bad)) ∧ z = .int .i64 (Word.pos b L bad) ∧ Hid (Blk wx (w.heap.size + 1) (recC R (.slice none 0 0)).toList 24) ∧ Hid (Blk wx w.heap.size (recC Rc.zero (.slice none 0 0)).toList 24) ∧ Hid (Below w.heap.size w wx))
  case first =>
    have fq := HQ0.out.frozen
    obtain ⟨q0, q1, q2, q3, q4, q5, q6, q7, q8, q9⟩ := rec_cells HQ0.out
    simp only [Rc.zero] at q0 q1 q2 q3 q4 q5 q6 q7 q8 q9
    by_cases k1 : (k.toNat : Int) = 1
    · have e1 : ((k.toNat : Int) == 1) = true := by rw [k1]; rfl
      obtain ⟨G, HG⟩ := hid_of (Word.get 1099511627776 (b.drop 2) false)
      have HH : Hid (Lab.headP b = ({ Rc.zero with kind := (k.toNat : Int), cart := (G.1 : Int) }, G.2.1, G.2.2)) := by rw [k1]; exact HP1.out k1 G HG.out
      rw [HG.out] at HNum2
      clear k1
      go_wp2_with ((with_reducible refine (HNum2.out _ HRb.out).mono ?_); rintro e w' ⟨rfl, rfl⟩)
      go_meet
      case rel => exact ⟨_, _, _, HH, rfl, HQ0.out.set 1 _, HZ0.out.set_far (q := w.heap.size + 1) (by omega) _ _, HB1.out.setCell (p := ⟨w.heap.size + 1, 1, none⟩) (by simp) _⟩
    · have e1 : ((k.toNat : Int) == 1) = false := by simpa using k1
      obtain ⟨T, HT⟩ := hid_of (Word.text 16 (b.drop 2) false)
      obtain ⟨G, HG⟩ := hid_of (Word.get 1099511627776 T.2.1 T.2.2)
      have HH := Lib.hid (HPx.out k1 T G HT.out HG.out)
      have hsT : T.2.1 <:+ b := by rw [← HT.out]; exact (Word.text_suffix _ _ _).trans (List.drop_suffix _ _)
      have HN1 := Lib.hid (fun wx hx => HNum.out wx T.2.1 T.2.2 hx hsT)
      rw [HT.out] at HWrd
      rw [HG.out] at HN1
      have HZ1 := Lib.hid (HZ0.out.set_far (q := w.heap.size + 1) (by omega) 2 (.string (S T.1)))
      have HB2 := Lib.hid (HB1.out.setCell (p := ⟨w.heap.size + 1, 2, none⟩) (by simp) (.string (S T.1)))
      clear k1 hsT
      go_wp2_with (first
        | ((with_reducible refine (HWrd.out _ HRb.out).mono ?_); rintro e w' ⟨rfl, rfl⟩)
        | ((with_reducible refine (HN1.out _ (HFar.out _ _ _ HRb.out)).mono ?_); rintro e w' ⟨rfl, rfl⟩))
      go_meet
      case rel => exact ⟨_, _, _, HH, rfl, (HQ0.out.set 2 _).set 3 _, HZ1.out.set_far (q := w.heap.size + 1) (by omega) _ _, HB2.out.setCell (p := ⟨w.heap.size + 1, 3, none⟩) (by simp) _⟩
  obtain ⟨R, L, bad, HH, rfl, HQ1, HZ1, HB2⟩ := hcut
  obtain ⟨wy, Hwy⟩ := hid_of wc
  rw [Hwy.out] at HQ1 HZ1 HB2
  rw [Hwy.out]
  have HRk : Hid (R.kind = (k.toNat : Int)) := by have := HPk.out; rw [HH.out] at this; exact this
  have hsL : L <:+ b := by have := Lab.headP_suffix b; rw [HH.out] at this; exact this
  have HSL := Lib.hid hsL
  obtain ⟨q0, q1, q2, q3, q4, q5, q6, q7, q8, q9⟩ := rec_cells HQ1.out
  rw [HRk.out] at q0
  clear Hwy hsL HQ0 HZ0 HRb HP1 HPx HNum2 HWrd HPk
  go_upto_if 54 with fail
  go_cut [5] (fun z wx => ∃ d, Hid (Blk wx (w.heap.size + 1) (recC (Lab.refP b).1 d).toList 24) ∧ Hid (RB wx d (Lab.refP b).1.data) ∧ Hid (∀ j, Value.ownBlock d = some j → w.heap.size + 2 ≤ j) ∧ z = .int .i64 (Word.pos b (Lab.refP b).2.1 (Lab.refP b).2.2) ∧ Hid (Blk wx w.heap.size (recC Rc.zero (.slice none 0 0)).toList 24) ∧ Hid (Below w.heap.size w wx))
  case first =>
    clear q0 q1 q2 q3 q4 q5 q6 q7 q8 q9
    by_cases k2 : (k.toNat : Int) = 2
    · have e2 : ((k.toNat : Int) == 2) = true := by rw [k2]; rfl
      have hR := (HR2.out k2 R L bad _ _ _ _ HH.out rfl rfl rfl rfl).1
      obtain ⟨ky, gn, rfl⟩ : ∃ ky gn, R = ⟨2, 0, ky, gn, 0, 0, 0, 0, [], []⟩ := ⟨R.key, R.gen, hR⟩
      have HRb := Lib.hid (H.out.below HB2.out rfl)
      have fq := HQ1.out.frozen
      obtain ⟨q0, q1, q2, q3, q4, q5, q6, q7, q8, q9⟩ := rec_cells HQ1.out
      obtain ⟨A1, HA1⟩ := hid_of (Word.get 1099511627776 L bad)
      obtain ⟨A2, HA2⟩ := hid_of (Word.get 1099511627776 A1.2.1 A1.2.2)
      obtain ⟨A3, HA3⟩ := hid_of (Word.get 1099511627776 A2.2.1 A2.2.2)
      obtain ⟨A4, HA4⟩ := hid_of (Word.get 1099511627776 A3.2.1 A3.2.2)
      have HP := Lib.hid (HR2.out k2 _ L bad A1 A2 A3 A4 HH.out HA1.out HA2.out HA3.out HA4.out).2
      have hs1 : A1.2.1 <:+ b := by rw [← HA1.out]; exact (Word.get_suffix _ _ _).trans HSL.out
      have hs2 : A2.2.1 <:+ b := by rw [← HA2.out]; exact (Word.get_suffix _ _ _).trans hs1
      have hs3 : A3.2.1 <:+ b := by rw [← HA3.out]; exact (Word.get_suffix _ _ _).trans hs2
      have hs4 : A4.2.1 <:+ b := by rw [← HA4.out]; exact (Word.get_suffix _ _ _).trans hs3
      have HN1 := Lib.hid (fun wx hx => HNum.out wx L bad hx HSL.out)
      have HN2 := Lib.hid (fun wx hx => HNum.out wx A1.2.1 A1.2.2 hx hs1)
      have HN3 := Lib.hid (fun wx hx => HNum.out wx A2.2.1 A2.2.2 hx hs2)
      have HN4 := Lib.hid (fun wx hx => HNum.out wx A3.2.1 A3.2.2 hx hs3)
      rw [HA1.out] at HN1
      rw [HA2.out] at HN2
      rw [HA3.out] at HN3
      rw [HA4.out] at HN4
      have HS4 := Lib.hid hs4
      have HQ5 : Hid (Blk ((((wy.setCell ⟨w.heap.size + 1, 4, none⟩ (.int .i64 (A1.1 : Int))).setCell ⟨w.heap.size + 1, 5, none⟩ (.int .i64 (A2.1 : Int))).setCell ⟨w.heap.size + 1, 6, none⟩ (.int .i64 (A3.1 : Int))).setCell ⟨w.heap.size + 1, 7, none⟩ (.int .i64 (A4.1 : Int))) (w.heap.size + 1) (recC ⟨2, 0, ky, gn, (A1.1 : Int), (A2.1 : Int), (A3.1 : Int), (A4.1 : Int), [], []⟩ (.slice none 0 0)).toList 24) := (((HQ1.out.set 4 _).set 5 _).set 6 _).set 7 _
      have HF5 : Hid (Fr (fun k => k = w.heap.size + 1) wy ((((wy.setCell ⟨w.heap.size + 1, 4, none⟩ (.int .i64 (A1.1 : Int))).setCell ⟨w.heap.size + 1, 5, none⟩ (.int .i64 (A2.1 : Int))).setCell ⟨w.heap.size + 1, 6, none⟩ (.int .i64 (A3.1 : Int))).setCell ⟨w.heap.size + 1, 7, none⟩ (.int .i64 (A4.1 : Int)))) := (((Fr.one wy (w.heap.size + 1) 4 _).trans (Fr.one _ (w.heap.size + 1) 5 _) (fun _ _ h => h)).trans (Fr.one _ (w.heap.size + 1) 6 _) (fun _ _ h => h)).trans (Fr.one _ (w.heap.size + 1) 7 _) (fun _ _ h => h)
      have HZ5 := Lib.hid (HZ1.out.fr HF5.out (by omega))
      have HB5 := Lib.hid (HB2.out.trans (HF5.out.below (B := w.heap.size) HB2.out.size (fun j hj he => by omega)))
      have HRb5 := Lib.hid (H.out.below HB5.out rfl)
      clear k2 hR hs1 hs2 hs3 hs4
      obtain ⟨P4, HP4⟩ := hid_of (Word.pos b A4.2.1 A4.2.2)
      rw [HP4.out] at HN4
      obtain ⟨r0, r1, r2, r3, r4, r5, r6, r7, r8, r9⟩ := rec_cells HZ5.out
      have fr := HZ5.out.frozen
      simp only [Rc.zero] at r0 r1 r2 r3 r4 r5 r6 r7 r8 r9
      have HP4e : Hid ((A4.2.2 = true ∧ P4 = -1) ∨ (A4.2.2 = false ∧ P4 = ((n - A4.2.1.length : Nat) : Int) ∧ A4.2.1.length ≤ n)) := by
        have h4 := HS4.out
        have hp := HP4.out
        cases hA : A4.2.2 with
        | true => rw [hA] at hp; exact .inl ⟨rfl, hp.symm⟩
        | false =>
          rw [hA, Lab.pos_suf h4, Hn.out] at hp
          exact .inr ⟨rfl, hp.symm, by have := h4.length_le; rw [Hn.out] at this; exact this⟩
      by_cases hlt : P4 < 0
      · have HNf : Hid (¬ Lab.RefOk b) := by
          rcases HP4e.out with ⟨h, _⟩ | ⟨_, h, _⟩
          · exact Lab.no_bad (by rw [HP.out]; exact h)
          · omega
        clear HP4e
        go_wp2_with (first
          | ((with_reducible refine (HN1.out _ HRb.out).mono ?_); rintro e w' ⟨rfl, rfl⟩)
          | ((with_reducible refine (HN2.out _ (HFar.out _ _ _ HRb.out)).mono ?_); rintro e w' ⟨rfl, rfl⟩)
          | ((with_reducible refine (HN3.out _ (HFar.out _ _ _ (HFar.out _ _ _ HRb.out))).mono ?_); rintro e w' ⟨rfl, rfl⟩)
          | ((with_reducible refine (HN4.out _ (HFar.out _ _ _ (HFar.out _ _ _ (HFar.out _ _ _ HRb.out)))).mono ?_); rintro e w' ⟨rfl, rfl⟩))
        refine bodyPost_ret (results_row_tmp rfl _ _ w.heap.size 24 (recC Rc.zero (.slice none 0 0)) (0, 0) _ (.int .i64 12) rfl ?hg Try.underlying24 rfl (by kernel_rfl) rfl) rfl ?_
        case hg =>
          refine Blk.put10 (l := (recC Rc.zero (.slice none 0 0)).toList) ?_ rfl _ _ _ _ _ _ _ _ _ _
          exact HZ5.out
        exact ⟨.inr ⟨HNf.out, rfl⟩, (Below.put10 HB5.out (Nat.le_refl _) _ _ _ _ _ _ _ _ _ _)⟩
      · obtain ⟨hbad, hp, hle⟩ : A4.2.2 = false ∧ P4 = ((n - A4.2.1.length : Nat) : Int) ∧ A4.2.1.length ≤ n := by
          rcases HP4e.out with ⟨_, h⟩ | h
          · omega
          · exact h
        have HBad := Lib.hid hbad
        clear HP4e hbad
        obtain ⟨m, hm⟩ := hid_of (n - A4.2.1.length)
        have hpm : P4 = (m : Int) := by rw [hp, hm.out]
        have hmn : n = m + A4.2.1.length := by have := hm.out; omega
        have HMN := Lib.hid hmn
        subst hpm
        have hm256 : m ≤ 256 := by omega
        clear hp hmn
        go_upto_if 93 with (first
          | ((with_reducible refine (HN1.out _ HRb.out).mono ?_); rintro e w' ⟨rfl, rfl⟩)
          | ((with_reducible refine (HN2.out _ (HFar.out _ _ _ HRb.out)).mono ?_); rintro e w' ⟨rfl, rfl⟩)
          | ((with_reducible refine (HN3.out _ (HFar.out _ _ _ (HFar.out _ _ _ HRb.out))).mono ?_); rintro e w' ⟨rfl, rfl⟩)
          | ((with_reducible refine (HN4.out _ (HFar.out _ _ _ (HFar.out _ _ _ (HFar.out _ _ _ HRb.out)))).mono ?_); rintro e w' ⟨rfl, rfl⟩))
        by_cases h52 : A4.2.1.length = 52
        · have hnm : n = m + 52 := by have := HMN.out; omega
          have HNM := Lib.hid hnm
          have HL52 := Lib.hid h52
          have hd1 : ((n : Int) != (m : Int) + 52) = false := by rw [hnm]; simp
          have hd2 : ((n : Int) != (m : Int) + 32 + 16 + 4) = false := by rw [hnm]; simp; omega
          have hd3 : (decide ((m : Int) < 0) || ((n : Int) != (m : Int) + 32 + 16 + 4)) = false := by rw [hd2, decide_eq_false (by omega)]; rfl
          have hdr : b.drop m = A4.2.1 := by
            have h := Lab.suf_drop HS4.out
            rw [Hn.out, hm.out] at h
            exact h
          have hc : m + 52 ≤ c := by
            obtain ⟨_, _, he, hx, _⟩ := H.out.shape
            simp only [Value.slice.injEq] at he
            rw [Hn.out] at hx
            omega
          have hRa := HRb5.out
          have hs1 := hRa.sliced m (m + 32) (by omega) (by omega)
          have hs2 := hRa.sliced (m + 32) (m + 48) (by omega) (by omega)
          rw [show sliced (some ⟨bb, bo, none⟩) m (m + 32) c 1 = .slice (some ⟨bb, bo + m, none⟩) (m + 32 - m) (c - m) by unfold sliced; rw [if_neg (by omega)]; simp [Addr.add_lit]] at hs1
          rw [show sliced (some ⟨bb, bo, none⟩) (m + 32) (m + 48) c 1 = .slice (some ⟨bb, bo + (m + 32), none⟩) (m + 48 - (m + 32)) (c - (m + 32)) by unfold sliced; rw [if_neg (by omega)]; simp [Addr.add_lit]] at hs2
          have e32 : (b.take (m + 32)).drop m = A4.2.1.take 32 := by rw [List.drop_take, show m + 32 - m = 32 by omega, hdr]
          have e16 : (b.take (m + 48)).drop (m + 32) = (A4.2.1.drop 32).take 16 := by rw [List.drop_take, show m + 48 - (m + 32) = 16 by omega, ← hdr, List.drop_drop]
          rw [e32, show m + 32 - m = 32 by omega] at hs1
          rw [e16, show m + 48 - (m + 32) = 16 by omega] at hs2
          have hDl : ((A4.2.1.drop 32).take 16).length = 16 := by rw [List.length_take, List.length_drop]; omega
          obtain ⟨SU, HSU⟩ := hid_of (A4.2.1.take 32)
          obtain ⟨DA, HDA⟩ := hid_of ((A4.2.1.drop 32).take 16)
          rw [HSU.out] at hs1 HP
          rw [HDA.out] at hs2 HP hDl
          have HDl := Lib.hid hDl
          obtain ⟨W5, HW5⟩ := hid_of ((((wy.setCell ⟨w.heap.size + 1, 4, none⟩ (.int .i64 (A1.1 : Int))).setCell ⟨w.heap.size + 1, 5, none⟩ (.int .i64 (A2.1 : Int))).setCell ⟨w.heap.size + 1, 6, none⟩ (.int .i64 (A3.1 : Int))).setCell ⟨w.heap.size + 1, 7, none⟩ (.int .i64 (A4.1 : Int)))
          rw [HW5.out] at HQ5 HZ5 HB5 HRb5 hs1 hs2 r0 r1 r2 r3 r4 r5 r6 r7 r8 r9 fr ⊢
          have HS1 := Lib.hid hs1
          have HS2 := Lib.hid hs2
          have hne : ∀ j, (Value.slice (some ⟨bb, bo + m, none⟩) 32 (c - m)).ownBlock = some j → ¬ j = w.heap.size + 1 := fun j hj => by simp [Value.ownBlock] at hj; omega
          have HCV : Hid (∀ wx, RB wx (.slice (some ⟨bb, bo + m, none⟩) 32 (c - m)) SU → (convert 22 9 (.slice (some ⟨bb, bo + m, none⟩) 32 (c - m))).run Try.prog wx = .ok (.string (S SU)) wx) := fun wx hx => run_convert_S (P := Try.prog) hx 22 9 5 Try.underlying22 Try.underlying5 Try.underlying9
          have hcv0 := HCV.out _ HS1.out.drew
          have hcv1 := fun o => HCV.out _ ((HS1.out.drew.below ((Below.refl _ _).alloc (Nat.le_refl _) o) rfl) : RB (W5.drew.alloc o) _ _)
          have hw1 : IntKind.i64.wrap ((m : Int) + 32) = (m : Int) + 32 := IntWalk.i64_in _ (by omega)
          have hw2 : IntKind.i64.wrap ((m : Int) + 48) = (m : Int) + 48 := IntWalk.i64_in _ (by omega)
          have hn1 : ((m : Int) + 32).toNat = m + 32 := by omega
          have hn2 : ((m : Int) + 48).toNat = m + 48 := by omega
          have hb1 : 0 ≤ (m : Int) + 32 := by omega
          have hb2 : (m : Int) ≤ (m : Int) + 32 := by omega
          have hb3 : (m : Int) + 32 ≤ (c : Int) := by omega
          have hb4 : (m : Int) + 32 ≤ (m : Int) + 48 := by omega
          have hb5 : (m : Int) + 48 ≤ (c : Int) := by omega
          have hb6 : (m : Int) + 32 ≤ (n : Int) := by omega
          have hcm1 : ¬ c = m := by omega
          have hcm2 : ¬ c = m + 32 := by omega
          have hb7 : (m : Int) + 48 ≤ (n : Int) := by omega
          clear hs1 hs2 e32 e16 hRa hdr hnm h52 hDl hle q0 q1 q2 q3 q4 q5 q6 q7 q8 q9 fq
          rw [hd3]
          clear hd1 hd2 hd3
          go_wp2_with fail
          have HPos : Hid (Word.pos b (A4.2.1.drop 48) A4.2.2 = (m : Int) + 48) := by
            rw [HBad.out]
            unfold Hid
            rw [Lab.pos_ok, List.length_drop, HL52.out, Hn.out, HNM.out]
            omega
          go_region_held_law (fun wx => (convert 22 9 (.slice (some ⟨bb, bo + m, none⟩) 32 (c - m))).run Try.prog wx = .ok (.string (S SU)) wx)
            (first | exact hcv0 | exact hcv1 _ | exact hcv2 | exact hcv3 | exact hcv4)
            (first
            | (refine step_append_bytes _ (by rfl) _ _ 22 22 (by rfl) W5.heap.size 5 5 Try.underlying22 Try.underlying22 infoU8 _ [] 0 (by rfl) (own_empty (w := W5.drew) (Nat.le_refl _) rfl) _ DA (by rfl) ((HS2.out.drew.below ((Below.refl _ _).alloc (Nat.le_refl _) _) rfl) : RB (W5.drew.alloc (.cells #[] 5)) _ _) (by rw [HDl.out]; decide) (by simp) ?_
               intro v7 w7 ho hb _
               simp only [Act.put, List.getElem_toArray, List.getElem_cons_succ, List.getElem_cons_zero, List.setIfInBounds_toArray, List.set_cons_zero, List.set_cons_succ]
               rw [List.nil_append] at ho
               obtain ⟨g, cap, rfl, hg1, hg2⟩ := ho.form (by rw [HDl.out]; decide)
               have hbx : Below W5.heap.size W5 w7 := (((Below.refl _ _).drew).alloc (Nat.le_refl _) _).trans hb
               have hgl := (ho.lt g rfl).1
               have HGl := Lib.hid hgl
               have hq7 := HQ5.out.below hbx HQ5.out.lt
               have HQ7 := Lib.hid hq7
               have HZ7 := Lib.hid (HZ5.out.below hbx HZ5.out.lt)
               have HB7 := Lib.hid (HB5.out.trans (hbx.mono HB5.out.size))
               have HD7 := Lib.hid (RB.own ho)
               have hx7 := HS1.out.below hbx rfl
               have hcv2 := HCV.out _ hx7
               have hcv3 := HCV.out _ (hx7.fr (Fr.one w7 (w.heap.size + 1) 8 (.string (S SU))) (fun _ => hne))
               have hcv4 := HCV.out _ ((hx7.fr (Fr.one w7 (w.heap.size + 1) 8 (.string (S SU))) (fun _ => hne)).fr (Fr.one _ (w.heap.size + 1) 9 (.slice (some ⟨g, 0, none⟩) DA.length cap)) (fun _ => hne))
               obtain ⟨q0, q1, q2, q3, q4, q5, q6, q7, q8, q9⟩ := rec_cells hq7
               have fq := hq7.frozen
               clear ho hb hbx hgl hq7 hx7 hg1 hg2))
          have HQ8 : Hid (Blk ((w7.setCell ⟨w.heap.size + 1, 8, none⟩ (.string (S SU))).setCell ⟨w.heap.size + 1, 9, none⟩ (.slice (some ⟨g, 0, none⟩) DA.length cap)) (w.heap.size + 1) (recC ⟨2, 0, ky, gn, (A1.1 : Int), (A2.1 : Int), (A3.1 : Int), (A4.1 : Int), SU, DA⟩ (.slice (some ⟨g, 0, none⟩) DA.length cap)).toList 24) := (HQ7.out.set 8 _).set 9 _
          have HF8 : Hid (Fr (fun k => k = w.heap.size + 1) w7 ((w7.setCell ⟨w.heap.size + 1, 8, none⟩ (.string (S SU))).setCell ⟨w.heap.size + 1, 9, none⟩ (.slice (some ⟨g, 0, none⟩) DA.length cap))) := (Fr.one w7 (w.heap.size + 1) 8 _).trans (Fr.one _ (w.heap.size + 1) 9 _) (fun _ _ h => h)
          have HZ8 := Lib.hid (HZ7.out.fr HF8.out (by omega))
          have HB8 := Lib.hid (HB7.out.trans (HF8.out.below (B := w.heap.size) HB7.out.size (fun j hj he => by omega)))
          have HDo : Hid (∀ j, (Value.slice (some ⟨g, 0, none⟩) DA.length cap).ownBlock = some j → w.heap.size + 2 ≤ j) := fun j hj => by
            have h1 := HGl.out
            have h2 := HQ5.out.lt
            simp only [Value.ownBlock, Option.some.injEq] at hj
            omega
          have HD8 := Lib.hid (HD7.out.fr HF8.out (fun _ j hj he => by have := HDo.out j hj; omega))
          clear hcv0 hcv1 hcv2 hcv3 hcv4 q0 q1 q2 q3 q4 q5 q6 q7 q8 q9 fq hne
          go_wp2
          go_meet
          case rel =>
            rw [HP.out]
            exact ⟨_, HQ8, HD8, HDo, by rw [HPos.out], HZ8, HB8⟩
        · have HNf : Hid (¬ Lab.RefOk b) := by
            refine Lab.no_rest ?_
            rw [HP.out]
            show (A4.2.1.drop 48).length ≠ 4
            rw [List.length_drop]
            omega
          have hmn : n ≠ m + 52 := by have := HMN.out; omega
          have hd1 : ((n : Int) != (m : Int) + 52) = true := by rw [bne_iff_ne]; omega
          have hd2 : ((n : Int) != (m : Int) + 32 + 16 + 4) = true := by rw [bne_iff_ne]; omega
          have hd3 : (decide ((m : Int) < 0) || ((n : Int) != (m : Int) + 32 + 16 + 4)) = true := by rw [hd2, Bool.or_true]
          clear hmn
          rw [hd3]
          clear hd1 hd2 hd3
          go_wp2
          refine bodyPost_ret (results_row_tmp rfl _ _ w.heap.size 24 (recC Rc.zero (.slice none 0 0)) (0, 0) _ (.int .i64 12) rfl ?hg Try.underlying24 rfl (by kernel_rfl) rfl) rfl ?_
          case hg =>
            refine Blk.put10 (l := (recC Rc.zero (.slice none 0 0)).toList) ?_ rfl _ _ _ _ _ _ _ _ _ _
            exact HZ5.out
          exact ⟨.inr ⟨HNf.out, rfl⟩, (Below.put10 HB5.out (Nat.le_refl _) _ _ _ _ _ _ _ _ _ _)⟩
    · have e2 : ((k.toNat : Int) == 2) = false := by simpa using k2
      have HPr := Lib.hid (HRx.out k2)
      clear k2
      have HPq : Hid (Lab.refP b = (R, L, bad)) := by rw [HPr.out]; exact HH.out
      have hRd : R.data = [] := by have := HH.out; unfold Lab.headP at this; split at this <;> (simp only [Prod.mk.injEq] at this; rw [← this.1]; rfl)
      have HNd : Hid (RB wy (.slice none 0 0) R.data) := by rw [hRd]; exact RB.nil _
      clear hRd
      go_wp2
      go_meet
      case rel =>
        rw [HPq.out]
        exact ⟨.slice none 0 0, HQ1, HNd.out, fun j hj => by simp [Value.ownBlock] at hj, rfl, HZ1, HB2⟩
  obtain ⟨d, HQ2, HD2, HDb, rfl, HZ2, HB3⟩ := hcut
  obtain ⟨wt, Hwt⟩ := hid_of wc
  rw [Hwt.out] at HQ2 HD2 HZ2 HB3
  rw [Hwt.out]
  obtain ⟨da, dc, rfl, _, _⟩ := HD2.out.shape
  have hsf := Lab.refP_suffix b
  have HSf := Lib.hid hsf
  have HRt := Lib.hid (H.out.below HB3.out rfl)
  have HTx := Lib.hid (Lab.refP_texts b)
  have HRc : Hid (Rec wt (.slice da (Lab.refP b).1.data.length dc) (Lab.refP b).1) := ⟨HD2.out, by have := HTx.out.1; rw [Hn.out] at this; simp only [maxLen]; omega, by have := HTx.out.2; simp only [maxLen]; omega⟩
  have HRG := Lib.hid (fun b' wx hx hb => rgood_rec (Lab.refP b).1 (.slice da (Lab.refP b).1.data.length dc) b' wx hx hb)
  have HPe : Hid (((Lab.refP b).2.2 = true ∧ Word.pos b (Lab.refP b).2.1 (Lab.refP b).2.2 = -1) ∨ ((Lab.refP b).2.2 = false ∧ Word.pos b (Lab.refP b).2.1 (Lab.refP b).2.2 = ((n - (Lab.refP b).2.1.length : Nat) : Int) ∧ (Lab.refP b).2.1.length ≤ n)) := by
    cases hA : (Lab.refP b).2.2 with
    | true => exact .inl ⟨rfl, rfl⟩
    | false => exact .inr ⟨rfl, by rw [Lab.pos_suf hsf, Hn.out], by have := hsf.length_le; rw [Hn.out] at this; exact this⟩
  obtain ⟨P, HP⟩ := hid_of (Word.pos b (Lab.refP b).2.1 (Lab.refP b).2.2)
  rw [HP.out] at HPe
  rw [HP.out]
  obtain ⟨c0, c1, c2, c3, c4, c5, c6, c7, c8, c9⟩ := rec_cells HQ2.out
  obtain ⟨r0, r1, r2, r3, r4, r5, r6, r7, r8, r9⟩ := rec_cells HZ2.out
  have fr := HZ2.out.frozen
  simp only [Rc.zero] at r0 r1 r2 r3 r4 r5 r6 r7 r8 r9
  clear Hwt hsf HQ1 HZ1 HB2 HNum HR2 HRx HH HRk HSL q0 q1 q2 q3 q4 q5 q6 q7 q8 q9
  unfold recV at HRG
  rcases HPe.out with ⟨hbad, hp⟩ | ⟨hbad, hp, hle⟩
  · have HNf := Lib.hid (Lab.no_bad hbad)
    have hlt : P < 0 := by omega
    clear HPe hbad hp
    go_wp2
    refine bodyPost_ret (results_row_tmp rfl _ _ w.heap.size 24 (recC Rc.zero (.slice none 0 0)) (0, 0) _ (.int .i64 12) rfl ?hg Try.underlying24 rfl (by kernel_rfl) rfl) rfl ?_
    case hg =>
      refine Blk.put10 (l := (recC Rc.zero (.slice none 0 0)).toList) ?_ rfl _ _ _ _ _ _ _ _ _ _
      exact HZ2.out
    exact ⟨.inr ⟨HNf.out, rfl⟩, (Below.put10 HB3.out (Nat.le_refl _) _ _ _ _ _ _ _ _ _ _)⟩
  · have HBd := Lib.hid hbad
    obtain ⟨q, hq⟩ := hid_of (n - (Lab.refP b).2.1.length)
    rw [hq.out] at hp
    subst hp
    have HQn : Hid (n = q + (Lab.refP b).2.1.length) := by unfold Hid; have := hq.out; omega
    have hq256 : q ≤ 256 := by have := HQn.out; omega
    clear HPe hbad hle hq
    by_cases h4 : (Lab.refP b).2.1.length = 4
    case neg =>
      have HNf := Lib.hid (Lab.no_rest h4)
      have hd : ((n : Int) != (q : Int) + 4) = true := by rw [bne_iff_ne]; have := HQn.out; omega
      clear h4
      go_wp2
      refine bodyPost_ret (results_row_tmp rfl _ _ w.heap.size 24 (recC Rc.zero (.slice none 0 0)) (0, 0) _ (.int .i64 12) rfl ?hg Try.underlying24 rfl (by kernel_rfl) rfl) rfl ?_
      case hg =>
        refine Blk.put10 (l := (recC Rc.zero (.slice none 0 0)).toList) ?_ rfl _ _ _ _ _ _ _ _ _ _
        exact HZ2.out
      exact ⟨.inr ⟨HNf.out, rfl⟩, (Below.put10 HB3.out (Nat.le_refl _) _ _ _ _ _ _ _ _ _ _)⟩
    case pos =>
    have hd : ((n : Int) != (q : Int) + 4) = false := by rw [HQn.out, h4]; simp
    have HL4 := Lib.hid h4
    clear h4
    by_cases hg : Lab.Good (Lab.refP b).1
    case neg =>
      have HNf := Lib.hid (Lab.no_good hg)
      have HGd := Lib.hid (Lab.goodB_no hg)
      clear hg
      go_wp2_with fail
      refine (HRG.out false _ HRc.out HGd.out).mono ?_
      rintro e w9 ⟨rfl, hb9⟩
      have HZ9 := Lib.hid (HZ2.out.below hb9 HZ2.out.lt)
      have HB9 := Lib.hid (HB3.out.trans (hb9.mono HB3.out.size))
      clear r0 r1 r2 r3 r4 r5 r6 r7 r8 r9 fr hb9
      obtain ⟨r0, r1, r2, r3, r4, r5, r6, r7, r8, r9⟩ := rec_cells HZ9.out
      have fr := HZ9.out.frozen
      simp only [Rc.zero] at r0 r1 r2 r3 r4 r5 r6 r7 r8 r9
      go_wp2
      refine bodyPost_ret (results_row_tmp rfl _ _ w.heap.size 24 (recC Rc.zero (.slice none 0 0)) (0, 0) _ (.int .i64 12) rfl ?hg Try.underlying24 rfl (by kernel_rfl) rfl) rfl ?_
      case hg =>
        refine Blk.put10 (l := (recC Rc.zero (.slice none 0 0)).toList) ?_ rfl _ _ _ _ _ _ _ _ _ _
        exact HZ9.out
      exact ⟨.inr ⟨HNf.out, rfl⟩, (Below.put10 HB9.out (Nat.le_refl _) _ _ _ _ _ _ _ _ _ _)⟩
    case pos =>
    have HG := Lib.hid hg
    have HGd := Lib.hid (Lab.goodB_yes hg)
    clear hg
    go_wp2_with fail
    refine (HRG.out true _ HRc.out HGd.out).mono ?_
    rintro e w9 ⟨rfl, hb9⟩
    have HZ9 := Lib.hid (HZ2.out.below hb9 HZ2.out.lt)
    have HB9 := Lib.hid (HB3.out.trans (hb9.mono HB3.out.size))
    have HQ9 := Lib.hid (HQ2.out.below hb9 HQ2.out.lt)
    have HD9 := Lib.hid (HD2.out.below hb9 rfl)
    have HR9 := Lib.hid (HRt.out.below hb9 rfl)
    clear r0 r1 r2 r3 r4 r5 r6 r7 r8 r9 fr hb9 c0 c1 c2 c3 c4 c5 c6 c7 c8 c9 HRG HRc HQ2 HD2 HZ2 HRt hd
    have hsl := HR9.out.sliced 0 q (Nat.zero_le _) (by have := HQn.out; omega)
    rw [List.drop_zero, show sliced (some ⟨bb, bo, none⟩) 0 q c 1 = .slice (some ⟨bb, bo, none⟩) q c by simp [sliced, Addr.add]] at hsl
    have hqc : (q : Int) ≤ (c : Int) := by
      obtain ⟨_, _, he, hx, _⟩ := HR9.out.shape
      simp only [Value.slice.injEq] at he
      rw [Hn.out] at hx
      have := HQn.out
      omega
    have HCrc0 : Hid (b.take (b.length - 4) = b.take q) := by unfold Hid; rw [Hn.out, HQn.out, HL4.out, Nat.add_sub_cancel]
    have HSum : Hid (∀ wx, RB wx (.slice (some ⟨bb, bo, none⟩) q c) (b.take q) → Calls Try.prog 24 #[.slice (some ⟨bb, bo, none⟩) q c] wx fun e w' => e = .returned (.int .u32 ((Sum.crc (b.take q)).toNat : Int)) ∧ wx = w') := fun wx hx => ref_any _ _ wx hx (by rw [List.length_take, Hn.out]; omega)
    obtain ⟨s, HS⟩ := hid_of (Sum.crc (b.take q))
    have HCrc : Hid (Sum.crc (b.take (b.length - 4)) = s) := by rw [HCrc0.out]; exact HS.out
    rw [HS.out] at HSum
    have hs : s.toNat < 4294967296 := s.isLt
    have HSl := Lib.hid hsl
    clear hsl
    go_wp2_with fail
    refine (HSum.out _ HSl.out).mono ?_
    rintro e w' ⟨rfl, rfl⟩
    have HEv0 : Hid (((((Sum.ends s).getD 0 0).toNat : Nat) : Int) = (s.toNat : Int) % 256) := by have := end_0 s; simp [Bs, B] at this; exact this.symm
    have HEv1 : Hid (((((Sum.ends s).getD 1 0).toNat : Nat) : Int) = (s.toNat : Int) / 256 % 256) := by have := end_1 s; simp [Bs, B] at this; exact this.symm
    have HEv2 : Hid (((((Sum.ends s).getD 2 0).toNat : Nat) : Int) = (s.toNat : Int) / 65536 % 256) := by have := end_2 s; simp [Bs, B] at this; exact this.symm
    have HEv3 : Hid (((((Sum.ends s).getD 3 0).toNat : Nat) : Int) = (s.toNat : Int) / 16777216) := by have := end_3 s; simp [Bs, B] at this; exact this.symm
    have HCl : Hid (∀ j, j < 4 → w9.cell? ⟨bb, bo + (q + j), none⟩ = some (.int .u8 ((((Lab.refP b).2.1.getD j 0).toNat : Nat) : Int))) := fun j hj => by
      obtain ⟨b', o', he, _, hc⟩ := HR9.out.at (by rw [Hn.out]; omega)
      simp only [Option.some.injEq, Addr.mk.injEq, and_true] at he
      obtain ⟨rfl, rfl⟩ := he
      have hqn := HQn.out
      have h4 := HL4.out
      rw [hc (q + j) (by rw [Hn.out]; omega)]
      have hdr := Lab.suf_drop HSf.out
      rw [Hn.out, show n - (Lab.refP b).2.1.length = q by omega] at hdr
      rw [← hdr]
      simp [List.getD_eq_getElem?_getD, List.getElem?_drop]
    go_wp2
    go_loop [7] (fun x => ∃ i : Nat, i ≤ 4 ∧ x = .int .i64 (i : Int) ∧ Hid (∀ j, j < i → (Lab.refP b).2.1.getD j 0 = (Sum.ends s).getD j 0)) (fun x => 4 - (intOf x).toNat)
    case atStart => exact ⟨0, by omega, rfl, fun j hj => by omega⟩
    case round =>
      obtain ⟨i, hi, rfl, HSame⟩ := hrel
      obtain ⟨c0, c1, c2, c3, c4, c5, c6, c7, c8, c9⟩ := rec_cells HQ9.out
      obtain ⟨r0, r1, r2, r3, r4, r5, r6, r7, r8, r9⟩ := rec_cells HZ9.out
      have fr := HZ9.out.frozen
      simp only [Rc.zero] at r0 r1 r2 r3 r4 r5 r6 r7 r8 r9
      by_cases hlt : i < 4
      · have hi4 : (i : Int) < 4 := by omega
        have hqi : (q : Int) + (i : Int) < (n : Int) := by have := HQn.out; have := HL4.out; omega
        have hqt : ((q : Int) + (i : Int)).toNat = q + i := by omega
        have hcell := HCl.out i hlt
        obtain rfl | rfl | rfl | rfl : i = 0 ∨ i = 1 ∨ i = 2 ∨ i = 3 := by omega
        · rw [show ((0 : Nat) : Int) = 0 from rfl] at hi4 hqi hqt ⊢
          rw [Nat.add_zero] at hcell hqt
          rw [Int.add_zero] at hqi hqt
          have hbx := HEv0.out
          by_cases he : (Lab.refP b).2.1.getD 0 0 = (Sum.ends s).getD 0 0
          · have hne : (((((Lab.refP b).2.1.getD 0 0).toNat : Nat) : Int) != (s.toNat : Int) % 256) = false := by rw [he, hbx]; simp
            have HNx : Hid (∀ j, j < 1 → (Lab.refP b).2.1.getD j 0 = (Sum.ends s).getD j 0) := fun j hj => by
              by_cases hj2 : j < 0
              · exact HSame.out j hj2
              · obtain rfl : j = 0 := by omega
                exact he
            obtain ⟨x, Hx⟩ := hid_of ((Lab.refP b).2.1.getD 0 0)
            rw [Hx.out] at hcell hne
            clear he hbx HSame
            go_wp2
            go_round
            case rel => exact ⟨1, by omega, by go_num, HNx⟩
            case measure => simp [intOf]
          · have hne : (((((Lab.refP b).2.1.getD 0 0).toNat : Nat) : Int) != (s.toNat : Int) % 256) = true := by
              rw [← hbx, bne_iff_ne]
              exact fun h => he (UInt8.toNat_inj.1 (by omega))
            have HNf : Hid (¬ Lab.RefOk b) := Lab.no_sum (fun h => he (by rw [h, HCrc.out]))
            obtain ⟨x, Hx⟩ := hid_of ((Lab.refP b).2.1.getD 0 0)
            rw [Hx.out] at hcell hne
            clear he hbx
            go_wp2
            refine bodyPost_ret (results_row_tmp rfl _ _ w.heap.size 24 (recC Rc.zero (.slice none 0 0)) (0, 0) _ (.int .i64 12) rfl ?hg Try.underlying24 rfl (by kernel_rfl) rfl) rfl ?_
            case hg =>
              refine Blk.put10 (l := (recC Rc.zero (.slice none 0 0)).toList) ?_ rfl _ _ _ _ _ _ _ _ _ _
              exact HZ9.out
            exact ⟨.inr ⟨HNf.out, rfl⟩, (Below.put10 HB9.out (Nat.le_refl _) _ _ _ _ _ _ _ _ _ _)⟩
        · rw [show ((1 : Nat) : Int) = 1 from rfl] at hi4 hqi hqt ⊢
          have hbx := HEv1.out
          by_cases he : (Lab.refP b).2.1.getD 1 0 = (Sum.ends s).getD 1 0
          · have hne : (((((Lab.refP b).2.1.getD 1 0).toNat : Nat) : Int) != (s.toNat : Int) / 256 % 256) = false := by rw [he, hbx]; simp
            have HNx : Hid (∀ j, j < 2 → (Lab.refP b).2.1.getD j 0 = (Sum.ends s).getD j 0) := fun j hj => by
              by_cases hj2 : j < 1
              · exact HSame.out j hj2
              · obtain rfl : j = 1 := by omega
                exact he
            obtain ⟨x, Hx⟩ := hid_of ((Lab.refP b).2.1.getD 1 0)
            rw [Hx.out] at hcell hne
            clear he hbx HSame
            go_wp2
            go_round
            case rel => exact ⟨2, by omega, by go_num, HNx⟩
            case measure => simp [intOf]
          · have hne : (((((Lab.refP b).2.1.getD 1 0).toNat : Nat) : Int) != (s.toNat : Int) / 256 % 256) = true := by
              rw [← hbx, bne_iff_ne]
              exact fun h => he (UInt8.toNat_inj.1 (by omega))
            have HNf : Hid (¬ Lab.RefOk b) := Lab.no_sum (fun h => he (by rw [h, HCrc.out]))
            obtain ⟨x, Hx⟩ := hid_of ((Lab.refP b).2.1.getD 1 0)
            rw [Hx.out] at hcell hne
            clear he hbx
            go_wp2
            refine bodyPost_ret (results_row_tmp rfl _ _ w.heap.size 24 (recC Rc.zero (.slice none 0 0)) (0, 0) _ (.int .i64 12) rfl ?hg Try.underlying24 rfl (by kernel_rfl) rfl) rfl ?_
            case hg =>
              refine Blk.put10 (l := (recC Rc.zero (.slice none 0 0)).toList) ?_ rfl _ _ _ _ _ _ _ _ _ _
              exact HZ9.out
            exact ⟨.inr ⟨HNf.out, rfl⟩, (Below.put10 HB9.out (Nat.le_refl _) _ _ _ _ _ _ _ _ _ _)⟩
        · rw [show ((2 : Nat) : Int) = 2 from rfl] at hi4 hqi hqt ⊢
          have hbx := HEv2.out
          by_cases he : (Lab.refP b).2.1.getD 2 0 = (Sum.ends s).getD 2 0
          · have hne : (((((Lab.refP b).2.1.getD 2 0).toNat : Nat) : Int) != (s.toNat : Int) / 65536 % 256) = false := by rw [he, hbx]; simp
            have HNx : Hid (∀ j, j < 3 → (Lab.refP b).2.1.getD j 0 = (Sum.ends s).getD j 0) := fun j hj => by
              by_cases hj2 : j < 2
              · exact HSame.out j hj2
              · obtain rfl : j = 2 := by omega
                exact he
            obtain ⟨x, Hx⟩ := hid_of ((Lab.refP b).2.1.getD 2 0)
            rw [Hx.out] at hcell hne
            clear he hbx HSame
            go_wp2
            go_round
            case rel => exact ⟨3, by omega, by go_num, HNx⟩
            case measure => simp [intOf]
          · have hne : (((((Lab.refP b).2.1.getD 2 0).toNat : Nat) : Int) != (s.toNat : Int) / 65536 % 256) = true := by
              rw [← hbx, bne_iff_ne]
              exact fun h => he (UInt8.toNat_inj.1 (by omega))
            have HNf : Hid (¬ Lab.RefOk b) := Lab.no_sum (fun h => he (by rw [h, HCrc.out]))
            obtain ⟨x, Hx⟩ := hid_of ((Lab.refP b).2.1.getD 2 0)
            rw [Hx.out] at hcell hne
            clear he hbx
            go_wp2
            refine bodyPost_ret (results_row_tmp rfl _ _ w.heap.size 24 (recC Rc.zero (.slice none 0 0)) (0, 0) _ (.int .i64 12) rfl ?hg Try.underlying24 rfl (by kernel_rfl) rfl) rfl ?_
            case hg =>
              refine Blk.put10 (l := (recC Rc.zero (.slice none 0 0)).toList) ?_ rfl _ _ _ _ _ _ _ _ _ _
              exact HZ9.out
            exact ⟨.inr ⟨HNf.out, rfl⟩, (Below.put10 HB9.out (Nat.le_refl _) _ _ _ _ _ _ _ _ _ _)⟩
        · rw [show ((3 : Nat) : Int) = 3 from rfl] at hi4 hqi hqt ⊢
          have hbx := HEv3.out
          by_cases he : (Lab.refP b).2.1.getD 3 0 = (Sum.ends s).getD 3 0
          · have hne : (((((Lab.refP b).2.1.getD 3 0).toNat : Nat) : Int) != (s.toNat : Int) / 16777216) = false := by rw [he, hbx]; simp
            have HNx : Hid (∀ j, j < 4 → (Lab.refP b).2.1.getD j 0 = (Sum.ends s).getD j 0) := fun j hj => by
              by_cases hj2 : j < 3
              · exact HSame.out j hj2
              · obtain rfl : j = 3 := by omega
                exact he
            obtain ⟨x, Hx⟩ := hid_of ((Lab.refP b).2.1.getD 3 0)
            rw [Hx.out] at hcell hne
            clear he hbx HSame
            go_wp2
            go_round
            case rel => exact ⟨4, by omega, by go_num, HNx⟩
            case measure => simp [intOf]
          · have hne : (((((Lab.refP b).2.1.getD 3 0).toNat : Nat) : Int) != (s.toNat : Int) / 16777216) = true := by
              rw [← hbx, bne_iff_ne]
              exact fun h => he (UInt8.toNat_inj.1 (by omega))
            have HNf : Hid (¬ Lab.RefOk b) := Lab.no_sum (fun h => he (by rw [h, HCrc.out]))
            obtain ⟨x, Hx⟩ := hid_of ((Lab.refP b).2.1.getD 3 0)
            rw [Hx.out] at hcell hne
            clear he hbx
            go_wp2
            refine bodyPost_ret (results_row_tmp rfl _ _ w.heap.size 24 (recC Rc.zero (.slice none 0 0)) (0, 0) _ (.int .i64 12) rfl ?hg Try.underlying24 rfl (by kernel_rfl) rfl) rfl ?_
            case hg =>
              refine Blk.put10 (l := (recC Rc.zero (.slice none 0 0)).toList) ?_ rfl _ _ _ _ _ _ _ _ _ _
              exact HZ9.out
            exact ⟨.inr ⟨HNf.out, rfl⟩, (Below.put10 HB9.out (Nat.le_refl _) _ _ _ _ _ _ _ _ _ _)⟩
      · obtain rfl : i = 4 := by omega
        have hEq := Lab.four_eq HL4.out HSame.out
        have HOk : Hid (Lab.RefOk b) := Lab.yes_all (by rw [Hn.out]; omega) HL0.out HBd.out HL4.out HG.out (by rw [HCrc.out]; exact hEq)
        rw [show ((4 : Nat) : Int) = 4 from rfl]
        clear hEq
        go_wp2
        refine bodyPost_ret (results_row_tmp rfl _ _ w.heap.size 24 (recC (Lab.refP b).1 (.slice da (Lab.refP b).1.data.length dc)) (0, 0) _ (.int .i64 0) rfl ?hg Try.underlying24 rfl (by kernel_rfl) rfl) rfl ?_
        case hg =>
          refine Blk.put10 (l := (recC Rc.zero (.slice none 0 0)).toList) ?_ rfl _ _ _ _ _ _ _ _ _ _
          exact HZ9.out
        exact ⟨.inl ⟨HOk.out, _, rfl, RB.put10 HD9.out (fun k hk => by have := HDb.out k hk; omega) _ _ _ _ _ _ _ _ _ _, fun k hk => by have := HDb.out k hk; omega⟩, (Below.put10 HB9.out (Nat.le_refl _) _ _ _ _ _ _ _ _ _ _)⟩
end Go.Proofs.Ytlmfjohaejdmcaa
