/-
  kistlaw09.LabelTurned: its walk.
-/
import Derived.Test.YtlmfjohaejdmcaaLabelUnlikeWalk
namespace Go.Proofs.Ytlmfjohaejdmcaa
open Go.RowKit
set_option linter.unusedVariables false
set_option linter.unusedSimpArgs false

namespace Lab
def tb (t i : Nat) : UInt8 := UInt8.ofNat (t / 2 ^ (8 * i) % 256)
/-- the bytes behind i rounds -/
def tnd (a t : Nat) (l : List UInt8) : Nat → List UInt8
  | 0 => l
  | i + 1 => (tnd a t l i).set (a + i) ((tnd a t l i).getD (a + i) 0 ^^^ tb t i)
theorem tnd_length (a t : Nat) (l : List UInt8) : ∀ i, (tnd a t l i).length = l.length
  | 0 => rfl
  | i + 1 => by rw [tnd, List.length_set, tnd_length a t l i]
theorem tnd_far (a t : Nat) (l : List UInt8) (j : Nat) : ∀ i, i ≤ 4 → (j < a ∨ a + 4 ≤ j) → (tnd a t l i)[j]? = l[j]?
  | 0, _, _ => rfl
  | i + 1, hi, hj => by rw [tnd, List.getElem?_set_ne (by omega), tnd_far a t l j i (by omega) hj]
theorem tnd_skip {a t : Nat} {l : List UInt8} {i : Nat} (h : l.length ≤ a + i) : tnd a t l (i + 1) = tnd a t l i := by
  rw [tnd, List.set_eq_of_length_le (by rw [tnd_length]; exact h)]
/-- changed bytes of a record are no record's -/
theorem tnd_none {r r' : Rc} {a t : Nat} (h' : code r' = tnd a t (code r) 4) : tnd a t (code r) 4 = code r := by
  have hl := tnd_length a t (code r) 4
  have e1 : (tnd a t (code r) 4).take a = (code r).take a := by
    apply List.ext_getElem?
    intro j
    rw [List.getElem?_take, List.getElem?_take]
    split
    · exact tnd_far a t _ j 4 (by omega) (.inl (by omega))
    · rfl
  have e2 : (tnd a t (code r) 4).drop (a + 4) = (code r).drop (a + 4) := by
    apply List.ext_getElem?
    intro j
    rw [List.getElem?_drop, List.getElem?_drop]
    exact tnd_far a t _ _ 4 (by omega) (.inr (by omega))
  have sp : ∀ L : List UInt8, L = L.take a ++ (L.drop a).take 4 ++ L.drop (a + 4) := fun L => by
    have e : L.drop (a + 4) = (L.drop a).drop 4 := by rw [List.drop_drop]
    rw [e, List.append_assoc, List.take_append_drop, List.take_append_drop]
  have s1 := sp (code r)
  have s2 := sp (tnd a t (code r) 4)
  rw [e1, e2] at s2
  have hm := code_turned (r := r) (r' := r') (p := (code r).take a) (m := ((code r).drop a).take 4) (m' := ((tnd a t (code r) 4).drop a).take 4) (q := (code r).drop (a + 4)) (by simp only [List.length_take, List.length_drop, hl]) (by simp only [List.length_take]; omega) s1 (h'.trans s2)
  rw [s2, ← hm]
  exact s1.symm
end Lab
theorem tb_form (x : UInt8) (t i : Nat) (F : Int) (hF : F = ((t / 2 ^ (8 * i) % 256 : Nat) : Int)) : bits .xor .u8 (x.toNat : Int) F = ((x ^^^ Lab.tb t i).toNat : Int) := by
  rw [← xor_byte, hF]
  congr 1
  unfold Lab.tb
  simp
set_option maxRecDepth 100000 in
set_option maxHeartbeats 2000000 in
theorem labelTurned_walk (r : Rc) (d : Value) (k : Int) (t : Int) (w : World) (hr : Rec w d r) (hk : (Lit.int .u8 k).wf = true) (ht : (Lit.int .u32 t).wf = true) :
    Calls Try.prog 7 #[recV r d, .int .u8 k, .int .u32 t] w fun e w' => e = .returned (.bool true) ∧ Below w.heap.size w w' := by
  obtain ⟨k, rfl⟩ := u8_of hk
  obtain ⟨t, rfl⟩ : ∃ n : Nat, t = (n : Int) := ⟨t.toNat, by simp [Lit.wf, IntKind.min, IntKind.max, IntKind.bits, IntKind.signed] at ht; omega⟩
  have htl : t < 4294967296 := by simp [Lit.wf, IntKind.min, IntKind.max, IntKind.bits, IntKind.signed] at ht; omega
  have hk64 := kind_byte64 k
  have hk256 : (k.toNat : Int) < 256 := by have := k.toNat_lt; omega
  clear hk ht
  have HR0 := Lib.hid (hr.one (.cells (recC r d) 24))
  have HB0 : Hid (Below w.heap.size w (w.alloc (.cells (recC r d) 24))) := (Below.refl _ _).alloc (Nat.le_refl _) _
  clear hr
  by_cases hg : Lab.Good r
  · have HEy : Hid (∀ wx, Rec wx d r → Calls Try.prog 10 #[recV r d] wx fun e w' => ∃ a c, e = .returned (.tuple #[.slice a (Lab.code r).length c, .int .i64 0]) ∧ w'.ownsRow wx.heap.size 5 1 (.slice a (Lab.code r).length c) (Lab.code r).length (Bs (Lab.code r)) ∧ Below wx.heap.size wx w') := fun wx hx => (encode_yes r d wx hx hg).mono fun e w' ⟨v, h1, h2, h3⟩ => by
      obtain ⟨a, c, rfl, _, _⟩ := (RB.own h2).shape
      exact ⟨a, c, h1, h2, h3⟩
    have HG := Lib.hid hg
    have hn1 := Lab.code_len hg
    have HNo : Hid (∀ r', Lab.Good r' → Lab.code r' = Lab.tnd k.toNat t (Lab.code r) 4 → Lab.tnd k.toNat t (Lab.code r) 4 = Lab.code r) := fun r' _ h => Lab.tnd_none h
    obtain ⟨L, HL⟩ := hid_of (Lab.code r)
    rw [HL.out] at HEy HNo hn1
    obtain ⟨n1, Hn1⟩ := hid_of L.length
    rw [Hn1.out] at HEy hn1
    have hn7 : 7 ≤ n1 := hn1.1
    have hn8 : n1 ≤ 128 := hn1.2
    have HTl : Hid (∀ i, (Lab.tnd k.toNat t L i).length = n1) := fun i => by rw [Lab.tnd_length]; exact Hn1.out
    clear hg hn1
    unfold recV at HEy ⊢
    go_enter Try.func7, Try.ntmps7
    go_wp2_with fail
    refine (HEy.out _ HR0.out).mono ?_
    rintro e w1 ⟨a1, c1, rfl, ho1, hb1⟩
    have HV1 := Lib.hid (RB.own ho1)
    have HB1 := Lib.hid (HB0.out.trans (hb1.mono HB0.out.size))
    clear ho1 hb1
    go_wp2_with (at_builtin; refine stopped ?_)
    refine going (wpList_append_bytes _ rfl _ _ 22 22 rfl w1.heap.size 5 5 Try.underlying22 Try.underlying22 infoU8 _ [] 0 rfl (own_empty _ (Nat.le_refl _) rfl) _ L rfl (HV1.out.one _) (by rw [Hn1.out]; simp; omega) (by simp) ?_)
    intro v2 w2 ho2 hb2 _
    rw [List.nil_append, Hn1.out] at ho2
    have hbb2 : Below w1.heap.size w1 w2 := ((Below.refl _ _).alloc (Nat.le_refl _) _).trans hb2
    have HV2 := Lib.hid (HV1.out.below hbb2 rfl)
    have HVb : Hid (∀ j, (Value.slice a1 n1 c1).ownBlock = some j → j < w1.heap.size) := fun j hj => by
      obtain ⟨x, hx, hlt⟩ := HV1.out.block (by rw [Hn1.out]; omega)
      rw [hj] at hx
      cases hx
      exact hlt
    obtain ⟨g, cap, rfl, hg1, hg2⟩ := ho2.form (by omega)
    have hgl := (ho2.lt g rfl).1
    have HO2 : Hid (w2.ownsRow w1.heap.size 5 1 (.slice (some ⟨g, 0, none⟩) n1 cap) n1 (Bs (Lab.tnd k.toNat t L 0))) := ho2
    have HB2 := Lib.hid (HB1.out.trans (hbb2.mono HB1.out.size))
    have HG2 : Hid (g < w2.heap.size) := (ho2.lt g rfl).2
    clear ho2 hb2 hbb2
    go_wp2
    go_loopw [10] (fun x wr => ∃ i : Nat, i ≤ 4 ∧ x = .int .i64 (i : Int) ∧ wr.ownsRow w1.heap.size 5 1 (.slice (some ⟨g, 0, none⟩) n1 cap) n1 (Bs (Lab.tnd k.toNat t L i)) ∧ Fr (fun k => k = g) w2 wr) (fun x _ => 4 - (intOf x).toNat)
    case atStart => exact ⟨0, by omega, rfl, HO2.out, Fr.refl _ _⟩
    case round =>
      clear HO2
      obtain ⟨i, hi, rfl, hown, hfr⟩ := hrel
      by_cases hlt : i < 4
      · have hi4 : (i : Int) < 4 := by omega
        by_cases hin : k.toNat + i < n1
        · have hinI : (k.toNat : Int) + (i : Int) < (n1 : Int) := by omega
          have hjn : ((k.toNat : Int) + (i : Int)).toNat = k.toNat + i := by omega
          obtain ⟨hcell, hfz⟩ := own_cell hown (k.toNat + i) (by rw [HTl.out]; exact hin)
          have hset := own_set hown (k.toNat + i) ((Lab.tnd k.toNat t L i).getD (k.toNat + i) 0 ^^^ Lab.tb t i)
          have hge : (Lab.tnd k.toNat t L i)[k.toNat + i]'(by rw [HTl.out]; exact hin) = (Lab.tnd k.toNat t L i).getD (k.toNat + i) 0 := by simp [List.getD_eq_getElem?_getD, show k.toNat + i < (Lab.tnd k.toNat t L i).length by rw [HTl.out]; exact hin]
          rw [hge] at hcell
          have HS : Hid ((Lab.tnd k.toNat t L i).set (k.toNat + i) ((Lab.tnd k.toNat t L i).getD (k.toNat + i) 0 ^^^ Lab.tb t i) = Lab.tnd k.toNat t L (i + 1)) := rfl
          rw [HS.out] at hset
          have hf2 := Lib.hid (fun u => hfr.trans (Fr.one wr g (k.toNat + i) u) (fun _ _ h => h))
          have HT := Lib.hid (fun F hF => tb_form ((Lab.tnd k.toNat t L i).getD (k.toNat + i) 0) t i F hF)
          obtain ⟨x, Hx⟩ := hid_of ((Lab.tnd k.toNat t L i).getD (k.toNat + i) 0)
          rw [Hx.out] at hcell hset HT
          obtain ⟨y, Hy⟩ := hid_of (x ^^^ Lab.tb t i)
          rw [Hy.out] at hset HT
          have HO3 := Lib.hid hset.1
          clear hset hge hown hfr HS Hx Hy
          obtain rfl | rfl | rfl | rfl : i = 0 ∨ i = 1 ∨ i = 2 ∨ i = 3 := by omega
          · have hx := HT.out ((t : Int) % 256) (by omega)
            rw [show ((0 : Nat) : Int) = 0 from rfl] at hinI hjn ⊢
            rw [Nat.add_zero] at hcell hfz HO3 hf2 hin hjn
            rw [Int.add_zero] at hinI hjn
            go_wp2
            go_roundw
            case rel => exact ⟨1, by omega, by go_num, HO3.out, hf2.out _⟩
            case measure => simp [intOf]
          · have hx := HT.out ((t : Int) / 256 % 256) (by omega)
            rw [show ((1 : Nat) : Int) = 1 from rfl] at hinI hjn ⊢
            go_wp2
            go_roundw
            case rel => exact ⟨2, by omega, by go_num, HO3.out, hf2.out _⟩
            case measure => simp [intOf]
          · have hx := HT.out ((t : Int) / 65536 % 256) (by omega)
            rw [show ((2 : Nat) : Int) = 2 from rfl] at hinI hjn ⊢
            go_wp2
            go_roundw
            case rel => exact ⟨3, by omega, by go_num, HO3.out, hf2.out _⟩
            case measure => simp [intOf]
          · have hx := HT.out ((t : Int) / 16777216) (by omega)
            rw [show ((3 : Nat) : Int) = 3 from rfl] at hinI hjn ⊢
            go_wp2
            go_roundw
            case rel => exact ⟨4, by omega, by go_num, HO3.out, hf2.out _⟩
            case measure => simp [intOf]
        · have hinI : ¬ (k.toNat : Int) + (i : Int) < (n1 : Int) := by omega
          have HS : Hid (Lab.tnd k.toNat t L (i + 1) = Lab.tnd k.toNat t L i) := Lab.tnd_skip (by rw [Hn1.out]; omega)
          have HO := Lib.hid hown
          have HF := Lib.hid hfr
          clear hown hfr
          go_wp2
          go_roundw
          case rel => exact ⟨i + 1, by omega, by go_num, by rw [HS.out]; exact HO.out, HF.out⟩
          case measure => simp [intOf]; omega
      · obtain rfl : i = 4 := by omega
        rw [show ((4 : Nat) : Int) = 4 from rfl]
        have HM := Lib.hid (RB.own hown)
        have HV := Lib.hid (HV2.out.fr hfr (fun _ j hj => by have := HVb.out j hj; omega))
        have HBr := Lib.hid (HB2.out.trans (hfr.below (B := w.heap.size) HB2.out.size (fun j hj hje => by have := HB1.out.size; omega)))
        clear hown hfr
        have HDz : Hid (∃ z : Int, ((z == 0) == ((S L).toList == (S (Lab.tnd k.toNat t L 4)).toList)) = true ∧ ∀ wx v, RB wx v (Lab.tnd k.toNat t L 4) → Calls Try.prog 15 #[v] wx fun e w' => ∃ s a n c, e = .returned (.tuple #[recV s (.slice a n c), .int .i64 z]) ∧ Below wx.heap.size wx w') := by
          by_cases he : Lab.tnd k.toNat t L 4 = L
          · refine ⟨0, by rw [he]; simp, fun wx v hx => (dec_yes v r _ wx hx HG.out (by rw [he]; exact HL.out)).mono ?_⟩
            rintro e w' ⟨a, c, h1, _, _, h4⟩
            exact ⟨r, a, _, c, h1, h4⟩
          · refine ⟨12, ?_, fun wx v hx => (dec_no v _ wx hx (fun r' h1 h2 => he (HNo.out r' h1 h2))).mono ?_⟩
            · rw [S_beq, decide_eq_false (fun h => he h.symm)]
              rfl
            · rintro e w' ⟨h1, h2⟩
              exact ⟨Rc.zero, none, 0, 0, h1, h2⟩
        obtain ⟨z, hz1, hz2⟩ := HDz.out
        have HDy := Lib.hid hz2
        obtain ⟨M, HMM⟩ := hid_of (Lab.tnd k.toNat t L 4)
        rw [HMM.out] at hz1 HDy HM
        clear hz2 HDz
        unfold recV at HDy
        go_wp2_with fail
        refine (HDy.out _ _ HM.out).mono ?_
        rintro e w5 ⟨s5, a5, n5, c5, rfl, hb5⟩
        have HM5 := Lib.hid (fun o => (HM.out.below hb5 rfl).one o)
        have HV5 := Lib.hid (fun o => (HV.out.below hb5 rfl).one o)
        have hB5 := HBr.out.trans (hb5.mono HBr.out.size)
        have HB5 := Lib.hid (fun o => hB5.alloc hB5.size o)
        clear hb5 hB5
        obtain ⟨X1, HX1⟩ := hid_of (S L)
        obtain ⟨X2, HX2⟩ := hid_of (S M)
        rw [HX1.out, HX2.out] at hz1
        go_wp2_with fail
        refine (awake9_any _).mono ?_
        rintro e w7 ⟨rfl, hb7⟩
        have hcv1 := run_convert_S (P := Try.prog) ((HV5.out _).below hb7 rfl) 22 9 5 Try.underlying22 Try.underlying5 Try.underlying9
        have hcv2 := run_convert_S (P := Try.prog) ((HM5.out _).below hb7 rfl) 22 9 5 Try.underlying22 Try.underlying5 Try.underlying9
        rw [HX1.out] at hcv1
        rw [HX2.out] at hcv2
        have HB7 := Lib.hid ((HB5.out _).trans (hb7.mono (HB5.out _).size))
        clear hb7
        go_wp2
        go_ret
        exact ⟨by first | rfl | (rw [hz1]), HB7.out⟩
  · have HEn : Hid (∀ wx, Rec wx d r → Calls Try.prog 10 #[recV r d] wx fun e w' => e = .returned (.tuple #[.slice none 0 0, .int .i64 12]) ∧ Below wx.heap.size wx w') := fun wx hx => encode_no r d wx hx hg
    clear hg
    unfold recV at HEn ⊢
    go_enter Try.func7, Try.ntmps7
    go_wp2_with fail
    refine (HEn.out _ HR0.out).mono ?_
    rintro e w1 ⟨rfl, hb1⟩
    have HBX := Lib.hid (HB0.out.trans (hb1.mono HB0.out.size))
    clear hb1
    go_wp2_with fail
    refine (awake9_any _).mono ?_
    rintro e w7 ⟨rfl, hb7⟩
    have HB7 := Lib.hid (HBX.out.trans (hb7.mono HBX.out.size))
    clear hb7
    go_wp2
    go_ret
    exact ⟨rfl, HB7.out⟩
end Go.Proofs.Ytlmfjohaejdmcaa
