/-
  The reference's Put and Text: the same bytes.
-/
import Derived.Test.YtlhkmbhfgoejjaaWText
import Derived.Laws.IdiomStrings
import Derived.Deep.DeepCutAuto

namespace Go.Proofs.Ytlhkmbhfgoejjaa
open Go.RowKit
set_option linter.unusedVariables false
namespace Word
theorem len_lt {n k : Nat} (hn : n < 9223372036854775808) (hk : 1 ≤ k) : 128 ^ k ≤ n ↔ k < (enc n).length := by
  obtain ⟨h1, h2⟩ := enc_size 9 n (by omega)
  constructor
  · intro h
    by_cases hlt : k < (enc n).length
    · exact hlt
    · have := Nat.pow_le_pow_right (by decide : 0 < 128) (Nat.le_of_not_lt hlt)
      omega
  · intro h
    have := h2 (by omega)
    exact Nat.le_trans (Nat.pow_le_pow_right (by decide) (by omega)) this
theorem enc_at (k : Nat) : ∀ (n : Nat) (i : Nat), n < 128 ^ (k + 1) → i < (enc n).length → (enc n)[i]? = some (if i + 1 < (enc n).length then UInt8.ofNat (n / 128 ^ i % 128 + 128) else UInt8.ofNat (n / 128 ^ i % 128)) := by
  induction k with
  | zero =>
    intro n i h hi
    have hl : n < 128 := by simpa using h
    rw [enc_low hl] at hi ⊢
    simp only [List.length_singleton] at hi
    have : i = 0 := by omega
    subst this
    simp [Nat.mod_eq_of_lt hl]
  | succ k ih =>
    intro n i h hi
    by_cases hl : n < 128
    · rw [enc_low hl] at hi ⊢
      simp only [List.length_singleton] at hi
      have : i = 0 := by omega
      subst this
      simp [Nat.mod_eq_of_lt hl]
    · have hge : 128 ≤ n := by omega
      have hp := enc_pos (n / 128)
      rw [enc_high hge] at hi ⊢
      cases i with
      | zero =>
        simp only [List.getElem?_cons_zero, List.length_cons, Nat.pow_zero, Nat.div_one]
        rw [if_pos (by omega)]
      | succ i =>
        simp only [List.length_cons] at hi
        rw [List.getElem?_cons_succ, ih (n / 128) i (by rw [Nat.pow_succ] at h; omega) (by omega), List.length_cons, Nat.div_div_eq_div_mul]
        have e : 128 * 128 ^ i = 128 ^ (i + 1) := by rw [Nat.pow_succ, Nat.mul_comm]
        rw [e]
        congr 1
        by_cases h1 : i + 1 < (enc (n / 128)).length
        · rw [if_pos h1, if_pos (by omega)]
        · rw [if_neg h1, if_neg (by omega)]
theorem enc_step {n i : Nat} (hn : n < 9223372036854775808) (hi : i < (enc n).length) (c : UInt8) (hc : (c.toNat : Int) = (if i + 1 < (enc n).length then ((n / 128 ^ i % 128 + 128 : Nat) : Int) else ((n / 128 ^ i % 128 : Nat) : Int))) : (enc n).take i ++ [c] = (enc n).take (i + 1) := by
  have h := enc_at 8 n i (by omega) hi
  rw [List.take_add_one, h]
  have hm : n / 128 ^ i % 128 < 128 := Nat.mod_lt _ (by decide)
  have : c = (if i + 1 < (enc n).length then UInt8.ofNat (n / 128 ^ i % 128 + 128) else UInt8.ofNat (n / 128 ^ i % 128)) := by
    apply UInt8.toNat_inj.1
    split
    · rename_i h1
      rw [if_pos h1] at hc
      simp
      omega
    · rename_i h1
      rw [if_neg h1] at hc
      simp
      omega
  rw [this]
  rfl
theorem shr_nat (n k : Nat) : ((n : Int) / 2 ^ (7 * k)) = ((n / 128 ^ k : Nat) : Int) := by
  rw [show (128 : Nat) ^ k = 2 ^ (7 * k) by rw [show (128 : Nat) = 2 ^ 7 by rfl, ← Nat.pow_mul]]
  push_cast
  rfl
end Word

set_option maxRecDepth 20000 in
set_option maxHeartbeats 1000000 in
theorem RPut_any (v : Value) (b : List UInt8) (n : Int) (w : World) (h : RB w v b) (hn : (Lit.int .i64 n).wf = true) (hb : b.length + 20 ≤ 140737488355328) :
    Calls Try.prog 48 #[v, .int .i64 n] w (Makes 5 w (b ++ Word.enc n.toNat)) := by
  have H := Lib.hid h
  have hn2 : n ≤ 9223372036854775807 := by
    simp [Lit.wf, IntKind.min, IntKind.max, IntKind.bits, IntKind.signed] at hn; omega
  clear h hn
  obtain ⟨N, HN⟩ := hid_of n.toNat
  have hN : N < 9223372036854775808 := by rw [← HN.out]; omega
  rw [HN.out]
  have hN9 : (Word.enc N).length ≤ 9 := Word.enc_le 8 N (by omega)
  have hN1 := Word.enc_pos N
  have hlen : ∀ k, 1 ≤ k → (128 ^ k ≤ N ↔ k < (Word.enc N).length) := fun k hk => Word.len_lt hN hk
  have HLen := Lib.hid hlen
  obtain ⟨E, HE⟩ := hid_of (Word.enc N)
  rw [HE.out] at hN9 hN1 HLen ⊢
  clear hlen
  go_enter Try.func48, Try.ntmps48
  go_upto_if 10 with fail
  go_cut [1] (fun x wx => x = .int .i64 (N : Int) ∧ wx = w)
  case first =>
    by_cases h0 : n < 0
    · go_wp2
      go_meet
      case rel => exact ⟨by have := HN.out; congr 1; omega, rfl⟩
    · go_wp2
      go_meet
      case rel => exact ⟨by have := HN.out; congr 1; omega, rfl⟩
  obtain ⟨rfl, rfl⟩ := hcut
  clear HN hn2
  go_wp2
  go_loop [5] (fun i => ∃ k : Nat, 1 ≤ k ∧ k ≤ E.length ∧ i = .int .i64 k) (fun i => 10 - (intOf i).toNat)
  case atStart => exact ⟨1, by omega, by omega, rfl⟩
  case round =>
    obtain ⟨k, hk1, hkE, rfl⟩ := hrel
    have hs := Word.shr_nat N k
    have hl := HLen.out k hk1
    obtain ⟨X, HX⟩ := hid_of (N / 128 ^ k)
    have hX : 0 < X ↔ 128 ^ k ≤ N := by rw [← HX.out]; exact Nat.div_pos_iff.trans ⟨fun h => h.2, fun h => ⟨Nat.pow_pos (by decide), h⟩⟩
    rw [HX.out] at hs
    by_cases hlt : k < E.length
    · have hXp : (0 : Int) < (X : Int) := by have := hX.2 (hl.2 hlt); omega
      have hk9 : (k : Int) < 9 := by omega
      clear hl hX
      go_wp2
      go_round
      case rel => exact ⟨k + 1, by omega, by omega, by go_num⟩
      case measure => simp [intOf]; omega
    · have hk : k = E.length := by omega
      have HK := Lib.hid hk
      have hXp : ¬ (0 : Int) < (X : Int) := by
        intro h
        exact hlt (hl.1 (hX.1 (by omega)))
      clear hl hX hlt hk
      have h9 : 9 ≤ k ∨ k < 9 := by omega
      rcases h9 with h9 | h9
      all_goals
        go_wp2_with (at_builtin; refine stopped ?_)
        refine going (wpList_append_bytes _ rfl _ _ 22 22 rfl wc.heap.size 5 5 Try.underlying22 Try.underlying22 infoU8 _ [] 0 rfl (own_empty wc (Nat.le_refl _) rfl) _ b rfl (H.out.below ((Below.refl _ _).alloc (Nat.le_refl _) _) rfl) (by simp; omega) (by simp) ?_)
        intro x w1 hox hbx hgx
        rw [List.nil_append] at hox
        have HX1 := Lib.hid hox
        have HB1 : Hid (Below wc.heap.size wc w1) := ((Below.refl _ _).alloc (Nat.le_refl _) _).trans hbx
        clear hox hbx hgx hs HX
        go_wp2
        go_loopw [6, 7] (fun out i wr => ∃ j : Nat, j ≤ k ∧ i = .int .i64 j ∧ wr.ownsRow wc.heap.size 5 1 out (b ++ E.take j).length (Bs (b ++ E.take j)) ∧ Below wc.heap.size wc wr) (fun _ i _ => k - (intOf i).toNat)
        case atStart => exact ⟨0, by omega, rfl, by rw [List.take_zero, List.append_nil]; exact HX1.out, HB1.out⟩
        case round =>
          clear HX1 HB1
          obtain ⟨j, hj, rfl, hown, hbr⟩ := hrel
          have HO := Lib.hid hown
          have HBr := Lib.hid hbr
          have hsz : Hid (wc.heap.size ≤ wr.heap.size) := hbr.size
          clear hown hbr
          by_cases hlt : j < k
          · have hs := Word.shr_nat N j
            have hst := Lib.hid (fun c hc => Word.enc_step hN (i := j) (by rw [HE.out]; have := HK.out; omega) c hc)
            rw [HE.out] at hst
            obtain ⟨Y, HY⟩ := hid_of (N / 128 ^ j)
            rw [HY.out] at hs hst
            by_cases hj1 : j + 1 < k
            · have hjE : j + 1 < E.length := by have := HK.out; omega
              have hc8 : ((UInt8.ofNat (Y % 128 + 128)).toNat : Int) = (Y : Int) % 128 + 128 := by simp; omega
              have hnew := Lib.hid (hst.out (UInt8.ofNat (Y % 128 + 128)) (by rw [hc8, if_pos hjE]; push_cast; omega))
              have hlj : (b ++ E.take j).length + 1 ≤ 140737488355328 := by rw [List.length_append, List.length_take]; omega
              go_wp2_with (at_builtin; refine stopped ?_)
              refine going (wpList_append_bytes _ rfl _ _ 22 22 rfl wc.heap.size 5 5 Try.underlying22 Try.underlying22 infoU8 _ (b ++ E.take j) _ rfl (own_fr HO.out ((Fr.refl (fun _ => False) wr).alloc _) (fun _ _ h => h)) _ [UInt8.ofNat (Y % 128 + 128)] rfl (RB.lit _ _ _ (by simp only [Bs, B, List.map_cons, List.map_nil]; rw [hc8]) (by simp [maxLen]) (by simp) rfl) (by rw [List.length_singleton]; exact hlj) (by have := hsz.out; simp; omega) ?_)
              intro o2 w2 ho2 hb2 hg2
              rw [List.append_assoc, hnew.out] at ho2
              have HO2 := Lib.hid ho2
              have HB2 : Hid (Below wc.heap.size wc w2) := HBr.out.trans (((Below.refl _ _).alloc hsz.out _).trans hb2)
              clear ho2 hb2 hg2 HO HBr hc8 hnew
              go_wp2
              go_roundw
              case rel => exact ⟨j + 1, by omega, by go_num, HO2.out, HB2.out⟩
              case measure => simp [intOf]; omega
            · have hjE : ¬ j + 1 < E.length := by have := HK.out; omega
              have hj1' : ¬ (j : Int) + 1 < (k : Int) := by omega
              have hc8 : ((UInt8.ofNat (Y % 128)).toNat : Int) = (Y : Int) % 128 := by simp; omega
              have hnew := Lib.hid (hst.out (UInt8.ofNat (Y % 128)) (by rw [hc8, if_neg hjE]; push_cast; omega))
              have hlj : (b ++ E.take j).length + 1 ≤ 140737488355328 := by rw [List.length_append, List.length_take]; omega
              go_wp2_with (at_builtin; refine stopped ?_)
              refine going (wpList_append_bytes _ rfl _ _ 22 22 rfl wc.heap.size 5 5 Try.underlying22 Try.underlying22 infoU8 _ (b ++ E.take j) _ rfl (own_fr HO.out ((Fr.refl (fun _ => False) wr).alloc _) (fun _ _ h => h)) _ [UInt8.ofNat (Y % 128)] rfl (RB.lit _ _ _ (by simp only [Bs, B, List.map_cons, List.map_nil]; rw [hc8]) (by simp [maxLen]) (by simp) rfl) (by rw [List.length_singleton]; exact hlj) (by have := hsz.out; simp; omega) ?_)
              intro o2 w2 ho2 hb2 hg2
              rw [List.append_assoc, hnew.out] at ho2
              have HO2 := Lib.hid ho2
              have HB2 : Hid (Below wc.heap.size wc w2) := HBr.out.trans (((Below.refl _ _).alloc hsz.out _).trans hb2)
              clear ho2 hb2 hg2 HO HBr hc8 hnew
              go_wp2
              go_roundw
              case rel => exact ⟨j + 1, by omega, by go_num, HO2.out, HB2.out⟩
              case measure => simp [intOf]; omega
          · have hjk : ¬ (j : Int) < (k : Int) := by omega
            go_wp2
            go_ret
            have e : E.take j = E := List.take_of_length_le (by have := HK.out; omega)
            have := HO.out
            rw [e] at this
            exact ⟨_, rfl, this, HBr.out⟩
theorem RB.bytes {w : World} (s : List UInt8) (e : TypeId) (fr : Nat × Nat) (hs : s.length ≤ maxLen) {cap g : Nat} (hg : g = w.heap.size) (hc : s.length ≤ cap) (hm : cap ≤ maxLen) :
    RB (w.drew.alloc (.cells (bytesRow (S s) cap) e fr)) (.slice (some ⟨g, 0, none⟩) s.length cap) s := by
  subst hg
  refine ⟨_, _, rfl, hc, hm, fun h => by simp at h, .inr ⟨w.heap.size, 0, rfl, fun i hi => ?_⟩⟩
  have h1 : (w.drew.alloc (.cells (bytesRow (S s) cap) e fr)).heap[w.heap.size]? = some (.cells (bytesRow (S s) cap) e fr) := by
    show (w.heap.push (.cells (bytesRow (S s) cap) e fr))[w.heap.size]? = _
    simp
  have h2 := bytesRow_at (S s) cap i (by simpa [S] using hi)
  simp only [World.cell?, h1, Nat.zero_add]
  rw [h2]
  simp [S]

set_option maxRecDepth 20000 in
set_option maxHeartbeats 1000000 in
theorem RefText_any (v : Value) (b s : List UInt8) (w : World) (h : RB w v b) (hb : b.length + 20 + s.length ≤ 140737488355328) :
    Calls Try.prog 49 #[v, .string (S s)] w (Makes 5 w (b ++ Word.enc s.length ++ s)) := by
  have H := Lib.hid h
  have hsz := S_size s
  clear h
  go_enter Try.func49, Try.ntmps49
  go_wp2_with fail
  refine (RPut_any v b s.length w H.out (by simp [Lit.wf, IntKind.min, IntKind.max, IntKind.bits, IntKind.signed]; omega) (by omega)).mono ?_
  rintro e w1 ⟨v1, rfl, ho1, hb1⟩
  rw [Int.toNat_natCast] at ho1
  have HO1 := Lib.hid ho1
  have HB1 := Lib.hid hb1
  have he : (Word.enc s.length).length ≤ 9 := Word.enc_le 8 _ (by omega)
  have hcv := run_bytes_of_string (P := Try.prog) w1 9 22 5 (S s) Try.underlying9 Try.underlying22 Try.underlying5
  rw [S_size] at hcv
  have hcap1 := grownCap_ge w1 s.length 0 5
  have hcap2 := grownCap_le_maxLen w1 s.length 0 5 (by simp [maxLen]; omega)
  obtain ⟨C, HC⟩ := hid_of (grownCap w1 s.length 0 5)
  rw [HC.out] at hcv hcap1 hcap2
  have hRB := fun fr => RB.bytes (w := w1) s 5 fr (by simp [maxLen]; omega) rfl hcap1 hcap2
  have HRB := Lib.hid hRB
  simp only [maxLen] at hcap2
  clear ho1 hb1 hRB
  obtain ⟨FR, HFR⟩ : ∃ FR : Nat × Nat, Hid (((bytesRow (S s) C).size, (bytesRow (S s) C).size + 1) = FR) := ⟨_, rfl⟩
  rw [HFR.out] at hcv
  obtain ⟨cells, HCells⟩ := hid_of (bytesRow (S s) C)
  rw [HCells.out] at hcv HRB
  clear HFR HCells
  go_wp2_with (at_builtin; refine stopped ?_)
  refine going (wpList_append_bytes _ rfl _ _ 22 22 rfl w.heap.size 5 5 Try.underlying22 Try.underlying22 infoU8 v1 _ _ rfl (own_fr HO1.out (((Fr.refl (fun _ => False) w1).drew).alloc _) (fun _ _ h => h)) _ s rfl (HRB.out FR) (by rw [List.length_append]; omega) (Nat.le_trans HB1.out.size (((Below.refl w1.heap.size w1).drew).alloc (Nat.le_refl _) _).size) ?_)
  intro v2 w2 ho2 hb2 hg2
  go_wp2
  go_ret
  exact ⟨v2, rfl, ho2, HB1.out.trans ((((Below.refl _ w1).drew).alloc HB1.out.size _).trans hb2)⟩
end Go.Proofs.Ytlhkmbhfgoejjaa
