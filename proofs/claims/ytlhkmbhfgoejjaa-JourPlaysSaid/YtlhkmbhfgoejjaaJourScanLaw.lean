/-
  Plain: frames of notes, and what a scan of bytes comes to.
-/
import Derived.Test.YtlhkmbhfgoejjaaJourLaw

namespace Go.Proofs.Ytlhkmbhfgoejjaa
set_option linter.unusedVariables false
set_option linter.unusedSimpArgs false
namespace Jour
open Word
theorem nat_free {m n : Int} {x y : List UInt8} (hm : 0 ≤ m ∧ m < 9223372036854775808) (hn : 0 ≤ n ∧ n < 9223372036854775808) (h : enc m.toNat ++ x = enc n.toNat ++ y) : m = n ∧ x = y := by
  obtain ⟨h1, h2⟩ := enc_free (by omega) (by omega) h
  exact ⟨by omega, h2⟩
theorem text_free {a b x y : List UInt8} (ha : a.length < 9223372036854775808) (hb : b.length < 9223372036854775808) (h : enc a.length ++ (a ++ x) = enc b.length ++ (b ++ y)) : a = b ∧ x = y := by
  obtain ⟨h1, h2⟩ := enc_free ha hb h
  exact List.append_inj h2 h1
theorem encP_free : ∀ (ps qs : List (Int × Int)) (x y : List UInt8), ps.length = qs.length → (∀ p ∈ ps, PlOk p) → (∀ p ∈ qs, PlOk p) → encP ps ++ x = encP qs ++ y → ps = qs ∧ x = y
  | [], [], x, y, _, _, _, h => ⟨rfl, by simpa [encP] using h⟩
  | [], _ :: _, _, _, h, _, _, _ => by simp at h
  | _ :: _, [], _, _, h, _, _, _ => by simp at h
  | p :: ps, q :: qs, x, y, hl, hp, hq, h => by
    have h0 := hp p (by simp)
    have h1 := hq q (by simp)
    simp only [PlOk] at h0 h1
    rw [encP_cons, encP_cons, List.append_assoc, List.append_assoc, List.append_assoc, List.append_assoc] at h
    obtain ⟨e1, h2⟩ := nat_free (by omega) (by omega) h
    obtain ⟨e2, h3⟩ := nat_free (by omega) (by omega) h2
    obtain ⟨e3, h4⟩ := encP_free ps qs x y (by simpa using hl) (fun r hr => hp r (by simp [hr])) (fun r hr => hq r (by simp [hr])) h3
    exact ⟨by rw [e3, show p = q from Prod.ext e1 e2], h4⟩
/-- no note's bytes begin with another's -/
theorem code_free {n m : Nt} {x y : List UInt8} (hn : Good n) (hm : Good m) (h : code n ++ x = code m ++ y) : n = m ∧ x = y := by
  obtain ⟨g1, g2, g3, g4, g5, g6, g7, g8, g9⟩ := hn
  obtain ⟨k1, k2, k3, k4, k5, k6, k7, k8, k9⟩ := hm
  rw [code_is, code_is] at h
  simp only [List.append_assoc] at h
  obtain ⟨e1, h⟩ := nat_free (by omega) (by omega) h
  obtain ⟨e2, h⟩ := text_free (by omega) (by omega) h
  obtain ⟨e3, h⟩ := nat_free (by omega) (by omega) h
  obtain ⟨e4, h⟩ := nat_free (by omega) (by omega) h
  obtain ⟨e5, h⟩ := text_free (by omega) (by omega) h
  obtain ⟨e6, h⟩ := text_free (by omega) (by omega) h
  obtain ⟨e7, h⟩ := nat_free (by omega) (by omega) h
  obtain ⟨e8, h⟩ := enc_free (by omega) (by omega) h
  obtain ⟨e9, h⟩ := encP_free _ _ _ _ e8 g9 k9 h
  refine ⟨?_, h⟩
  cases n
  cases m
  simp only at e1 e2 e3 e4 e5 e6 e7 e9
  rw [e1, e2, e3, e4, e5, e6, e7, e9]
/-- a number in four bytes -/
def le4 (n : Nat) : List UInt8 := Sum.ends (BitVec.ofNat 32 n)
/-- the number in the first four bytes -/
def val4 (b : List UInt8) : Nat := (b.getD 0 0).toNat + (b.getD 1 0).toNat * 256 + (b.getD 2 0).toNat * 65536 + (b.getD 3 0).toNat * 16777216
theorem ends_length (s : Sum.W32) : (Sum.ends s).length = 4 := rfl
theorem val4_ends (s : Sum.W32) (x : List UInt8) : val4 (Sum.ends s ++ x) = s.toNat := by
  have h := s.isLt
  have e : ∀ (x : BitVec 8), (⟨x⟩ : UInt8).toNat = x.toNat := fun _ => rfl
  simp only [val4, Sum.ends, List.cons_append, List.nil_append, List.getD_cons_zero, List.getD_cons_succ, e, BitVec.toNat_setWidth, BitVec.toNat_ushiftRight, Nat.shiftRight_eq_div_pow]
  omega
theorem val4_le4 {n : Nat} (h : n < 4294967296) (x : List UInt8) : val4 (le4 n ++ x) = n := by
  unfold le4
  rw [val4_ends, BitVec.toNat_ofNat]
  omega
theorem val4_lt (b : List UInt8) : val4 b < 4294967296 := by
  have h0 := (b.getD 0 0).toNat_lt
  have h1 := (b.getD 1 0).toNat_lt
  have h2 := (b.getD 2 0).toNat_lt
  have h3 := (b.getD 3 0).toNat_lt
  unfold val4
  omega
/-- bytes framed -/
def fr (c : List UInt8) : List UInt8 := le4 c.length ++ Sum.ends (Sum.crc (le4 c.length ++ c)) ++ c
theorem fr_length (c : List UInt8) : (fr c).length = 8 + c.length := by simp [fr, le4, ends_length]; omega
theorem fr_val (c x : List UInt8) (h : c.length < 4294967296) : val4 (fr c ++ x) = c.length := by
  unfold fr
  rw [List.append_assoc, List.append_assoc]
  exact val4_le4 h _
theorem fr_drop (c : List UInt8) : (fr c).drop 8 = c := by
  unfold fr
  rw [List.drop_append_of_le_length (by simp [le4, ends_length])]
  rw [List.drop_of_length_le (by simp [le4, ends_length])]
  rfl
/-- notes, frame behind frame -/
def frs (l : List Nt) : List UInt8 := (l.map fun n => fr (code n)).flatten
theorem frs_nil : frs [] = [] := rfl
theorem frs_cons (n : Nt) (l : List Nt) : frs (n :: l) = fr (code n) ++ frs l := by simp [frs]
theorem frs_append (l r : List Nt) : frs (l ++ r) = frs l ++ frs r := by simp [frs]
theorem frs_snoc (l : List Nt) (n : Nt) : frs (l ++ [n]) = frs l ++ fr (code n) := by simp [frs]
/-- bytes that begin with a note's frame -/
def Fits (b : List UInt8) (n : Nt) : Prop := Good n ∧ ∃ r, b = fr (code n) ++ r
theorem fr_len {n : Nt} (h : Good n) : 9 ≤ (fr (code n)).length ∧ (fr (code n)).length ≤ 2008 := by
  have := code_len h
  rw [fr_length]
  omega
theorem frs_len : ∀ (l : List Nt), (∀ n ∈ l, Good n) → (frs l).length ≤ 2008 * l.length
  | [], _ => by simp [frs]
  | n :: l, h => by
    have h1 := fr_len (h n (by simp))
    have h2 := frs_len l (fun m hm => h m (by simp [hm]))
    rw [frs_cons, List.length_append, List.length_cons]
    omega
theorem fr_inj {c d : List UInt8} (h : fr c = fr d) : c = d := by rw [← fr_drop c, h, fr_drop]
theorem fits_free {n m : Nt} {x y : List UInt8} (hn : Good n) (hm : Good m) (h : fr (code n) ++ x = fr (code m) ++ y) : n = m ∧ x = y := by
  have h1 := code_len hn
  have h2 := code_len hm
  have e1 := fr_val (code n) x (by omega)
  have e2 := fr_val (code m) y (by omega)
  rw [h, e2] at e1
  obtain ⟨h3, h4⟩ := List.append_inj h (by rw [fr_length, fr_length, e1])
  exact ⟨code_inj hn hm (fr_inj h3), h4⟩
theorem fits_unique {b : List UInt8} {n m : Nt} (h : Fits b n) (h' : Fits b m) : n = m := by
  obtain ⟨hn, x, rfl⟩ := h
  obtain ⟨hm, y, he⟩ := h'
  exact (fits_free hn hm he).1
theorem fits_long {b : List UInt8} {n : Nt} (h : Fits b n) : 9 ≤ b.length ∧ val4 b = (code n).length ∧ val4 b + 8 ≤ b.length ∧ b.take (8 + val4 b) = fr (code n) ∧ (b.drop 8).take (val4 b) = code n := by
  obtain ⟨hn, x, rfl⟩ := h
  have h1 := code_len hn
  have e := fr_val (code n) x (by omega)
  rw [e, List.length_append, fr_length]
  refine ⟨by omega, rfl, by omega, ?_, ?_⟩
  · rw [← fr_length, List.take_left]
  · rw [List.drop_append_of_le_length (by rw [fr_length]; omega), fr_drop, List.take_left]
/-- what is read where bytes are a frame of these -/
theorem fits_of {b : List UInt8} {n : Nt} (hn : Good n) (hl : 8 + val4 b ≤ b.length) (hf : fr ((b.drop 8).take (val4 b)) = b.take (8 + val4 b)) (hc : code n = (b.drop 8).take (val4 b)) : Fits b n :=
  ⟨hn, b.drop (8 + val4 b), by rw [hc, hf, List.take_append_drop]⟩
/-- what a scan of bytes answers: the notes, and what is left -/
def Scans (b : List UInt8) (l : List Nt) (r : List UInt8) : Prop := (∀ n ∈ l, Good n) ∧ b = frs l ++ r ∧ ∀ n, ¬ Fits r n
theorem scans_unique : ∀ {b : List UInt8} {l l' : List Nt} {r r' : List UInt8}, Scans b l r → Scans b l' r' → l = l' ∧ r = r'
  | b, [], [], r, r', h, h' => by
    obtain ⟨-, h1, -⟩ := h
    obtain ⟨-, h2, -⟩ := h'
    exact ⟨rfl, by simpa [frs] using h1.symm.trans h2⟩
  | b, [], m :: l', r, r', h, h' => by
    obtain ⟨-, h1, h3⟩ := h
    obtain ⟨hg, h2, -⟩ := h'
    refine absurd ⟨hg m (by simp), frs l' ++ r', ?_⟩ (h3 m)
    rw [h1, frs_cons, frs_nil, List.nil_append, List.append_assoc] at h2
    exact h2
  | b, n :: l, [], r, r', h, h' => by
    obtain ⟨-, h1, h3⟩ := h'
    obtain ⟨hg, h2, -⟩ := h
    refine absurd ⟨hg n (by simp), frs l ++ r, ?_⟩ (h3 n)
    rw [h1, frs_cons, frs_nil, List.nil_append, List.append_assoc] at h2
    exact h2
  | b, n :: l, m :: l', r, r', h, h' => by
    obtain ⟨hg, h1, h3⟩ := h
    obtain ⟨hg', h1', h3'⟩ := h'
    rw [h1, frs_cons, frs_cons, List.append_assoc, List.append_assoc] at h1'
    obtain ⟨e1, e2⟩ := fits_free (hg n (by simp)) (hg' m (by simp)) h1'
    obtain ⟨e3, e4⟩ := scans_unique (b := frs l ++ r) ⟨fun x hx => hg x (by simp [hx]), rfl, h3⟩ ⟨fun x hx => hg' x (by simp [hx]), e2, h3'⟩
    exact ⟨by rw [e1, e3], e4⟩
/-- bytes too short begin with no frame -/
theorem fits_short {b : List UInt8} (h : b.length < 9) (n : Nt) : ¬ Fits b n := fun hf => by have := (fits_long hf).1; omega
/-- a frame that is cut off is none -/
theorem fits_cut {n m : Nt} {k : Nat} (hn : Good n) (hk : k < (fr (code n)).length) : ¬ Fits ((fr (code n)).take k) m := by
  rintro ⟨hm, r, hr⟩
  have h := (List.take_append_drop k (fr (code n))).symm
  rw [hr, List.append_assoc] at h
  have e := fits_free (x := []) hn hm (by rw [List.append_nil]; exact h)
  have h2 : (fr (code n)).drop k = [] := by
    have := e.2.symm
    simp only [List.append_eq_nil_iff] at this
    exact this.2
  have := congrArg List.length h2
  rw [List.length_drop, List.length_nil] at this
  omega
theorem scans_frs {l : List Nt} (h : ∀ n ∈ l, Good n) : Scans (frs l) l [] := ⟨h, by simp, fits_short (by simp)⟩
/-- of cut frames the whole ones -/
theorem scans_cut : ∀ (l : List Nt) (k : Nat), (∀ n ∈ l, Good n) → k ≤ (frs l).length → ∃ j, j ≤ l.length ∧ (frs (l.take j)).length ≤ k ∧ (∀ i, j < i → i ≤ l.length → k < (frs (l.take i)).length) ∧ Scans ((frs l).take k) (l.take j) (((frs l).take k).drop (frs (l.take j)).length)
  | [], k, _, hk => by
    simp only [frs_nil, List.length_nil] at hk
    obtain rfl : k = 0 := by omega
    exact ⟨0, Nat.le_refl _, by simp [frs], fun i h1 h2 => by simp only [List.length_nil] at h2; omega, ⟨by simp, by simp [frs], fits_short (by simp [frs])⟩⟩
  | n :: l, k, hg, hk => by
    have hn := hg n (by simp)
    by_cases hlt : k < (fr (code n)).length
    · refine ⟨0, by omega, by simp [frs], fun i h1 h2 => ?_, by simp, by simp [frs], fun m => ?_⟩
      · obtain ⟨i', rfl⟩ : ∃ i', i = i' + 1 := ⟨i - 1, by omega⟩
        rw [List.take_succ_cons, frs_cons, List.length_append]
        omega
      · simp only [List.take_zero, frs_nil, List.length_nil, List.drop_zero]
        rw [frs_cons, List.take_append_of_le_length (by omega)]
        exact fits_cut hn hlt
    · rw [frs_cons, List.length_append] at hk
      obtain ⟨j, h1, h2, h3, h4⟩ := scans_cut l (k - (fr (code n)).length) (fun m hm => hg m (by simp [hm])) (by omega)
      have e : (frs (n :: l)).take k = fr (code n) ++ (frs l).take (k - (fr (code n)).length) := by
        rw [frs_cons, List.take_append, List.take_of_length_le (by omega)]
      refine ⟨j + 1, by simp only [List.length_cons]; omega, ?_, fun i hi hi2 => ?_, ?_⟩
      · rw [List.take_succ_cons, frs_cons, List.length_append]
        omega
      · obtain ⟨i', rfl⟩ : ∃ i', i = i' + 1 := ⟨i - 1, by omega⟩
        have := h3 i' (by omega) (by simp only [List.length_cons] at hi2; omega)
        rw [List.take_succ_cons, frs_cons, List.length_append]
        omega
      · rw [e, List.take_succ_cons, frs_cons, List.length_append, List.drop_append, List.drop_of_length_le (by omega), List.nil_append, Nat.add_sub_cancel_left]
        obtain ⟨g1, g2, g3⟩ := h4
        refine ⟨fun m hm => ?_, ?_, g3⟩
        · rcases List.mem_cons.1 hm with rfl | hm
          · exact hn
          · exact g1 m hm
        · rw [frs_cons, List.append_assoc]
          exact congrArg _ g2
theorem ends_inj {s t : Sum.W32} (h : Sum.ends s = Sum.ends t) : s = t := by rw [← Sum.le_ends s, h, Sum.le_ends]
/-- a frame of which one byte is changed is none, whatever stands behind it -/
theorem fits_turned {n m : Nt} {p q x : List UInt8} {a b : UInt8} (hn : Good n) (hf : fr (code n) = p ++ a :: q) (hab : a ≠ b) : ¬ Fits (p ++ b :: q ++ x) m := by
  intro hm
  obtain ⟨h9, hv, hl, ht, hc⟩ := fits_long hm
  have hcn := code_len hn
  have hcm := code_len hm.1
  have hlen := congrArg List.length hf
  rw [fr_length, List.length_append, List.length_cons] at hlen
  have hfr : fr (code n) = le4 (code n).length ++ Sum.ends (Sum.crc (le4 (code n).length ++ code n)) ++ code n := rfl
  have h8 : (le4 (code n).length ++ Sum.ends (Sum.crc (le4 (code n).length ++ code n))).length = 8 := by simp [le4, ends_length]
  by_cases hp : p.length < 8
  · -- in the head: the note's own bytes stand as they were
    have e1 : (p ++ b :: q ++ x).drop 8 = code n ++ x := by
      have e0 : (p ++ a :: q ++ x).drop 8 = code n ++ x := by rw [← hf, List.drop_append_of_le_length (by rw [fr_length]; omega), fr_drop]
      rw [← e0]
      obtain ⟨d, hd⟩ : ∃ d, 8 = p.length + 1 + d := ⟨7 - p.length, by omega⟩
      rw [hd, ← List.drop_drop, ← List.drop_drop (l := p ++ a :: q ++ x)]
      have hdrop : ∀ c : UInt8, (p ++ c :: q ++ x).drop (p.length + 1) = q ++ x := fun c => by
        rw [List.append_assoc, List.drop_append, List.drop_of_length_le (by omega), Nat.add_sub_cancel_left]
        rfl
      rw [hdrop, hdrop]
    rw [e1] at hc
    have e2 : code m ++ (code n ++ x).drop (val4 (p ++ b :: q ++ x)) = code n ++ x := by rw [← hc, List.take_append_drop]
    obtain ⟨rfl, -⟩ := code_free hm.1 hn e2
    rw [hf] at ht
    have h4 := congrArg (List.take (p.length + 1)) ht
    rw [List.take_take] at h4
    have e3 : ∀ c : UInt8, ∀ y : List UInt8, (p ++ c :: y).take (p.length + 1) = p ++ [c] := fun c y => by
      rw [List.take_append, List.take_of_length_le (by omega), Nat.add_sub_cancel_left]
      rfl
    rw [show min (p.length + 1) (8 + val4 (p ++ b :: q ++ x)) = p.length + 1 by omega, List.append_assoc, List.cons_append, e3, e3] at h4
    have := List.append_cancel_left h4
    simp only [List.cons.injEq, and_true] at this
    exact hab this.symm
  · -- in the note: its sum stands as it was
    have e0 : ∃ p', p = (le4 (code n).length ++ Sum.ends (Sum.crc (le4 (code n).length ++ code n))) ++ p' ∧ code n = p' ++ a :: q := by
      have h := hfr.symm.trans hf
      refine ⟨p.drop 8, ?_, ?_⟩
      · have h5 := congrArg (List.take 8) h
        rw [List.take_append_of_le_length (by omega), List.take_of_length_le (by omega), List.take_append_of_le_length (by omega)] at h5
        rw [h5, List.take_append_drop]
      · have h5 := congrArg (List.drop 8) h
        rw [List.drop_append_of_le_length (by omega), List.drop_of_length_le (by omega), List.nil_append, List.drop_append_of_le_length (by omega)] at h5
        exact h5
    obtain ⟨p', rfl, hcode⟩ := e0
    have hval : val4 (le4 (code n).length ++ Sum.ends (Sum.crc (le4 (code n).length ++ code n)) ++ p' ++ b :: q ++ x) = (code n).length := by
      simp only [List.append_assoc]
      exact val4_le4 (by omega) _
    rw [hval] at hv hc ht
    have hcl := congrArg List.length hcode
    rw [List.length_append, List.length_cons] at hcl
    have e4 : code m = p' ++ b :: q := by
      rw [← hc]
      simp only [List.append_assoc]
      rw [← List.append_assoc, List.drop_append_of_le_length (by omega), List.drop_of_length_le (by omega), List.nil_append, ← List.append_assoc, List.take_append_of_le_length (by simp; omega), List.take_of_length_le (by simp; omega)]
    have e5 : Sum.ends (Sum.crc (le4 (code n).length ++ code n)) = Sum.ends (Sum.crc (le4 (code m).length ++ code m)) := by
      have h5 := congrArg (fun z => (z.drop 4).take 4) ht
      simp only [fr] at h5
      rw [← hv] at h5
      simp only [List.append_assoc] at h5
      rw [List.drop_take, List.take_take, List.drop_append_of_le_length (by simp [le4, ends_length]), List.drop_of_length_le (by simp [le4, ends_length]), List.nil_append, List.drop_append_of_le_length (by simp [le4, ends_length]), List.drop_of_length_le (by simp [le4, ends_length]), List.nil_append] at h5
      rw [show min 4 (8 + (code n).length - 4) = 4 by omega, List.take_append_of_le_length (by simp [ends_length]), List.take_of_length_le (by simp [ends_length]), List.take_append_of_le_length (by simp [ends_length]), List.take_of_length_le (by simp [ends_length])] at h5
      rw [← hv]
      exact h5
    have e6 := ends_inj e5
    rw [← hv] at e6
    rw [e4, hcode] at e6
    have e7 := (Sum.crc_burst (le4 (p' ++ a :: q).length ++ p') [a] [b] q rfl (by simp)).1 (by simpa [List.append_assoc] using e6)
    simp only [List.cons.injEq, and_true] at e7
    exact hab e7
end Jour
end Go.Proofs.Ytlhkmbhfgoejjaa
