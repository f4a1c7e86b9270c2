/-
  Plain: notes and their bytes.
-/
import Derived.Test.YtlhkmbhfgoejjaaWordLaw
import Derived.Test.YtlhkmbhfgoejjaaSumLaw

namespace Go.Proofs.Ytlhkmbhfgoejjaa
set_option linter.unusedVariables false
set_option linter.unusedSimpArgs false
namespace Word
theorem enc_free {m n : Nat} {x y : List UInt8} (hm : m < 9223372036854775808) (hn : n < 9223372036854775808) (h : enc m ++ x = enc n ++ y) : m = n ∧ x = y := by
  have h1 := next_enc m x hm
  have h2 := next_enc n y hn
  rw [h] at h1
  rw [h1] at h2
  simp only [Prod.mk.injEq] at h2
  exact ⟨h2.1, h2.2.2⟩
theorem dec_pos (k : Nat) : ∀ l n z r, dec k l = some (n, z, r) → z ≠ 0 → 0 < n := by
  induction k with
  | zero => intro l n z r h; simp [dec] at h
  | succ k ih =>
    intro l n z r h hz
    cases l with
    | nil => simp [dec] at h
    | cons c l =>
      by_cases hc : c.toNat < 128
      · rw [dec_lt hc] at h
        simp only [Option.some.injEq, Prod.mk.injEq] at h
        obtain ⟨rfl, rfl, rfl⟩ := h
        have : c.toNat ≠ 0 := fun e => hz (UInt8.toNat_inj.1 (by rw [e]; rfl))
        omega
      · rw [dec_ge hc] at h
        cases hd : dec k l with
        | none => rw [hd] at h; simp at h
        | some x =>
          obtain ⟨n', z', r'⟩ := x
          rw [hd] at h
          simp only [Option.map_some, Option.some.injEq, Prod.mk.injEq] at h
          obtain ⟨rfl, rfl, rfl⟩ := h
          have := ih l n' z' r' hd hz
          omega
theorem dec_enc (k : Nat) : ∀ l n z r, dec k l = some (n, z, r) → (r.length + 1 = l.length ∨ z ≠ 0) → l = enc n ++ r := by
  induction k with
  | zero => intro l n z r h; simp [dec] at h
  | succ k ih =>
    intro l n z r h hz
    cases l with
    | nil => simp [dec] at h
    | cons c l =>
      by_cases hc : c.toNat < 128
      · rw [dec_lt hc] at h
        simp only [Option.some.injEq, Prod.mk.injEq] at h
        obtain ⟨rfl, rfl, rfl⟩ := h
        rw [enc_low hc]
        simp
      · rw [dec_ge hc] at h
        cases hd : dec k l with
        | none => rw [hd] at h; simp at h
        | some x =>
          obtain ⟨n', z', r'⟩ := x
          rw [hd] at h
          simp only [Option.map_some, Option.some.injEq, Prod.mk.injEq] at h
          obtain ⟨rfl, rfl, rfl⟩ := h
          have hlt := (dec_bound k l _ hd).2
          simp only at hlt
          have hz' : z' ≠ 0 := by
            rcases hz with hz | hz
            · simp at hz; omega
            · exact hz
          have hp := dec_pos k l n' z' r' hd hz'
          have e := ih l n' z' r' hd (.inr hz')
          have hc2 : c.toNat < 256 := c.toNat_lt
          rw [enc_high (by omega), show (c.toNat % 128 + 128 * n') % 128 = c.toNat % 128 by omega, show (c.toNat % 128 + 128 * n') / 128 = n' by omega, show c.toNat % 128 + 128 = c.toNat by omega, e]
          simp
/-- what is got has just these bytes -/
theorem get_back {m : Int} {l : List UInt8} (h : (get m l false).2.2 = false) : l = enc (get m l false).1 ++ (get m l false).2.1 ∧ ((get m l false).1 : Int) ≤ m := by
  unfold get at h ⊢
  simp only [Bool.false_eq_true, if_false] at h ⊢
  split at h
  · next hc =>
    rw [if_pos hc]
    simp only [Bool.and_eq_true, decide_eq_true_eq] at hc
    refine ⟨?_, hc.2⟩
    have h1 := hc.1.1
    unfold next at h1 ⊢
    cases hd : dec 9 l with
    | none => rw [hd] at h1; simp at h1
    | some x =>
      obtain ⟨n, z, r⟩ := x
      rw [hd] at h1
      simp only [Bool.or_eq_true, beq_iff_eq, bne_iff_ne] at h1
      exact dec_enc 9 l n z r hd h1
  · simp at h
theorem text_back {m : Int} {l : List UInt8} (h : (text m l false).2.2 = false) : l = enc (text m l false).1.length ++ ((text m l false).1 ++ (text m l false).2.1) ∧ ((text m l false).1.length : Int) ≤ m := by
  unfold text at h ⊢
  split at h
  · simp at h
  · next hb =>
    rw [if_neg hb]
    have hb' : (get m l false).2.2 = false := by simpa using hb
    split at h
    · next hl =>
      rw [if_pos hl]
      obtain ⟨h1, h2⟩ := get_back hb'
      have e : ((get m l false).2.1.take (get m l false).1).length = (get m l false).1 := by rw [List.length_take]; omega
      refine ⟨?_, by rw [e]; exact h2⟩
      rw [e, List.take_append_drop]
      exact h1
    · simp at h
theorem get_bad (m : Int) (l : List UInt8) : get m l true = (0, l, true) := by simp [get]
theorem text_bad (m : Int) (l : List UInt8) : text m l true = ([], l, true) := by simp [text, get_bad]
end Word
/-- a note -/
structure Nt where
  kind : Int
  key : List UInt8
  gen : Int
  cart : Int
  data : List UInt8
  sum : List UInt8
  size : Int
  places : List (Int × Int)
def Nt.zero : Nt := ⟨0, [], 0, 0, [], [], 0, []⟩
namespace Jour
open Word
def PlOk (p : Int × Int) : Prop := (0 ≤ p.1 ∧ p.1 ≤ 31) ∧ (0 ≤ p.2 ∧ p.2 ≤ 1024)
/-- may it be? -/
def Good (n : Nt) : Prop :=
  (1 ≤ n.kind ∧ n.kind ≤ 6) ∧ n.key.length ≤ 16 ∧ (0 ≤ n.gen ∧ n.gen ≤ 1099511627776) ∧ (0 ≤ n.cart ∧ n.cart ≤ 31) ∧ n.data.length ≤ 512 ∧ n.sum.length ≤ 32 ∧ (0 ≤ n.size ∧ n.size ≤ 512) ∧ n.places.length ≤ 40 ∧ ∀ p ∈ n.places, PlOk p
instance (p : Int × Int) : Decidable (PlOk p) := by unfold PlOk; infer_instance
instance (n : Nt) : Decidable (Good n) := by unfold Good; infer_instance
def goodB (n : Nt) : Bool := decide (Good n)
theorem goodB_yes {n : Nt} (h : Good n) : goodB n = true := decide_eq_true h
theorem goodB_no {n : Nt} (h : ¬ Good n) : goodB n = false := decide_eq_false h
def encP (l : List (Int × Int)) : List UInt8 := (l.map fun p => enc p.1.toNat ++ enc p.2.toNat).flatten
theorem encP_nil : encP [] = [] := rfl
theorem encP_cons (p : Int × Int) (l : List (Int × Int)) : encP (p :: l) = enc p.1.toNat ++ (enc p.2.toNat ++ encP l) := by simp [encP]
theorem encP_snoc (l : List (Int × Int)) (p : Int × Int) : encP (l ++ [p]) = encP l ++ enc p.1.toNat ++ enc p.2.toNat := by simp [encP]
/-- its first bytes -/
def pre1 (n : Nt) : List UInt8 := enc n.kind.toNat ++ enc n.key.length ++ n.key ++ enc n.gen.toNat
def pre2 (n : Nt) : List UInt8 := pre1 n ++ enc n.cart.toNat ++ enc n.data.length ++ n.data ++ enc n.sum.length ++ n.sum
def head (n : Nt) : List UInt8 := pre2 n ++ enc n.size.toNat ++ enc n.places.length
/-- its bytes -/
def code (n : Nt) : List UInt8 := head n ++ encP n.places
theorem code_is (n : Nt) : code n = enc n.kind.toNat ++ (enc n.key.length ++ (n.key ++ (enc n.gen.toNat ++ (enc n.cart.toNat ++ (enc n.data.length ++ (n.data ++ (enc n.sum.length ++ (n.sum ++ (enc n.size.toNat ++ (enc n.places.length ++ encP n.places)))))))))) := by
  simp [code, head, pre2, pre1]
/-- so many places -/
def plN (mc mp : Int) : Nat → List UInt8 → Bool → List (Int × Int) × List UInt8 × Bool
  | 0, l, b => ([], l, b)
  | k + 1, l, b => ((((get mc l b).1 : Int), ((get mp (get mc l b).2.1 (get mc l b).2.2).1 : Int)) :: (plN mc mp k (get mp (get mc l b).2.1 (get mc l b).2.2).2.1 (get mp (get mc l b).2.1 (get mc l b).2.2).2.2).1,
      (plN mc mp k (get mp (get mc l b).2.1 (get mc l b).2.2).2.1 (get mp (get mc l b).2.1 (get mc l b).2.2).2.2).2)
theorem plN_len (mc mp : Int) : ∀ k l b, (plN mc mp k l b).1.length = k
  | 0, _, _ => rfl
  | k + 1, l, b => by simp only [plN, List.length_cons, plN_len mc mp k]
theorem plN_bad (mc mp : Int) : ∀ k l, (plN mc mp k l true).2.2 = true
  | 0, _ => rfl
  | k + 1, l => by simp only [plN, get_bad]; exact plN_bad mc mp k l
theorem plN_back (mc mp : Int) : ∀ k l, (plN mc mp k l false).2.2 = false → l = encP (plN mc mp k l false).1 ++ (plN mc mp k l false).2.1
  | 0, l, _ => by simp [plN, encP_nil]
  | k + 1, l, h => by
    simp only [plN] at h ⊢
    obtain ⟨c, hc⟩ : ∃ c, get mc l false = c := ⟨_, rfl⟩
    rw [hc] at h ⊢
    obtain ⟨p, hp⟩ : ∃ p, get mp c.2.1 c.2.2 = p := ⟨_, rfl⟩
    rw [hp] at h ⊢
    have hp0 : p.2.2 = false := by
      cases e : p.2.2 with
      | false => rfl
      | true => rw [e, plN_bad] at h; cases h
    have hc0 : c.2.2 = false := by
      cases e : c.2.2 with
      | false => rfl
      | true => rw [e, get_bad] at hp; rw [← hp] at hp0; cases hp0
    rw [hc0] at hp
    rw [hp0] at h ⊢
    have h1 := (get_back (m := mc) (l := l) (by rw [hc]; exact hc0)).1
    have h2 := (get_back (m := mp) (l := c.2.1) (by rw [hp]; exact hp0)).1
    rw [hc] at h1
    rw [hp] at h2
    have h3 := plN_back mc mp k p.2.1 h
    rw [encP_cons]
    simp only [Int.toNat_natCast, List.append_assoc]
    rw [← h3, ← h2]
    exact h1
theorem plN_code {mc mp : Int} (hmc : 31 ≤ mc) (hmp : 1024 ≤ mp) : ∀ (ps : List (Int × Int)) (x : List UInt8), (∀ p ∈ ps, PlOk p) → plN mc mp ps.length (encP ps ++ x) false = (ps, x, false)
  | [], x, _ => rfl
  | p :: ps, x, h => by
    have h0 := h p (by simp)
    simp only [PlOk] at h0
    have ih := plN_code hmc hmp ps x (fun q hq => h q (by simp [hq]))
    simp only [List.length_cons, plN]
    rw [encP_cons, List.append_assoc, List.append_assoc, get_enc mc _ _ (by omega) (by omega)]
    simp only
    rw [get_enc mp _ _ (by omega) (by omega)]
    simp only
    rw [ih]
    obtain ⟨c, q⟩ := p
    simp only at h0
    simp only [Prod.mk.injEq, List.cons.injEq, and_true]
    omega
/-- the greatest numbers that a reader takes -/
structure Lim where
  k : Int
  key : Int
  gen : Int
  cart : Int
  data : Int
  sum : Int
  size : Int
  many : Int
  pc : Int
  pp : Int
def Lim.wide (L : Lim) : Prop := 6 ≤ L.k ∧ 16 ≤ L.key ∧ 1099511627776 ≤ L.gen ∧ 31 ≤ L.cart ∧ 512 ≤ L.data ∧ 32 ≤ L.sum ∧ 512 ≤ L.size ∧ 40 ≤ L.many ∧ 31 ≤ L.pc ∧ 1024 ≤ L.pp
section
variable (L : Lim) (b : List UInt8)
def r1 := get L.k b false
def r2 := text L.key (r1 L b).2.1 (r1 L b).2.2
def r3 := get L.gen (r2 L b).2.1 (r2 L b).2.2
def r4 := get L.cart (r3 L b).2.1 (r3 L b).2.2
def r5 := text L.data (r4 L b).2.1 (r4 L b).2.2
def r6 := text L.sum (r5 L b).2.1 (r5 L b).2.2
def r7 := get L.size (r6 L b).2.1 (r6 L b).2.2
def r8 := get L.many (r7 L b).2.1 (r7 L b).2.2
def r9 := plN L.pc L.pp (r8 L b).1 (r8 L b).2.1 (r8 L b).2.2
/-- what is read of bytes -/
def parse : Nt := ⟨((r1 L b).1 : Int), (r2 L b).1, ((r3 L b).1 : Int), ((r4 L b).1 : Int), (r5 L b).1, (r6 L b).1, ((r7 L b).1 : Int), (r9 L b).1⟩
end
theorem get_ok {m : Int} {l : List UInt8} {b : Bool} {x : Nat × List UInt8 × Bool} (h : get m l b = x) (h0 : x.2.2 = false) : b = false ∧ l = enc x.1 ++ x.2.1 := by
  cases b with
  | true => rw [get_bad] at h; rw [← h] at h0; cases h0
  | false =>
    have := (get_back (m := m) (l := l) (by rw [h]; exact h0)).1
    rw [h] at this
    exact ⟨rfl, this⟩
theorem text_ok {m : Int} {l : List UInt8} {b : Bool} {x : List UInt8 × List UInt8 × Bool} (h : text m l b = x) (h0 : x.2.2 = false) : b = false ∧ l = enc x.1.length ++ (x.1 ++ x.2.1) := by
  cases b with
  | true => rw [text_bad] at h; rw [← h] at h0; cases h0
  | false =>
    have := (text_back (m := m) (l := l) (by rw [h]; exact h0)).1
    rw [h] at this
    exact ⟨rfl, this⟩
/-- what was read has just these bytes -/
theorem parse_back {L : Lim} {b : List UInt8} (h : (r9 L b).2.2 = false) (hr : (r9 L b).2.1 = []) : code (parse L b) = b := by
  have h8 : (r8 L b).2.2 = false := by
    cases e : (r8 L b).2.2 with
    | false => rfl
    | true => unfold r9 at h; rw [e, plN_bad] at h; cases h
  obtain ⟨h7, e8⟩ := get_ok (x := r8 L b) rfl h8
  obtain ⟨h6, e7⟩ := get_ok (x := r7 L b) rfl h7
  obtain ⟨h5, e6⟩ := text_ok (x := r6 L b) rfl h6
  obtain ⟨h4, e5⟩ := text_ok (x := r5 L b) rfl h5
  obtain ⟨h3, e4⟩ := get_ok (x := r4 L b) rfl h4
  obtain ⟨h2, e3⟩ := get_ok (x := r3 L b) rfl h3
  obtain ⟨h1, e2⟩ := text_ok (x := r2 L b) rfl h2
  obtain ⟨-, e1⟩ := get_ok (x := r1 L b) rfl h1
  have e9 : (r8 L b).2.1 = encP (r9 L b).1 := by
    have := plN_back L.pc L.pp (r8 L b).1 (r8 L b).2.1 (by unfold r9 at h; rw [h8] at h; exact h)
    have hr' := hr
    unfold r9 at hr' ⊢
    rw [h8] at hr' ⊢
    rw [hr', List.append_nil] at this
    exact this
  have hl : (r9 L b).1.length = (r8 L b).1 := by unfold r9; exact plN_len _ _ _ _ _
  rw [code_is]
  unfold parse
  simp only [Int.toNat_natCast]
  rw [hl, ← e9, ← e8, ← e7, ← e6, ← e5, ← e4, ← e3, ← e2, ← e1]
/-- a note that may be is read of its bytes -/
theorem parse_code {L : Lim} (hL : L.wide) {n : Nt} (hg : Good n) : parse L (code n) = n ∧ (r9 L (code n)).2.1 = [] ∧ (r9 L (code n)).2.2 = false ∧ (r8 L (code n)).1 = n.places.length ∧ (r8 L (code n)).2.2 = false := by
  obtain ⟨g1, g2, g3, g4, g5, g6, g7, g8, g9⟩ := hg
  obtain ⟨l1, l2, l3, l4, l5, l6, l7, l8, l9, l10⟩ := hL
  have e1 : r1 L (code n) = (n.kind.toNat, enc n.key.length ++ (n.key ++ (enc n.gen.toNat ++ (enc n.cart.toNat ++ (enc n.data.length ++ (n.data ++ (enc n.sum.length ++ (n.sum ++ (enc n.size.toNat ++ (enc n.places.length ++ (encP n.places)))))))))), false) := by unfold r1; rw [code_is]; exact get_enc _ _ _ (by omega) (by omega)
  have e2 : r2 L (code n) = (n.key, enc n.gen.toNat ++ (enc n.cart.toNat ++ (enc n.data.length ++ (n.data ++ (enc n.sum.length ++ (n.sum ++ (enc n.size.toNat ++ (enc n.places.length ++ (encP n.places)))))))), false) := by unfold r2; rw [e1]; exact text_enc _ _ _ (by omega) (by omega)
  have e3 : r3 L (code n) = (n.gen.toNat, enc n.cart.toNat ++ (enc n.data.length ++ (n.data ++ (enc n.sum.length ++ (n.sum ++ (enc n.size.toNat ++ (enc n.places.length ++ (encP n.places))))))), false) := by unfold r3; rw [e2]; exact get_enc _ _ _ (by omega) (by omega)
  have e4 : r4 L (code n) = (n.cart.toNat, enc n.data.length ++ (n.data ++ (enc n.sum.length ++ (n.sum ++ (enc n.size.toNat ++ (enc n.places.length ++ (encP n.places)))))), false) := by unfold r4; rw [e3]; exact get_enc _ _ _ (by omega) (by omega)
  have e5 : r5 L (code n) = (n.data, enc n.sum.length ++ (n.sum ++ (enc n.size.toNat ++ (enc n.places.length ++ (encP n.places)))), false) := by unfold r5; rw [e4]; exact text_enc _ _ _ (by omega) (by omega)
  have e6 : r6 L (code n) = (n.sum, enc n.size.toNat ++ (enc n.places.length ++ (encP n.places)), false) := by unfold r6; rw [e5]; exact text_enc _ _ _ (by omega) (by omega)
  have e7 : r7 L (code n) = (n.size.toNat, enc n.places.length ++ (encP n.places), false) := by unfold r7; rw [e6]; exact get_enc _ _ _ (by omega) (by omega)
  have e8 : r8 L (code n) = (n.places.length, encP n.places, false) := by unfold r8; rw [e7]; exact get_enc _ _ _ (by omega) (by omega)
  have e9 : r9 L (code n) = (n.places, [], false) := by
    unfold r9
    rw [e8]
    have := plN_code l9 l10 n.places [] g9
    rw [List.append_nil] at this
    exact this
  refine ⟨?_, by rw [e9], by rw [e9], by rw [e8], by rw [e8]⟩
  unfold parse
  rw [e1, e2, e3, e4, e5, e6, e7, e9]
  obtain ⟨k, ky, g, c, d, s, z, p⟩ := n
  simp only [Nt.mk.injEq, true_and, and_true]
  simp only at g1 g3 g4 g7
  omega
/-- the note of bytes, if there is one -/
def Has (b : List UInt8) : Prop := ∃ n, Good n ∧ code n = b
def limJ : Lim := ⟨6, 16, 1099511627776, 31, 512, 32, 512, 40, 31, 1024⟩
def limR : Lim := ⟨4611686018427387904, 4611686018427387904, 4611686018427387904, 4611686018427387904, 4611686018427387904, 4611686018427387904, 4611686018427387904, 4611686018427387904, 4611686018427387904, 4611686018427387904⟩
theorem limJ_wide : limJ.wide := by unfold Lim.wide limJ; decide
theorem limR_wide : limR.wide := by unfold Lim.wide limR; decide
theorem has_iff {L : Lim} (hL : L.wide) (b : List UInt8) : Has b ↔ ((r9 L b).2.2 = false ∧ (r9 L b).2.1 = []) ∧ Good (parse L b) := by
  constructor
  · rintro ⟨n, hg, rfl⟩
    obtain ⟨h1, h2, h3, _⟩ := parse_code hL hg
    exact ⟨⟨h3, h2⟩, by rw [h1]; exact hg⟩
  · rintro ⟨⟨h1, h2⟩, h3⟩
    exact ⟨_, h3, parse_back h1 h2⟩
theorem code_inj {n m : Nt} (hn : Good n) (hm : Good m) (h : code n = code m) : n = m := by
  rw [← (parse_code limJ_wide hn).1, ← (parse_code limJ_wide hm).1, h]
theorem enc_le9 {n : Nat} (h : n < 9223372036854775808) : (enc n).length ≤ 9 := enc_le 8 n (by omega)
theorem encP_le : ∀ (l : List (Int × Int)), (∀ p ∈ l, PlOk p) → (encP l).length ≤ 18 * l.length
  | [], _ => by simp [encP]
  | p :: l, h => by
    have h0 := h p (by simp)
    simp only [PlOk] at h0
    have ih := encP_le l (fun q hq => h q (by simp [hq]))
    have h1 := enc_le9 (n := p.1.toNat) (by omega)
    have h2 := enc_le9 (n := p.2.toNat) (by omega)
    rw [encP_cons, List.length_append, List.length_append, List.length_cons]
    omega
theorem code_len {n : Nt} (hg : Good n) : 1 ≤ (code n).length ∧ (code n).length ≤ 2000 := by
  obtain ⟨g1, g2, g3, g4, g5, g6, g7, g8, g9⟩ := hg
  have hp := encP_le _ g9
  have h1 := enc_le9 (n := n.kind.toNat) (by omega)
  have h1' := enc_pos n.kind.toNat
  have h2 := enc_le9 (n := n.key.length) (by omega)
  have h3 := enc_le9 (n := n.gen.toNat) (by omega)
  have h4 := enc_le9 (n := n.cart.toNat) (by omega)
  have h5 := enc_le9 (n := n.data.length) (by omega)
  have h6 := enc_le9 (n := n.sum.length) (by omega)
  have h7 := enc_le9 (n := n.size.toNat) (by omega)
  have h8 := enc_le9 (n := n.places.length) (by omega)
  rw [code_is]
  simp only [List.length_append]
  omega
end Jour
end Go.Proofs.Ytlhkmbhfgoejjaa
